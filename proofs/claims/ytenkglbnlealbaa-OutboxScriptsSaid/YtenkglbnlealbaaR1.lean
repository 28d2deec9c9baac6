import Derived.Test.YtenkglbnlealbaaRows2
import Derived.BigQuiet
/-! The reference's box: what lies where, and the functions that only look. -/
namespace Go.Proofs.Ytenkglbnlealbaa
open Go.RowKit
attribute [local go_sem] Oper.semAt_some
def cellsO (x : Msg × Int) : List Value := x.1.cells ++ [.int .i64 x.2]
theorem flat_gen {α : Type} (c : α → List Value) (n : Nat) (hc : ∀ x, (c x).length = n) : ∀ (L : List α) (i k : Nat) (hi : i < L.length) (_ : k < n), (L.flatMap c)[i * n + k]? = (c L[i])[k]?
  | [], i, k, hi, _ => absurd hi (Nat.not_lt_zero _)
  | m :: L, 0, k, hi, hk => by
    rw [List.flatMap_cons, List.getElem?_append_left (by rw [hc]; omega)]
    simp
  | m :: L, i + 1, k, hi, hk => by
    rw [List.flatMap_cons, List.getElem?_append_right (by rw [hc]; rw [Nat.succ_mul]; omega)]
    have := flat_gen c n hc L i k (by simpa using hi) hk
    have e : (i + 1) * n + k - (c m).length = i * n + k := by rw [hc, Nat.succ_mul]; omega
    rw [e, this]
    simp
theorem flat_o (L : List (Msg × Int)) (i k : Nat) (hi : i < L.length) (hk : k < 12) : (L.flatMap cellsO)[i * 12 + k]? = (cellsO L[i])[k]? := flat_gen cellsO 12 (fun x => by simp [cellsO, Msg.cells]) L i k hi hk
structure RBox (w : World) (b : Nat) (B : Box) (vL vW : Value) : Prop where
  head : Blk w b [vL, vW, .int .i64 B.X] 63
  rowL : w.ownsRow 0 107 12 vL B.L.length (B.L.flatMap cellsO)
  rowW : w.ownsRow 0 35 11 vW B.W.length (B.W.flatMap Msg.cells)
  neL : ∀ k, vL.ownBlock = some k → k ≠ b
  neW : ∀ k, vW.ownBlock = some k → k ≠ b
  apart : ∀ k, vL.ownBlock = some k → vW.ownBlock ≠ some k
def RMine (b : Nat) (vL vW : Value) (k : Nat) : Prop := k = b ∨ vL.ownBlock = some k ∨ vW.ownBlock = some k
theorem RBox.keep {w w' : World} {b : Nat} {B : Box} {vL vW : Value} (h : RBox w b B vL vW) {T : Nat → Prop} (hc : Chg T w w') (hT : ∀ k, RMine b vL vW k → ¬ T k) : RBox w' b B vL vW :=
  ⟨hc.blk h.head (hT b (.inl rfl)), h.rowL.keep hc (fun k hk => hT k (.inr (.inl hk))), h.rowW.keep hc (fun k hk => hT k (.inr (.inr hk))), h.neL, h.neW, h.apart⟩
theorem ownsRow_max {w : World} {e : TypeId} {size n : Nat} {v : Value} {xs : List Value} (h : w.ownsRow 0 e size v n xs) : n ≤ maxLen := by
  rcases h.2 with ⟨h1, h2⟩ | ⟨g, cap', cur, h1, _, _, h2, h3, _⟩
  · omega
  · omega
theorem out_take (L : List (Msg × Int)) (a : Int) (h : ∀ j (hj : j < L.length), L[j].1.addr ≠ a) : L.any (fun x => x.1.addr == a) = false := by
  rw [List.any_eq_false]
  intro x hx
  obtain ⟨j, hj, rfl⟩ := List.mem_iff_getElem.1 hx
  simpa using h j hj
theorem RBNew_any (w : World) : Calls Try.prog 22 #[] w fun e w' => e = .returned (ptr w.heap.size) ∧ Chg (fun _ => False) w w' ∧ RBox w' w.heap.size emptyBox (.slice none 0 0) (.slice none 0 0) := by
  go_enter Try.func22, Try.ntmps22
  go_wp2
  go_ret
  exact ⟨rfl, (Chg.refl _ w).alloc _, Blk.new w _ 63, ⟨rfl, .inl ⟨rfl, rfl⟩⟩, ⟨rfl, .inl ⟨rfl, rfl⟩⟩, (fun k hk => by cases hk), (fun k hk => by cases hk), (fun k hk => by cases hk)⟩
set_option maxRecDepth 100000 in
set_option maxHeartbeats 1000000 in
theorem ROut_any (w : World) (b : Nat) (B : Box) (vL vW : Value) (h : RBox w b B vL vW) (a : Int) : Calls Try.prog 36 #[ptr b, .int .u32 a] w fun e w' => e = .returned (.bool (B.out a)) ∧ w = w' := by
  obtain ⟨a1, cap1, rfl⟩ := ownsRow_slice h.rowL
  have c0 := h.head.cell 0
  simp only [List.getElem?_cons_zero] at c0
  have hmax := ownsRow_max h.rowL
  have hb := h.head.lt
  have H := Lib.hid h
  clear h
  obtain ⟨N, hN⟩ : ∃ N, B.L.length = N := ⟨_, rfl⟩
  rw [hN] at c0 hmax
  have HN := Lib.hid hN
  clear hN
  simp only [maxLen] at hmax
  unfold ptr
  go_enter Try.func36, Try.ntmps36
  go_wp2_with fail
  go_loop [5] (fun ix => ∃ i : Nat, i ≤ N ∧ ix = .int .i64 i ∧ ∀ j (hj : j < B.L.length), j < i → B.L[j].1.addr ≠ a) (fun ix => N - (intOf ix).toNat)
  case atStart => exact ⟨0, Nat.zero_le _, rfl, fun j _ h => absurd h (Nat.not_lt_zero _)⟩
  case round =>
    obtain ⟨i, hi, rfl, hno⟩ := hrel
    have HNO := Lib.hid hno
    clear hno
    by_cases hlt : i < N
    · have hiL : i < B.L.length := by rw [HN.out]; exact hlt
      obtain ⟨g, cap', hv, hg, hcell⟩ := ownsRow_cells H.out.rowL (by omega)
      obtain ⟨rfl, rfl⟩ : a1 = some ⟨g, 0, none⟩ ∧ cap1 = cap' := by simp only [Value.slice.injEq] at hv; exact ⟨hv.1, hv.2.2⟩
      have e5 : w.cell? ⟨g, i * 12 + 5, none⟩ = some (.int .u32 B.L[i].1.addr) := hcell _ _ (by rw [flat_o _ i 5 hiL (by decide)]; rfl)
      clear hcell hv
      by_cases ha : B.L[i].1.addr = a
      · have hf : B.out a = true := by unfold Box.out; rw [List.any_eq_true]; exact ⟨_, List.getElem_mem hiL, by simpa using ha⟩
        have HF := Lib.hid hf
        rw [ha] at e5
        clear hf ha
        have hab : (a == a) = true := by simp
        go_wp2_with fail
        go_ret
        exact ⟨by rw [HF.out] <;> rfl, rfl⟩
      · have ha2 : (B.L[i].1.addr == a) = false := by simpa using ha
        generalize hra : B.L[i].1.addr = ra at *
        have HRA := Lib.hid hra
        clear hra
        go_wp2_with fail
        go_round
        case rel =>
          refine ⟨i + 1, by omega, by go_num, fun j hj hji => ?_⟩
          by_cases e : j = i
          · subst e; rw [HRA.out]; exact ha
          · exact HNO.out j hj (by omega)
        case measure => simp [intOf]; omega
    · have hin : i = N := by omega
      subst hin
      have hf : B.out a = false := out_take B.L a (fun j hj => HNO.out j hj (by have := HN.out; omega))
      have HF := Lib.hid hf
      clear hf
      go_wp2_with fail
      go_ret
      exact ⟨by rw [HF.out] <;> rfl, rfl⟩
set_option maxRecDepth 100000 in
set_option maxHeartbeats 1000000 in
theorem RBusy_any (w : World) (b : Nat) (B : Box) (vL vW : Value) (h : RBox w b B vL vW) (a : Int) : Calls Try.prog 26 #[ptr b, .int .u32 a] w fun e w' => e = .returned (.bool (B.busy a)) ∧ w = w' := by
  obtain ⟨a1, cap1, rfl⟩ := ownsRow_slice h.rowW
  have c0 := h.head.cell 1
  simp only [List.getElem?_cons_zero, List.getElem?_cons_succ] at c0
  have hmax := ownsRow_max h.rowW
  have hb := h.head.lt
  have H := Lib.hid h
  clear h
  obtain ⟨N, hN⟩ : ∃ N, B.W.length = N := ⟨_, rfl⟩
  rw [hN] at c0 hmax
  have HN := Lib.hid hN
  clear hN
  simp only [maxLen] at hmax
  unfold ptr
  go_enter Try.func26, Try.ntmps26
  go_wp2_with fail
  go_loop [5] (fun ix => ∃ i : Nat, i ≤ N ∧ ix = .int .i64 i ∧ ∀ j (hj : j < B.W.length), j < i → B.W[j].addr ≠ a) (fun ix => N - (intOf ix).toNat)
  case atStart => exact ⟨0, Nat.zero_le _, rfl, fun j _ h => absurd h (Nat.not_lt_zero _)⟩
  case round =>
    obtain ⟨i, hi, rfl, hno⟩ := hrel
    have HNO := Lib.hid hno
    clear hno
    by_cases hlt : i < N
    · have hiL : i < B.W.length := by rw [HN.out]; exact hlt
      obtain ⟨g, cap', hv, hg, hcell⟩ := ownsRow_cells H.out.rowW (by omega)
      obtain ⟨rfl, rfl⟩ : a1 = some ⟨g, 0, none⟩ ∧ cap1 = cap' := by simp only [Value.slice.injEq] at hv; exact ⟨hv.1, hv.2.2⟩
      have e5 : w.cell? ⟨g, i * 11 + 5, none⟩ = some (.int .u32 B.W[i].addr) := hcell _ _ (by rw [flat_at _ i 5 hiL (by decide)]; rfl)
      clear hcell hv
      by_cases ha : B.W[i].addr = a
      · have hf : B.busy a = true := by
          unfold Box.busy Box.wait
          have : (B.W.find? fun m => m.addr == a).isSome = true := by
            rw [List.find?_isSome]; exact ⟨_, List.getElem_mem hiL, by simpa using ha⟩
          rw [this]; simp
        have HF := Lib.hid hf
        rw [ha] at e5
        clear hf ha
        have hab : (a == a) = true := by simp
        go_wp2_with fail
        go_ret
        exact ⟨by rw [HF.out] <;> rfl, rfl⟩
      · have ha2 : (B.W[i].addr == a) = false := by simpa using ha
        generalize hra : B.W[i].addr = ra at *
        have HRA := Lib.hid hra
        clear hra
        go_wp2_with fail
        go_round
        case rel =>
          refine ⟨i + 1, by omega, by go_num, fun j hj hji => ?_⟩
          by_cases e : j = i
          · subst e; rw [HRA.out]; exact ha
          · exact HNO.out j hj (by omega)
        case measure => simp [intOf]; omega
    · have hin : i = N := by omega
      subst hin
      have hf : B.busy a = B.out a := by
        unfold Box.busy Box.wait
        rw [List.find?_eq_none.2]
        · simp
        · intro x hx
          obtain ⟨j, hj, rfl⟩ := List.mem_iff_getElem.1 hx
          simpa using HNO.out j hj (by have := HN.out; omega)
      have HF := Lib.hid hf
      clear hf
      go_wp2_with fail
      refine (ROut_any w b B vL _ H.out a).mono ?_
      rintro e w' ⟨rfl, rfl⟩
      go_wp2_with fail
      go_ret
      exact ⟨by rw [HF.out] <;> rfl, rfl⟩
end Go.Proofs.Ytenkglbnlealbaa
