import Derived.Test.YtenkglbnlealbaaR5
import Derived.Test.YtenkglbnlealbaaR9
/-! The reference's 'goes' and 'Acked'. -/
namespace Go.Proofs.Ytenkglbnlealbaa
open Go.RowKit
attribute [local go_sem] Oper.semAt_some
theorem first_at (W : List Msg) (a : Int) : (∀ j (hj : j < W.length), W[j].addr ≠ a) ∨ ∃ k, ∃ hk : k < W.length, (∀ j (hj : j < W.length), j < k → W[j].addr ≠ a) ∧ W[k].addr = a := by
  cases h : W.findIdx? (fun m => m.addr == a) with
  | none =>
    refine .inl fun j hj => ?_
    have := List.findIdx?_eq_none_iff.1 h _ (List.getElem_mem hj)
    simpa using this
  | some k =>
    obtain ⟨hk, h1, h2⟩ := List.findIdx?_eq_some_iff_getElem.1 h
    exact .inr ⟨k, hk, fun j _ hjk => by simpa using h2 j hjk, by simpa using h1⟩
theorem RGoes_any (w : World) (b : Nat) (B : Box) (vL vW : Value) (h : RBox w b B vL vW) (a : Int) (hu : B.W.Pairwise fun x y => x.addr ≠ y.addr) (hX0 : 0 ≤ B.X) (hsm : B.L.length + B.W.length < 1000000) :
    Calls Try.prog 47 #[ptr b, .int .u32 a] w fun e w' => e = .returned (.tuple #[]) ∧ RStep w b vL vW w' (B.goes a) := by
  by_cases h1 : B.out a = true
  · exact RGoes_skip w b B vL vW h a (.inl h1)
  · by_cases h2 : 1073741824 ≤ B.X
    · exact RGoes_skip w b B vL vW h a (.inr (.inl h2))
    · rcases first_at B.W a with h3 | ⟨k, hk, hno, hka⟩
      · exact RGoes_skip w b B vL vW h a (.inr (.inr h3))
      · exact RGoes_found w b B vL vW h a k hk hno hka hu (by simpa using h1) hX0 (by omega) hsm
theorem filter_xid : ∀ (L : List (Msg × Int)) (i : Nat) (hi : i < L.length) (_ : L.Pairwise fun x y => x.1.xid < y.1.xid), L.filter (fun x => x.1.xid != L[i].1.xid) = L.take i ++ L.drop (i + 1)
  | [], i, hi, _ => absurd hi (Nat.not_lt_zero _)
  | m :: L, 0, hi, h => by
    simp only [List.getElem_cons_zero, List.take_zero, List.nil_append, List.drop_succ_cons, List.drop_zero]
    rw [List.filter_cons, if_neg (by simp), List.filter_eq_self.2]
    intro x hx
    have := (List.pairwise_cons.1 h).1 x hx
    simp; omega
  | m :: L, i + 1, hi, h => by
    have hi' : i < L.length := by simpa using hi
    simp only [List.getElem_cons_succ, List.take_succ_cons, List.drop_succ_cons, List.cons_append]
    have := (List.pairwise_cons.1 h).1 L[i] (List.getElem_mem hi')
    rw [List.filter_cons, if_pos (by simp; omega), filter_xid L i hi' (List.pairwise_cons.1 h).2]
/-- where the row of those that are out lies, behind its step -/
def GoneL (b N : Nat) (B : Box) (i : Nat) (vW : Value) (wD wc : World) : Prop :=
  ∃ a2 cap2, Blk wc b [.slice a2 (N - 1) cap2, vW, .int .i64 B.X] 63 ∧ wc.ownsRow 0 107 12 (.slice a2 (N - 1) cap2) (N - 1) ((B.L.take i ++ B.L.drop (i + 1)).flatMap cellsO) ∧ Chg (fun j => j = b) wD wc ∧ ∀ k, (Value.slice a2 (N - 1) cap2).ownBlock = some k → wD.heap.size ≤ k
theorem cellsO_len (x : Msg × Int) : (cellsO x).length = 12 := rfl
theorem gonel_fin {b N i : Nat} {B : Box} {vL vW : Value} {wD w2 : World} {a2 : Option Addr} {cap2 : Nat} (hb : Blk wD b [vL, vW, .int .i64 B.X] 63) (hi : i < B.L.length) (hN : B.L.length = N)
    (hap : App2 107 12 (0 + i + (N - (i + 1))) ([] ++ (B.L.flatMap cellsO).take (i * 12) ++ (B.L.flatMap cellsO).drop ((i + 1) * 12)) wD (.slice a2 (N - 1) cap2) w2) :
    GoneL b N B i vW wD (w2.setCell ⟨b, 0, none⟩ (.slice a2 (N - 1) cap2)) := by
  have hb2 := hap.chg.blk hb (fun h => h)
  have hne : ∀ k, (Value.slice a2 (N - 1) cap2).ownBlock = some k → k ≠ b := fun k hk e => by have := hap.lies k hk; have := hb.lt; omega
  have e : (B.L.flatMap cellsO).take (i * 12) ++ (B.L.flatMap cellsO).drop ((i + 1) * 12) = (B.L.take i ++ B.L.drop (i + 1)).flatMap cellsO := by
    rw [List.flatMap_append, flat_take cellsO 12 cellsO_len, flat_drop cellsO 12 cellsO_len]
  have hr := hap.row
  rw [List.nil_append, e, show 0 + i + (N - (i + 1)) = N - 1 by omega] at hr
  refine ⟨a2, cap2, hb2.setCell 0 _, hr.keep (S := fun k => k = b) ((Chg.refl _ w2).setCell _ (fun _ => rfl)) (fun k hk h => hne k hk h), (hap.chg.mono (fun _ _ h => h.elim)).setCell _ (fun _ => rfl), hap.lies⟩
theorem RStep.wrap {w wc w5 w6 : World} {b p : Nat} {vL vW vL4 : Value} {B' : Box} (hcw : Chg (fun j => j = b) w wc) (hl : ∀ k, vL4.ownBlock = some k → w.heap.size ≤ k) (hs : RStep wc b vL4 vW w5 B') (hp : ¬ RMine b vL4 vW p) (hp1 : p < wc.heap.size) (hp2 : w.heap.size ≤ p) (h6 : Chg (fun k => k = p) w5 w6) : RStep w b vL vW w6 B' := by
  obtain ⟨⟨v1, v2, hr, hf⟩, hc⟩ := hs
  refine ⟨⟨v1, v2, hr.keep h6 (fun k hk e => ?_), fun k hk => ?_⟩, ?_⟩
  · subst e
    rcases hf k hk with h | h
    · exact hp h
    · omega
  · rcases hf k hk with (h | h | h) | h
    · exact .inl (.inl h)
    · exact .inr (hl k h)
    · exact .inl (.inr (.inr h))
    · exact .inr (Nat.le_trans hcw.size h)
  · refine ((hcw.mono (fun k _ h => .inl h)).trans' hc (fun k hk h => ?_)).trans' h6 (fun k hk h => ?_)
    · rcases h with h | h | h
      · exact .inl h
      · have := hl k h; omega
      · exact .inr (.inr h)
    · omega
theorem find_at (L : List (Msg × Int)) (n : Int) : (∀ j (hj : j < L.length), L[j].1.xid ≠ n) ∨ ∃ k, ∃ hk : k < L.length, (∀ j (hj : j < L.length), j < k → L[j].1.xid ≠ n) ∧ L[k].1.xid = n := by
  cases h : L.findIdx? (fun x => x.1.xid == n) with
  | none =>
    refine .inl fun j hj => ?_
    have := List.findIdx?_eq_none_iff.1 h _ (List.getElem_mem hj)
    simpa using this
  | some k =>
    obtain ⟨hk, h1, h2⟩ := List.findIdx?_eq_some_iff_getElem.1 h
    exact .inr ⟨k, hk, fun j _ hjk => by simpa using h2 j hjk, by simpa using h1⟩
set_option maxRecDepth 100000 in
set_option maxHeartbeats 2000000 in
theorem RAcked_none (w : World) (b : Nat) (B : Box) (vL vW : Value) (h : RBox w b B vL vW) (n : Int) (hno : ∀ j (hj : j < B.L.length), B.L[j].1.xid ≠ n) :
    Calls Try.prog 32 #[ptr b, .int .i64 n] w fun e w' => e = .returned (.tuple #[noMsg.val, .bool false]) ∧ RStep w b vL vW w' B := by
  obtain ⟨a1, cap1, rfl⟩ := ownsRow_slice h.rowL
  have H := Lib.hid h
  have HNO := Lib.hid hno
  have hb := h.head.lt
  have c0 := h.head.cell 0
  simp only [List.getElem?_cons_zero] at c0
  have hmax := ownsRow_max h.rowL
  clear h hno
  obtain ⟨N, hN⟩ : ∃ N, B.L.length = N := ⟨_, rfl⟩
  rw [hN] at c0 hmax
  have HN := Lib.hid hN
  clear hN
  simp only [maxLen] at hmax
  unfold ptr
  go_enter Try.func32, Try.ntmps32
  go_wp2_with fail
  go_loop [6] (fun ix => ∃ i : Nat, i ≤ N ∧ ix = .int .i64 i) (fun ix => N - (intOf ix).toNat)
  case atStart => exact ⟨0, Nat.zero_le _, rfl⟩
  case round =>
    obtain ⟨i, hi, rfl⟩ := hrel
    by_cases hlt : i < N
    · have hiL : i < B.L.length := by rw [HN.out]; exact hlt
      have hrow := H.out.rowL
      obtain ⟨g, cap', hv, hg, hcell⟩ := ownsRow_cells hrow (by omega)
      obtain ⟨rfl, rfl⟩ : a1 = some ⟨g, 0, none⟩ ∧ cap1 = cap' := by simp only [Value.slice.injEq] at hv; exact ⟨hv.1, hv.2.2⟩
      have e3 : w.cell? ⟨g, i * 12 + 3, none⟩ = some (.int .i64 B.L[i].1.xid) := hcell _ _ (by rw [flat_o _ i 3 hiL (by decide)]; rfl)
      have hne : (B.L[i].1.xid == n) = false := by simpa using HNO.out i hiL
      clear hcell hv hrow
      generalize B.L[i].1.xid = x at *
      go_wp2_with fail
      go_round
      case rel => exact ⟨i + 1, by omega, by go_num⟩
      case measure => simp [intOf]; omega
    · have hin : i = N := by omega
      subst hin
      go_wp2_with fail
      refine bodyPost_ret (v := .tuple #[noMsg.val, .bool false]) (by simp [results, Try.results32, go_sem, noMsg, Msg.val, Msg.cells]) rfl ⟨rfl, RStep.same H.out ?_⟩
      exact (Chg.refl _ w).alloc _
set_option maxRecDepth 100000 in
set_option maxHeartbeats 8000000 in
theorem RAcked_found (w : World) (b : Nat) (B : Box) (vL vW : Value) (h : RBox w b B vL vW) (n : Int) (k : Nat) (hk : k < B.L.length) (hno : ∀ j (hj : j < B.L.length), j < k → B.L[j].1.xid ≠ n) (hkn : B.L[k].1.xid = n) (hu : B.W.Pairwise fun x y => x.addr ≠ y.addr) (hX0 : 0 ≤ B.X) (hsm : B.L.length + B.W.length < 1000000) :
    Calls Try.prog 32 #[ptr b, .int .i64 n] w fun e w' => e = .returned (.tuple #[B.L[k].1.val, .bool true]) ∧ RStep w b vL vW w' (Box.goes ⟨B.L.take k ++ B.L.drop (k + 1), B.W, B.X⟩ B.L[k].1.addr) := by
  obtain ⟨a2, cap2, rfl⟩ := ownsRow_slice h.rowL
  have c0 := h.head.cell 0
  simp only [List.getElem?_cons_zero] at c0
  have H := Lib.hid h
  have hb := h.head.lt
  have HNO := Lib.hid hno
  obtain ⟨N, hN⟩ : ∃ N, B.L.length = N := ⟨_, rfl⟩
  rw [hN] at c0 hsm
  have hkN : k < N := by rw [← hN]; exact hk
  have HN := Lib.hid hN
  have HKN := Lib.hid hkn; have HU := Lib.hid hu
  clear hN hno h hu hkn
  unfold ptr
  go_enter Try.func32, Try.ntmps32
  go_wp2_with fail
  have hb0 : Blk (w.alloc (.cells noMsg.cells.toArray 35)) w.heap.size noMsg.cells 35 := Blk.new w noMsg.cells 35
  have cA := (Chg.refl (fun _ => False) w).alloc (.cells noMsg.cells.toArray 35)
  obtain ⟨wA, hA⟩ : ∃ wA, w.alloc (.cells noMsg.cells.toArray 35) = wA := ⟨_, rfl⟩
  have zA : w.heap.size < wA.heap.size := by rw [← hA]; simp
  rw [hA] at hb0 cA
  simp only [noMsg, Msg.cells] at hA
  rw [hA]
  clear hA
  have hrA := H.out.keep cA (fun _ _ h => h)
  have c0A := cA.cell c0 (fun h => h)
  have HA := Lib.hid hrA; have CA := Lib.hid cA; have HB0 := Lib.hid hb0
  clear hrA cA hb0 c0
  go_loop [6] (fun ix => ∃ i : Nat, i ≤ k ∧ ix = .int .i64 i) (fun ix => N - (intOf ix).toNat)
  case atStart => exact ⟨0, Nat.zero_le _, rfl⟩
  case round =>
    obtain ⟨i, hi, rfl⟩ := hrel
    have hiL : i < B.L.length := by omega
    obtain ⟨g, cap', hv, hg, hcell⟩ := ownsRow_cells HA.out.rowL (by omega)
    obtain ⟨rfl, rfl⟩ : a2 = some ⟨g, 0, none⟩ ∧ cap2 = cap' := by simp only [Value.slice.injEq] at hv; exact ⟨hv.1, hv.2.2⟩
    by_cases hlt : i < k
    · have e3 : wA.cell? ⟨g, i * 12 + 3, none⟩ = some (.int .i64 B.L[i].1.xid) := hcell _ _ (by rw [flat_o _ i 3 hiL (by decide)]; rfl)
      have hne : (B.L[i].1.xid == n) = false := by simpa using HNO.out i hiL hlt
      clear hcell hv
      generalize B.L[i].1.xid = x at *
      go_wp2_with fail
      go_round
      case rel => exact ⟨i + 1, by omega, by go_num⟩
      case measure => simp [intOf]; omega
    · have hik : i = k := by omega
      subst hik
      obtain ⟨M, hM⟩ : ∃ M, B.L[i].1 = M := ⟨_, rfl⟩
      have hcl : ∀ k' c, k' < 11 → M.cells[k']? = some c → wA.cell? ⟨g, i * 12 + k', none⟩ = some c := fun k' c hk' h => hcell _ _ (by rw [flat_o _ i k' hiL (by omega)]; unfold cellsO; rw [hM, List.getElem?_append_left (by simp [Msg.cells]; omega)]; exact h)
      have hMn : M.xid = n := by rw [← hM]; exact HKN.out
      have e0 := hcl 0 _ (by decide) rfl
      have e1 := hcl 1 _ (by decide) rfl
      have e2 := hcl 2 _ (by decide) rfl
      have e3 := hcl 3 _ (by decide) rfl
      have e4 := hcl 4 _ (by decide) rfl
      have e5 := hcl 5 _ (by decide) rfl
      have e6 := hcl 6 _ (by decide) rfl
      have e7 := hcl 7 _ (by decide) rfl
      have e8 := hcl 8 _ (by decide) rfl
      have e9 := hcl 9 _ (by decide) rfl
      have e10 := hcl 10 _ (by decide) rfl
      rw [Nat.add_zero] at e0
      have HM := Lib.hid hM
      have hab : (M.xid == n) = true := by simpa using hMn
      clear hcl hcell hv hM hMn hlt
      go_upto_region 6 with (fail)
      have BK := Blk.new wA M.cells 35
      have cD := (Chg.refl (fun _ => False) wA).alloc (.cells M.cells.toArray 35)
      obtain ⟨wD, hD⟩ : ∃ wD, wA.alloc (.cells M.cells.toArray 35) = wD := ⟨_, rfl⟩
      have zD1 : wA.heap.size < wD.heap.size := by rw [← hD]; simp
      rw [hD] at BK cD
      unfold Msg.cells at hD
      rw [hD]
      clear hD
      have hr := HA.out.keep cD (fun _ _ h => h)
      have hcap : N ≤ cap2 ∧ cap2 ≤ maxLen := by
        rcases hr.rowL.2 with ⟨h1, _⟩ | ⟨g', cap', cur, h1, _, _, h2, h3, _⟩
        · cases h1
        · simp only [Value.slice.injEq] at h1
          have := HN.out
          obtain ⟨_, _, rfl⟩ := h1
          omega
      obtain ⟨hcap1, hcap2⟩ := hcap
      simp only [maxLen] at hcap2
      have d0 := cD.cell c0A (fun h => h)
      have hrow := hr.rowL
      have hbd := hr.head
      rw [HN.out] at hrow hbd
      obtain ⟨i0, y1, y2, y3, y4⟩ := info_parts Try.info107
      have HBD := Lib.hid hbd
      have LIES1 := Lib.hid (ownsRow_lies_take hrow i cap2)
      have L1 := Lib.hid (show ((B.L.flatMap cellsO).take (i * 12)).length = i * 12 by rw [List.length_take, hrow.1]; omega)
      have L2 := Lib.hid (show ((B.L.flatMap cellsO).drop ((i + 1) * 12)).length = (N - (i + 1)) * 12 by rw [List.length_drop, hrow.1]; omega)
      have ONE := Lib.hid (show ∀ u ∈ B.L.flatMap cellsO, u.oneCell' = true from fun u hu => by
        obtain ⟨x, _, hx⟩ := List.mem_flatMap.1 hu
        simp only [cellsO, Msg.cells, List.cons_append, List.nil_append, List.mem_cons, List.not_mem_nil, or_false] at hx
        rcases hx with rfl | rfl | rfl | rfl | rfl | rfl | rfl | rfl | rfl | rfl | rfl | rfl <;> rfl)
      have HBK := Lib.hid BK; have CD := Lib.hid (CA.out.trans cD); have HRD := Lib.hid hr; have HROW := Lib.hid hrow; have HB0D := Lib.hid (cD.blk HB0.out (fun h => h))
      clear BK cD hr hbd hrow e0 e1 e2 e3 e4 e5 e6 e7 e8 e9 e10 hab c0A
      go_cut [] from 36 to 54 (fun wc => GoneL b N B i vW wD wc)
      case rest =>
        obtain ⟨a4, cap4, hb4, hr4, hc4, hl4⟩ := hcut
        have hpb : ¬ wA.heap.size = b := fun e => by omega
        have hpb0 : ¬ w.heap.size = b := fun e => by omega
        have hbk := hc4.blk HBK.out hpb
        have hbk0 := hc4.blk HB0D.out hpb0
        have hrW := HRD.out.rowW.keep hc4 (fun k hk h => HRD.out.neW k hk h)
        have hWl : (B.L.take i ++ B.L.drop (i + 1)).length = N - 1 := by
          have := HN.out
          rw [List.length_append, List.length_take, List.length_drop]
          omega
        have hcw : Chg (fun j => j = b) w wc := (CD.out.mono (fun _ _ h => h.elim)).trans hc4
        have hbox : RBox wc b ⟨B.L.take i ++ B.L.drop (i + 1), B.W, B.X⟩ (.slice a4 (N - 1) cap4) vW := by
          refine ⟨hb4, ?_, hrW, fun k hk e => ?_, H.out.neW, fun k hk hk2 => ?_⟩
          · simp only [hWl]; exact hr4
          · have := hl4 k hk; omega
          · have h1 := hl4 k hk
            have h2 := ownsRow_below H.out.rowW hk2
            omega
        have q5 := hbk.cell 5
        simp only [Msg.cells, List.getElem?_cons_zero, List.getElem?_cons_succ] at q5
        have HBX := Lib.hid hbox; have HC4 := Lib.hid hcw; have HL4 := Lib.hid hl4; have HBK4 := Lib.hid hbk; have HBK0 := Lib.hid hbk0
        have lp := hbk.lt
        clear hb4 hr4 hc4 hl4 hbk hbk0 hrW hWl hcw hbox hpb hpb0 d0
        go_wp2_with fail
        refine (RGoes_any wc b _ _ vW HBX.out M.addr HU.out hX0 (by
          have := HN.out
          simp only [List.length_append, List.length_take, List.length_drop]; omega)).mono ?_
        rintro e w5 ⟨rfl, hst⟩
        have hmine : ∀ k, k = w.heap.size ∨ k = wA.heap.size → ¬ RMine b (.slice a4 (N - 1) cap4) vW k := by
          rintro k hk (h | h | h)
          · omega
          · have := HL4.out k h; omega
          · have := ownsRow_below H.out.rowW h; omega
        have hbk5 := hst.2.blk HBK4.out (hmine _ (.inr rfl))
        have hbk6 := hst.2.blk HBK0.out (hmine _ (.inl rfl))
        have b0 := hbk5.cell 0
        have b1 := hbk5.cell 1
        have b2 := hbk5.cell 2
        have b3 := hbk5.cell 3
        have b4 := hbk5.cell 4
        have b5 := hbk5.cell 5
        have b6 := hbk5.cell 6
        have b7 := hbk5.cell 7
        have b8 := hbk5.cell 8
        have b9 := hbk5.cell 9
        have b10 := hbk5.cell 10
        have r0 := hbk6.cell 0
        have r1 := hbk6.cell 1
        have r2 := hbk6.cell 2
        have r3 := hbk6.cell 3
        have r4 := hbk6.cell 4
        have r5 := hbk6.cell 5
        have r6 := hbk6.cell 6
        have r7 := hbk6.cell 7
        have r8 := hbk6.cell 8
        have r9 := hbk6.cell 9
        have r10 := hbk6.cell 10
        simp only [Msg.cells, List.getElem?_cons_zero, List.getElem?_cons_succ] at b0 b1 b2 b3 b4 b5 b6 b7 b8 b9 b10
        simp only [noMsg, Msg.cells, List.getElem?_cons_zero, List.getElem?_cons_succ] at r0 r1 r2 r3 r4 r5 r6 r7 r8 r9 r10
        have f3 := hbk6.frozen
        have HST := Lib.hid hst
        clear hst hbk5 hbk6 q5
        go_wp2_with fail
        rw [HM.out]
        refine bodyPost_ret (v := .tuple #[M.val, .bool true]) (by simp [results, Try.results32, go_sem, Msg.val, Msg.cells, r0, r1, r2, r3, r4, r5, r6, r7, r8, r9, r10]) rfl ⟨rfl, ?_⟩
        refine RStep.wrap HC4.out (fun k hk => by have := HL4.out k hk; omega) HST.out (hmine _ (.inl rfl)) (by have := HBK0.out.lt; exact this) (Nat.le_refl _) ?_
        with_reducible (repeat (first | exact Chg.refl _ _ | (refine Chg.setCell ?_ _ (fun _ => rfl))))
      case first =>
      have lb : b < wD.heap.size := HBD.out.lt
      have q0 : (0 : Int) ≤ (i : Int) := by omega
      have q1 : (i : Int) ≤ (cap2 : Int) := by omega
      have q2 : (i : Int) + 1 ≤ (N : Int) := by omega
      by_cases hce : i + 1 = cap2
      · subst hce
        obtain rfl : N = i + 1 := by omega
        have q3 : (i : Int) ≤ (i : Int) + 1 := by omega
        have LIES2 := Lib.hid (show Lies wD (.slice (some ⟨g, 0, none⟩) 0 0) (i + 1 - (i + 1)) ((B.L.flatMap cellsO).drop ((i + 1) * 12)) from .inl ⟨_, 0, by rw [Nat.sub_self], fun j u h => by rw [List.drop_of_length_le (by rw [HROW.out.1]; omega)] at h; simp at h⟩)
        have hw2 : (0 : Int) ≤ (i : Int) + 1 := by omega
        have hw1 : IntKind.i64.wrap ((i : Int) + 1) = (i : Int) + 1 := IntWalk.i64_in _ (by omega)
        have hw3 : ((i : Int) + 1).toNat = i + 1 := by clear hw1; omega
        go_region_law
          ((first
            | (refine step_app (by rfl) _ _ 61 (by rfl) 107 i0 _ 12 104 Try.underlying61 y1 y2 y3 y4 rfl (by decide) (.slice (some ⟨wD.heap.size, 0, none⟩) 0 0) 0 [] (by rfl) (ownsRow_empty (heap_alloc_new wD _)) (.slice (some ⟨g, 0, none⟩) i (i + 1)) i ((B.L.flatMap cellsO).take (i * 12)) (by rfl) (LIES1.out.keep (((Chg.refl (fun _ => False) wD).alloc _).drew) (fun _ _ h => h)) L1.out (fun u hu => ONE.out u (List.mem_of_mem_take hu)) (by clear hw1 hw3; simp only [maxLen]; omega) (by clear hw1 hw3; omega) ?_
               intro v1 w1 ha1
               have cj : Chg (fun _ => False) wD w1 := (((Chg.refl (fun _ => False) wD).alloc _).drew).trans' ha1.chg (fun k hk h => by simp only [Value.ownBlock, Option.some.injEq] at h; clear hw1 hw3; omega)
               have kj1 := cj.cell d0 (fun h => h)
               have LJ := Lib.hid (LIES2.out.keep cj (fun _ _ h => h))
               have HA1 := Lib.hid ha1
               clear ha1 cj)
            | (refine step_app (by rfl) _ _ 61 (by rfl) 107 i0 _ 12 104 Try.underlying61 y1 y2 y3 y4 rfl (by decide) v1 (0 + i) ([] ++ (B.L.flatMap cellsO).take (i * 12)) (by rfl) HA1.out.row _ (i + 1 - (i + 1)) ((B.L.flatMap cellsO).drop ((i + 1) * 12)) (by rfl) LJ.out L2.out (fun u hu => ONE.out u (List.mem_of_mem_drop hu)) (by clear hw1 hw3; simp only [maxLen]; omega) (by clear hw1 hw3; omega) ?_
               intro v2 w2 ha2
               have hap := app2_of (w := wD) (((Chg.refl (fun _ => False) wD).alloc _).drew) (fun k h => by simp only [Value.ownBlock, Option.some.injEq] at h; clear hw1 hw3; omega) HA1.out (Chg.refl _ w1) ha2
               have kk1 := hap.chg.cell d0 (fun h => h)
               have kkf := (hap.chg.blk HBD.out (fun h => h)).frozen 0
               obtain ⟨a3, cap3, e3⟩ := ownsRow_slice hap.row
               rw [show 0 + i + (i + 1 - (i + 1)) = i + 1 - 1 by clear hw1 hw3; omega] at e3
               subst e3
               have HAP := Lib.hid hap
               clear ha2 hap)))
        all_goals go_wp2_with fail
        all_goals go_meet
        all_goals case rel => exact gonel_fin HBD.out hiL HN.out HAP.out
      · have hce2 : ¬ cap2 = i + 1 := fun e => hce e.symm
        have LIES2 := Lib.hid (ownsRow_lies_drop HROW.out (i + 1) (N - (i + 1)) (cap2 - (i + 1)))
        have hw2 : (0 : Int) ≤ (i : Int) + 1 := by omega
        have hw1 : IntKind.i64.wrap ((i : Int) + 1) = (i : Int) + 1 := IntWalk.i64_in _ (by omega)
        have hw3 : ((i : Int) + 1).toNat = i + 1 := by clear hw1; omega
        go_region_law
          ((first
            | (refine step_app (by rfl) _ _ 61 (by rfl) 107 i0 _ 12 104 Try.underlying61 y1 y2 y3 y4 rfl (by decide) (.slice (some ⟨wD.heap.size, 0, none⟩) 0 0) 0 [] (by rfl) (ownsRow_empty (heap_alloc_new wD _)) (.slice (some ⟨g, 0, none⟩) i cap2) i ((B.L.flatMap cellsO).take (i * 12)) (by rfl) (LIES1.out.keep (((Chg.refl (fun _ => False) wD).alloc _).drew) (fun _ _ h => h)) L1.out (fun u hu => ONE.out u (List.mem_of_mem_take hu)) (by clear hw1 hw3; simp only [maxLen]; omega) (by clear hw1 hw3; omega) ?_
               intro v1 w1 ha1
               have cj : Chg (fun _ => False) wD w1 := (((Chg.refl (fun _ => False) wD).alloc _).drew).trans' ha1.chg (fun k hk h => by simp only [Value.ownBlock, Option.some.injEq] at h; clear hw1 hw3; omega)
               have kj1 := cj.cell d0 (fun h => h)
               have LJ := Lib.hid (LIES2.out.keep cj (fun _ _ h => h))
               have HA1 := Lib.hid ha1
               clear ha1 cj)
            | (refine step_app (by rfl) _ _ 61 (by rfl) 107 i0 _ 12 104 Try.underlying61 y1 y2 y3 y4 rfl (by decide) v1 (0 + i) ([] ++ (B.L.flatMap cellsO).take (i * 12)) (by rfl) HA1.out.row _ (N - (i + 1)) ((B.L.flatMap cellsO).drop ((i + 1) * 12)) (by rfl) LJ.out L2.out (fun u hu => ONE.out u (List.mem_of_mem_drop hu)) (by clear hw1 hw3; simp only [maxLen]; omega) (by clear hw1 hw3; omega) ?_
               intro v2 w2 ha2
               have hap := app2_of (w := wD) (((Chg.refl (fun _ => False) wD).alloc _).drew) (fun k h => by simp only [Value.ownBlock, Option.some.injEq] at h; clear hw1 hw3; omega) HA1.out (Chg.refl _ w1) ha2
               have kk1 := hap.chg.cell d0 (fun h => h)
               have kkf := (hap.chg.blk HBD.out (fun h => h)).frozen 0
               obtain ⟨a3, cap3, e3⟩ := ownsRow_slice hap.row
               rw [show 0 + i + (N - (i + 1)) = N - 1 by clear hw1 hw3; omega] at e3
               subst e3
               have HAP := Lib.hid hap
               clear ha2 hap)))
        all_goals go_wp2_with fail
        all_goals go_meet
        all_goals case rel => exact gonel_fin HBD.out hiL HN.out HAP.out
end Go.Proofs.Ytenkglbnlealbaa
