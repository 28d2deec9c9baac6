import Derived.Test.YtenkglbnlealbaaR1
namespace Go.Proofs.Ytenkglbnlealbaa
open Go.RowKit
attribute [local go_sem] Oper.semAt_some
set_option maxRecDepth 100000 in
set_option maxHeartbeats 1000000 in
theorem RClear_any (w : World) (b : Nat) (B : Box) (vL vW : Value) (h : RBox w b B vL vW) : Calls Try.prog 35 #[ptr b] w fun e w' => e = .returned (.tuple #[]) ∧ RBox w' b B.clear (.slice none 0 0) (.slice none 0 0) ∧ Chg (fun k => k = b) w w' := by
  have c0 := h.head.cell 0
  have c1 := h.head.cell 1
  simp only [List.getElem?_cons_zero, List.getElem?_cons_succ] at c0 c1
  have f0 := h.head.frozen 0
  have f1 := h.head.frozen 1
  have H := Lib.hid h
  clear h
  obtain ⟨a1, cap1, rfl⟩ := ownsRow_slice H.out.rowL
  obtain ⟨a2, cap2, rfl⟩ := ownsRow_slice H.out.rowW
  unfold ptr
  go_enter Try.func35, Try.ntmps35
  go_wp2
  go_end0
  refine ⟨rfl, ⟨?_, ⟨rfl, .inl ⟨rfl, rfl⟩⟩, ⟨rfl, .inl ⟨rfl, rfl⟩⟩, (fun k hk => by cases hk), (fun k hk => by cases hk), (fun k hk => by cases hk)⟩, ?_⟩
  · exact (H.out.head.setCell 0 _).setCell 1 _
  · exact ((Chg.refl (fun k => k = b) w).setCell _ (fun _ => rfl)).setCell _ (fun _ => rfl)
set_option maxRecDepth 100000 in
set_option maxHeartbeats 1000000 in
theorem RLen_any (w : World) (b : Nat) (B : Box) (vL vW : Value) (h : RBox w b B vL vW) (hsm : B.L.length + B.W.length < 1000000) : Calls Try.prog 24 #[ptr b] w fun e w' => e = .returned (.int .i64 B.len) ∧ w = w' := by
  obtain ⟨a1, cap1, hv1⟩ := ownsRow_slice h.rowL
  obtain ⟨a2, cap2, rfl⟩ := ownsRow_slice h.rowW
  have c0 := h.head.cell 0
  have c1 := h.head.cell 1
  simp only [List.getElem?_cons_zero, List.getElem?_cons_succ] at c0 c1
  rw [hv1] at c0
  have hb := h.head.lt
  have H := Lib.hid h
  have HV1 := Lib.hid hv1
  clear h hv1
  obtain ⟨N, hN⟩ : ∃ N, B.W.length = N := ⟨_, rfl⟩
  obtain ⟨K, hK⟩ : ∃ K, B.L.length = K := ⟨_, rfl⟩
  rw [hN] at c1 hsm
  rw [hK] at c0 hsm
  have HN := Lib.hid hN; have HK := Lib.hid hK
  clear hN hK
  unfold ptr
  go_enter Try.func24, Try.ntmps24
  go_wp2_with fail
  go_loop [3, 4, 5] (fun nx ix _ => ∃ i q : Nat, i ≤ N ∧ ix = .int .i64 i ∧ nx = .int .i64 ((K + q : Nat) : Int) ∧ q = ((B.W.take i).filter fun m => !B.out m.addr).length ∧ q ≤ i) (fun _ ix _ => N - (intOf ix).toNat)
  case atStart => exact ⟨0, 0, Nat.zero_le _, rfl, by simp, by simp, Nat.le_refl _⟩
  case round =>
    obtain ⟨i, q, hi, rfl, rfl, hq, hqi⟩ := hrel
    have HQ := Lib.hid hq
    clear hq
    by_cases hlt : i < N
    · have hiL : i < B.W.length := by rw [HN.out]; exact hlt
      obtain ⟨g, cap', hv, hg, hcell⟩ := ownsRow_cells H.out.rowW (by omega)
      obtain ⟨rfl, rfl⟩ : a2 = some ⟨g, 0, none⟩ ∧ cap2 = cap' := by simp only [Value.slice.injEq] at hv; exact ⟨hv.1, hv.2.2⟩
      have e5 : w.cell? ⟨g, i * 11 + 5, none⟩ = some (.int .u32 B.W[i].addr) := hcell _ _ (by rw [flat_at _ i 5 hiL (by decide)]; rfl)
      have hstep : ((B.W.take (i + 1)).filter fun m => !B.out m.addr).length = q + if B.out B.W[i].addr = true then 0 else 1 := by
        rw [List.take_succ_eq_append_getElem hiL, List.filter_append, List.length_append, ← HQ.out]
        cases hb : B.out B.W[i].addr <;> simp [hb]
      have HST := Lib.hid hstep
      clear hcell hv hstep
      go_wp2_with fail
      refine (ROut_any w b B vL _ H.out _).mono ?_
      rintro e w' ⟨rfl, rfl⟩
      cases hbo : B.out B.W[i].addr with
      | true =>
        have HB := Lib.hid hbo
        clear hbo
        go_wp2_with fail
        go_round
        case rel => exact ⟨i + 1, q, by omega, by go_num, rfl, by rw [HST.out, HB.out]; simp, by omega⟩
        case measure => simp [intOf]; omega
      | false =>
        have HB := Lib.hid hbo
        clear hbo
        go_wp2_with fail
        go_round
        case rel => exact ⟨i + 1, q + 1, by omega, by go_num, by go_num, by rw [HST.out, HB.out]; simp, by omega⟩
        case measure => simp [intOf]; omega
    · have hin : i = N := by omega
      subst hin
      have hf : (B.len : Int) = ((K + q : Nat) : Int) := by
        unfold Box.len
        rw [HK.out, HQ.out, ← HN.out, List.take_length]
      have HF := Lib.hid hf
      clear hf
      go_wp2_with fail
      go_ret
      exact ⟨by rw [HF.out] <;> rfl, rfl⟩
end Go.Proofs.Ytenkglbnlealbaa
