import Derived.Test.YtenkglbnlealbaaR3
/-! The reference's 'goes': the walk. -/
namespace Go.Proofs.Ytenkglbnlealbaa
open Go.RowKit
attribute [local go_sem] Oper.semAt_some
set_option maxRecDepth 100000 in
set_option maxHeartbeats 2000000 in
theorem RGoes_skip (w : World) (b : Nat) (B : Box) (vL vW : Value) (h : RBox w b B vL vW) (a : Int) (hs : B.out a = true ∨ 1073741824 ≤ B.X ∨ ∀ j (hj : j < B.W.length), B.W[j].addr ≠ a) :
    Calls Try.prog 47 #[ptr b, .int .u32 a] w fun e w' => e = .returned (.tuple #[]) ∧ RStep w b vL vW w' (B.goes a) := by
  have hgo : B.goes a = B := by
    rcases hs with h1 | h1 | h1
    · exact goes_stay (.inl h1)
    · exact goes_stay (.inr h1)
    · exact goes_none' h1
  have HGO := Lib.hid hgo
  clear hgo
  obtain ⟨a2, cap2, rfl⟩ := ownsRow_slice h.rowW
  have c1 := h.head.cell 1
  have c2 := h.head.cell 2
  simp only [List.getElem?_cons_zero, List.getElem?_cons_succ] at c1 c2
  have hmax := ownsRow_max h.rowW
  have H := Lib.hid h
  clear h
  obtain ⟨N, hN⟩ : ∃ N, B.W.length = N := ⟨_, rfl⟩
  rw [hN] at c1 hmax
  have HN := Lib.hid hN
  have HSK := Lib.hid hs
  clear hN hs
  simp only [maxLen] at hmax
  unfold ptr
  go_enter Try.func47, Try.ntmps47
  go_wp2_with fail
  refine (ROut_any w b B vL _ H.out a).mono ?_
  rintro e w' ⟨rfl, rfl⟩
  obtain ⟨is, his⟩ : ∃ is, B.out a = is := ⟨_, rfl⟩
  obtain ⟨X, hX⟩ : ∃ X, B.X = X := ⟨_, rfl⟩
  rw [hX] at c2
  rw [his]
  have HIS := Lib.hid his; have HX := Lib.hid hX
  clear his hX
  go_wp2_with fail
  go_loop [5] (fun ix => ∃ i : Nat, i ≤ N ∧ ix = .int .i64 i) (fun ix => N - (intOf ix).toNat)
  case atStart => exact ⟨0, Nat.zero_le _, rfl⟩
  case round =>
    obtain ⟨i, hi, rfl⟩ := hrel
    by_cases hlt : i < N
    · have hiL : i < B.W.length := by rw [HN.out]; exact hlt
      obtain ⟨g, cap', hv, hg, hcell⟩ := ownsRow_cells H.out.rowW (by omega)
      obtain ⟨rfl, rfl⟩ : a2 = some ⟨g, 0, none⟩ ∧ cap2 = cap' := by simp only [Value.slice.injEq] at hv; exact ⟨hv.1, hv.2.2⟩
      have e5 : w.cell? ⟨g, i * 11 + 5, none⟩ = some (.int .u32 B.W[i].addr) := hcell _ _ (by rw [flat_at _ i 5 hiL (by decide)]; rfl)
      have hcase : B.W[i].addr ≠ a ∨ (B.W[i].addr = a ∧ (is = true ∨ (is = false ∧ 1073741824 ≤ X))) := by
        by_cases e : B.W[i].addr = a
        · refine .inr ⟨e, ?_⟩
          rcases HSK.out with h1 | h1 | h1
          · left; rw [← HIS.out]; exact h1
          · cases is with
            | true => exact .inl rfl
            | false => exact .inr ⟨rfl, by rw [← HX.out]; exact h1⟩
          · exact absurd e (h1 i hiL)
        · exact .inl e
      clear hcell hv
      generalize B.W[i].addr = ra at *
      rcases hcase with hc | ⟨rfl, rfl | ⟨rfl, hc⟩⟩
      · have h1 : (ra != a) = true := by simpa using hc
        clear hc
        go_wp2_with fail
        go_round
        case rel => exact ⟨i + 1, by omega, by go_num⟩
        case measure => simp [intOf]; omega
      · have h1 : (ra != ra) = false := by simp
        go_wp2_with fail
        go_round
        case rel => exact ⟨i + 1, by omega, by go_num⟩
        case measure => simp [intOf]; omega
      · have h1 : (ra != ra) = false := by simp
        have h2 : decide (1073741824 ≤ X) = true := by simpa using hc
        go_wp2_with fail
        go_round
        case rel => exact ⟨i + 1, by omega, by go_num⟩
        case measure => simp [intOf]; omega
    · have hin : i = N := by omega
      subst hin
      go_wp2_with fail
      refine bodyPost_end (results_none rfl _ _ _) rfl ⟨rfl, ?_⟩
      rw [HGO.out]
      exact RStep.same H.out (Chg.refl _ w)
end Go.Proofs.Ytenkglbnlealbaa
