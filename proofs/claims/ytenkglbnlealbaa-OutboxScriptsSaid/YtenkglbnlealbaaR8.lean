import Derived.Test.YtenkglbnlealbaaR3
/-! The reference's 'Same' and 'Tick'. -/
namespace Go.Proofs.Ytenkglbnlealbaa
open Go.RowKit
attribute [local go_sem] Oper.semAt_some
set_option maxRecDepth 100000 in
set_option maxHeartbeats 2000000 in
theorem RSame_any (w : World) (v1 v2 : Value) (T : List Msg) (h1 : w.ownsRow 0 35 11 v1 T.length (T.flatMap Msg.cells)) (h2 : w.ownsRow 0 35 11 v2 T.length (T.flatMap Msg.cells)) :
    Calls Try.prog 34 #[v1, v2] w fun e w' => e = .returned (.bool true) ∧ Chg (fun _ => False) w w' := by
  obtain ⟨a1, cap1, rfl⟩ := ownsRow_slice h1
  obtain ⟨a2, cap2, rfl⟩ := ownsRow_slice h2
  have hmax := ownsRow_max h1
  have H1 := Lib.hid h1; have H2 := Lib.hid h2
  clear h1 h2
  obtain ⟨N, hN⟩ : ∃ N, T.length = N := ⟨_, rfl⟩
  rw [hN] at hmax ⊢
  have HN := Lib.hid hN
  clear hN
  simp only [maxLen] at hmax
  have z0 : ((N : Int) != (N : Int)) = false := by simp
  go_enter Try.func34, Try.ntmps34
  go_wp2_with fail
  go_loopw [5] (fun ix wr => ∃ i q : Nat, i ≤ N ∧ ix = .int .i64 i ∧ wr = w.drewN q) (fun ix _ => N - (intOf ix).toNat)
  case atStart => exact ⟨0, 0, Nat.zero_le _, rfl, rfl⟩
  case round =>
    obtain ⟨i, q, hi, rfl, rfl⟩ := hrel
    by_cases hlt : i < N
    · have hiT : i < T.length := by rw [HN.out]; exact hlt
      obtain ⟨g1, cap1', hv1, hg1, hc1⟩ := ownsRow_cells H1.out (by omega)
      obtain ⟨g2, cap2', hv2, hg2, hc2⟩ := ownsRow_cells H2.out (by omega)
      obtain ⟨rfl, rfl⟩ : a1 = some ⟨g1, 0, none⟩ ∧ cap1 = cap1' := by simp only [Value.slice.injEq] at hv1; exact ⟨hv1.1, hv1.2.2⟩
      obtain ⟨rfl, rfl⟩ : a2 = some ⟨g2, 0, none⟩ ∧ cap2 = cap2' := by simp only [Value.slice.injEq] at hv2; exact ⟨hv2.1, hv2.2.2⟩
      obtain ⟨M, hM⟩ : ∃ M, T[i] = M := ⟨_, rfl⟩
      have k1 : ∀ k c, k < 11 → M.cells[k]? = some c → w.cell? ⟨g1, i * 11 + k, none⟩ = some c := fun k c hk h => hc1 _ _ (by rw [flat_at _ i k hiT hk, hM]; exact h)
      have k2 : ∀ k c, k < 11 → M.cells[k]? = some c → w.cell? ⟨g2, i * 11 + k, none⟩ = some c := fun k c hk h => hc2 _ _ (by rw [flat_at _ i k hiT hk, hM]; exact h)
      have m0 := k1 0 _ (by decide) rfl
      have m1 := k1 1 _ (by decide) rfl
      have m2 := k1 2 _ (by decide) rfl
      have m3 := k1 3 _ (by decide) rfl
      have m4 := k1 4 _ (by decide) rfl
      have m5 := k1 5 _ (by decide) rfl
      have m6 := k1 6 _ (by decide) rfl
      have m7 := k1 7 _ (by decide) rfl
      have m8 := k1 8 _ (by decide) rfl
      have m9 := k1 9 _ (by decide) rfl
      have m10 := k1 10 _ (by decide) rfl
      have o0 := k2 0 _ (by decide) rfl
      have o1 := k2 1 _ (by decide) rfl
      have o2 := k2 2 _ (by decide) rfl
      have o3 := k2 3 _ (by decide) rfl
      have o4 := k2 4 _ (by decide) rfl
      have o5 := k2 5 _ (by decide) rfl
      have o6 := k2 6 _ (by decide) rfl
      have o7 := k2 7 _ (by decide) rfl
      have o8 := k2 8 _ (by decide) rfl
      have o9 := k2 9 _ (by decide) rfl
      have o10 := k2 10 _ (by decide) rfl
      rw [Nat.add_zero] at m0 o0
      clear k1 k2 hc1 hc2 hv1 hv2 hM
      go_wp2_with fail
      go_quiet (fail)
      go_wp2_with fail
      go_roundw
      case rel => exact ⟨i + 1, _, by omega, by go_num, rfl⟩
      case measure => simp [intOf]; omega
    · have hin : i = N := by omega
      subst hin
      go_wp2_with fail
      go_ret
      exact ⟨rfl, (Chg.refl _ w).drewN q⟩
end Go.Proofs.Ytenkglbnlealbaa
