import Derived.Test.YtenkglbnlealbaaR3
import Derived.Laws.StructEq
/-! The reference's 'Right'. -/
namespace Go.Proofs.Ytenkglbnlealbaa
open Go.RowKit
attribute [local go_sem] Oper.semAt_some
theorem rwithin_any (n lo hi : Int) (w : World) :
    Calls Try.prog 53 #[.int .i64 n, .int .i64 lo, .int .i64 hi] w fun e w' => e = .returned (.bool (inRange lo hi n)) ∧ w = w' := by
  by_cases h : lo ≤ n
  · go_enter Try.func53, Try.ntmps53
    go_wp2
    go_ret
    exact ⟨by simp [inRange, h], rfl⟩
  · go_enter Try.func53, Try.ntmps53
    go_wp2
    go_ret
    exact ⟨by simp [inRange]; omega, rfl⟩
set_option maxRecDepth 100000 in
set_option maxHeartbeats 2000000 in
theorem RRight_upd (st a bi : Int) (c : ByteArray) (p t : Int) (ok : Bool) (w : World) :
    Calls Try.prog 46 #[.agg #[.int .i64 2, .int .i64 1, .int .i64 0, .int .i64 1, .int .i64 st, .int .u32 a, .int .i64 bi, .string c, .int .i64 p, .int .i64 t, .bool ok]] w fun e w' =>
      e = .returned (.bool (rightU 1 0 1 st bi c p t ok)) ∧ Chg (fun _ => False) w w' := by
  go_enter Try.func46, Try.ntmps46
  go_wp2_with (go_at_call 53; refine (rwithin_any _ _ _ _).mono ?_; rintro e w' ⟨rfl, rfl⟩; simp only [show inRange 1 5 2 = true from rfl, show inRange 1 536870912 1 = true from rfl, show inRange 0 536870912 0 = true from rfl])
  all_goals
    go_ret
    refine ⟨?_, ?_⟩
    · simp [rightU, fineAt, *, show inRange 1 536870912 1 = true from rfl, show inRange 0 536870912 0 = true from rfl, show inRange 1 1073741824 1 = true from rfl]
    · exact ((Chg.refl _ w).alloc _).alloc _
set_option maxRecDepth 100000 in
set_option maxHeartbeats 2000000 in
theorem RRight_other (k st a bi : Int) (c : ByteArray) (p t : Int) (ok : Bool) (w : World) (hk : ¬ k = 2) :
    Calls Try.prog 46 #[.agg #[.int .i64 k, .int .i64 1, .int .i64 0, .int .i64 1, .int .i64 st, .int .u32 a, .int .i64 bi, .string c, .int .i64 p, .int .i64 t, .bool ok]] w fun e w' =>
      (∃ r, e = .returned (.bool r)) ∧ Chg (fun _ => False) w w' := by
  have hk2 : (k == 2) = false := by simpa using hk
  go_enter Try.func46, Try.ntmps46
  go_wp2_with (go_at_call 53; refine (rwithin_any _ _ _ _).mono ?_; rintro e w' ⟨rfl, rfl⟩; simp only [show inRange 1 536870912 1 = true from rfl, show inRange 0 536870912 0 = true from rfl])
  all_goals
    go_ret
    refine ⟨⟨_, rfl⟩, ?_⟩
    first
      | exact ((Chg.refl _ w).alloc _).alloc _
      | exact (Chg.refl _ w).alloc _
/-- 'Right' of a message that is put -/
theorem RRight_any (m : Msg) (w : World) :
    Calls Try.prog 46 #[Msg.val { m with life := 1, seen := 0, xid := 1 }] w fun e w' => ∃ r, e = .returned (.bool r) ∧ (m.right = (r && decide (m.kind = 2))) ∧ Chg (fun _ => False) w w' := by
  obtain ⟨k, ll, s, x, st, a, bi, c, p, t, ok⟩ := m
  by_cases hk : k = 2
  · subst hk
    refine (RRight_upd st a bi c p t ok w).mono ?_
    rintro e w' ⟨rfl, hc⟩
    exact ⟨_, rfl, by simp [Msg.right], hc⟩
  · refine (RRight_other k st a bi c p t ok w hk).mono ?_
    rintro e w' ⟨⟨r, rfl⟩, hc⟩
    exact ⟨r, rfl, by simp [Msg.right, hk], hc⟩
end Go.Proofs.Ytenkglbnlealbaa
