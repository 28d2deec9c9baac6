import Derived.Test.YtenkglbnlealbaaSeen2
import Derived.Test.YtenkglbnlealbaaArgs2
/-! OutboxSeen. -/
namespace Go.Proofs.Ytenkglbnlealbaa
open Go.RowKit
attribute [local go_sem] Oper.semAt_some
theorem seenAt_put (S : List Noted) (n : Noted) (a : Int) : seenAt (S.filter (fun x => x.addr != n.addr) ++ [n]) a = if a = n.addr then some n else seenAt S a := by
  unfold seenAt
  rw [List.find?_append]
  by_cases h : a = n.addr
  · rw [if_pos h]
    have : (S.filter fun x => x.addr != n.addr).find? (fun x => x.addr == a) = none := by
      rw [List.find?_eq_none]
      intro x hx
      have := (List.mem_filter.1 hx).2
      rw [h]; simpa using this
    rw [this]
    simp [h]
  · rw [if_neg h]
    have e : (n.addr == a) = false := by simpa using fun h' => h h'.symm
    have : (S.filter fun x => x.addr != n.addr).find? (fun x => x.addr == a) = S.find? (fun x => x.addr == a) := by
      rw [List.find?_filter]
      congr 1
      funext x
      by_cases hx : x.addr = a
      · simp [hx, h]
      · simp [hx]
    rw [this]
    simp only [List.find?_cons, e, List.find?_nil]
    cases S.find? (fun x => x.addr == a) <;> rfl
theorem seenAt_set : ∀ (R : List Noted) (i : Nat) (n : Noted) (_ : R.findIdx? (fun x => x.addr == n.addr) = some i) (a : Int), seenAt (R.set i n) a = if a = n.addr then some n else seenAt R a
  | [], i, n, h, a => by simp at h
  | m :: R, i, n, h, a => by
    rw [List.findIdx?_cons] at h
    unfold seenAt
    by_cases hm : m.addr = n.addr
    · rw [if_pos (by simpa using hm)] at h
      cases h
      simp only [List.set_cons_zero, List.find?_cons]
      by_cases ha : a = n.addr
      · rw [if_pos ha]; simp [ha]
      · have e1 : (n.addr == a) = false := by simpa using fun h' => ha h'.symm
        have e2 : (m.addr == a) = false := by rw [hm]; exact e1
        rw [if_neg ha, e1, e2]
    · rw [if_neg (by simpa using hm)] at h
      obtain ⟨j, hj, rfl⟩ := Option.map_eq_some_iff.1 h
      have ih := seenAt_set R j n hj a
      unfold seenAt at ih
      simp only [List.set_cons_succ, List.find?_cons]
      by_cases ha : a = n.addr
      · have e2 : (m.addr == a) = false := by rw [ha]; simpa using hm
        rw [e2]
        exact ih
      · rw [if_neg ha] at ih ⊢
        rw [ih]
theorem seenAt_append {R : List Noted} {n : Noted} (h : R.findIdx? (fun x => x.addr == n.addr) = none) (a : Int) : seenAt (R ++ [n]) a = if a = n.addr then some n else seenAt R a := by
  unfold seenAt
  rw [List.find?_append]
  by_cases ha : a = n.addr
  · rw [if_pos ha]
    have : R.find? (fun x => x.addr == a) = none := by
      rw [List.find?_eq_none]
      intro x hx
      rw [ha]
      have := List.findIdx?_eq_none_iff.1 h x hx
      simpa using this
    rw [this]
    simp [ha]
  · rw [if_neg ha]
    have e : (n.addr == a) = false := by simpa using fun h' => ha h'.symm
    simp only [List.find?_cons, e, List.find?_nil]
    cases R.find? (fun x => x.addr == a) <;> rfl
theorem same_all {S R : List Noted} (h : ∀ a, seenAt S a = seenAt R a) (M : Msg) : newer S M = newer R M ∧ same S M = same R M ∧ (lastAt S M.addr).2 = (lastAt R M.addr).2 := by
  unfold newer same lastAt
  rw [h]
  exact ⟨rfl, rfl, rfl⟩
theorem noted_all {S R : List Noted} (h : ∀ a, seenAt S a = seenAt R a) (M : Msg) (ok : Bool) : ∀ a, seenAt (noted S M ok) a = seenAt (rnoted R M ok) a := by
  intro a
  unfold noted rnoted
  rw [(same_all h M).1]
  by_cases hn : newer R M = true
  · rw [if_pos hn, if_pos hn]
    have e1 := seenAt_put S ⟨M.addr, M.xid, ok⟩ a
    simp only at e1
    rw [e1, h a]
    cases hi : R.findIdx? (fun n => n.addr == M.addr) with
    | some i => exact (seenAt_set R i ⟨M.addr, M.xid, ok⟩ hi a).symm
    | none => exact (seenAt_append (n := ⟨M.addr, M.xid, ok⟩) hi a).symm
  · rw [if_neg hn, if_neg hn]; exact h a
theorem rnoted_length (R : List Noted) (M : Msg) (ok : Bool) : (rnoted R M ok).length ≤ R.length + 1 := by
  unfold rnoted
  split
  · split
    · rw [List.length_set]; omega
    · rw [List.length_append]; simp
  · omega
end Go.Proofs.Ytenkglbnlealbaa
