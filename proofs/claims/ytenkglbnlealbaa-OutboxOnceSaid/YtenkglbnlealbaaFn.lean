import Derived.Test.YtenkglbnlealbaaHeap
/-! A map with whole-number keys, as a function. -/
namespace Go
namespace IM
variable {kd : IntKind} {m : Array MapEntry × Nat}
theorem is_alist (h : Wf kd m) : Is kd m (alist m) := ⟨h, List.Perm.refl _⟩
theorem get_put (h : Wf kd m) (n : Int) (v : Value) (k : Int) : get (put kd m n v).1 k = if k = n then some v else get m.1 k := by
  have hp := (is_alist h).put n v
  by_cases e : k = n
  · rw [if_pos e, e]
    exact hp.get_some (List.mem_append_right _ (List.mem_singleton.2 rfl))
  · rw [if_neg e]
    cases hg : get m.1 k with
    | some x =>
      refine hp.get_some (List.mem_append_left _ (List.mem_filter.2 ⟨(is_alist h).mem_of_get hg, ?_⟩))
      simpa using e
    | none =>
      refine hp.get_none (fun p hpm => ?_)
      rcases List.mem_append.1 hpm with hpm | hpm
      · intro e2
        rw [get_alist, Option.map_eq_none_iff, List.find?_eq_none] at hg
        have := hg p (List.mem_filter.1 hpm).1
        simp [e2] at this
      · rw [List.mem_singleton] at hpm
        rw [hpm]
        exact fun h => e h.symm
end IM
def IFn (kd : IntKind) (w : World) (r : Nat) (f : Int → Option Value) : Prop := ∃ m, w.map? r = some m ∧ IM.Wf kd m ∧ ∀ n, IM.get m.1 n = f n
section
variable {kd : IntKind} {w w' : World} {r : Nat} {f : Int → Option Value}
theorem IFn.empty {c : Nat} (h : w.map? r = some (#[], c)) : IFn kd w r (fun _ => none) := ⟨_, h, IM.Wf.clear kd c, fun _ => rfl⟩
theorem IFn.keep {S : Nat → Prop} (h : IFn kd w r f) (hc : Chg S w w') (hs : ¬ S r) : IFn kd w' r f := by
  obtain ⟨m, h1, h2, h3⟩ := h
  exact ⟨m, hc.map h1 hs, h2, h3⟩
theorem IFn.lt (h : IFn kd w r f) : r < w.heap.size := by
  obtain ⟨m, h1, _⟩ := h
  exact World.map?_lt h1
end
/-- a map's function, where something is laid -/
def upV (f : Int → Option Value) (n : Int) (v : Value) : Int → Option Value := fun k => if k = n then some v else f k
theorem IFn.put {kd : IntKind} {w : World} {r : Nat} {f : Int → Option Value} {m : Array MapEntry × Nat} (h1 : w.map? r = some m) (h2 : IM.Wf kd m) (h3 : ∀ n, IM.get m.1 n = f n) (n : Int) (v : Value) :
    IFn kd (w.setMap r (IM.put kd m n v)) r (upV f n v) :=
  ⟨_, World.map?_setMap_same _ _ _ (World.map?_lt h1), ((IM.is_alist h2).put n v).wf, fun k => by rw [IM.get_put h2, h3]; rfl⟩
end Go
