import Derived.Test.YtenkglbnlealbaaHeap
import Derived.RangeFuncRecord
/-! Ranging over a map: the iterator's object, exactly. -/
namespace Go
namespace IM
def rem (m : Array MapEntry × Nat) (done : List MapEntry) : Array MapEntry := m.1.filter fun e => !(done.map (·.born)).toArray.contains e.born
def stepTo (r q : Nat) (m : Array MapEntry × Nat) (done : List MapEntry) : Option (Option MapEntry) → Sem Value
  | some (some e) => do
    setObj r (.mapIter (some q) m.2 ((done.map (·.born)).toArray.push e.born) m.2)
    pure (.tuple #[.bool true, e.key, e.val])
  | some none => pure (.tuple #[.bool false])
  | none => stuck "Next: no such candidate"
/-- Block r ranges over the map in block q (m: what it holds); 'done' has come, 'left' is to come. -/
structure Going (w : World) (r q : Nat) (m : Array MapEntry × Nat) (done left : List MapEntry) : Prop where
  map : w.map? q = some m
  perm : m.1.toList.Perm (done ++ left)
  iter : w.heap[r]? = some (.mapIter (some q) m.2 (done.map (·.born)).toArray m.2)
  borns : m.1.toList.Pairwise (fun a b => a.born ≠ b.born)
  clock : ∀ e ∈ m.1.toList, e.born < m.2
section
variable {P : Program} {w w' : World} {r q : Nat} {m : Array MapEntry × Nat} {done left : List MapEntry}
theorem Going.lt (h : Going w r q m done left) : r < w.heap.size := (Array.getElem?_eq_some_iff.1 h.iter).1
theorem Going.ne (h : Going w r q m done left) : q ≠ r := by
  intro e
  have h1 := World.map?_heap h.map
  rw [e, h.iter] at h1
  cases h1
theorem Going.keep (h : Going w r q m done left) {S : Nat → Prop} (hc : Chg S w w') (hr : ¬ S r) (hq : ¬ S q) : Going w' r q m done left :=
  ⟨hc.map h.map hq, h.perm, (hc.block r h.lt hr).trans h.iter, h.borns, h.clock⟩
theorem Going.mem (h : Going w r q m done left) {e : MapEntry} (he : e ∈ left) : e ∈ m.1.toList := h.perm.mem_iff.2 (by simp [he])
theorem run_range_m {t k e : TypeId} (w : World) (ht : P.underlying t = some (.map k e)) (h : w.map? q = some m) :
    (Instr.range t (.map (some q))).run P w = .ok (.pointer (some ⟨w.heap.size, 0, none⟩)) (w.alloc (.mapIter (some q) m.2 #[] m.2)) := by
  simp only [Instr.range, Sem.run_bind, run_underlying ht, Result.andThen_ok, run_getObj_m w h, run_newObj, Sem.run_pure]
  rfl
theorem Going.start {kd : IntKind} (w : World) (h : w.map? q = some m) (hw : Wf kd m) : Going (w.alloc (.mapIter (some q) m.2 #[] m.2)) w.heap.size q m [] m.1.toList :=
  ⟨by rw [World.map?_alloc_past _ _ _ (World.map?_lt h)]; exact h, by simp, (MapKept.heap_alloc w _).1, hw.borns.imp (fun h => by omega), hw.clock⟩
theorem run_getObj_i (w : World) {s : Nat} {x : Array Nat} {c : Nat} (h : w.heap[r]? = some (.mapIter (some q) s x c)) : (getObj r).run P w = .ok (.mapIter (some q) s x c) w := by
  simp [getObj, Sem.run, h]
theorem run_setObj_i (w : World) {s : Nat} {x : Array Nat} {c : Nat} (o : Obj) (h : w.heap[r]? = some (.mapIter (some q) s x c)) : (setObj r o).run P w = .ok () (w.putObj r o) := by
  simp [setObj, Sem.run, h, World.putObj]
theorem Chg.putObj {S : Nat → Prop} {a w : World} (h : Chg S a w) {r : Nat} (o : Obj) (hp : r < a.heap.size → S r) : Chg S a (w.putObj r o) :=
  h.trans' (S' := fun k => k = r) ⟨rfl, rfl, rfl, by simp, fun k _ hk => World.putObj_heap_other hk⟩ (fun i hi e => by subst e; exact hp hi)
/-- the entries that have not come -/
theorem Going.rest (h : Going w r q m done left) : (rem m done).toList.Perm left := by
  unfold rem
  rw [Array.toList_filter]
  have e1 : m.1.toList.filter (fun e => !(done.map (·.born)).toArray.contains e.born) = m.1.toList.filter (fun e => !(done.map (·.born)).contains e.born) := by
    apply List.filter_congr; intro x _; simp
  rw [e1]
  have hb : (done ++ left).Pairwise (fun a b => a.born ≠ b.born) := (h.perm.pairwise_iff (fun {a b} (h : a.born ≠ b.born) => h.symm)).1 h.borns
  have h2 : (done ++ left).filter (fun e => !(done.map (·.born)).contains e.born) = left := by
    rw [List.filter_append]
    have a1 : done.filter (fun e => !(done.map (·.born)).contains e.born) = [] := by
      rw [List.filter_eq_nil_iff]
      intro e he
      have : e.born ∈ done.map (·.born) := List.mem_map.2 ⟨e, he, rfl⟩
      simpa using this
    have a2 : left.filter (fun e => !(done.map (·.born)).contains e.born) = left := by
      rw [List.filter_eq_self]
      intro e he
      have : e.born ∉ done.map (·.born) := by
        intro hm
        obtain ⟨d, hd, e2⟩ := List.mem_map.1 hm
        exact (List.pairwise_append.1 hb).2.2 d hd e he e2
      simpa using this
    rw [a1, a2]; rfl
  have := h.perm.filter (fun e => !(done.map (·.born)).contains e.born)
  rw [h2] at this
  exact this
theorem Going.nextWorld (h : Going w r q m done left) {e : MapEntry} {left' : List MapEntry} (hp : left.Perm (e :: left')) {w1 : World} (hc : Chg (fun _ => False) w w1) :
    Going (w1.putObj r (.mapIter (some q) m.2 ((done.map (·.born)).toArray.push e.born) m.2)) r q m (done ++ [e]) left' := by
  have hlt : r < w1.heap.size := Nat.lt_of_lt_of_le h.lt hc.size
  refine ⟨?_, ?_, ?_, h.borns, h.clock⟩
  · have h1 := hc.map h.map (fun h => h)
    have : (w1.putObj r (.mapIter (some q) m.2 ((done.map (·.born)).toArray.push e.born) m.2)).map? q = w1.map? q := World.map?_of_same (World.putObj_heap_other h.ne)
    rw [this]; exact h1
  · refine h.perm.trans ?_
    rw [List.append_assoc]
    exact hp.append_left done
  · rw [World.putObj_heap_same hlt]
    simp
theorem Going.next (h : Going w r q m done left) (T : TypeId) :
    (left = [] ∧ (Instr.next (.pointer (some ⟨r, 0, none⟩)) false T).run P w = .ok (.tuple #[.bool false]) w) ∨
    ∃ e left' w', left.Perm (e :: left') ∧ (Instr.next (.pointer (some ⟨r, 0, none⟩)) false T).run P w = .ok (.tuple #[.bool true, e.key, e.val]) w' ∧ Going w' r q m (done ++ [e]) left' ∧ Chg (fun k => k = r) w w' := by
  have hrest := h.rest
  have hc1 : (!(done.map (·.born)).toArray.isEmpty && !m.1.isEmpty && m.1.all (fun e => decide (e.born ≥ m.2))) = false := by
    by_cases he : m.1.isEmpty
    · simp [he]
    · have hne : m.1.size ≠ 0 := by
        intro h0; apply he; simpa using Array.eq_empty_of_size_eq_zero h0
      have : m.1.all (fun e => decide (e.born ≥ m.2)) = false := by
        rw [← Bool.not_eq_true, Array.all_eq_true]
        intro hall
        have h0 : 0 < m.1.size := by omega
        have h1 := hall 0 h0
        have h2 := h.clock (m.1[0]) (by simp)
        simp at h1
        omega
      rw [this]; simp
  have hold : ∀ x ∈ (rem m done), x.born < m.2 := by
    intro x hx
    unfold rem at hx
    have := (Array.mem_filter.1 hx).1
    exact h.clock x (by simpa using this)
  have e1 : (rem m done).filter (fun x => decide (x.born < m.2)) = rem m done := by
    rw [Array.filter_eq_self]
    intro x hx; simpa using hold x hx
  have e2 : (rem m done).filter (fun x => decide (x.born ≥ m.2)) = #[] := by
    rw [Array.filter_eq_empty_iff]
    intro x hx; have := hold x hx; simp; omega
  have hrun : (Instr.next (.pointer (some ⟨r, 0, none⟩)) false T).run P w =
      ((choose (.mapNext ((if (rem m done).isEmpty then #[none] else #[]) ++ (rem m done).map some).size)).run P w).andThen
        (fun i w => (stepTo r q m done ((if (rem m done).isEmpty then #[none] else #[]) ++ (rem m done).map some)[i]?).run P w) := by
    unfold rem at e1 e2 ⊢
    simp only [Instr.next, Sem.run_bind, run_getObj_i w h.iter, Result.andThen_ok, run_getObj_m w h.map, hc1, Bool.false_eq_true, if_false, e1, e2, Array.append_empty]
    rfl
  generalize hA : (rem m done) = A at hrun hrest
  by_cases hz : A.isEmpty
  · left
    have hA0 : A = #[] := by simpa using hz
    subst hA0
    refine ⟨by simpa using hrest.symm, ?_⟩
    rw [hrun]
    simp [Question.forced, stepTo]
  · right
    have hA0 : A.size ≠ 0 := by
      intro h0; apply hz; simpa using Array.eq_empty_of_size_eq_zero h0
    simp only [hz, if_false, Bool.false_eq_true, Array.empty_append, Array.size_map] at hrun
    have key : ∀ (i : Nat) (hi : i < A.size) (w1 : World), Chg (fun _ => False) w w1 → w1.heap[r]? = w.heap[r]? →
        (stepTo r q m done (A.map some)[i]?).run P w1 = .ok (.tuple #[.bool true, A[i].key, A[i].val]) (w1.putObj r (.mapIter (some q) m.2 ((done.map (·.born)).toArray.push A[i].born) m.2)) := by
      intro i hi w1 _ hsame
      have : (A.map some)[i]? = some (some A[i]) := by simp [hi]
      rw [this]
      simp only [stepTo, Sem.run_bind, run_setObj_i w1 _ (hsame.trans h.iter), Result.andThen_ok, Sem.run_pure]
    have pick : ∀ (i : Nat) (hi : i < A.size), ∃ left', left.Perm (A[i] :: left') := by
      intro i hi
      have hm : A[i] ∈ left := hrest.mem_iff.1 (by simp)
      obtain ⟨s, t, e⟩ := List.append_of_mem hm
      exact ⟨s ++ t, by rw [e]; exact List.perm_middle⟩
    by_cases h1 : A.size = 1
    · obtain ⟨left', hp⟩ := pick 0 (by omega)
      refine ⟨A[0], left', _, hp, ?_, h.nextWorld hp (Chg.refl _ w), Chg.putObj (Chg.refl _ w) _ (fun _ => rfl)⟩
      have hfo : (Question.mapNext A.size).forced = true := by simp [Question.forced]; omega
      rw [hrun]
      simp only [run_choose, hfo, if_true, Result.andThen_ok]
      exact key 0 (by omega) w (Chg.refl _ w) rfl
    · have hf : (Question.mapNext A.size).forced = false := by simp [Question.forced]; omega
      have hi : (Question.mapNext A.size).cut (w.tape w.drawn (.mapNext A.size)) < A.size := Nat.mod_lt _ (by omega)
      obtain ⟨left', hp⟩ := pick _ hi
      refine ⟨A[(Question.mapNext A.size).cut (w.tape w.drawn (.mapNext A.size))], left', _, hp, ?_, h.nextWorld hp (Chg.drew (Chg.refl _ w)), Chg.putObj (Chg.drew (Chg.refl _ w)) _ (fun _ => rfl)⟩
      rw [hrun]
      simp only [run_choose, hf, Bool.false_eq_true, if_false, Result.andThen_ok]
      exact key _ hi w.drew (Chg.drew (Chg.refl _ w)) rfl
theorem Going.next' (h : Going w r q m done left) :
    (left = [] ∧ ∀ T, (Instr.next (.pointer (some ⟨r, 0, none⟩)) false T).run P w = .ok (.tuple #[.bool false]) w) ∨
    ∃ e left' w', left.Perm (e :: left') ∧ (∀ T, (Instr.next (.pointer (some ⟨r, 0, none⟩)) false T).run P w = .ok (.tuple #[.bool true, e.key, e.val]) w') ∧ Going w' r q m (done ++ [e]) left' ∧ Chg (fun k => k = r) w w' := by
  rcases h.next (P := P) 0 with ⟨h1, h2⟩ | ⟨e, left', w', h1, h2, h3, h4⟩
  · exact .inl ⟨h1, fun _ => h2⟩
  · exact .inr ⟨e, left', w', h1, fun _ => h2, h3, h4⟩
/-- how many are to come, read off the world -/
def toCome (w : World) (r n : Nat) : Nat :=
  match w.heap[r]? with
  | some (.mapIter _ _ s _) => n - s.size
  | _ => 0
theorem Going.toCome (h : Going w r q m done left) : IM.toCome w r m.1.size = left.length := by
  unfold IM.toCome
  rw [h.iter]
  have := h.perm.length_eq
  simp at this ⊢
  omega
theorem Going.entry {e : MapEntry} (h : Going w r q m (done ++ [e]) left) : (Instr.entry (.pointer (some ⟨r, 0, none⟩))).run P w = .ok (.tuple #[e.key, e.val]) w := by
  have hm : e ∈ m.1.toList := h.perm.mem_iff.2 (by simp)
  have hfind : m.1.find? (fun x => x.born == e.born) = some e := by
    have hb := h.borns
    rw [← Array.find?_toList]
    generalize m.1.toList = L at hm hb
    induction L with
    | nil => cases hm
    | cons x L ih =>
      obtain ⟨h1, h2⟩ := List.pairwise_cons.1 hb
      rcases List.mem_cons.1 hm with rfl | hm
      · simp
      · have : x.born ≠ e.born := h1 e hm
        rw [List.find?_cons]
        have e3 : (x.born == e.born) = false := by simpa using this
        rw [e3]
        exact ih hm h2
  have hback : (((done ++ [e]).map (·.born)).toArray).back? = some e.born := by simp
  simp only [Instr.entry, Sem.run_bind, run_getObj_i w h.iter, Result.andThen_ok, hback, run_getObj_m w h.map, bne_self_eq_false, Bool.false_eq_true, if_false, Sem.run_pure, hfind]
end
end IM
end Go
