import Derived.WalkKit
import Derived.WalkSpells
import Derived.WalkLawsBesides
import Derived.Maps.Keyed
/-! Maps keyed by integers, exactly: the block's entries and clock as a pair; run equations for the walk. -/
namespace Go
def World.map? (w : World) (r : Nat) : Option (Array MapEntry × Nat) :=
  match w.heap[r]? with
  | some (.map es c) => some (es, c)
  | _ => none
def World.setMap (w : World) (r : Nat) (m : Array MapEntry × Nat) : World := { w with heap := w.heap.setIfInBounds r (.map m.1 m.2) }

theorem World.map?_heap {w : World} {r : Nat} {m : Array MapEntry × Nat} (h : w.map? r = some m) : w.heap[r]? = some (.map m.1 m.2) := by
  unfold World.map? at h
  split at h
  · rename_i es c hb
    cases h; exact hb
  · cases h
theorem World.map?_of_heap {w : World} {r : Nat} {m : Array MapEntry × Nat} (h : w.heap[r]? = some (.map m.1 m.2)) : w.map? r = some m := by
  simp [World.map?, h]
theorem World.map?_lt {w : World} {r : Nat} {m : Array MapEntry × Nat} (h : w.map? r = some m) : r < w.heap.size := by
  have := World.map?_heap h
  exact (Array.getElem?_eq_some_iff.1 this).1
theorem World.cell?_of_map {w : World} {r : Nat} {m : Array MapEntry × Nat} (h : w.map? r = some m) (o : Nat) (s : Option Nat) : w.cell? ⟨r, o, s⟩ = none := by
  simp [World.cell?, World.map?_heap h]
section
variable (w : World)
@[go_sem] theorem World.map?_alloc_past (o : Obj) (n : Nat) (hn : n < w.heap.size) : (w.alloc o).map? n = w.map? n := by
  unfold World.map?
  rw [Go.RowKit.Below.heap_alloc w o n hn]
@[go_sem] theorem World.map?_alloc_at (es : Array MapEntry) (c n : Nat) (hn : n = w.heap.size) : (w.alloc (.map es c)).map? n = some (es, c) := by
  subst hn
  unfold World.map?
  rw [(MapKept.heap_alloc w _).1]
@[go_sem] theorem World.map?_drew (n : Nat) : w.drew.map? n = w.map? n := rfl
@[go_sem] theorem World.map?_setCell (a : Addr) (v : Value) (n : Nat) : (w.setCell a v).map? n = w.map? n := by
  simp only [World.map?, World.setCell, Array.getElem?_modify]
  by_cases h : a.block = n
  · simp only [h, if_true]
    cases hh : w.heap[n]? with
    | none => simp
    | some x => cases x <;> simp
  · simp [h]
@[go_sem] theorem World.map?_setMap_same (r : Nat) (m : Array MapEntry × Nat) (h : r < w.heap.size) : (w.setMap r m).map? r = some m := by
  simp [World.map?, World.setMap, h]
@[go_sem] theorem World.map?_setMap_other (r n : Nat) (m : Array MapEntry × Nat) (h : n ≠ r) : (w.setMap r m).map? n = w.map? n := by
  simp only [World.map?, World.setMap]
  rw [Array.getElem?_setIfInBounds_ne (by omega)]
@[go_sem] theorem World.size_setMap (r : Nat) (m : Array MapEntry × Nat) : (w.setMap r m).heap.size = w.heap.size := by simp [World.setMap]
@[go_sem] theorem World.setMap_drew (r : Nat) (m : Array MapEntry × Nat) : w.drew.setMap r m = (w.setMap r m).drew := rfl
@[go_sem] theorem World.setMap_setMap (r : Nat) (m m' : Array MapEntry × Nat) : (w.setMap r m).setMap r m' = w.setMap r m' := by
  simp [World.setMap]
theorem World.heap_setMap_other (r n : Nat) (m : Array MapEntry × Nat) (h : n ≠ r) : (w.setMap r m).heap[n]? = w.heap[n]? := by
  simp only [World.setMap]
  rw [Array.getElem?_setIfInBounds_ne (by omega)]
theorem World.cell?_setMap {m0 : Array MapEntry × Nat} (r : Nat) (m : Array MapEntry × Nat) (a : Addr) (h : w.map? r = some m0) : (w.setMap r m).cell? a = w.cell? a := by
  by_cases e : a.block = r
  · have h1 : (w.setMap r m).map? r = some m := World.map?_setMap_same w r m (World.map?_lt h)
    obtain ⟨b, o, s⟩ := a
    simp only at e
    subst e
    rw [World.cell?_of_map h1, World.cell?_of_map h]
  · simp only [World.cell?, World.heap_setMap_other w r a.block m e]
theorem World.frozen?_setMap {m0 : Array MapEntry × Nat} (r : Nat) (m : Array MapEntry × Nat) (a : Addr) (h : w.map? r = some m0) : (w.setMap r m).frozen? a = w.frozen? a := by
  by_cases e : a.block = r
  · have h1 : (w.setMap r m).map? r = some m := World.map?_setMap_same w r m (World.map?_lt h)
    obtain ⟨b, o, s⟩ := a
    simp only at e
    subst e
    simp [World.frozen?, World.map?_heap h1, World.map?_heap h]
  · simp only [World.frozen?, World.heap_setMap_other w r a.block m e]
@[go_sem] theorem World.cell?_setMap' (r : Nat) (m : Array MapEntry × Nat) (a : Addr) (h : (w.map? r).isSome = true) : (w.setMap r m).cell? a = w.cell? a := by
  obtain ⟨m0, h0⟩ := Option.isSome_iff_exists.1 h
  exact World.cell?_setMap w r m a h0
@[go_sem] theorem World.frozen?_setMap' (r : Nat) (m : Array MapEntry × Nat) (a : Addr) (h : (w.map? r).isSome = true) : (w.setMap r m).frozen? a = w.frozen? a := by
  obtain ⟨m0, h0⟩ := Option.isSome_iff_exists.1 h
  exact World.frozen?_setMap w r m a h0
@[go_sem] theorem World.setMap_alloc_past (o : Obj) (r : Nat) (m : Array MapEntry × Nat) (h : r < w.heap.size) : (w.alloc o).setMap r m = (w.setMap r m).alloc o := by
  have : (w.heap.push o).setIfInBounds r (.map m.1 m.2) = (w.heap.setIfInBounds r (.map m.1 m.2)).push o := by
    apply Array.ext'
    simp
    rw [List.set_append_left _ _ (by simpa using h)]
  show ({ (w.alloc o) with heap := (w.heap.push o).setIfInBounds r (.map m.1 m.2) } : World) = _
  rw [this]; rfl
end

namespace IM
def ki : Value → Int
  | .int _ n => n
  | _ => 0
/-- the place of a key -/
def at? (es : Array MapEntry) (n : Int) : Option Nat := es.toList.findIdx? fun e => ki e.key == n
def get (es : Array MapEntry) (n : Int) : Option Value := (es.toList.find? fun e => ki e.key == n).map (·.val)
def put (kd : IntKind) (m : Array MapEntry × Nat) (n : Int) (v : Value) : Array MapEntry × Nat :=
  match at? m.1 n with
  | some i => (m.1.modify i fun e => { e with key := .int kd n, val := v }, m.2)
  | none => (m.1.push { key := .int kd n, val := v, born := m.2 }, m.2 + 1)
def del (m : Array MapEntry × Nat) (n : Int) : Array MapEntry × Nat :=
  match at? m.1 n with
  | some i => (m.1.eraseIdxIfInBounds i, m.2)
  | none => m
/-- what 'mapEntry' lays -/
def ent (kd : IntKind) (m : Array MapEntry × Nat) (n : Int) (z : Value) : Array MapEntry × Nat :=
  match at? m.1 n with
  | some i => (m.1.modify i fun e => { e with key := .int kd n }, m.2)
  | none => (m.1.push { key := .int kd n, val := z, born := m.2 }, m.2 + 1)
/-- the stamp that it tells -/
def stamp (m : Array MapEntry × Nat) (n : Int) : Nat :=
  match at? m.1 n with
  | some i => ((m.1[i]?).map (·.born)).getD 0
  | none => m.2
def estore (m : Array MapEntry × Nat) (s : Nat) (v : Value) : Array MapEntry × Nat :=
  match m.1.findIdx? (fun e => (e.born : Int) == (s : Int)) with
  | some i => (m.1.modify i fun e => { e with val := v }, m.2)
  | none => m
/-- all keys are of the kind; stamps rise, and lie below the clock -/
structure Wf (kd : IntKind) (m : Array MapEntry × Nat) : Prop where
  keys : ∀ e ∈ m.1.toList, ∃ n, e.key = .int kd n
  borns : m.1.toList.Pairwise (fun a b => a.born < b.born)
  clock : ∀ e ∈ m.1.toList, e.born < m.2
  nodup : m.1.toList.Pairwise (fun a b => ki a.key ≠ ki b.key)

section
variable {P : Program} (w : World)
theorem run_checkKey_int (em : Bool) (k : TypeId) {kd : IntKind} (hk : P.underlying k = some (.int kd)) (n : Int) : (Instr.checkKey em 10000 k (.int kd n)).run P w = .ok () w := by
  have : ∀ d, (Instr.checkKey em (d + 1) k (.int kd n)).run P w = .ok () w := fun d => by simp [Instr.checkKey, run_underlying hk]
  exact this 9999
theorem findNow_int (kd : IntKind) (n : Int) : ∀ (es : List MapEntry) (i : Nat), (∀ e ∈ es, ∃ n, e.key = .int kd n) →
    Instr.findNow (.int kd) (.int kd n) es i = some ((es.findIdx? fun e => ki e.key == n).bind fun j => (es[j]?).map fun e => (i + j, e.val))
  | [], _, _ => rfl
  | e :: es, i, h => by
    obtain ⟨m, hm⟩ := h e (by simp)
    have ih := findNow_int kd n es (i + 1) (fun e he => h e (by simp [he]))
    unfold Instr.findNow
    rw [hm]
    simp only [Instr.sameNow, if_true]
    by_cases e0 : n = m
    · subst e0
      simp [List.findIdx?_cons, hm, ki]
    · have e1 : (n == m) = false := by simpa using e0
      have e2 : (m == n) = false := by simpa using fun h => e0 h.symm
      rw [e1]
      have e3 : (ki e.key == n) = false := by rw [hm]; exact e2
      simp only [ih, List.findIdx?_cons, e3]
      cases List.findIdx? (fun e => ki e.key == n) es with
      | none => simp
      | some j => simp [Nat.add_comm, Nat.add_left_comm]
theorem run_findKey_int {kd : IntKind} (k : TypeId) (hk : P.underlying k = some (.int kd)) (n : Int) (es : Array MapEntry) (h : ∀ e ∈ es.toList, ∃ n, e.key = .int kd n) :
    (Instr.findKey k (.int kd n) es.toList).run P w = .ok ((at? es n).bind fun j => (es[j]?).map fun e => (j, e.val)) w := by
  simp [Instr.findKey, run_underlying hk, findNow_int kd n es.toList 0 h, at?]
theorem at?_get (es : Array MapEntry) (n : Int) : ((at? es n).bind fun j => (es[j]?).map fun e => (j, e.val)).map (·.2) = get es n := by
  unfold at? get
  rcases es with ⟨l⟩
  simp only [List.getElem?_toArray]
  induction l with
  | nil => rfl
  | cons e l ih =>
    simp only [List.findIdx?_cons, List.find?_cons]
    by_cases h : ki e.key == n
    · simp [h]
    · simp only [h]
      rw [← ih]
      cases List.findIdx? (fun e => ki e.key == n) l <;> simp [Function.comp_def]
theorem run_getObj_m {r : Nat} {m : Array MapEntry × Nat} (h : w.map? r = some m) : (getObj r).run P w = .ok (.map m.1 m.2) w := by
  simp [getObj, Sem.run, World.map?_heap h]
theorem run_setObj_m {r : Nat} {m : Array MapEntry × Nat} (h : w.map? r = some m) (m' : Array MapEntry × Nat) : (setObj r (.map m'.1 m'.2)).run P w = .ok () (w.setMap r m') := by
  simp [setObj, Sem.run, World.map?_heap h, World.setMap]

theorem at?_lt {es : Array MapEntry} {n : Int} {i : Nat} (h : at? es n = some i) : ∃ e, es[i]? = some e ∧ ki e.key = n := by
  unfold at? at h
  rcases es with ⟨l⟩
  simp only at h
  obtain ⟨hlt, hp, _⟩ := List.findIdx?_eq_some_iff_getElem.1 h
  exact ⟨l[i], by simp [hlt], by simpa using hp⟩
theorem same_int (kd : IntKind) (n : Int) : (Instr.keyThatStays (.int kd n) (.int kd n)).run P w = .ok (.int kd n) w := by
  simp [Instr.keyThatStays, Instr.sameBits]

/-- m[k], v and ok -/
@[go_sem] theorem run_lookup_m {t k e : TypeId} {kd : IntKind} {r : Nat} {m : Array MapEntry × Nat} {n : Int} {z : Value} (ok : Bool)
    (ht : P.underlying t = some (.map k e)) (hk : P.underlying k = some (.int kd)) (h : w.map? r = some m) (hw : Wf kd m) (hz : (zeroValue e).run P w = .ok z w) :
    (Instr.lookup t (.map (some r)) (.int kd n) ok).run P w = .ok (if ok then .tuple #[(get m.1 n).getD z, .bool (get m.1 n).isSome] else (get m.1 n).getD z) w := by
  have hf := run_findKey_int (P := P) w k hk n m.1 hw.keys
  have hg := at?_get m.1 n
  simp only [Instr.lookup, Sem.run_bind, run_underlying ht, Result.andThen_ok, run_getObj_m w h, run_checkKey_int w _ k hk n, hf, Sem.run_pure]
  generalize ((at? m.1 n).bind fun j => (m.1[j]?).map fun e => (j, e.val)) = x at hg
  cases x with
  | none => simp only [Option.map_none] at hg; rw [← hg]; simp [hz]
  | some y => simp only [Option.map_some] at hg; rw [← hg]; simp
@[go_sem] theorem run_mapUpdate_m {t k e : TypeId} {kd : IntKind} {r : Nat} {m : Array MapEntry × Nat} {n : Int} (v : Value)
    (ht : P.underlying t = some (.map k e)) (hk : P.underlying k = some (.int kd)) (h : w.map? r = some m) (hw : Wf kd m) :
    (Instr.mapUpdate t (.map (some r)) (.int kd n) v).run P w = .ok () (w.setMap r (put kd m n v)) := by
  have hf := run_findKey_int (P := P) w k hk n m.1 hw.keys
  simp only [Instr.mapUpdate, Sem.run_bind, run_underlying ht, Result.andThen_ok, run_getObj_m w h, run_checkKey_int w _ k hk n, hf]
  unfold put
  cases ha : at? m.1 n with
  | none => simpa using run_setObj_m (P := P) w h (m.1.push { key := .int kd n, val := v, born := m.2 }, m.2 + 1)
  | some i =>
    obtain ⟨e0, he, hn⟩ := at?_lt ha
    obtain ⟨n', hk'⟩ := hw.keys e0 (by have := Array.mem_of_getElem? he; simpa using this)
    have : n' = n := by rw [hk'] at hn; exact hn
    subst this
    simp only [Option.bind_some, he, Option.map_some, Sem.run_bind, Option.getD_some, hk', same_int, Result.andThen_ok]
    exact run_setObj_m (P := P) w h (m.1.modify i fun e => { e with key := .int kd n', val := v }, m.2)
@[go_sem] theorem run_mapEntry_m {t k e : TypeId} {kd : IntKind} {r : Nat} {m : Array MapEntry × Nat} {n : Int} {z : Value}
    (ht : P.underlying t = some (.map k e)) (hk : P.underlying k = some (.int kd)) (h : w.map? r = some m) (hw : Wf kd m) (hz : (zeroValue e).run P w = .ok z w) :
    (Instr.mapEntry t (.map (some r)) (.int kd n)).run P w = .ok (.tuple #[(get m.1 n).getD z, .int .i64 (stamp m n)]) (w.setMap r (ent kd m n z)) := by
  have hf := run_findKey_int (P := P) w k hk n m.1 hw.keys
  have hg := at?_get m.1 n
  simp only [Instr.mapEntry, Sem.run_bind, run_underlying ht, Result.andThen_ok, run_getObj_m w h, run_checkKey_int w _ k hk n, hf]
  unfold ent stamp
  cases ha : at? m.1 n with
  | none =>
    rw [ha] at hg
    simp only [Option.bind_none, Option.map_none] at hg
    have := run_setObj_m (P := P) w h (m.1.push { key := .int kd n, val := z, born := m.2 }, m.2 + 1)
    simp [hz, this, ← hg, goInt]
  | some i =>
    obtain ⟨e0, he, hn⟩ := at?_lt ha
    rw [ha] at hg
    simp only [Option.bind_some, he, Option.map_some] at hg
    obtain ⟨n', hk'⟩ := hw.keys e0 (by have := Array.mem_of_getElem? he; simpa using this)
    have : n' = n := by rw [hk'] at hn; exact hn
    subst this
    have hs := run_setObj_m (P := P) w h (m.1.modify i fun e => { e with key := .int kd n' }, m.2)
    simp only [] at hs
    simp only [Option.bind_some, he, Option.map_some, Sem.run_bind, Option.getD_some, hk', same_int, Result.andThen_ok, hs, Sem.run_pure, ← hg, goInt]
theorem run_entryStore_m {t : TypeId} {r : Nat} {m : Array MapEntry × Nat} {s : Nat} (v : Value) (h : w.map? r = some m) (hs : (m.1.findIdx? (fun e => (e.born : Int) == (s : Int))).isSome = true) :
    (Instr.entryStore t (.map (some r)) (.int .i64 s) v).run P w = .ok () (w.setMap r (estore m s v)) := by
  simp only [Instr.entryStore, Sem.run_bind, Result.andThen_ok, run_getObj_m w h]
  unfold estore
  cases hf : m.1.findIdx? (fun e => (e.born : Int) == (s : Int)) with
  | none => rw [hf] at hs; cases hs
  | some i =>
    have := run_setObj_m (P := P) w h (m.1.modify i fun e => { e with val := v }, m.2)
    simp [asInt, asIntOf, hf, this]
@[go_sem] theorem run_delete_m {t k e T : TypeId} {kd : IntKind} {r : Nat} {m : Array MapEntry × Nat} {n : Int}
    (ht : P.underlying t = some (.map k e)) (hk : P.underlying k = some (.int kd)) (h : w.map? r = some m) (hw : Wf kd m) :
    (Builtin.delete_ #[t, k] T #[.map (some r), .int kd n]).run P w = .ok (.tuple #[]) (w.setMap r (del m n)) := by
  have hf := run_findKey_int (P := P) w k hk n m.1 hw.keys
  simp only [Builtin.delete_, List.getElem?_toArray, List.getElem?_cons_zero, List.getElem?_cons_succ, Sem.run_bind, run_underlying ht, Result.andThen_ok, run_getObj_m w h, run_checkKey_int w _ k hk n, hf]
  unfold del
  cases ha : at? m.1 n with
  | none =>
    have := run_setObj_m (P := P) w h m
    simp [this]
  | some i =>
    obtain ⟨e0, he, hn⟩ := at?_lt ha
    have := run_setObj_m (P := P) w h (m.1.eraseIdxIfInBounds i, m.2)
    simp only [] at this
    simp [he, this]
@[go_sem] theorem run_len_m {t k e T : TypeId} {r : Nat} {m : Array MapEntry × Nat}
    (ht : P.underlying t = some (.map k e)) (h : w.map? r = some m) :
    (Builtin.len_ #[t] T #[.map (some r)]).run P w = .ok (.int .i64 m.1.size) w := by
  simp [Builtin.len_, run_underlying ht, run_getObj_m w h, goInt]
@[go_sem] theorem run_clear_m {t k e T : TypeId} {r : Nat} {m : Array MapEntry × Nat}
    (ht : P.underlying t = some (.map k e)) (h : w.map? r = some m) :
    (Builtin.clear_ #[t] T #[.map (some r)]).run P w = .ok (.tuple #[]) (w.setMap r (#[], m.2)) := by
  have := run_setObj_m (P := P) w h (#[], m.2)
  simp [Builtin.clear_, run_underlying ht, run_getObj_m w h, this]
end

/-! ### what a map's block holds, as a list of pairs -/
def alist (m : Array MapEntry × Nat) : List (Int × Value) := m.1.toList.map fun e => (ki e.key, e.val)
structure Is (kd : IntKind) (m : Array MapEntry × Nat) (l : List (Int × Value)) : Prop where
  wf : Wf kd m
  perm : (alist m).Perm l
variable {kd : IntKind} {m : Array MapEntry × Nat} {l : List (Int × Value)}
theorem Is.nodup (h : Is kd m l) : l.Pairwise (fun a b => a.1 ≠ b.1) := by
  have h1 : (alist m).Pairwise (fun a b => a.1 ≠ b.1) := by
    unfold alist
    rw [List.pairwise_map]
    exact h.wf.nodup
  exact (h.perm.pairwise_iff (fun {a b} (h : a.1 ≠ b.1) => h.symm)).1 h1
theorem find_unique {α : Type} {l : List (Int × α)} (hn : l.Pairwise (fun a b => a.1 ≠ b.1)) {n : Int} {v : α} (hm : (n, v) ∈ l) : l.find? (fun p => p.1 == n) = some (n, v) := by
  induction l with
  | nil => cases hm
  | cons p l ih =>
    obtain ⟨h1, h2⟩ := List.pairwise_cons.1 hn
    rcases List.mem_cons.1 hm with rfl | hm
    · simp
    · have : p.1 ≠ n := h1 _ hm
      rw [List.find?_cons]
      have e : (p.1 == n) = false := by simpa using this
      rw [e]
      exact ih h2 hm
theorem get_alist (n : Int) : get m.1 n = ((alist m).find? (fun p => p.1 == n)).map (·.2) := by
  unfold get alist
  rw [List.find?_map]
  simp [Function.comp_def]
theorem Is.get_some (h : Is kd m l) {n : Int} {v : Value} (hm : (n, v) ∈ l) : get m.1 n = some v := by
  have h1 : (n, v) ∈ alist m := h.perm.mem_iff.2 hm
  have h2 : Is kd m (alist m) := ⟨h.wf, List.Perm.refl _⟩
  rw [get_alist, find_unique h2.nodup h1]
  rfl
theorem Is.get_none (h : Is kd m l) {n : Int} (hm : ∀ p ∈ l, p.1 ≠ n) : get m.1 n = none := by
  rw [get_alist]
  have : (alist m).find? (fun p => p.1 == n) = none := by
    rw [List.find?_eq_none]
    intro p hp
    simpa using hm p (h.perm.mem_iff.1 hp)
  rw [this]; rfl
theorem Is.mem_of_get (h : Is kd m l) {n : Int} {v : Value} (hg : get m.1 n = some v) : (n, v) ∈ l := by
  rw [get_alist] at hg
  cases hf : (alist m).find? (fun p => p.1 == n) with
  | none => rw [hf] at hg; cases hg
  | some p =>
    rw [hf] at hg
    have h1 := List.mem_of_find?_eq_some hf
    have h2 := List.find?_some hf
    obtain ⟨a, b⟩ := p
    simp at hg h2
    subst hg; subst h2
    exact h.perm.mem_iff.1 h1
theorem Is.size (h : Is kd m l) : m.1.size = l.length := by
  have := h.perm.length_eq
  simpa [alist] using this
theorem Is.of_perm (h : Is kd m l) {l' : List (Int × Value)} (hp : l.Perm l') : Is kd m l' := ⟨h.wf, h.perm.trans hp⟩
theorem Is.empty (kd : IntKind) (c : Nat) : Is kd (#[], c) [] := ⟨⟨by simp, by simp, by simp, by simp⟩, by simp [alist]⟩

theorem at?_none {es : Array MapEntry} {n : Int} (h : at? es n = none) : ∀ e ∈ es.toList, ki e.key ≠ n := by
  unfold at? at h
  rw [List.findIdx?_eq_none_iff] at h
  intro e he
  simpa using h e he
/-- a list with an entry at i: ahead of it and behind it -/
theorem split_at {es : Array MapEntry} {i : Nat} {e : MapEntry} (h : es[i]? = some e) : es.toList = es.toList.take i ++ e :: es.toList.drop (i + 1) := by
  have hlt : i < es.toList.length := by
    obtain ⟨h1, _⟩ := Array.getElem?_eq_some_iff.1 h; simpa using h1
  have he : es.toList[i] = e := by
    obtain ⟨h1, h2⟩ := Array.getElem?_eq_some_iff.1 h; simpa using h2
  rw [← he, List.getElem_cons_drop, List.take_append_drop]
theorem modify_list (es : Array MapEntry) {i : Nat} {e : MapEntry} (h : es[i]? = some e) (f : MapEntry → MapEntry) : (es.modify i f).toList = es.toList.take i ++ f e :: es.toList.drop (i + 1) := by
  have hlt : i < es.toList.length := by
    obtain ⟨h1, _⟩ := Array.getElem?_eq_some_iff.1 h; simpa using h1
  have he : es.toList[i] = e := by
    obtain ⟨h1, h2⟩ := Array.getElem?_eq_some_iff.1 h; simpa using h2
  rw [Array.toList_modify, List.modify_eq_take_cons_drop hlt, he]
theorem erase_list (es : Array MapEntry) {i : Nat} {e : MapEntry} (h : es[i]? = some e) : (es.eraseIdxIfInBounds i).toList = es.toList.take i ++ es.toList.drop (i + 1) := by
  have hlt : i < es.size := by
    obtain ⟨h1, _⟩ := Array.getElem?_eq_some_iff.1 h; exact h1
  rw [Array.eraseIdxIfInBounds, dif_pos hlt, Array.toList_eraseIdx, List.eraseIdx_eq_take_drop_succ]
/-- the entries apart from one key -/
theorem others {A B : List MapEntry} {e : MapEntry} {n : Int} (hn : ki e.key = n) (hp : (A ++ e :: B).Pairwise (fun a b => ki a.key ≠ ki b.key)) :
    (∀ x ∈ A, ki x.key ≠ n) ∧ (∀ x ∈ B, ki x.key ≠ n) := by
  rw [List.pairwise_append, List.pairwise_cons] at hp
  obtain ⟨_, ⟨h2, _⟩, h3⟩ := hp
  exact ⟨fun x hx => hn ▸ h3 x hx e (by simp), fun x hx => hn ▸ (h2 x hx).symm⟩
theorem filter_all {A : List MapEntry} {n : Int} (h : ∀ x ∈ A, ki x.key ≠ n) : (A.map fun e => (ki e.key, e.val)).filter (fun p => p.1 != n) = A.map fun e => (ki e.key, e.val) := by
  rw [List.filter_eq_self]
  intro p hp
  obtain ⟨e, he, rfl⟩ := List.mem_map.1 hp
  simpa using h e he
theorem Wf.push (h : Wf kd m) {n : Int} (v : Value) (hn : ∀ e ∈ m.1.toList, ki e.key ≠ n) : Wf kd (m.1.push { key := .int kd n, val := v, born := m.2 }, m.2 + 1) := by
  refine ⟨?_, ?_, ?_, ?_⟩
  · intro e he
    simp only [Array.toList_push, List.mem_append, List.mem_singleton] at he
    rcases he with he | rfl
    · exact h.keys e he
    · exact ⟨n, rfl⟩
  · simp only [Array.toList_push, List.pairwise_append, List.pairwise_singleton, List.mem_singleton, forall_eq, true_and]
    exact ⟨h.borns, fun a ha => h.clock a ha⟩
  · intro e he
    simp only [Array.toList_push, List.mem_append, List.mem_singleton] at he
    rcases he with he | rfl
    · exact Nat.lt_succ_of_lt (h.clock e he)
    · exact Nat.lt_succ_self _
  · simp only [Array.toList_push, List.pairwise_append, List.pairwise_singleton, List.mem_singleton, forall_eq, true_and]
    exact ⟨h.nodup, fun a ha => hn a ha⟩
/-- an entry is turned at its place; key and stamp stay -/
theorem Wf.modify (h : Wf kd m) {i : Nat} {e : MapEntry} (he : m.1[i]? = some e) (f : MapEntry → MapEntry) (hk : (f e).key = e.key) (hb : (f e).born = e.born) : Wf kd (m.1.modify i f, m.2) := by
  have h0 := split_at he
  have h1 := modify_list m.1 he f
  have hkeys := h.keys; have hborns := h.borns; have hclock := h.clock; have hnodup := h.nodup
  rw [h0] at hkeys hborns hclock hnodup
  refine ⟨?_, ?_, ?_, ?_⟩ <;> simp only [h1]
  · intro x hx
    simp only [List.mem_append, List.mem_cons] at hx
    rcases hx with hx | rfl | hx
    · exact hkeys x (by simp [hx])
    · rw [hk]; exact hkeys e (by simp)
    · exact hkeys x (by simp [hx])
  · rw [List.pairwise_append, List.pairwise_cons] at hborns ⊢
    obtain ⟨a1, ⟨a2, a3⟩, a4⟩ := hborns
    refine ⟨a1, ⟨fun x hx => by rw [hb]; exact a2 x hx, a3⟩, fun x hx y hy => ?_⟩
    rcases List.mem_cons.1 hy with rfl | hy
    · rw [hb]; exact a4 x hx e (by simp)
    · exact a4 x hx y (by simp [hy])
  · intro x hx
    simp only [List.mem_append, List.mem_cons] at hx
    rcases hx with hx | rfl | hx
    · exact hclock x (by simp [hx])
    · rw [hb]; exact hclock e (by simp)
    · exact hclock x (by simp [hx])
  · rw [List.pairwise_append, List.pairwise_cons] at hnodup ⊢
    obtain ⟨a1, ⟨a2, a3⟩, a4⟩ := hnodup
    refine ⟨a1, ⟨fun x hx => by rw [hk]; exact a2 x hx, a3⟩, fun x hx y hy => ?_⟩
    rcases List.mem_cons.1 hy with rfl | hy
    · rw [hk]; exact a4 x hx e (by simp)
    · exact a4 x hx y (by simp [hy])
theorem key_of (h : Wf kd m) {i : Nat} {e : MapEntry} (he : m.1[i]? = some e) {n : Int} (hn : ki e.key = n) : e.key = .int kd n := by
  obtain ⟨n', hk⟩ := h.keys e (by have := Array.mem_of_getElem? he; simpa using this)
  rw [hk] at hn ⊢
  simp only [ki] at hn
  rw [hn]
theorem Is.put (h : Is kd m l) (n : Int) (v : Value) : Is kd (put kd m n v) (l.filter (fun p => p.1 != n) ++ [(n, v)]) := by
  unfold IM.put
  cases ha : at? m.1 n with
  | none =>
    have hn := at?_none ha
    refine ⟨h.wf.push v hn, ?_⟩
    have e1 : alist (m.1.push { key := .int kd n, val := v, born := m.2 }, m.2 + 1) = alist m ++ [(n, v)] := by simp [alist, ki]
    rw [e1]
    refine List.Perm.append_right _ ?_
    have e2 : (alist m).filter (fun p => p.1 != n) = alist m := filter_all hn
    rw [← e2]
    exact h.perm.filter _
  | some i =>
    obtain ⟨e, he, hn⟩ := at?_lt ha
    have hk := key_of h.wf he hn
    refine ⟨h.wf.modify he _ (by simp [hk]) rfl, ?_⟩
    have h0 := split_at he
    have h1 := modify_list m.1 he fun e => { e with key := .int kd n, val := v }
    have hp := h.wf.nodup
    rw [h0] at hp
    generalize m.1.toList.take i = A at h0 h1 hp
    generalize m.1.toList.drop (i + 1) = B at h0 h1 hp
    obtain ⟨o1, o2⟩ := others hn hp
    have f1 := filter_all o1
    have f2 := filter_all o2
    have e1 : alist (m.1.modify i fun e => { e with key := .int kd n, val := v }, m.2) = (A.map fun e => (ki e.key, e.val)) ++ (n, v) :: (B.map fun e => (ki e.key, e.val)) := by
      unfold alist
      simp only [h1, List.map_append, List.map_cons, ki]
    have e2 : (alist m).filter (fun p => p.1 != n) = (A.map fun e => (ki e.key, e.val)) ++ (B.map fun e => (ki e.key, e.val)) := by
      unfold alist
      rw [h0, List.map_append, List.map_cons, List.filter_append, List.filter_cons, f1, f2]
      simp [hn]
    rw [e1]
    refine List.perm_middle.trans ?_
    refine List.Perm.trans ?_ (List.perm_append_singleton _ _).symm
    refine List.Perm.cons _ ?_
    rw [← e2]
    exact h.perm.filter _
theorem Is.del (h : Is kd m l) (n : Int) : Is kd (del m n) (l.filter (fun p => p.1 != n)) := by
  unfold IM.del
  cases ha : at? m.1 n with
  | none =>
    have hn := at?_none ha
    refine ⟨h.wf, ?_⟩
    have e2 : (alist m).filter (fun p => p.1 != n) = alist m := filter_all hn
    have := h.perm.filter (fun p => p.1 != n)
    rw [e2] at this
    exact this
  | some i =>
    obtain ⟨e, he, hn⟩ := at?_lt ha
    have h0 := split_at he
    have h1 := erase_list m.1 he
    have hp := h.wf.nodup
    rw [h0] at hp
    generalize m.1.toList.take i = A at h0 h1 hp
    generalize m.1.toList.drop (i + 1) = B at h0 h1 hp
    obtain ⟨o1, o2⟩ := others hn hp
    have f1 := filter_all o1
    have f2 := filter_all o2
    have sub : (A ++ B).Sublist m.1.toList := by
      rw [h0]
      exact List.Sublist.append (List.Sublist.refl _) (List.sublist_cons_self _ _)
    refine ⟨⟨?_, ?_, ?_, ?_⟩, ?_⟩
    · intro x hx; rw [h1] at hx; exact h.wf.keys x (sub.mem hx)
    · rw [h1]; exact h.wf.borns.sublist sub
    · intro x hx; rw [h1] at hx; exact h.wf.clock x (sub.mem hx)
    · rw [h1]; exact h.wf.nodup.sublist sub
    have e2 : (alist m).filter (fun p => p.1 != n) = (A.map fun e => (ki e.key, e.val)) ++ (B.map fun e => (ki e.key, e.val)) := by
      unfold alist
      rw [h0, List.map_append, List.map_cons, List.filter_append, List.filter_cons, f1, f2]
      simp [hn]
    have e1 : alist (m.1.eraseIdxIfInBounds i, m.2) = (alist m).filter (fun p => p.1 != n) := by
      rw [e2]; unfold alist; simp only [h1, List.map_append]
    rw [e1]
    exact h.perm.filter _
theorem Wf.clear (kd : IntKind) (c : Nat) : Wf kd (#[], c) := ⟨by simp, by simp, by simp, by simp⟩

/-! ### 'mapEntry' and 'entryStore' together are a store -/
theorem Wf.ent (h : Wf kd m) (n : Int) (z : Value) : Wf kd (ent kd m n z) := by
  unfold IM.ent
  cases ha : at? m.1 n with
  | none => exact h.push z (at?_none ha)
  | some i =>
    obtain ⟨e, he, hn⟩ := at?_lt ha
    have hk := key_of h he hn
    exact h.modify he _ (by simp [hk]) rfl
theorem find_born {es : Array MapEntry} (hb : es.toList.Pairwise (fun a b => a.born < b.born)) {i : Nat} {e : MapEntry} (he : es[i]? = some e) : es.findIdx? (fun x => (x.born : Int) == (e.born : Int)) = some i := by
  obtain ⟨h1, h2⟩ := Array.getElem?_eq_some_iff.1 he
  rcases es with ⟨l⟩
  simp only [List.findIdx?_toArray, List.getElem_toArray] at *
  replace h1 : i < l.length := h1
  rw [List.findIdx?_eq_some_iff_getElem]
  refine ⟨h1, by simp [h2], fun j hj => ?_⟩
  have := List.pairwise_iff_getElem.1 hb j i (by omega) h1 hj
  rw [h2] at this
  simp
  omega
theorem stamp_some (h : Wf kd m) (n : Int) (z : Value) : ((ent kd m n z).1.findIdx? (fun e => (e.born : Int) == (stamp m n : Int))).isSome = true := by
  have hw := h.ent n z
  unfold IM.ent stamp at *
  cases ha : at? m.1 n with
  | none =>
    rw [ha] at hw
    have he : (m.1.push { key := .int kd n, val := z, born := m.2 })[m.1.size]? = some { key := .int kd n, val := z, born := m.2 } := by simp
    have := find_born hw.borns he
    simp only [] at this ⊢
    rw [this]; rfl
  | some i =>
    rw [ha] at hw
    obtain ⟨e, he, hn⟩ := at?_lt ha
    have he' : (m.1.modify i fun e => { e with key := .int kd n })[i]? = some { e with key := .int kd n } := by
      rw [Array.getElem?_modify]; simp [he]
    have := find_born hw.borns he'
    simp only [he, Option.map_some, Option.getD_some] at this ⊢
    rw [this]; rfl
theorem estore_ent (h : Wf kd m) (n : Int) (z v : Value) : estore (ent kd m n z) (stamp m n) v = put kd m n v := by
  have hw := h.ent n z
  unfold IM.ent stamp estore IM.put at *
  cases ha : at? m.1 n with
  | none =>
    rw [ha] at hw
    have he : (m.1.push { key := .int kd n, val := z, born := m.2 })[m.1.size]? = some { key := .int kd n, val := z, born := m.2 } := by simp
    have := find_born hw.borns he
    simp only [] at this ⊢
    rw [this]
    simp only [Prod.mk.injEq, and_true]
    apply Array.ext'
    rw [modify_list _ he]
    simp
  | some i =>
    rw [ha] at hw
    obtain ⟨e, he, hn⟩ := at?_lt ha
    have he' : (m.1.modify i fun e => { e with key := .int kd n })[i]? = some { e with key := .int kd n } := by
      rw [Array.getElem?_modify]; simp [he]
    have := find_born hw.borns he'
    simp only [he, Option.map_some, Option.getD_some] at this ⊢
    rw [this]
    simp only [Prod.mk.injEq, and_true]
    apply Array.ext'
    have hlt : i < m.1.toList.length := by
      obtain ⟨h1, _⟩ := Array.getElem?_eq_some_iff.1 he; simpa using h1
    rw [modify_list _ he', modify_list _ he, modify_list _ he]
    have hti : (List.take i m.1.toList).length = i := by rw [List.length_take]; omega
    rw [List.take_append_of_le_length (by omega), List.drop_append]
    simp [hti]
    rw [List.take_of_length_le (by omega), List.drop_eq_nil_of_le (by omega), List.nil_append]
end IM
end Go
