import Derived.Test.YtenkglbnlealbaaMaps
/-! Whole blocks of cells. -/
namespace Go
def Blk (w : World) (b : Nat) (c : List Value) (t : TypeId) : Prop := w.heap[b]? = some (.cells c.toArray t (0, 0))
section
variable {w : World} {b : Nat} {c : List Value} {t : TypeId}
theorem Blk.lt (h : Blk w b c t) : b < w.heap.size := (Array.getElem?_eq_some_iff.1 h).1
theorem Blk.cell (h : Blk w b c t) (i : Nat) : w.cell? ⟨b, i, none⟩ = c[i]? := by
  unfold Blk at h; simp [World.cell?, h]
theorem Blk.frozen (h : Blk w b c t) (i : Nat) : w.frozen? ⟨b, i, none⟩ = false := by
  unfold Blk at h; simp [World.frozen?, h]
theorem Blk.nomap (h : Blk w b c t) : w.map? b = none := by
  unfold Blk at h; simp [World.map?, h]
theorem Blk.of_heap {w' : World} (h : Blk w b c t) (e : w'.heap[b]? = w.heap[b]?) : Blk w' b c t := by
  unfold Blk at *; rw [e]; exact h
theorem Blk.alloc (h : Blk w b c t) (o : Obj) : Blk (w.alloc o) b c t := h.of_heap (Go.RowKit.Below.heap_alloc w o b h.lt)
theorem Blk.new (w : World) (c : List Value) (t : TypeId) : Blk (w.alloc (.cells c.toArray t)) w.heap.size c t := (MapKept.heap_alloc w _).1
theorem Blk.drew (h : Blk w b c t) : Blk w.drew b c t := h
theorem Blk.drewN (h : Blk w b c t) (n : Nat) : Blk (w.drewN n) b c t := h
theorem Blk.setCell (h : Blk w b c t) (i : Nat) (v : Value) : Blk (w.setCell ⟨b, i, none⟩ v) b (c.set i v) t := by
  unfold Blk at *
  simp [World.setCell, Array.getElem?_modify, h]
theorem Blk.other (h : Blk w b c t) {a : Addr} (v : Value) (hne : a.block ≠ b) : Blk (w.setCell a v) b c t :=
  h.of_heap (Go.RowKit.Below.heap_setCell w a v b (fun e => hne e.symm))
theorem Blk.setMap (h : Blk w b c t) (r : Nat) (m : Array MapEntry × Nat) (hne : r ≠ b) : Blk (w.setMap r m) b c t :=
  h.of_heap (World.heap_setMap_other w r b m (fun e => hne e.symm))
theorem Blk.ne_map {r : Nat} {m : Array MapEntry × Nat} (h : Blk w b c t) (hm : w.map? r = some m) : r ≠ b := by
  intro e; subst e; rw [h.nomap] at hm; cases hm
end
theorem World.map?_of_same {w w' : World} {r : Nat} (e : w'.heap[r]? = w.heap[r]?) : w'.map? r = w.map? r := by
  unfold World.map?; rw [e]
/-- a call of a function with a Go body enters it -/
theorem enters {P : Program} {f : FuncId} {fn : Func} {c : Code} (hf : P.funcs[f]? = some fn) (hname : (fn.name == "runtime.NumGoroutine") = false) (hb : fn.body = some c) : ∀ (args : Array Value) (w : World), (callFunc f args).run P w = .ok (.enter f args) w := by
  intro args w
  have h1 : fn.name ≠ "runtime.NumGoroutine" := by simpa using hname
  simp [callFunc, hf, h1, hb, mark]
/-- What lay before is as it was, but for the blocks of S. -/
structure Chg (S : Nat → Prop) (w w' : World) : Prop where
  os : w'.os = w.os
  tape : w'.tape = w.tape
  output : w'.output = w.output
  size : w.heap.size ≤ w'.heap.size
  block : ∀ k, k < w.heap.size → ¬ S k → w'.heap[k]? = w.heap[k]?
namespace Chg
variable {S S' : Nat → Prop} {a b c w : World}
theorem refl (S : Nat → Prop) (w : World) : Chg S w w := ⟨rfl, rfl, rfl, Nat.le_refl _, fun _ _ _ => rfl⟩
theorem trans (h : Chg S a b) (k : Chg S b c) : Chg S a c :=
  ⟨k.os.trans h.os, k.tape.trans h.tape, k.output.trans h.output, Nat.le_trans h.size k.size, fun i hi hs => (k.block i (Nat.lt_of_lt_of_le hi h.size) hs).trans (h.block i hi hs)⟩
/-- the second step may turn what the first one has made -/
theorem trans' (h : Chg S a b) (k : Chg S' b c) (hS : ∀ i, i < a.heap.size → S' i → S i) : Chg S a c :=
  ⟨k.os.trans h.os, k.tape.trans h.tape, k.output.trans h.output, Nat.le_trans h.size k.size, fun i hi hs => (k.block i (Nat.lt_of_lt_of_le hi h.size) (fun hs' => hs (hS i hi hs'))).trans (h.block i hi hs)⟩
theorem mono (h : Chg S a b) (hS : ∀ i, i < a.heap.size → S i → S' i) : Chg S' a b := ⟨h.os, h.tape, h.output, h.size, fun i hi hs => h.block i hi (fun hs' => hs (hS i hi hs'))⟩
theorem drew (h : Chg S a w) : Chg S a w.drew := ⟨h.os, h.tape, h.output, h.size, h.block⟩
theorem drewN (h : Chg S a w) (n : Nat) : Chg S a (w.drewN n) := ⟨h.os, h.tape, h.output, h.size, h.block⟩
theorem alloc (h : Chg S a w) (o : Obj) : Chg S a (w.alloc o) :=
  h.trans ⟨rfl, rfl, rfl, by simp, fun k hk _ => Go.RowKit.Below.heap_alloc w o k hk⟩
theorem setCell (h : Chg S a w) {p : Addr} (v : Value) (hp : p.block < a.heap.size → S p.block) : Chg S a (w.setCell p v) :=
  h.trans' (S' := fun k => k = p.block) ⟨rfl, rfl, rfl, by simp, fun k _ hk => Go.RowKit.Below.heap_setCell w p v k hk⟩ (fun i hi e => by subst e; exact hp hi)
theorem setMap (h : Chg S a w) {r : Nat} (m : Array MapEntry × Nat) (hp : r < a.heap.size → S r) : Chg S a (w.setMap r m) :=
  h.trans' (S' := fun k => k = r) ⟨rfl, rfl, rfl, by simp [World.setMap], fun k _ hk => World.heap_setMap_other w r k m hk⟩ (fun i hi e => by subst e; exact hp hi)
theorem blk {bb : Nat} {cc : List Value} {t : TypeId} (h : Chg S a b) (hb : Blk a bb cc t) (hs : ¬ S bb) : Blk b bb cc t := hb.of_heap (h.block bb hb.lt hs)
theorem map {r : Nat} {m : Array MapEntry × Nat} (h : Chg S a b) (hb : a.map? r = some m) (hs : ¬ S r) : b.map? r = some m := by
  rw [World.map?_of_same (h.block r (World.map?_lt hb) hs)]; exact hb
theorem cell {p : Addr} {v : Value} (h : Chg S a b) (hb : a.cell? p = some v) (hs : ¬ S p.block) : b.cell? p = some v := by
  rw [World.cell?_of_block (w := a) (h.block p.block (World.block_lt_of_cell? _ _ hb) hs)]; exact hb
theorem below (h : Chg S a b) (hS : ∀ i, i < a.heap.size → ¬ S i) : Go.RowKit.Below a.heap.size a b := ⟨h.os, h.tape, h.output, h.size, fun k hk => h.block k hk (hS k hk)⟩
theorem of_below (h : Go.RowKit.Below a.heap.size a b) : Chg (fun _ => False) a b := ⟨h.os, h.tape, h.output, h.size, fun k hk _ => h.block k hk⟩
end Chg
end Go
