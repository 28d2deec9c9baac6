import Derived.Test.YtenkglbnlealbaaO3b
import Derived.Deep.Light
namespace Go.Proofs.Ytenkglbnlealbaa
open Go.RowKit
/-- a message -/
structure Msg where
  kind : Int
  life : Int
  seen : Int
  xid : Int
  st : Int
  addr : Int
  bind : Int
  client : ByteArray
  pot : Int
  time : Int
  ok : Bool
def Msg.cells (m : Msg) : List Value := [.int .i64 m.kind, .int .i64 m.life, .int .i64 m.seen, .int .i64 m.xid, .int .i64 m.st, .int .u32 m.addr, .int .i64 m.bind, .string m.client, .int .i64 m.pot, .int .i64 m.time, .bool m.ok]
def Msg.val (m : Msg) : Value := .agg m.cells.toArray
/-- a box, as the document has it -/
structure Box where
  L : List (Msg × Int)
  W : List Msg
  X : Int
def ptr (p : Nat) : Value := .pointer (some ⟨p, 0, none⟩)
def Box.out (B : Box) (a : Int) : Bool := B.L.any fun x => x.1.addr == a
def Box.wait (B : Box) (a : Int) : Option Msg := B.W.find? fun m => m.addr == a
def Box.goes (B : Box) (a : Int) : Box :=
  match B.wait a with
  | none => B
  | some m => if B.out a = true ∨ 1073741824 ≤ B.X then B else { L := B.L ++ [({ m with xid := B.X + 1 }, -1)], W := B.W.filter (fun m => m.addr != a), X := B.X + 1 }
/-- where a box lies -/
structure Place where
  b : Nat
  o : Nat
  f : Nat
  q : Nat
  ps : List Nat
structure Place.Ok (w : World) (l : Place) (B : Box) (mo mf mq : Array MapEntry × Nat) : Prop where
  head : Blk w l.b [.map (some l.o), .map (some l.f), .map (some l.q), .int .i64 B.X] 69
  ho : w.map? l.o = some mo
  hf : w.map? l.f = some mf
  hq : w.map? l.q = some mq
  of : l.o ≠ l.f
  oq : l.o ≠ l.q
  fq : l.f ≠ l.q
  len : l.ps.length = B.L.length
  nodup : l.ps.Nodup
  io : IM.Is .i64 mo ((B.L.zip l.ps).map fun x => (x.1.1.xid, ptr x.2))
  if_ : IM.Is .u32 mf (B.L.map fun x => (x.1.addr, .int .i64 x.1.xid))
  iq : IM.Is .u32 mq (B.W.map fun m => (m.addr, m.val))
  outs : ∀ x ∈ B.L.zip l.ps, Blk w x.2 (x.1.1.cells ++ [.int .i64 x.1.2]) 75
  rise : B.L.Pairwise fun x y => x.1.xid < y.1.xid
  low : ∀ x ∈ B.L, x.1.xid ≤ B.X ∧ 1 ≤ x.1.xid
  x0 : 0 ≤ B.X
  x1 : B.X ≤ 1073741824
  sents : ∀ x ∈ B.L, -1 ≤ x.2 ∧ x.2 ≤ 1099511627776
def Place.has (l : Place) (k : Nat) : Prop := k = l.b ∨ k = l.o ∨ k = l.f ∨ k = l.q ∨ k ∈ l.ps
section
variable {w : World} {l : Place} {B : Box} {mo mf mq : Array MapEntry × Nat}
theorem Place.Ok.get_wait (h : l.Ok w B mo mf mq) (a : Int) : IM.get mq.1 a = (B.wait a).map Msg.val := by
  unfold Box.wait
  cases hw : B.W.find? (fun m => m.addr == a) with
  | none =>
    refine h.iq.get_none (fun p hp => ?_)
    obtain ⟨m, hm, rfl⟩ := List.mem_map.1 hp
    have := List.find?_eq_none.1 hw m hm
    simpa using this
  | some m =>
    have h1 := List.mem_of_find?_eq_some hw
    have h2 := List.find?_some hw
    refine h.iq.get_some (List.mem_map.2 ⟨m, h1, ?_⟩)
    simp at h2
    simp [h2]
theorem Place.Ok.get_out (h : l.Ok w B mo mf mq) (a : Int) : (IM.get mf.1 a).isSome = B.out a := by
  unfold Box.out
  cases hg : IM.get mf.1 a with
  | none =>
    symm
    simp only [Option.isSome_none, List.any_eq_false]
    intro x hx e
    have : x.1.addr = a := by simpa using e
    have h1 := h.if_.get_some (n := a) (v := .int .i64 x.1.xid) (List.mem_map.2 ⟨x, hx, by rw [this]⟩)
    rw [hg] at h1; cases h1
  | some v =>
    symm
    have h1 := h.if_.mem_of_get hg
    obtain ⟨x, hx, e⟩ := List.mem_map.1 h1
    simp only [Option.isSome_some, List.any_eq_true]
    exact ⟨x, hx, by simp at e; simp [e.1]⟩
end
def Place.core (l : Place) (k : Nat) : Prop := k = l.b ∨ k = l.o ∨ k = l.f ∨ k = l.q
theorem filter_none {α : Type} {l : List α} {p : α → Bool} (h : ∀ x ∈ l, p x = true) : l.filter p = l := List.filter_eq_self.2 h
section
variable {w w' : World} {l : Place} {B : Box} {mo mf mq : Array MapEntry × Nat}
theorem Place.Ok.ps_core (h : l.Ok w B mo mf mq) {p : Nat} (hp : p ∈ l.ps) : ¬ l.core p := by
  obtain ⟨i, hi, rfl⟩ := List.getElem_of_mem hp
  have hi' : i < B.L.length := by rw [← h.len]; exact hi
  have hm : (B.L[i], l.ps[i]) ∈ B.L.zip l.ps := by
    rw [List.mem_iff_getElem]
    exact ⟨i, by simp; omega, by simp⟩
  have hb := h.outs _ hm
  rintro (e | e | e | e)
  · have h1 := h.head
    simp only at hb
    rw [e] at hb
    unfold Blk at h1 hb
    rw [h1] at hb
    simp at hb
  · have := hb.nomap; simp only at this; rw [e, h.ho] at this; cases this
  · have := hb.nomap; simp only at this; rw [e, h.hf] at this; cases this
  · have := hb.nomap; simp only at this; rw [e, h.hq] at this; cases this
theorem Place.Ok.keep (h : l.Ok w B mo mf mq) {S : Nat → Prop} (hc : Chg S w w') (hS : ∀ k, l.has k → ¬ S k) : l.Ok w' B mo mf mq := by
  refine { h with head := hc.blk h.head (hS _ (.inl rfl)), ho := hc.map h.ho (hS _ (.inr (.inl rfl))), hf := hc.map h.hf (hS _ (.inr (.inr (.inl rfl)))), hq := hc.map h.hq (hS _ (.inr (.inr (.inr (.inl rfl))))), outs := ?_ }
  intro x hx
  exact hc.blk (h.outs x hx) (hS _ (.inr (.inr (.inr (.inr (List.of_mem_zip hx).2)))))
theorem Place.Ok.gone (h : l.Ok w B mo mf mq) {a : Int} {m : Msg} (hw : B.wait a = some m) (hb : B.out a = false) (hX : B.X < 1073741824) {p : Nat} (hp : w.heap.size ≤ p) (hc : Chg l.core w w')
    (h1 : Blk w' l.b [.map (some l.o), .map (some l.f), .map (some l.q), .int .i64 (B.X + 1)] 69)
    (h2 : w'.map? l.o = some (IM.put .i64 mo (B.X + 1) (ptr p))) (h3 : w'.map? l.f = some (IM.put .u32 mf a (.int .i64 (B.X + 1)))) (h4 : w'.map? l.q = some (IM.del mq a))
    (h5 : Blk w' p (({ m with xid := B.X + 1 } : Msg).cells ++ [.int .i64 (-1)]) 75) :
    Place.Ok w' { l with ps := l.ps ++ [p] } (B.goes a) (IM.put .i64 mo (B.X + 1) (ptr p)) (IM.put .u32 mf a (.int .i64 (B.X + 1))) (IM.del mq a) := by
  have hpn : p ∉ l.ps := by
    intro hm
    obtain ⟨i, hi, rfl⟩ := List.getElem_of_mem hm
    have hi' : i < B.L.length := by rw [← h.len]; exact hi
    have hm : (B.L[i], l.ps[i]) ∈ B.L.zip l.ps := by
      rw [List.mem_iff_getElem]
      exact ⟨i, by simp; omega, by simp⟩
    have := (h.outs _ hm).lt
    simp only at this
    omega
  have e : B.goes a = { L := B.L ++ [({ m with xid := B.X + 1 }, -1)], W := B.W.filter (fun m => m.addr != a), X := B.X + 1 } := by
    unfold Box.goes
    rw [hw, hb]
    simp only [Bool.false_eq_true, false_or]
    rw [if_neg (by omega)]
  have ez : (B.L ++ [(({ m with xid := B.X + 1 } : Msg), (-1 : Int))]).zip (l.ps ++ [p]) = B.L.zip l.ps ++ [((({ m with xid := B.X + 1 } : Msg), (-1 : Int)), p)] := by
    rw [List.zip_append h.len.symm]; rfl
  have ha : m.addr = a := by have := List.find?_some hw; simpa using this
  have hx0 := h.x0
  rw [e]
  refine ⟨h1, h2, h3, h4, h.of, h.oq, h.fq, by simp [h.len], ?_, ?_, ?_, ?_, ?_, ?_, ?_, by simp; omega, by simp; omega, ?_⟩
  · rw [List.nodup_append]
    exact ⟨h.nodup, by simp, fun x hx y hy => by simp at hy; subst hy; exact fun e => hpn (e ▸ hx)⟩
  · simp only [ez, List.map_append, List.map_cons, List.map_nil]
    have := h.io.put (B.X + 1) (ptr p)
    rw [filter_none] at this
    · exact this
    · intro x hx
      obtain ⟨y, hy, rfl⟩ := List.mem_map.1 hx
      have := (h.low y.1 (List.of_mem_zip hy).1).1
      simp
      omega
  · simp only [List.map_append, List.map_cons, List.map_nil]
    have := h.if_.put a (.int .i64 (B.X + 1))
    rw [filter_none] at this
    · rw [ha]; exact this
    · intro x hx
      obtain ⟨y, hy, rfl⟩ := List.mem_map.1 hx
      unfold Box.out at hb
      rw [List.any_eq_false] at hb
      have := hb y hy
      simpa using this
  · have := h.iq.del a
    rw [List.filter_map] at this
    exact this
  · intro x hx
    simp only [ez] at hx
    rcases List.mem_append.1 hx with hx | hx
    · exact hc.blk (h.outs x hx) (h.ps_core (List.of_mem_zip hx).2)
    · simp at hx; subst hx; exact h5
  · simp only [List.pairwise_append, List.pairwise_singleton, List.mem_singleton, forall_eq, true_and]
    exact ⟨h.rise, fun x hx => by have := (h.low x hx).1; simp; omega⟩
  · intro x hx
    simp only [List.mem_append, List.mem_singleton] at hx
    rcases hx with hx | rfl
    · have := h.low x hx; simp; omega
    · simp; omega
  · intro x hx
    simp only [List.mem_append, List.mem_singleton] at hx
    rcases hx with hx | rfl
    · exact h.sents x hx
    · simp
end
theorem zero35 : ∀ w, (zeroValue 35).run Try.prog w = .ok (.agg #[.int .i64 0, .int .i64 0, .int .i64 0, .int .i64 0, .int .i64 0, .int .u32 0, .int .i64 0, .string ⟨#[]⟩, .int .i64 0, .int .i64 0, .bool false]) w := fun _ => by kernel_rfl
theorem zero3 : ∀ w, (zeroValue 3).run Try.prog w = .ok (.int .i64 0) w := fun _ => by kernel_rfl
theorem zero72 : ∀ w, (zeroValue 72).run Try.prog w = .ok (.pointer none) w := fun _ => by kernel_rfl
section
variable {r : Nat} {m : Array MapEntry × Nat}
theorem look67 (n : Int) (hw : IM.Wf .u32 m) : ∀ wx : World, wx.map? r = some m → (Instr.lookup 67 (.map (some r)) (.int .u32 n) true).run Try.prog wx = .ok (.tuple #[(IM.get m.1 n).getD (.agg #[.int .i64 0, .int .i64 0, .int .i64 0, .int .i64 0, .int .i64 0, .int .u32 0, .int .i64 0, .string ⟨#[]⟩, .int .i64 0, .int .i64 0, .bool false]), .bool (IM.get m.1 n).isSome]) wx :=
  fun wx h => IM.run_lookup_m wx true Try.underlying67 Try.underlying30 h hw (zero35 wx)
theorem look54 (n : Int) (hw : IM.Wf .u32 m) : ∀ wx : World, wx.map? r = some m → (Instr.lookup 54 (.map (some r)) (.int .u32 n) true).run Try.prog wx = .ok (.tuple #[(IM.get m.1 n).getD (.int .i64 0), .bool (IM.get m.1 n).isSome]) wx :=
  fun wx h => IM.run_lookup_m wx true Try.underlying54 Try.underlying30 h hw (zero3 wx)
theorem ent66 (n : Int) (hw : IM.Wf .i64 m) : ∀ wx : World, wx.map? r = some m → (Instr.mapEntry 66 (.map (some r)) (.int .i64 n)).run Try.prog wx = .ok (.tuple #[(IM.get m.1 n).getD (.pointer none), .int .i64 (IM.stamp m n)]) (wx.setMap r (IM.ent .i64 m n (.pointer none))) :=
  fun wx h => IM.run_mapEntry_m wx Try.underlying66 Try.underlying3 h hw (zero72 wx)
theorem sto66 (n : Int) (hw : IM.Wf .i64 m) : ∀ (wx : World) (v : Value), wx.map? r = some (IM.ent .i64 m n (.pointer none)) → (Instr.entryStore 66 (.map (some r)) (.int .i64 (IM.stamp m n)) v).run Try.prog wx = .ok () (wx.setMap r (IM.put .i64 m n v)) :=
  fun wx v h => by rw [IM.run_entryStore_m wx v h (IM.stamp_some hw n _), IM.estore_ent hw]
theorem ent54 (n : Int) (hw : IM.Wf .u32 m) : ∀ wx : World, wx.map? r = some m → (Instr.mapEntry 54 (.map (some r)) (.int .u32 n)).run Try.prog wx = .ok (.tuple #[(IM.get m.1 n).getD (.int .i64 0), .int .i64 (IM.stamp m n)]) (wx.setMap r (IM.ent .u32 m n (.int .i64 0))) :=
  fun wx h => IM.run_mapEntry_m wx Try.underlying54 Try.underlying30 h hw (zero3 wx)
theorem sto54 (n : Int) (hw : IM.Wf .u32 m) : ∀ (wx : World) (v : Value), wx.map? r = some (IM.ent .u32 m n (.int .i64 0)) → (Instr.entryStore 54 (.map (some r)) (.int .i64 (IM.stamp m n)) v).run Try.prog wx = .ok () (wx.setMap r (IM.put .u32 m n v)) :=
  fun wx v h => by rw [IM.run_entryStore_m wx v h (IM.stamp_some hw n _), IM.estore_ent hw]
theorem look66 (n : Int) (hw : IM.Wf .i64 m) : ∀ wx : World, wx.map? r = some m → (Instr.lookup 66 (.map (some r)) (.int .i64 n) true).run Try.prog wx = .ok (.tuple #[(IM.get m.1 n).getD (.pointer none), .bool (IM.get m.1 n).isSome]) wx :=
  fun wx h => IM.run_lookup_m wx true Try.underlying66 Try.underlying3 h hw (zero72 wx)
end
set_option maxRecDepth 100000 in
set_option maxHeartbeats 1000000 in
theorem goes_none (a : Int) (w : World) (l : Place) (B : Box) (mo mf mq : Array MapEntry × Nat) (h : l.Ok w B mo mf mq) (hw : B.wait a = none) :
    Calls Try.prog 29 #[ptr l.b, .int .u32 a] w fun e w' => e = .returned (.tuple #[]) ∧ Chg (fun _ => False) w w' := by
  have c0 := h.head.cell 0; have c1 := h.head.cell 1; have c2 := h.head.cell 2; have c3 := h.head.cell 3
  simp only [List.getElem?_cons_zero, List.getElem?_cons_succ] at c0 c1 c2 c3
  have g1 := h.get_wait a
  rw [hw] at g1
  simp only [Option.map_none] at g1
  have ho := h.ho; have hf := h.hf; have hq := h.hq
  have wf := h.if_.wf; have wq := h.iq.wf
  have k1 := look67 (r := l.q) a wq; have k2 := look54 (r := l.f) a wf
  have lo := World.map?_lt ho; have lf := World.map?_lt hf; have lq := World.map?_lt hq; have lb := h.head.lt
  have H := Lib.hid h
  clear h hw
  unfold ptr
  go_enter Try.func29, Try.ntmps29
  go_wp2
  refine bodyPost_ret (results_none rfl _ _ _) rfl ?_
  exact ⟨rfl, (Chg.refl _ w).alloc _⟩
def msgAgg (m : Msg) : Value := .agg #[.int .i64 m.kind, .int .i64 m.life, .int .i64 m.seen, .int .i64 m.xid, .int .i64 m.st, .int .u32 m.addr, .int .i64 m.bind, .string m.client, .int .i64 m.pot, .int .i64 m.time, .bool m.ok]
set_option maxRecDepth 100000 in
set_option maxHeartbeats 1000000 in
theorem goes_busy (a : Int) (w : World) (l : Place) (B : Box) (mo mf mq : Array MapEntry × Nat) (h : l.Ok w B mo mf mq) (m : Msg) (hw : B.wait a = some m) (hb : B.out a = true) :
    Calls Try.prog 29 #[ptr l.b, .int .u32 a] w fun e w' => e = .returned (.tuple #[]) ∧ Chg (fun _ => False) w w' := by
  have c0 := h.head.cell 0; have c1 := h.head.cell 1; have c2 := h.head.cell 2; have c3 := h.head.cell 3
  simp only [List.getElem?_cons_zero, List.getElem?_cons_succ] at c0 c1 c2 c3
  have g1 := h.get_wait a
  rw [hw] at g1
  simp only [Option.map_some, Msg.val, Msg.cells] at g1
  have g2 := h.get_out a
  rw [hb] at g2
  have ho := h.ho; have hf := h.hf; have hq := h.hq
  have wf := h.if_.wf; have wq := h.iq.wf
  have k1 := look67 (r := l.q) a wq; have k2 := look54 (r := l.f) a wf
  have lo := World.map?_lt ho; have lf := World.map?_lt hf; have lq := World.map?_lt hq; have lb := h.head.lt
  have H := Lib.hid h
  clear h hw hb
  unfold ptr
  go_enter Try.func29, Try.ntmps29
  go_wp2
  refine bodyPost_ret (results_none rfl _ _ _) rfl ?_
  exact ⟨rfl, (Chg.refl _ w).alloc _⟩
set_option maxRecDepth 100000 in
set_option maxHeartbeats 1000000 in
theorem goes_full (a : Int) (w : World) (l : Place) (B : Box) (mo mf mq : Array MapEntry × Nat) (h : l.Ok w B mo mf mq) (m : Msg) (hw : B.wait a = some m) (hb : B.out a = false) (hX : 1073741824 ≤ B.X) :
    Calls Try.prog 29 #[ptr l.b, .int .u32 a] w fun e w' => e = .returned (.tuple #[]) ∧ Chg (fun _ => False) w w' := by
  have c0 := h.head.cell 0; have c1 := h.head.cell 1; have c2 := h.head.cell 2; have c3 := h.head.cell 3
  simp only [List.getElem?_cons_zero, List.getElem?_cons_succ] at c0 c1 c2 c3
  have g1 := h.get_wait a
  rw [hw] at g1
  simp only [Option.map_some, Msg.val, Msg.cells] at g1
  have g2 := h.get_out a
  rw [hb] at g2
  have ho := h.ho; have hf := h.hf; have hq := h.hq
  have wf := h.if_.wf; have wq := h.iq.wf
  have k1 := look67 (r := l.q) a wq; have k2 := look54 (r := l.f) a wf
  have lo := World.map?_lt ho; have lf := World.map?_lt hf; have lq := World.map?_lt hq; have lb := h.head.lt
  have H := Lib.hid h
  clear h hw hb
  unfold ptr
  go_enter Try.func29, Try.ntmps29
  go_wp2
  refine bodyPost_ret (results_none rfl _ _ _) rfl ?_
  exact ⟨rfl, (Chg.refl _ w).alloc _⟩
theorem goes_world {w : World} {l : Place} {B : Box} {mo mf mq : Array MapEntry × Nat} (h : l.Ok w B mo mf mq) (X : Int) (po pf pq : Array MapEntry × Nat) (o1 : Obj) (cs : List Value) :
    Chg l.core w ((((((w.setMap l.q pq).setCell ⟨l.b, 3, none⟩ (.int .i64 X)).setMap l.o po).setMap l.f pf).alloc o1).alloc (.cells cs.toArray 75)).drew ∧
    Blk ((((((w.setMap l.q pq).setCell ⟨l.b, 3, none⟩ (.int .i64 X)).setMap l.o po).setMap l.f pf).alloc o1).alloc (.cells cs.toArray 75)).drew l.b [.map (some l.o), .map (some l.f), .map (some l.q), .int .i64 X] 69 ∧
    ((((((w.setMap l.q pq).setCell ⟨l.b, 3, none⟩ (.int .i64 X)).setMap l.o po).setMap l.f pf).alloc o1).alloc (.cells cs.toArray 75)).drew.map? l.o = some po ∧
    ((((((w.setMap l.q pq).setCell ⟨l.b, 3, none⟩ (.int .i64 X)).setMap l.o po).setMap l.f pf).alloc o1).alloc (.cells cs.toArray 75)).drew.map? l.f = some pf ∧
    ((((((w.setMap l.q pq).setCell ⟨l.b, 3, none⟩ (.int .i64 X)).setMap l.o po).setMap l.f pf).alloc o1).alloc (.cells cs.toArray 75)).drew.map? l.q = some pq ∧
    Blk ((((((w.setMap l.q pq).setCell ⟨l.b, 3, none⟩ (.int .i64 X)).setMap l.o po).setMap l.f pf).alloc o1).alloc (.cells cs.toArray 75)).drew (w.heap.size + 1) cs 75 := by
  have lo := World.map?_lt h.ho; have lf := World.map?_lt h.hf; have lq := World.map?_lt h.hq
  have s1 : (((w.setMap l.q pq).setCell ⟨l.b, 3, none⟩ (.int .i64 X)).setMap l.o po).heap.size = w.heap.size := by simp [World.size_setMap]
  have s2 : ((((w.setMap l.q pq).setCell ⟨l.b, 3, none⟩ (.int .i64 X)).setMap l.o po).setMap l.f pf).heap.size = w.heap.size := by simp [World.size_setMap]
  have p1 := World.map?_setMap_same w l.q pq lq
  have p2 : ((w.setMap l.q pq).setCell ⟨l.b, 3, none⟩ (.int .i64 X)).map? l.q = some pq := by rw [World.map?_setCell]; exact p1
  have p3 : (((w.setMap l.q pq).setCell ⟨l.b, 3, none⟩ (.int .i64 X)).setMap l.o po).map? l.q = some pq := by rw [World.map?_setMap_other _ _ _ _ h.oq.symm]; exact p2
  have p4 : ((((w.setMap l.q pq).setCell ⟨l.b, 3, none⟩ (.int .i64 X)).setMap l.o po).setMap l.f pf).map? l.q = some pq := by rw [World.map?_setMap_other _ _ _ _ h.fq.symm]; exact p3
  have r3 : (((w.setMap l.q pq).setCell ⟨l.b, 3, none⟩ (.int .i64 X)).setMap l.o po).map? l.o = some po := World.map?_setMap_same _ _ _ (by simp [World.size_setMap]; exact lo)
  have r4 : ((((w.setMap l.q pq).setCell ⟨l.b, 3, none⟩ (.int .i64 X)).setMap l.o po).setMap l.f pf).map? l.o = some po := by rw [World.map?_setMap_other _ _ _ _ h.of]; exact r3
  have t4 : ((((w.setMap l.q pq).setCell ⟨l.b, 3, none⟩ (.int .i64 X)).setMap l.o po).setMap l.f pf).map? l.f = some pf := World.map?_setMap_same _ _ _ (by rw [s1]; exact lf)
  refine ⟨?_, ?_, ?_, ?_, ?_, ?_⟩
  · exact ((((((Chg.refl _ w).setMap _ (fun _ => .inr (.inr (.inr rfl)))).setCell _ (fun _ => .inl rfl)).setMap _ (fun _ => .inr (.inl rfl))).setMap _ (fun _ => .inr (.inr (.inl rfl)))).alloc _).alloc _ |>.drew
  · exact (((((h.head.setMap _ _ (h.head.ne_map h.hq)).setCell 3 (.int .i64 X)).setMap _ _ (h.head.ne_map h.ho)).setMap _ _ (h.head.ne_map h.hf)).alloc _).alloc _ |>.drew
  · rw [World.map?_drew, World.map?_alloc_past _ _ _ (by rw [World.size_alloc, s2]; omega), World.map?_alloc_past _ _ _ (by rw [s2]; omega)]; exact r4
  · rw [World.map?_drew, World.map?_alloc_past _ _ _ (by rw [World.size_alloc, s2]; omega), World.map?_alloc_past _ _ _ (by rw [s2]; omega)]; exact t4
  · rw [World.map?_drew, World.map?_alloc_past _ _ _ (by rw [World.size_alloc, s2]; omega), World.map?_alloc_past _ _ _ (by rw [s2]; omega)]; exact p4
  · have := Blk.new (((((w.setMap l.q pq).setCell ⟨l.b, 3, none⟩ (.int .i64 X)).setMap l.o po).setMap l.f pf).alloc o1) cs 75
    rw [World.size_alloc, s2] at this
    exact this.drew
set_option maxRecDepth 100000 in
set_option maxHeartbeats 1000000 in
theorem goes_out (a : Int) (w : World) (l : Place) (B : Box) (mo mf mq : Array MapEntry × Nat) (h : l.Ok w B mo mf mq) (m : Msg) (hw : B.wait a = some m) (hb : B.out a = false) (hX : B.X < 1073741824) (hX0 : 0 ≤ B.X) :
    Calls Try.prog 29 #[ptr l.b, .int .u32 a] w fun e w' => e = .returned (.tuple #[]) ∧ ∃ p, w.heap.size ≤ p ∧ Chg l.core w w' ∧ Blk w' l.b [.map (some l.o), .map (some l.f), .map (some l.q), .int .i64 (B.X + 1)] 69 ∧
      w'.map? l.o = some (IM.put .i64 mo (B.X + 1) (ptr p)) ∧ w'.map? l.f = some (IM.put .u32 mf a (.int .i64 (B.X + 1))) ∧ w'.map? l.q = some (IM.del mq a) ∧ Blk w' p [.int .i64 m.kind, .int .i64 m.life, .int .i64 m.seen, .int .i64 (B.X + 1), .int .i64 m.st, .int .u32 m.addr, .int .i64 m.bind, .string m.client, .int .i64 m.pot, .int .i64 m.time, .bool m.ok, .int .i64 (-1)] 75 := by
  have c0 := h.head.cell 0; have c1 := h.head.cell 1; have c2 := h.head.cell 2; have c3 := h.head.cell 3
  simp only [List.getElem?_cons_zero, List.getElem?_cons_succ] at c0 c1 c2 c3
  have z0 := h.head.frozen 3
  have g1 := h.get_wait a
  rw [hw] at g1
  simp only [Option.map_some, Msg.val, Msg.cells] at g1
  have g2 := h.get_out a
  rw [hb] at g2
  have ho := h.ho; have hf := h.hf; have hq := h.hq
  have wf := h.if_.wf; have wq := h.iq.wf
  have k1 := look67 (r := l.q) a wq; have k2 := look54 (r := l.f) a wf
  have lo := World.map?_lt ho; have lf := World.map?_lt hf; have lq := World.map?_lt hq; have lb := h.head.lt
  have e1 := ent66 (r := l.o) (B.X + 1) h.io.wf; have e2 := sto66 (r := l.o) (B.X + 1) h.io.wf
  have e3 := ent54 (r := l.f) a wf; have e4 := sto54 (r := l.f) a wf
  have lo1 : l.o < w.heap.size + 1 := by omega
  have lf1 : l.f < w.heap.size + 1 := by omega
  have lb1 : l.b < w.heap.size + 1 := by omega
  have d1 := h.of; have d2 := h.oq; have d3 := h.fq
  have d4 := d1.symm; have d5 := d2.symm; have d6 := d3.symm
  have H := Lib.hid h
  clear h hw hb
  unfold ptr
  go_enter Try.func29, Try.ntmps29
  go_wp2
  clear k1 k2 g1 g2
  go_region_held3 (fun w' => w'.cell? ⟨l.b, 0, none⟩ = some (.map (some l.o)) ∧ w'.cell? ⟨l.b, 1, none⟩ = some (.map (some l.f)) ∧ w'.cell? ⟨w.heap.size, 0, none⟩ = some (.int .i64 m.kind) ∧ w'.cell? ⟨w.heap.size, 1, none⟩ = some (.int .i64 m.life)
    ∧ w'.cell? ⟨w.heap.size, 2, none⟩ = some (.int .i64 m.seen) ∧ w'.cell? ⟨w.heap.size, 3, none⟩ = some (.int .i64 (B.X + 1)) ∧ w'.cell? ⟨w.heap.size, 4, none⟩ = some (.int .i64 m.st) ∧ w'.cell? ⟨w.heap.size, 5, none⟩ = some (.int .u32 m.addr)
    ∧ w'.cell? ⟨w.heap.size, 6, none⟩ = some (.int .i64 m.bind) ∧ w'.cell? ⟨w.heap.size, 7, none⟩ = some (.string m.client) ∧ w'.cell? ⟨w.heap.size, 8, none⟩ = some (.int .i64 m.pot) ∧ w'.cell? ⟨w.heap.size, 9, none⟩ = some (.int .i64 m.time) ∧ w'.cell? ⟨w.heap.size, 10, none⟩ = some (.bool m.ok))
    (simp [*, go_sem]) (first | fail)
  all_goals go_wp2
  all_goals refine bodyPost_end (results_none rfl _ _ _) rfl ?_
  all_goals go_light
  all_goals
    have G := goes_world H.out (B.X + 1) (IM.put .i64 mo (B.X + 1) (.pointer (some ⟨w.heap.size + 1, 0, none⟩))) (IM.put .u32 mf a (.int .i64 (B.X + 1))) (IM.del mq a) (.cells #[.int .i64 m.kind, .int .i64 m.life, .int .i64 m.seen, .int .i64 (B.X + 1), .int .i64 m.st, .int .u32 m.addr, .int .i64 m.bind, .string m.client, .int .i64 m.pot, .int .i64 m.time, .bool m.ok] 35) [.int .i64 m.kind, .int .i64 m.life, .int .i64 m.seen, .int .i64 (B.X + 1), .int .i64 m.st, .int .u32 m.addr, .int .i64 m.bind, .string m.client, .int .i64 m.pot, .int .i64 m.time, .bool m.ok, .int .i64 (-1)]
    exact ⟨rfl, w.heap.size + 1, by omega, G⟩
/-- 'goes', whatever waits -/
theorem goes_any (a : Int) (w : World) (l : Place) (B : Box) (mo mf mq : Array MapEntry × Nat) (h : l.Ok w B mo mf mq) :
    Calls Try.prog 29 #[ptr l.b, .int .u32 a] w fun e w' => e = .returned (.tuple #[]) ∧ Chg l.core w w' ∧ ∃ ps mo' mf' mq', Place.Ok w' { l with ps := ps } (B.goes a) mo' mf' mq' ∧ ∀ p ∈ ps, p ∈ l.ps ∨ w.heap.size ≤ p := by
  cases hw : B.wait a with
  | none =>
    refine (goes_none a w l B mo mf mq h hw).mono ?_
    rintro e w' ⟨rfl, hc⟩
    have e : B.goes a = B := by unfold Box.goes; rw [hw]
    rw [e]
    exact ⟨rfl, hc.mono (fun _ _ h => h.elim), l.ps, mo, mf, mq, h.keep hc (fun _ _ h => h), fun p hp => .inl hp⟩
  | some m =>
    cases hb : B.out a with
    | true =>
      refine (goes_busy a w l B mo mf mq h m hw hb).mono ?_
      rintro e w' ⟨rfl, hc⟩
      have e : B.goes a = B := by unfold Box.goes; rw [hw]; simp [hb]
      rw [e]
      exact ⟨rfl, hc.mono (fun _ _ h => h.elim), l.ps, mo, mf, mq, h.keep hc (fun _ _ h => h), fun p hp => .inl hp⟩
    | false =>
      by_cases hX : 1073741824 ≤ B.X
      · refine (goes_full a w l B mo mf mq h m hw hb hX).mono ?_
        rintro e w' ⟨rfl, hc⟩
        have e : B.goes a = B := by unfold Box.goes; rw [hw]; simp [hX]
        rw [e]
        exact ⟨rfl, hc.mono (fun _ _ h => h.elim), l.ps, mo, mf, mq, h.keep hc (fun _ _ h => h), fun p hp => .inl hp⟩
      · refine (goes_out a w l B mo mf mq h m hw hb (by omega) h.x0).mono ?_
        rintro e w' ⟨rfl, p, hp, hc, h1, h2, h3, h4, h5⟩
        exact ⟨rfl, hc, l.ps ++ [p], _, _, _, h.gone hw hb (by omega) hp hc h1 h2 h3 h4 h5, fun x hx => by
          rcases List.mem_append.1 hx with hx | hx
          · exact .inl hx
          · simp at hx; subst hx; exact .inr hp⟩
end Go.Proofs.Ytenkglbnlealbaa
