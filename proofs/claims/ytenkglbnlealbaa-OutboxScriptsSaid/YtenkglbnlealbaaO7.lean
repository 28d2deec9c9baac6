import Derived.Test.YtenkglbnlealbaaO6
import Derived.Test.YtenkglbnlealbaaIter
namespace Go.Proofs.Ytenkglbnlealbaa
open Go.RowKit
def emptyBox : Box := ⟨[], [], 0⟩
set_option maxHeartbeats 400000 in
theorem New_any (w : World) :
    Calls Try.prog 9 #[] w fun e w' => ∃ b, e = .returned (ptr b) ∧ w.heap.size ≤ b ∧ Chg (fun _ => False) w w' ∧ Here w' ⟨b, w.heap.size, w.heap.size + 1, w.heap.size + 2, []⟩ emptyBox := by
  have hmm := @run_makeMap Try.prog
  go_enter Try.func9, Try.ntmps9
  go_wp2
  go_ret
  refine ⟨w.heap.size + 3, rfl, by omega, ((((Chg.refl _ w).alloc _).alloc _).alloc _).alloc _, (#[], 0), (#[], 0), (#[], 0), ?_⟩
  refine ⟨?_, ?_, ?_, ?_, by simp, by simp, by simp, rfl, by simp, IM.Is.empty _ _, IM.Is.empty _ _, IM.Is.empty _ _, by simp [emptyBox], by simp [emptyBox], by simp [emptyBox], by simp [emptyBox], by simp [emptyBox], by simp [emptyBox]⟩
  · have := Blk.new (((w.alloc (.map #[] 0)).alloc (.map #[] 0)).alloc (.map #[] 0)) [.map (some w.heap.size), .map (some (w.heap.size + 1)), .map (some (w.heap.size + 1 + 1)), .int .i64 0] 69
    simp only [World.size_alloc] at this
    exact this
  · simp [go_sem]
  · simp [go_sem]
  · simp [go_sem]
set_option maxHeartbeats 400000 in
theorem Last_any (w : World) (l : Place) (B : Box) (h : Here w l B) : Calls Try.prog 14 #[ptr l.b] w fun e w' => e = .returned (.int .i64 B.X) ∧ w = w' := by
  obtain ⟨mo, mf, mq, h⟩ := h
  have c3 := h.head.cell 3
  simp only [List.getElem?_cons_zero, List.getElem?_cons_succ] at c3
  clear h
  unfold ptr
  go_enter Try.func14, Try.ntmps14
  go_wp2
  go_ret
  exact ⟨rfl, rfl⟩
theorem update_any (a pot : Int) (w : World) :
    Calls Try.prog 11 #[.int .u32 a, .int .i64 pot] w fun e w' => e = .returned (Msg.val ⟨2, 0, 0, 0, 0, a, 2, ⟨#[97]⟩, bits BinOp.and IntKind.i64 pot 65535, 0, false⟩) ∧ Chg (fun _ => False) w w' := by
  go_enter Try.func11, Try.ntmps11
  go_wp2
  refine bodyPost_ret (v := Msg.val ⟨2, 0, 0, 0, 0, a, 2, ⟨#[97]⟩, bits BinOp.and IntKind.i64 pot 65535, 0, false⟩) (by simp [results, Try.results11, go_sem, Msg.val, Msg.cells]) rfl ⟨rfl, (Chg.refl _ _).alloc _⟩
def Box.busy (B : Box) (a : Int) : Bool := B.out a || (B.wait a).isSome
set_option maxRecDepth 100000 in
set_option maxHeartbeats 1000000 in
theorem Busy_any (a : Int) (w : World) (l : Place) (B : Box) (h : Here w l B) :
    Calls Try.prog 25 #[ptr l.b, .int .u32 a] w fun e w' => e = .returned (.bool (B.busy a)) ∧ Chg (fun _ => False) w w' := by
  obtain ⟨mo, mf, mq, h⟩ := h
  have c0 := h.head.cell 0; have c1 := h.head.cell 1; have c2 := h.head.cell 2
  simp only [List.getElem?_cons_zero, List.getElem?_cons_succ] at c0 c1 c2
  have g1 := h.get_wait a
  have g2 := h.get_out a
  have hf := h.hf; have hq := h.hq
  have k1 := look67 (r := l.q) a h.iq.wf; have k2 := look54 (r := l.f) a h.if_.wf
  have lf := World.map?_lt hf; have lq := World.map?_lt hq; have lb := h.head.lt
  clear h
  cases hb : B.out a <;> cases hw : B.wait a
  all_goals
    rw [hb] at g2
    rw [hw] at g1
    simp only [Option.map_none, Option.map_some, Msg.val, Msg.cells] at g1
    have HB := Lib.hid hb; have HW := Lib.hid hw
    clear hb hw
    unfold ptr
    go_enter Try.func25, Try.ntmps25
    go_wp2
    go_ret
    refine ⟨by unfold Box.busy; rw [HB.out, HW.out]; rfl, ?_⟩
    exact (Chg.refl _ _).alloc _
section
variable {r : Nat} {m : Array MapEntry × Nat}
theorem clr66 : ∀ (wx : World) (T : TypeId), wx.map? r = some m → (Builtin.clear_ #[66] T #[.map (some r)]).run Try.prog wx = .ok (.tuple #[]) (wx.setMap r (#[], m.2)) := fun wx _ h => IM.run_clear_m wx Try.underlying66 h
theorem clr54 : ∀ (wx : World) (T : TypeId), wx.map? r = some m → (Builtin.clear_ #[54] T #[.map (some r)]).run Try.prog wx = .ok (.tuple #[]) (wx.setMap r (#[], m.2)) := fun wx _ h => IM.run_clear_m wx Try.underlying54 h
theorem clr67 : ∀ (wx : World) (T : TypeId), wx.map? r = some m → (Builtin.clear_ #[67] T #[.map (some r)]).run Try.prog wx = .ok (.tuple #[]) (wx.setMap r (#[], m.2)) := fun wx _ h => IM.run_clear_m wx Try.underlying67 h
theorem len54 : ∀ (wx : World) (T : TypeId), wx.map? r = some m → (Builtin.len_ #[54] T #[.map (some r)]).run Try.prog wx = .ok (.int .i64 m.1.size) wx := fun wx _ h => IM.run_len_m wx Try.underlying54 h
theorem rng67 : ∀ wx : World, wx.map? r = some m → (Instr.range 67 (.map (some r))).run Try.prog wx = .ok (.pointer (some ⟨wx.heap.size, 0, none⟩)) (wx.alloc (.mapIter (some r) m.2 #[] m.2)) := fun wx h => IM.run_range_m wx Try.underlying67 h
end
def Box.clear (B : Box) : Box := ⟨[], [], B.X⟩
theorem Place.Ok.clear {w : World} {l : Place} {B : Box} {mo mf mq : Array MapEntry × Nat} (h : l.Ok w B mo mf mq) :
    Place.Ok (((w.setMap l.o (#[], mo.2)).setMap l.f (#[], mf.2)).setMap l.q (#[], mq.2)) { l with ps := [] } B.clear (#[], mo.2) (#[], mf.2) (#[], mq.2) := by
  have lo := World.map?_lt h.ho; have lf := World.map?_lt h.hf; have lq := World.map?_lt h.hq
  refine ⟨((h.head.setMap _ _ (h.head.ne_map h.ho)).setMap _ _ (h.head.ne_map h.hf)).setMap _ _ (h.head.ne_map h.hq), ?_, ?_, ?_, h.of, h.oq, h.fq, rfl, by simp, IM.Is.empty _ _, IM.Is.empty _ _, IM.Is.empty _ _, by simp [Box.clear], by simp [Box.clear], by simp [Box.clear], h.x0, h.x1, by simp [Box.clear]⟩
  · show World.map? _ l.o = _
    rw [World.map?_setMap_other _ _ _ _ h.oq, World.map?_setMap_other _ _ _ _ h.of, World.map?_setMap_same _ _ _ lo]
  · show World.map? _ l.f = _
    rw [World.map?_setMap_other _ _ _ _ h.fq, World.map?_setMap_same _ _ _ (by rw [World.size_setMap]; exact lf)]
  · show World.map? _ l.q = _
    rw [World.map?_setMap_same _ _ _ (by rw [World.size_setMap, World.size_setMap]; exact lq)]
set_option maxRecDepth 100000 in
set_option maxHeartbeats 1000000 in
theorem Clear_any (w : World) (l : Place) (B : Box) (h : Here w l B) :
    Calls Try.prog 27 #[ptr l.b] w fun e w' => e = .returned (.tuple #[]) ∧ Step w l B.clear w' := by
  obtain ⟨mo, mf, mq, h⟩ := h
  have c0 := h.head.cell 0; have c1 := h.head.cell 1; have c2 := h.head.cell 2
  simp only [List.getElem?_cons_zero, List.getElem?_cons_succ] at c0 c1 c2
  have ho := h.ho; have hf := h.hf; have hq := h.hq
  have k1 := clr66 (r := l.o) (m := mo); have k2 := clr54 (r := l.f) (m := mf); have k3 := clr67 (r := l.q) (m := mq)
  have lo := World.map?_lt ho; have lf := World.map?_lt hf; have lq := World.map?_lt hq; have lb := h.head.lt
  have d1 := h.of; have d2 := h.oq; have d3 := h.fq; have d4 := h.of.symm; have d5 := h.oq.symm; have d6 := h.fq.symm
  have H := Lib.hid h
  clear h
  unfold ptr
  go_enter Try.func27, Try.ntmps27
  go_wp2
  go_end0
  exact ⟨rfl, ((((Chg.refl _ w).setMap _ (fun _ => .inr (.inl rfl))).setMap _ (fun _ => .inr (.inr (.inl rfl)))).setMap _ (fun _ => .inr (.inr (.inr rfl)))), [], ⟨_, _, _, H.out.clear⟩, fun p hp => by cases hp⟩
end Go.Proofs.Ytenkglbnlealbaa
