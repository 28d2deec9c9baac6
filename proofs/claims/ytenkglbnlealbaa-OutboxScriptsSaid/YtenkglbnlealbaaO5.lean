import Derived.Test.YtenkglbnlealbaaO4
namespace Go.Proofs.Ytenkglbnlealbaa
open Go.RowKit
/-- A box lies at l. -/
def Here (w : World) (l : Place) (B : Box) : Prop := ∃ mo mf mq, l.Ok w B mo mf mq
/-- A step of a box. -/
def Step (w : World) (l : Place) (B' : Box) (w' : World) : Prop := Chg l.core w w' ∧ ∃ ps, Here w' { l with ps := ps } B' ∧ ∀ p ∈ ps, p ∈ l.ps ∨ w.heap.size ≤ p
def Box.put1 (B : Box) (m : Msg) : Box := { B with W := B.W.filter (fun x => x.addr != m.addr) ++ [m] }
/-- 'Put' at an Update that is right -/
def Box.put (B : Box) (m : Msg) : Box := (B.put1 m).goes m.addr
section
variable {w w' : World} {l : Place} {B : Box} {mo mf mq : Array MapEntry × Nat}
theorem Step.same (h : Here w l B) {w' : World} (hc : Chg (fun _ => False) w w') : Step w l B w' := by
  obtain ⟨mo, mf, mq, h⟩ := h
  exact ⟨hc.mono (fun _ _ h => h.elim), l.ps, ⟨mo, mf, mq, h.keep hc (fun _ _ h => h)⟩, fun p hp => .inl hp⟩
theorem Place.Ok.lt (h : l.Ok w B mo mf mq) {k : Nat} (hk : l.has k) : k < w.heap.size := by
  rcases hk with rfl | rfl | rfl | rfl | hk
  · exact h.head.lt
  · exact World.map?_lt h.ho
  · exact World.map?_lt h.hf
  · exact World.map?_lt h.hq
  · obtain ⟨i, hi, rfl⟩ := List.getElem_of_mem hk
    have hi' : i < B.L.length := by rw [← h.len]; exact hi
    have hm : (B.L[i], l.ps[i]) ∈ B.L.zip l.ps := by
      rw [List.mem_iff_getElem]
      exact ⟨i, by simp; omega, by simp⟩
    exact (h.outs _ hm).lt
theorem Step.from {w0 : World} (hc : Chg l.core w0 w) {B' : Box} (h : Step w l B' w') : Step w0 l B' w' := by
  obtain ⟨h1, ps, h2, h3⟩ := h
  exact ⟨hc.trans h1, ps, h2, fun p hp => (h3 p hp).imp id (fun h => Nat.le_trans hc.size h)⟩
theorem Step.of_false {w0 : World} (hc : Chg (fun _ => False) w0 w) {B' : Box} (h : Step w l B' w') : Step w0 l B' w' := h.from (hc.mono (fun _ _ h => h.elim))
theorem Place.Ok.put1 (h : l.Ok w B mo mf mq) (m : Msg) (hc : Chg (fun k => k = l.q) w w') (hq : w'.map? l.q = some (IM.put .u32 mq m.addr m.val)) : l.Ok w' (B.put1 m) mo mf (IM.put .u32 mq m.addr m.val) := by
  refine { h with head := hc.blk h.head (fun e => h.head.ne_map h.hq e.symm), ho := hc.map h.ho h.oq, hf := hc.map h.hf h.fq, hq := hq, iq := ?_, outs := ?_ }
  · have := h.iq.put m.addr m.val
    unfold Box.put1
    simp only [List.map_append, List.map_cons, List.map_nil]
    rw [List.filter_map] at this
    exact this
  · intro x hx
    exact hc.blk (h.outs x hx) (fun e => h.ps_core (List.of_mem_zip hx).2 (.inr (.inr (.inr e))))
end
theorem upd67 {r : Nat} {m : Array MapEntry × Nat} (n : Int) (hw : IM.Wf .u32 m) : ∀ (wx : World) (v : Value), wx.map? r = some m → (Instr.mapUpdate 67 (.map (some r)) (.int .u32 n) v).run Try.prog wx = .ok () (wx.setMap r (IM.put .u32 m n v)) :=
  fun wx v h => IM.run_mapUpdate_m wx v Try.underlying67 Try.underlying30 h hw
def errNo (n : Int) : Value := .int .i64 n
set_option maxRecDepth 100000 in
set_option maxHeartbeats 1000000 in
theorem Put_kind (k ll s x st a bi : Int) (c : ByteArray) (p t : Int) (ok : Bool) (hk : ¬ k = 2) (w : World) (l : Place) (B : Box) (h : Here w l B) :
    Calls Try.prog 10 #[ptr l.b, .agg #[.int .i64 k, .int .i64 ll, .int .i64 s, .int .i64 x, .int .i64 st, .int .u32 a, .int .i64 bi, .string c, .int .i64 p, .int .i64 t, .bool ok]] w fun e w' =>
      e = .returned (errNo 2) ∧ Step w l B w' := by
  have hk2 : (k != 2) = true := by simpa using hk
  have H := Lib.hid h
  clear h hk
  unfold ptr errNo
  go_enter Try.func10, Try.ntmps10
  go_wp2_with fail
  go_ret
  refine ⟨rfl, Step.same H.out ?_⟩
  exact (Chg.refl _ _).alloc _
set_option maxRecDepth 100000 in
set_option maxHeartbeats 1000000 in
theorem Put_wrong (ll s x st a bi : Int) (c : ByteArray) (p t : Int) (ok : Bool) (w : World) (l : Place) (B : Box) (h : Here w l B) (hr : rightU 1 0 1 st bi c p t ok = false) :
    Calls Try.prog 10 #[ptr l.b, .agg #[.int .i64 2, .int .i64 ll, .int .i64 s, .int .i64 x, .int .i64 st, .int .u32 a, .int .i64 bi, .string c, .int .i64 p, .int .i64 t, .bool ok]] w fun e w' =>
      e = .returned (errNo 2) ∧ Step w l B w' := by
  have H := Lib.hid h
  have HR := Lib.hid hr
  clear h hr
  unfold ptr errNo
  go_enter Try.func10, Try.ntmps10
  go_wp2_with fail
  refine (Right_upd _ _ _ _ _ _ _ _ _ _ _).mono ?_
  rw [HR.out]
  rintro e w2 ⟨rfl, hc⟩
  have HC := Lib.hid hc
  clear hc
  go_wp2_with fail
  go_ret
  refine ⟨rfl, Step.same H.out ?_⟩
  exact ((Chg.refl _ _).alloc _).trans HC.out
set_option maxRecDepth 100000 in
set_option maxHeartbeats 1000000 in
theorem Put_full (ll s x st a bi : Int) (c : ByteArray) (p t : Int) (ok : Bool) (w : World) (l : Place) (B : Box) (h : Here w l B) (hr : rightU 1 0 1 st bi c p t ok = true) (hX : 1073741824 ≤ B.X) :
    Calls Try.prog 10 #[ptr l.b, .agg #[.int .i64 2, .int .i64 ll, .int .i64 s, .int .i64 x, .int .i64 st, .int .u32 a, .int .i64 bi, .string c, .int .i64 p, .int .i64 t, .bool ok]] w fun e w' =>
      e = .returned (errNo 3) ∧ Step w l B w' := by
  obtain ⟨mo, mf, mq, h1⟩ := h
  have H := Lib.hid h1
  have HR := Lib.hid hr
  have HH := Lib.hid h1.head
  clear h1 hr
  unfold ptr errNo
  go_enter Try.func10, Try.ntmps10
  go_wp2_with fail
  refine (Right_upd _ _ _ _ _ _ _ _ _ _ _).mono ?_
  rw [HR.out]
  rintro e w2 ⟨rfl, hc⟩
  have c3 := (hc.blk (HH.out.alloc _) (fun h => h)).cell 3
  simp only [List.getElem?_cons_zero, List.getElem?_cons_succ] at c3
  have HC := Lib.hid hc
  clear hc
  go_wp2_with fail
  go_ret
  refine ⟨rfl, Step.same ⟨_, _, _, H.out⟩ ?_⟩
  exact ((Chg.refl _ _).alloc _).trans HC.out
set_option maxRecDepth 100000 in
set_option maxHeartbeats 1000000 in
theorem Put_well (ll s x st a bi : Int) (c : ByteArray) (p t : Int) (ok : Bool) (w : World) (l : Place) (B : Box) (h : Here w l B) (hr : rightU 1 0 1 st bi c p t ok = true) (hX : B.X < 1073741824) :
    Calls Try.prog 10 #[ptr l.b, .agg #[.int .i64 2, .int .i64 ll, .int .i64 s, .int .i64 x, .int .i64 st, .int .u32 a, .int .i64 bi, .string c, .int .i64 p, .int .i64 t, .bool ok]] w fun e w' =>
      e = .returned (errNo 0) ∧ Step w l (B.put ⟨2, 0, 0, 0, st, a, bi, c, p, t, ok⟩) w' := by
  obtain ⟨mo, mf, mq, h1⟩ := h
  have H := Lib.hid h1
  have HR := Lib.hid hr
  clear h1 hr
  unfold ptr errNo
  go_enter Try.func10, Try.ntmps10
  go_wp2_with fail
  refine (Right_upd _ _ _ _ _ _ _ _ _ _ _).mono ?_
  rw [HR.out]
  rintro e w2 ⟨rfl, hc⟩
  have hb := hc.blk (Blk.new w [.int .i64 2, .int .i64 1, .int .i64 0, .int .i64 1, .int .i64 st, .int .u32 a, .int .i64 bi, .string c, .int .i64 p, .int .i64 t, .bool ok] 35) (fun h => h)
  have hk : l.Ok w2 B mo mf mq := H.out.keep (((Chg.refl _ _).alloc _).trans hc) (fun _ _ h => h)
  have c0 := hk.head.cell 0; have c1 := hk.head.cell 1; have c2 := hk.head.cell 2; have c3 := hk.head.cell 3
  have b0 := hb.cell 0; have b1 := hb.cell 1; have b2 := hb.cell 2; have b3 := hb.cell 3; have b4 := hb.cell 4; have b5 := hb.cell 5; have b6 := hb.cell 6; have b7 := hb.cell 7; have b8 := hb.cell 8; have b9 := hb.cell 9; have b10 := hb.cell 10
  simp only [List.getElem?_cons_zero, List.getElem?_cons_succ] at c0 c1 c2 c3 b0 b1 b2 b3 b4 b5 b6 b7 b8 b9 b10
  have f1 := hb.frozen
  have hq := hk.hq
  have u1 := upd67 (r := l.q) a hk.iq.wf
  have lb : l.b < w.heap.size := H.out.head.lt
  have HC := Lib.hid hc; have HK := Lib.hid hk; have HB := Lib.hid hb
  clear hc hk hb
  go_wp2_with fail
  refine wp_region_still_tail 7 (by kernel_rfl) (by kernel_rfl) ?_
  simp only [World.drew_eq, List.take_succ_cons, List.take_zero, List.drop_succ_cons, List.drop_zero]
  repeat still_step
  refine wpStill_nil ?_
  go_wp2_with fail
  have hs1 : Chg (fun k => k = w.heap.size) w2 ((w2.setCell ⟨w.heap.size, 1, none⟩ (.int .i64 0)).setCell ⟨w.heap.size, 3, none⟩ (.int .i64 0)) :=
    ((Chg.refl (fun k => k = w.heap.size) w2).setCell (p := ⟨w.heap.size, 1, none⟩) _ (fun _ => rfl)).setCell (p := ⟨w.heap.size, 3, none⟩) _ (fun _ => rfl)
  have hk1 := HK.out.keep hs1 (fun k hk e => by have := H.out.lt hk; omega)
  have hk2 := (hk1.put1 ⟨2, 0, 0, 0, st, a, bi, c, p, t, ok⟩ ((Chg.refl _ _).setMap (r := l.q) (IM.put .u32 mq a (Msg.val ⟨2, 0, 0, 0, st, a, bi, c, p, t, ok⟩)) (fun _ => rfl)) (World.map?_setMap_same _ _ _ (World.map?_lt hk1.hq)))
  have hk3 := hk2.keep (S := fun _ => False) (Chg.drew (Chg.refl _ _)) (fun _ _ h => h)
  refine (goes_any a _ l _ mo mf _ hk3).mono ?_
  rintro e w3 ⟨rfl, hc3, ps, mo', mf', mq', h3, hp⟩
  have hall : Chg l.core w w3 := ((((Chg.refl _ w).alloc _).trans (HC.out.mono (fun _ _ h => h.elim))).trans' hs1 (fun i hi e => by omega)).trans (Chg.trans (Chg.drew (Chg.setMap (Chg.refl _ _) _ (fun _ => .inr (.inr (.inr rfl))))) hc3)
  have HA := Lib.hid hall; have H3 := Lib.hid h3; have HP := Lib.hid hp
  clear hs1 hk1 hk2 hk3 hc3 h3 hp hall
  go_wp2_with fail
  go_ret
  refine ⟨rfl, HA.out, ps, ⟨_, _, _, H3.out⟩, fun p hp => (HP.out p hp).imp id (fun h => ?_)⟩
  have := HC.out.size
  simp [World.size_setMap] at h this
  omega
end Go.Proofs.Ytenkglbnlealbaa
