import Derived.Test.YtenkglbnlealbaaO5
namespace Go.Proofs.Ytenkglbnlealbaa
open Go.RowKit
def Msg.right (m : Msg) : Bool := decide (m.kind = 2) && rightU 1 0 1 m.st m.bind m.client m.pot m.time m.ok
def Msg.bare (m : Msg) : Msg := { m with life := 0, seen := 0, xid := 0 }
def Box.Put (B : Box) (m : Msg) : Int × Box := if m.right = false then (2, B) else if 1073741824 ≤ B.X then (3, B) else (0, B.put m.bare)
theorem Put_any (m : Msg) (w : World) (l : Place) (B : Box) (h : Here w l B) :
    Calls Try.prog 10 #[ptr l.b, m.val] w fun e w' => e = .returned (errNo (B.Put m).1) ∧ Step w l (B.Put m).2 w' := by
  obtain ⟨k, ll, s, x, st, a, bi, c, p, t, ok⟩ := m
  by_cases hk : k = 2
  · subst hk
    cases hr : rightU 1 0 1 st bi c p t ok with
    | false =>
      have e : B.Put ⟨2, ll, s, x, st, a, bi, c, p, t, ok⟩ = (2, B) := by unfold Box.Put; rw [if_pos (by simp [Msg.right, hr])]
      rw [e]
      exact Put_wrong ll s x st a bi c p t ok w l B h hr
    | true =>
      by_cases hX : 1073741824 ≤ B.X
      · have e : B.Put ⟨2, ll, s, x, st, a, bi, c, p, t, ok⟩ = (3, B) := by unfold Box.Put; rw [if_neg (by simp [Msg.right, hr]), if_pos hX]
        rw [e]
        exact Put_full ll s x st a bi c p t ok w l B h hr hX
      · have e : B.Put ⟨2, ll, s, x, st, a, bi, c, p, t, ok⟩ = (0, B.put ⟨2, 0, 0, 0, st, a, bi, c, p, t, ok⟩) := by unfold Box.Put; rw [if_neg (by simp [Msg.right, hr]), if_neg hX]; rfl
        rw [e]
        exact Put_well ll s x st a bi c p t ok w l B h hr (by omega)
  · have e : B.Put ⟨k, ll, s, x, st, a, bi, c, p, t, ok⟩ = (2, B) := by unfold Box.Put; rw [if_pos (by simp [Msg.right, hk])]
    rw [e]
    exact Put_kind k ll s x st a bi c p t ok hk w l B h
/-- what is out under a number -/
def Box.find (B : Box) (n : Int) : Option Msg := (B.L.find? fun x => x.1.xid == n).map (·.1)
def Box.acked1 (B : Box) (n : Int) : Box := { B with L := B.L.filter fun x => x.1.xid != n }
def Box.acked (B : Box) (n : Int) : Box :=
  match B.find n with
  | none => B
  | some m => (B.acked1 n).goes m.addr
theorem zip_maps {α β : Type} : ∀ Z : List (α × β), (Z.map (·.1)).zip (Z.map (·.2)) = Z
  | [] => rfl
  | z :: Z => by simp [zip_maps Z]
theorem maps_zip {α β : Type} : ∀ (L : List α) (M : List β), M.length = L.length → (L.zip M).map (·.1) = L ∧ (L.zip M).map (·.2) = M
  | [], [], _ => ⟨rfl, rfl⟩
  | x :: L, y :: M, h => by
    obtain ⟨h1, h2⟩ := maps_zip L M (by simpa using h)
    exact ⟨by simp [h1], by simp [h2]⟩
  | [], _ :: _, h => by simp at h
  | _ :: _, [], h => by simp at h
def Place.without (l : Place) (B : Box) (n : Int) : Place := { l with ps := ((B.L.zip l.ps).filter fun z => z.1.1.xid != n).map (·.2) }
section
variable {w w' : World} {l : Place} {B : Box} {mo mf mq : Array MapEntry × Nat}
theorem pair_unique {α : Type} {f : α → Int} {L : List α} (h : L.Pairwise fun x y => f x ≠ f y) {x y : α} (hx : x ∈ L) (hy : y ∈ L) (e : f x = f y) : x = y := by
  induction L with
  | nil => cases hx
  | cons z L ih =>
    obtain ⟨h1, h2⟩ := List.pairwise_cons.1 h
    rcases List.mem_cons.1 hx with hx' | hx'
    · rcases List.mem_cons.1 hy with hy' | hy'
      · rw [hx', hy']
      · subst hx'; exact absurd e (h1 _ hy')
    · rcases List.mem_cons.1 hy with hy' | hy'
      · subst hy'; exact absurd e.symm (h1 _ hx')
      · exact ih h2 hx' hy'
theorem Place.Ok.addrs (h : l.Ok w B mo mf mq) : B.L.Pairwise fun x y => x.1.addr ≠ y.1.addr := by
  have := h.if_.nodup
  rw [List.pairwise_map] at this
  exact this
theorem Place.Ok.xids (h : l.Ok w B mo mf mq) : B.L.Pairwise fun x y => x.1.xid ≠ y.1.xid := h.rise.imp (fun h => by omega)
theorem Place.Ok.found (h : l.Ok w B mo mf mq) {n : Int} {m : Msg} (hf : B.find n = some m) : m.xid = n ∧ ∃ s p, ((m, s), p) ∈ B.L.zip l.ps ∧ IM.get mo.1 n = some (ptr p) ∧ Blk w p (m.cells ++ [.int .i64 s]) 75 := by
  unfold Box.find at hf
  cases hx : B.L.find? (fun x => x.1.xid == n) with
  | none => rw [hx] at hf; cases hf
  | some x =>
    rw [hx] at hf
    obtain ⟨m', s⟩ := x
    simp at hf
    subst hf
    have h1 := List.mem_of_find?_eq_some hx
    have h2 := List.find?_some hx
    simp at h2
    rw [← (maps_zip B.L l.ps h.len).1] at h1
    obtain ⟨⟨y, p⟩, hz, e⟩ := List.mem_map.1 h1
    simp at e
    subst e
    exact ⟨h2, s, p, hz, h.io.get_some (List.mem_map.2 ⟨_, hz, by simp [h2]⟩), h.outs _ hz⟩
theorem Place.Ok.not_found (h : l.Ok w B mo mf mq) {n : Int} (hf : B.find n = none) : IM.get mo.1 n = none := by
  refine h.io.get_none (fun x hx e => ?_)
  obtain ⟨z, hz, rfl⟩ := List.mem_map.1 hx
  simp at e
  unfold Box.find at hf
  simp at hf
  exact hf _ _ (List.of_mem_zip hz).1 e
theorem Place.Ok.acked1 (h : l.Ok w B mo mf mq) {n : Int} {m : Msg} (hf : B.find n = some m) (hc : Chg (fun k => k = l.o ∨ k = l.f) w w') (h2 : w'.map? l.o = some (IM.del mo n)) (h3 : w'.map? l.f = some (IM.del mf m.addr)) :
    (l.without B n).Ok w' (B.acked1 n) (IM.del mo n) (IM.del mf m.addr) mq := by
  obtain ⟨hn, s, p, hz, _, _⟩ := h.found hf
  have eL : (B.acked1 n).L = ((B.L.zip l.ps).filter fun z => z.1.1.xid != n).map (·.1) := by
    unfold Box.acked1
    conv => lhs; rw [← (maps_zip B.L l.ps h.len).1]
    rw [List.filter_map]
    rfl
  have ez : (B.acked1 n).L.zip (l.without B n).ps = (B.L.zip l.ps).filter fun z => z.1.1.xid != n := by
    rw [eL]; exact zip_maps _
  have sub : (B.acked1 n).L.Sublist B.L := List.filter_sublist
  refine ⟨hc.blk h.head (fun e => e.elim (fun e => h.head.ne_map h.ho e.symm) (fun e => h.head.ne_map h.hf e.symm)), h2, h3, hc.map h.hq (fun e => e.elim (fun e => h.oq e.symm) (fun e => h.fq e.symm)), h.of, h.oq, h.fq, ?_, ?_, ?_, ?_, ?_, ?_, ?_, ?_, h.x0, h.x1, fun x hx => h.sents x (sub.mem hx)⟩
  · rw [eL]; simp [Place.without]
  · have : (l.without B n).ps.Sublist l.ps := by
      conv => rhs; rw [← (maps_zip B.L l.ps h.len).2]
      exact List.filter_sublist.map _
    exact h.nodup.sublist this
  · rw [ez]
    have := h.io.del n
    rw [List.filter_map] at this
    exact this
  · have := h.if_.del m.addr
    rw [List.filter_map] at this
    have e : List.filter ((fun p => p.1 != m.addr) ∘ fun x : Msg × Int => (x.1.addr, Value.int .i64 x.1.xid)) B.L = (B.acked1 n).L := by
      unfold Box.acked1
      refine List.filter_congr (fun x hx => ?_)
      have hm := (List.of_mem_zip hz).1
      simp only [Function.comp_apply]
      by_cases e1 : x.1.addr = m.addr
      · have := pair_unique (f := fun x : Msg × Int => x.1.addr) h.addrs hx hm e1
        subst this
        simp [hn]
      · by_cases e2 : x.1.xid = n
        · have := pair_unique (f := fun x : Msg × Int => x.1.xid) h.xids hx hm (e2.trans hn.symm)
          subst this
          exact absurd rfl e1
        · rw [bne_iff_ne.2 e1, bne_iff_ne.2 e2]
    rw [e] at this
    exact this
  · exact h.iq
  · intro x hx
    rw [ez] at hx
    have hx' := (List.mem_filter.1 hx).1
    exact hc.blk (h.outs x hx') (fun e => h.ps_core (List.of_mem_zip hx').2 (e.elim (fun e => .inr (.inl e)) (fun e => .inr (.inr (.inl e)))))
  · exact h.rise.sublist sub
  · exact fun x hx => h.low x (sub.mem hx)
end
section
variable {r : Nat} {m : Array MapEntry × Nat}
theorem del66 (n : Int) (hw : IM.Wf .i64 m) : ∀ (wx : World) (T : TypeId), wx.map? r = some m → (Builtin.delete_ #[66, 3] T #[.map (some r), .int .i64 n]).run Try.prog wx = .ok (.tuple #[]) (wx.setMap r (IM.del m n)) :=
  fun wx _ h => IM.run_delete_m wx Try.underlying66 Try.underlying3 h hw
theorem del54 (n : Int) (hw : IM.Wf .u32 m) : ∀ (wx : World) (T : TypeId), wx.map? r = some m → (Builtin.delete_ #[54, 30] T #[.map (some r), .int .u32 n]).run Try.prog wx = .ok (.tuple #[]) (wx.setMap r (IM.del m n)) :=
  fun wx _ h => IM.run_delete_m wx Try.underlying54 Try.underlying30 h hw
end
def noMsg : Msg := ⟨0, 0, 0, 0, 0, 0, 0, ⟨#[]⟩, 0, 0, false⟩
set_option maxRecDepth 100000 in
set_option maxHeartbeats 1000000 in
theorem Acked_none (n : Int) (w : World) (l : Place) (B : Box) (h : Here w l B) (hf : B.find n = none) :
    Calls Try.prog 12 #[ptr l.b, .int .i64 n] w fun e w' => e = .returned (.tuple #[noMsg.val, .bool false]) ∧ Step w l B w' := by
  obtain ⟨mo, mf, mq, h1⟩ := h
  have g1 := h1.not_found hf
  have c0 := h1.head.cell 0
  simp only [List.getElem?_cons_zero] at c0
  have ho := h1.ho
  have k1 := look66 (r := l.o) n h1.io.wf
  have lb := h1.head.lt; have lo := World.map?_lt ho
  have H := Lib.hid h1
  clear h1 hf
  unfold ptr
  go_enter Try.func12, Try.ntmps12
  go_wp2_with fail
  refine bodyPost_ret (v := .tuple #[noMsg.val, .bool false]) (by simp [results, Try.results12, go_sem, noMsg, Msg.val, Msg.cells]) rfl ⟨rfl, Step.same ⟨_, _, _, H.out⟩ ?_⟩
  exact (Chg.refl _ _).alloc _
set_option maxRecDepth 100000 in
set_option maxHeartbeats 1000000 in
theorem Acked_some (n : Int) (m : Msg) (w : World) (l : Place) (B : Box) (h : Here w l B) (hf : B.find n = some m) :
    Calls Try.prog 12 #[ptr l.b, .int .i64 n] w fun e w' => e = .returned (.tuple #[m.val, .bool true]) ∧ Step w l (B.acked n) w' := by
  obtain ⟨mo, mf, mq, h1⟩ := h
  obtain ⟨hn, s, p, hz, g1, hb⟩ := h1.found hf
  have c0 := h1.head.cell 0; have c1 := h1.head.cell 1
  have b5 := hb.cell 5
  simp only [Msg.cells, List.cons_append, List.nil_append, List.getElem?_cons_zero, List.getElem?_cons_succ] at c0 c1 b5
  have ho := h1.ho; have hfm := h1.hf
  have k1 := look66 (r := l.o) n h1.io.wf
  have k2 := del66 (r := l.o) n h1.io.wf
  have k3 := del54 (r := l.f) m.addr h1.if_.wf
  have lb := h1.head.lt; have lp := hb.lt
  have lo := World.map?_lt ho; have lf := World.map?_lt hfm
  have d1 := h1.of; have d2 := h1.of.symm
  have H := Lib.hid h1; have HF := Lib.hid hf; have HB := Lib.hid hb; have HZ := Lib.hid hz
  clear h1 hf hn hb hz
  unfold ptr at g1 ⊢
  go_enter Try.func12, Try.ntmps12
  go_wp2_with fail
  have hA : (l.without B n).Ok ((w.setMap l.o (IM.del mo n)).setMap l.f (IM.del mf m.addr)) (B.acked1 n) (IM.del mo n) (IM.del mf m.addr) mq :=
    H.out.acked1 HF.out (((Chg.refl _ w).setMap _ (fun _ => .inl rfl)).setMap _ (fun _ => .inr rfl)) (by rw [World.map?_setMap_other _ _ _ _ d1, World.map?_setMap_same _ _ _ lo]) (by rw [World.map?_setMap_same _ _ _ (by rw [World.size_setMap]; exact lf)])
  have hA2 := hA.keep (S := fun _ => False) ((Chg.refl _ _).alloc (.cells zeroMsg.toArray 35)) (fun _ _ h => h)
  refine (goes_any m.addr _ (l.without B n) _ _ _ _ hA2).mono ?_
  rintro e w3 ⟨rfl, hc3, ps, mo', mf', mq', h3, hp⟩
  have hcore : (l.without B n).core = l.core := rfl
  rw [hcore] at hc3
  have hpn := H.out.ps_core (List.of_mem_zip HZ.out).2
  have hw1 : Chg l.core w ((w.setMap l.o (IM.del mo n)).setMap l.f (IM.del mf m.addr)) := ((Chg.refl _ w).setMap _ (fun _ => .inr (.inl rfl))).setMap _ (fun _ => .inr (.inr (.inl rfl)))
  have sz : ((w.setMap l.o (IM.del mo n)).setMap l.f (IM.del mf m.addr)).heap.size = w.heap.size := by simp [World.size_setMap]
  have hb3 := ((hw1.alloc (.cells zeroMsg.toArray 35)).trans hc3).blk HB.out hpn
  have hr3 := hc3.blk (Blk.new ((w.setMap l.o (IM.del mo n)).setMap l.f (IM.del mf m.addr)) zeroMsg 35) (by
    rw [sz]
    rintro (e | e | e | e)
    · omega
    · omega
    · omega
    · have := World.map?_lt H.out.hq; omega)
  rw [sz] at hr3
  have b0 := hb3.cell 0; have b1 := hb3.cell 1; have b2 := hb3.cell 2; have b3 := hb3.cell 3; have b4 := hb3.cell 4; have b6 := hb3.cell 6; have b7 := hb3.cell 7; have b8 := hb3.cell 8; have b9 := hb3.cell 9; have b10 := hb3.cell 10
  clear b5
  have b5 := hb3.cell 5
  have r0 := hr3.cell 0; have r1 := hr3.cell 1; have r2 := hr3.cell 2; have r3 := hr3.cell 3; have r4 := hr3.cell 4; have r5 := hr3.cell 5; have r6 := hr3.cell 6; have r7 := hr3.cell 7; have r8 := hr3.cell 8; have r9 := hr3.cell 9; have r10 := hr3.cell 10
  simp only [Msg.cells, List.cons_append, List.nil_append, List.getElem?_cons_zero, List.getElem?_cons_succ] at b0 b1 b2 b3 b4 b5 b6 b7 b8 b9 b10
  simp only [zeroMsg, List.getElem?_cons_zero, List.getElem?_cons_succ] at r0 r1 r2 r3 r4 r5 r6 r7 r8 r9 r10
  have f3 := hr3.frozen
  have hall : Chg l.core w w3 := (hw1.alloc (.cells zeroMsg.toArray 35)).trans hc3
  have HA := Lib.hid hall; have H3 := Lib.hid h3; have HP := Lib.hid hp; have SZ := Lib.hid sz
  clear hA hA2 hc3 h3 hp hcore hw1 sz hb3 hr3 hall k1 k2 k3 g1 c0 c1
  go_wp2_with fail
  refine bodyPost_ret (v := .tuple #[m.val, .bool true]) (by simp [results, Try.results12, go_sem, Msg.val, Msg.cells, r0, r1, r2, r3, r4, r5, r6, r7, r8, r9, r10]) rfl ⟨rfl, ?_⟩
  have he : B.acked n = (B.acked1 n).goes m.addr := by unfold Box.acked; rw [HF.out]
  rw [he]
  have hold : ∀ k, ({ l with ps := ps } : Place).has k → k ≠ w.heap.size := by
    intro k hk e
    rcases hk with hk | hk | hk | hk | hk
    · have := H.out.head.lt; simp only at hk; omega
    · simp only at hk; omega
    · simp only at hk; omega
    · have := World.map?_lt H.out.hq; simp only at hk; omega
    · rcases HP.out k hk with h | h
      · have : k ∈ l.ps := by
          have : (l.without B n).ps.Sublist l.ps := by
            conv => rhs; rw [← (maps_zip B.L l.ps H.out.len).2]
            exact List.filter_sublist.map _
          exact this.mem h
        have := H.out.lt (.inr (.inr (.inr (.inr this))))
        omega
      · rw [World.size_alloc, SZ.out] at h; omega
  have hlast : ∀ w4 : World, Chg (fun k => k = w.heap.size) w3 w4 → Step w l ((B.acked1 n).goes m.addr) w4 := by
    intro w4 h4
    refine ⟨HA.out.trans' h4 (fun i hi e => by omega), ps, ⟨_, _, _, H3.out.keep h4 hold⟩, fun k hk => ?_⟩
    rcases HP.out k hk with h | h
    · left
      have : (l.without B n).ps.Sublist l.ps := by
        conv => rhs; rw [← (maps_zip B.L l.ps H.out.len).2]
        exact List.filter_sublist.map _
      exact this.mem h
    · right; rw [World.size_alloc, SZ.out] at h; omega
  refine hlast _ ?_
  with_reducible (repeat (first | exact Chg.refl _ _ | (refine Chg.setCell ?_ _ (fun _ => rfl))))
theorem Acked_any (n : Int) (w : World) (l : Place) (B : Box) (h : Here w l B) :
    Calls Try.prog 12 #[ptr l.b, .int .i64 n] w fun e w' => e = .returned (.tuple #[((B.find n).getD noMsg).val, .bool (B.find n).isSome]) ∧ Step w l (B.acked n) w' := by
  cases hf : B.find n with
  | none =>
    have he : B.acked n = B := by unfold Box.acked; rw [hf]
    rw [he]
    exact Acked_none n w l B h hf
  | some m => exact Acked_some n m w l B h hf
end Go.Proofs.Ytenkglbnlealbaa
