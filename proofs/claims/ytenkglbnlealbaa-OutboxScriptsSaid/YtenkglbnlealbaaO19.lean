import Derived.Test.YtenkglbnlealbaaO18
namespace Go.Proofs.Ytenkglbnlealbaa
open Go.RowKit
attribute [local go_sem] Oper.semAt_some
theorem ownsRow_slice {w : World} {e : TypeId} {size : Nat} {v : Value} {n : Nat} {xs : List Value} (h : w.ownsRow 0 e size v n xs) : ∃ a cap, v = .slice a n cap := by
  rcases h.2 with ⟨h, hz⟩ | ⟨g, cap, cur, h, _⟩
  · exact ⟨none, 0, by rw [h, hz]⟩
  · exact ⟨_, cap, h⟩
theorem ownsRow_cells {w : World} {e : TypeId} {size : Nat} {v : Value} {n : Nat} {xs : List Value} (h : w.ownsRow 0 e size v n xs) (hn : 0 < n) :
    ∃ g cap, v = .slice (some ⟨g, 0, none⟩) n cap ∧ g < w.heap.size ∧ ∀ j x, xs[j]? = some x → w.cell? ⟨g, j, none⟩ = some x := by
  rcases h.2 with ⟨h2, hz⟩ | ⟨g, cap, cur, h2, _, hg, _⟩
  · omega
  · refine ⟨g, cap, h2, (Array.getElem?_eq_some_iff.1 hg).1, fun j x hx => ?_⟩
    have := h.cells (g := g) (by rw [h2]; rfl) j x hx
    have e : (⟨g, 0, none⟩ : Addr).add j = ⟨g, j, none⟩ := by unfold Addr.add; split <;> simp_all
    rwa [e] at this
theorem upd_any (a pot : Int) (w : World) : Calls Try.prog 11 #[.int .u32 a, .int .i64 pot] w fun e w' => e = .returned (upd a pot).val ∧ Chg (fun _ => False) w w' := by
  have h := update_any a pot w
  have e : Msg.val ⟨2, 0, 0, 0, 0, a, 2, ⟨#[97]⟩, bits BinOp.and IntKind.i64 pot 65535, 0, false⟩ = (upd a pot).val := by rw [← updM_eq]; rfl
  rwa [e] at h
theorem aw1 : emptyBox.Put (upd 1 5) = (0, ⟨[({ upd 1 5 with xid := 1 }, -1)], [], 1⟩) := by
  rw [Put_upd _ _ _ (by decide)]; rfl
def aw2B : Box := ⟨[({ upd 1 5 with xid := 1 }, -1)], [upd 1 6], 1⟩
theorem aw2 : (Box.Put ⟨[({ upd 1 5 with xid := 1 }, -1)], [], 1⟩ (upd 1 6)) = (0, aw2B) := by
  rw [Put_upd _ _ _ (by decide)]; rfl
def aw3B : Box := ⟨[({ upd 1 5 with xid := 1 }, 0)], [upd 1 6], 1⟩
theorem aw3 : aw2B.tick 0 = aw3B := rfl
theorem aw3t : aw2B.told 0 = [{ upd 1 5 with xid := 1 }] := rfl
def aw4B : Box := ⟨[({ upd 1 6 with xid := 2 }, -1)], [], 2⟩
theorem aw4 : aw3B.acked 1 = aw4B := rfl
theorem aw4f : aw3B.find 1 = some { upd 1 5 with xid := 1 } := rfl
theorem aw5t : aw4B.told 0 = [{ upd 1 6 with xid := 2 }] := rfl
set_option maxRecDepth 100000 in
set_option maxHeartbeats 1000000 in
theorem awake_any (w : World) : Calls Try.prog 8 #[] w fun e w' => e = .returned (.bool true) ∧ Chg (fun _ => False) w w' := by
  go_enter Try.func8, Try.ntmps8
  go_wp2_with fail
  refine (New_bx w.heap.size [] w (Nat.le_refl _) (by simp)).mono ?_
  rintro e w1 ⟨b, rfl, hb1, hc1⟩
  have H1 := Lib.hid hb1; have C1 := Lib.hid hc1
  clear hb1 hc1
  go_wp2_with fail
  refine (News_any w1).mono ?_
  rintro e w2 ⟨rfl, hc2, hs⟩
  have HS := Lib.hid hs; have C2 := Lib.hid hc2
  clear hs hc2
  unfold ptr
  go_wp2_with fail
  have hb2 : Boxed w.heap.size [w1.heap.size, w1.heap.size + 1] w2 b emptyBox := H1.out.keep (C2.out.mono (fun _ _ h => h.elim)) (fun k hk hi => by simp at hi; omega)
  have hz2 : w1.heap.size + 1 < w2.heap.size := HS.out.head.lt
  have hw1 := C1.out.size
  have HB2 := Lib.hid hb2
  clear hb2
  refine (upd_any 1 5 w2).mono ?_
  rintro e w3 ⟨rfl, hc3⟩
  have C3 := Lib.hid hc3
  clear hc3
  go_wp2_with fail
  have hw3 := C3.out.size
  have hb3 := HB2.out.keep (C3.out.mono (fun _ _ h => h.elim)) (fun k hk hi => hi)
  refine (Put_bx (upd 1 5) (by omega) (by simp; omega) hb3).mono ?_
  rw [aw1]
  rintro e w4 ⟨rfl, hb4, hc4⟩
  have HB4 := Lib.hid hb4; have C4 := Lib.hid hc4
  clear hb3 hb4 hc4
  unfold errNo
  go_wp2_with fail
  refine (upd_any 1 6 w4).mono ?_
  rintro e w5 ⟨rfl, hc5⟩
  have C5 := Lib.hid hc5
  clear hc5
  go_wp2_with fail
  have hw4 := C4.out.size
  have hw5 := C5.out.size
  have hb5 := HB4.out.keep (C5.out.mono (fun _ _ h => h.elim)) (fun k hk hi => hi)
  refine (Put_bx (upd 1 6) (by omega) (by simp; omega) hb5).mono ?_
  rw [aw2]
  rintro e w6 ⟨rfl, hb6, hc6⟩
  have HB6 := Lib.hid hb6; have C6 := Lib.hid hc6
  clear hb5 hb6 hc6
  unfold errNo
  go_wp2_with fail
  have hw6 := C6.out.size
  refine (Tick_bx 0 (by decide) (by decide) (by decide) HB6.out).mono ?_
  rw [aw3, aw3t]
  rintro e w7 ⟨v1, rfl, hr7, hv7, hb7, hc7⟩
  obtain ⟨a1, cap1, rfl⟩ := ownsRow_slice hr7
  have HB7 := Lib.hid hb7; have C7 := Lib.hid hc7; have HR7 := Lib.hid hr7; have HV7 := Lib.hid hv7
  clear hb7 hc7 hr7 hv7
  go_wp2_with fail
  have hw7 := C7.out.size
  refine (Acked_bx 1 (by omega) ?_ HB7.out).mono ?_
  · intro k hk
    rcases List.mem_append.1 hk with hk | hk
    · exact (HV7.out k (by simpa using hk)).2
    · simp at hk; omega
  rw [aw4, aw4f]
  rintro e w8 ⟨rfl, hb8, hc8⟩
  have HB8 := Lib.hid hb8; have C8 := Lib.hid hc8
  clear hb8 hc8
  have hw8 := C8.out.size
  simp only [Option.getD_some, Option.isSome_some]
  unfold Msg.val Msg.cells
  go_wp2_with fail
  have hb9' := Blk.new w8 (Msg.cells { upd 1 5 with xid := 1 }) 35
  obtain ⟨w9, h9⟩ : ∃ w9, w8.alloc (.cells (Msg.cells { upd 1 5 with xid := 1 }).toArray 35) = w9 := ⟨_, rfl⟩
  have c9 : Chg (fun _ => False) w8 w9 := by rw [← h9]; exact (Chg.refl _ w8).alloc _
  have C9 := Lib.hid c9
  clear c9
  rw [h9] at hb9'
  have hz9 : w9.heap.size = w8.heap.size + 1 := by rw [← h9]; simp
  have hb9 : Boxed w.heap.size [w8.heap.size, w1.heap.size, w1.heap.size + 1] w9 b aw4B := HB8.out.keep (C9.out.mono (fun _ _ h => h.elim)) (fun k hk hi => by
    simp only [List.mem_cons, List.mem_append] at hi ⊢
    rcases hi with h | h
    · omega
    · exact .inr h)
  unfold Msg.cells at h9
  simp only [] at h9
  rw [h9]
  have BK9 := Lib.hid hb9'; have HB9 := Lib.hid hb9
  clear hb9' hb9 h9
  refine (Tick_bx 0 (by decide) (by decide) (by decide) HB9.out).mono ?_
  rw [aw5t]
  rintro e w10 ⟨v2, rfl, hr10, hv10, hb10, hc10⟩
  have hc10' := hc10
  obtain ⟨g, cap2, rfl, hg, hcell⟩ := ownsRow_cells hr10 (by decide)
  have p3 := hcell 3 _ rfl
  have p8 := hcell 8 _ rfl
  have hbk := hc10.blk BK9.out (fun h => h.2 (by simp))
  have p5 := hbk.cell 8
  simp only [Msg.cells, List.getElem?_cons_succ, List.getElem?_cons_zero] at p5
  rw [show (upd 1 5).pot = 5 from rfl] at p5
  have hs10 : Chg (Mine w.heap.size [w1.heap.size, w1.heap.size + 1]) w2 w10 := by
    refine (((((((C3.out.mono (fun _ _ h => h.elim)).trans C4.out).trans (C5.out.mono (fun _ _ h => h.elim))).trans C6.out).trans C7.out).trans (C8.out.mono ?_)).trans (C9.out.mono (fun _ _ h => h.elim))).trans (hc10.mono ?_)
    · exact fun k _ h => ⟨h.1, fun hi => h.2 (List.mem_append_right _ hi)⟩
    · exact fun k _ h => ⟨h.1, fun hi => h.2 (List.mem_cons_of_mem _ hi)⟩
  have hss := HS.out.keep hs10 (fun h => h.2 (by simp)) (fun h => h.2 (by simp))
  have HSS := Lib.hid hss; have TOT := Lib.hid hs10
  clear hs10 hss hbk hr10 hv10 hb10 hc10 hc10' hcell
  go_wp2_with fail
  refine (Take_any w10 _ _ [] _ HSS.out ⟨0, 0, 0, 1, 0, 0, 0, ⟨#[]⟩, 0, 0, false⟩).mono ?_
  rintro e w11 ⟨rfl, hc11⟩
  have q3 := hc11.cell p3 (fun h => h)
  have q8 := hc11.cell p8 (fun h => h)
  have q5 := hc11.cell p5 (fun h => h)
  rw [show ({ upd 1 6 with xid := 2 } : Msg).pot = 6 from rfl] at q8
  rw [show newer [] ⟨0, 0, 0, 1, 0, 0, 0, ⟨#[]⟩, 0, 0, false⟩ = true from rfl]
  have C11 := Lib.hid hc11
  clear p3 p8 p5 hc11
  go_wp2_with fail
  go_ret
  exact ⟨rfl, (((C1.out.trans C2.out).trans' TOT.out (fun i hi h => by have := h.1; omega)).trans C11.out)⟩
end Go.Proofs.Ytenkglbnlealbaa
