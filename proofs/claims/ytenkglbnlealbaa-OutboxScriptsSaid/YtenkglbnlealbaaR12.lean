import Derived.Test.YtenkglbnlealbaaR11
import Derived.BigQuiet
/-! A step of both boxes. -/
namespace Go.Proofs.Ytenkglbnlealbaa
open Go.RowKit
attribute [local go_sem] Oper.semAt_some
def stepCells (d n : Int) (m : Msg) : List Value := .int .i64 d :: .int .i64 n :: m.cells
/-- what a step leaves -/
def Stepped (base r b k : Nat) (w : World) (e : Ending) (w' : World) : Prop := e = .returned (.bool true) ∧ (∃ B' vL' vW', Two base r b w' B' vL' vW' ∧ B'.small (k + 1)) ∧ Chg (fun j => base ≤ j) w w'
theorem small_Put {B : Box} {k : Nat} (h : B.small k) (m : Msg) : (B.Put m).2.small (k + 1) := by
  unfold Box.Put
  split
  · exact small_mono h (Nat.le_succ _)
  · split
    · exact small_mono h (Nat.le_succ _)
    · exact small_put _ h
set_option maxRecDepth 100000 in
set_option maxHeartbeats 4000000 in
theorem Step_any (base r b k : Nat) (w : World) (B : Box) (vL vW : Value) (t : Two base r b w B vL vW) (hs : B.small k) (hk : k ≤ 300) (d n : Int) (m : Msg) :
    Calls Try.prog 23 #[ptr b, ptr r, .agg (stepCells d n m).toArray] w (Stepped base r b k w) := by
  obtain ⟨hu, hX0, hsent⟩ := t.box.facts
  have hrise := t.box.rise
  have hsz := hs.1
  have T := Lib.hid t; have HS := Lib.hid hs; have HU := Lib.hid hu; have HSE := Lib.hid hsent; have HRI := Lib.hid hrise
  have t1 := t.size
  clear t hs hu hsent hrise
  unfold ptr stepCells Msg.cells
  go_enter Try.func23, Try.ntmps23
  go_upto_region 1 with (fail)
  have BK := Blk.new w (stepCells d n m) 59
  have cA := (Chg.refl (fun _ => False) w).alloc (.cells (stepCells d n m).toArray 59)
  obtain ⟨wA, hA⟩ : ∃ wA, w.alloc (.cells (stepCells d n m).toArray 59) = wA := ⟨_, rfl⟩
  have zA : w.heap.size < wA.heap.size := by rw [← hA]; simp
  rw [hA] at BK cA
  simp only [stepCells, Msg.cells] at hA
  rw [hA]
  clear hA
  have tA := T.out.keep cA
  have hbA : Boxed base (w.heap.size :: RO r vL vW) wA b B := T.out.box.keep2 cA (fun _ _ h => h.elim) (fun k hk => by
    rcases List.mem_cons.1 hk with h | h
    · exact .inr (Nat.le_of_eq h.symm)
    · exact .inl h)
  have hoA : ∀ k ∈ w.heap.size :: RO r vL vW, k < wA.heap.size := fun k hk => by
    rcases List.mem_cons.1 hk with h | h
    · omega
    · exact tA.own k h
  have hz : base ≤ wA.heap.size := tA.size
  have hmine : ∀ k, Mine base (w.heap.size :: RO r vL vW) k → Mine base (RO r vL vW) k := fun k h => ⟨h.1, fun hi => h.2 (List.mem_cons_of_mem _ hi)⟩
  have e0 := BK.cell 0
  have e1 := BK.cell 1
  have e2 := BK.cell 2
  have e3 := BK.cell 3
  have e4 := BK.cell 4
  have e5 := BK.cell 5
  have e6 := BK.cell 6
  have e7 := BK.cell 7
  have e8 := BK.cell 8
  have e9 := BK.cell 9
  have e10 := BK.cell 10
  have e11 := BK.cell 11
  have e12 := BK.cell 12
  simp only [stepCells, Msg.cells, List.getElem?_cons_zero, List.getElem?_cons_succ] at e0 e1 e2 e3 e4 e5 e6 e7 e8 e9 e10 e11 e12
  have HBK := Lib.hid BK; have CA := Lib.hid cA; have TA := Lib.hid tA; have HBA := Lib.hid hbA; have HOA := Lib.hid hoA; have HM := Lib.hid hmine
  clear BK cA tA hbA hoA hmine
  by_cases h0 : d = 0
  · subst h0
    go_wp2_with fail
    refine (Put_bx m hz HOA.out HBA.out).mono ?_
    rintro e w1 ⟨rfl, hb1, hc1⟩
    unfold errNo
    have BK := hc1.blk HBK.out (fun h => h.2 (List.mem_cons_self ..))
    clear e0 e1 e2 e3 e4 e5 e6 e7 e8 e9 e10 e11 e12
    have e2 := BK.cell 2
    have e3 := BK.cell 3
    have e4 := BK.cell 4
    have e5 := BK.cell 5
    have e6 := BK.cell 6
    have e7 := BK.cell 7
    have e8 := BK.cell 8
    have e9 := BK.cell 9
    have e10 := BK.cell 10
    have e11 := BK.cell 11
    have e12 := BK.cell 12
    simp only [stepCells, Msg.cells, List.getElem?_cons_zero, List.getElem?_cons_succ] at e2 e3 e4 e5 e6 e7 e8 e9 e10 e11 e12
    have hc1' := hc1.mono (fun k _ h => HM.out k h)
    have HB1 := Lib.hid (hb1.keep (own' := RO r vL vW) (Chg.refl _ w1) (fun _ _ h => List.mem_cons_of_mem _ h)); have C1 := Lib.hid hc1'
    clear hb1 hc1 hc1' BK
    go_wp2_with fail
    refine (RPut_any w1 r B vL vW (TA.out.after C1.out) m HU.out hX0 (by omega)).mono ?_
    rintro e w2 ⟨rfl, hr⟩
    unfold errNo
    obtain ⟨h2, hc2⟩ := TA.out.step HB1.out C1.out hr
    have hsm2 := small_Put HS.out m
    have H2 := Lib.hid h2; have C2 := Lib.hid (CA.out.mono (S' := fun j => base ≤ j) (fun _ _ h => h.elim)); have C3 := Lib.hid hc2; have HS2 := Lib.hid hsm2
    clear h2 hc2 hr hsm2
    generalize (B.Put m).2 = B' at *
    generalize (B.Put m).1 = e0 at *
    have z : (e0 == e0) = true := by simp
    go_wp2_with fail
    go_ret
    obtain ⟨v1, v2, h3⟩ := H2.out
    exact ⟨rfl, ⟨B', v1, v2, h3, HS2.out⟩, C2.out.trans C3.out⟩
  · have n0 : (d == 0) = false := by simpa using h0
    clear e2 e3 e4 e5 e6 e7 e8 e9 e10 e11 e12 h0
    by_cases h1 : d = 1
    · subst h1
      go_wp2_with fail
      refine (Acked_bx n hz HOA.out HBA.out).mono ?_
      rintro e w1 ⟨rfl, hb1, hc1⟩
      generalize hM : (B.find n).getD noMsg = M
      generalize hF : (B.find n).isSome = f
      have HMM := Lib.hid hM; have HF := Lib.hid hF
      clear hM hF
      have BKp := hc1.blk HBK.out (fun h => h.2 (List.mem_cons_self ..))
      have hc1' := hc1.mono (fun k _ h => HM.out k h)
      have HB1 := Lib.hid (hb1.keep (own' := RO r vL vW) (Chg.refl _ w1) (fun _ _ h => List.mem_cons_of_mem _ h)); have C1 := Lib.hid hc1'; have HBP := Lib.hid BKp
      have ep := BKp.cell 1
      simp only [stepCells, List.getElem?_cons_zero, List.getElem?_cons_succ] at ep
      have lp1 := BKp.lt
      clear hb1 hc1 hc1' BKp e0 e1
      unfold Msg.val Msg.cells
      go_wp2_with fail
      have BQ := Blk.new w1 M.cells 35
      have cq := (Chg.refl (fun _ => False) w1).alloc (.cells M.cells.toArray 35)
      obtain ⟨wX, hX⟩ : ∃ wX, w1.alloc (.cells M.cells.toArray 35) = wX := ⟨_, rfl⟩
      have zX : w1.heap.size < wX.heap.size := by rw [← hX]; simp
      rw [hX] at BQ cq
      unfold Msg.cells at hX
      rw [hX]
      clear hX
      have hcx : Chg (Mine base (RO r vL vW)) wA wX := C1.out.trans (cq.mono (fun _ _ h => h.elim))
      have hbx := HB1.out.keep (own' := RO r vL vW) (cq.mono (fun _ _ h => h.elim)) (fun _ _ h => h)
      have HCX := Lib.hid hcx; have HBX := Lib.hid hbx; have HBQ := Lib.hid BQ
      clear hcx hbx BQ cq
      refine (RAcked_any wX r B vL vW (TA.out.after HCX.out) n HU.out HRI.out hX0 (by omega)).mono ?_
      rw [HMM.out, HF.out]
      rintro e w2 ⟨rfl, hr⟩
      have hlow : ∀ j, RMine r vL vW j → j < wA.heap.size := fun j hj => TA.out.own j (mem_RO.2 hj)
      have hw1 := C1.out.size
      have BQ2 := hr.2.blk HBQ.out (fun h => by have := hlow _ h; omega)
      have o0 := BQ2.cell 0
      have o1 := BQ2.cell 1
      have o2 := BQ2.cell 2
      have o3 := BQ2.cell 3
      have o4 := BQ2.cell 4
      have o5 := BQ2.cell 5
      have o6 := BQ2.cell 6
      have o7 := BQ2.cell 7
      have o8 := BQ2.cell 8
      have o9 := BQ2.cell 9
      have o10 := BQ2.cell 10
      simp only [Msg.cells, List.getElem?_cons_zero, List.getElem?_cons_succ] at o0 o1 o2 o3 o4 o5 o6 o7 o8 o9 o10
      have lq2 := BQ2.lt
      obtain ⟨h2, hc2⟩ := TA.out.step HBX.out HCX.out hr
      have hsm2 := small_mono (small_acked n HS.out) (Nat.le_succ k)
      have H2 := Lib.hid h2; have C2 := Lib.hid (CA.out.mono (S' := fun j => base ≤ j) (fun _ _ h => h.elim)); have C3 := Lib.hid hc2; have HS2 := Lib.hid hsm2
      clear h2 hc2 hr hsm2 BQ2 hlow ep hw1
      generalize B.acked n = B' at *
      have z : (f == f) = true := by simp
      unfold Msg.val Msg.cells
      go_wp2_with fail
      go_ret
      obtain ⟨v1, v2, h3⟩ := H2.out
      exact ⟨rfl, ⟨B', v1, v2, h3.keep ((Chg.refl _ w2).alloc _), HS2.out⟩, (C2.out.trans C3.out).alloc _⟩
    · have n1 : (d == 1) = false := by simpa using h1
      clear h1
      by_cases h2 : d = 2
      · subst h2
        have HSE2 := HSE
        by_cases hn : 0 ≤ n ∧ n ≤ 1099511627776
        · obtain ⟨q0, q1⟩ := hn
          go_wp2_with fail
          refine (Tick_bx n q0 q1 (by omega) HBA.out).mono ?_
          rintro e w1 ⟨v, rfl, hr1, hv1, hb1, hc1⟩
          have BKp := hc1.blk HBK.out (fun h => h.2 (List.mem_cons_self ..))
          have hc1' := hc1.mono (fun k _ h => HM.out k h)
          have HB1 := Lib.hid (hb1.keep (own' := RO r vL vW) (Chg.refl _ w1) (fun _ _ h => List.mem_append_right _ (List.mem_cons_of_mem _ h))); have C1 := Lib.hid hc1'
          have ep := BKp.cell 1
          simp only [stepCells, List.getElem?_cons_zero, List.getElem?_cons_succ] at ep
          obtain ⟨a1, cap1, rfl⟩ := ownsRow_slice hr1
          have HR1 := Lib.hid hr1; have HV1 := Lib.hid hv1
          clear hb1 hc1 hc1' BKp e0 e1 hr1 hv1
          go_wp2_with fail
          refine (RTick_any w1 r B vL vW (TA.out.after C1.out) n q0 q1 (by omega) HSE.out).mono ?_
          rintro e w2 ⟨v2, rfl, hr2, hv2, hrb, hc2⟩
          obtain ⟨a2, cap2, rfl⟩ := ownsRow_slice hr2
          have hlow : ∀ j, RMine r vL vW j → j < wA.heap.size := fun j hj => TA.out.own j (mem_RO.2 hj)
          have hr1b := HR1.out.keep hc2 (fun j hj h => by have := hlow j (.inr (.inl h)); have := (HV1.out j hj).1; omega)
          have hst : RStep w1 r vL vW w2 (B.tick n) := ⟨⟨vL, vW, hrb, fun _ h => .inl h⟩, hc2.mono (fun j _ h => .inr (.inl h))⟩
          obtain ⟨h2, hc3⟩ := TA.out.step HB1.out C1.out hst
          have hsm2 := small_mono (small_tick n HS.out) (Nat.le_succ k)
          have H2 := Lib.hid h2; have C2 := Lib.hid (CA.out.mono (S' := fun j => base ≤ j) (fun _ _ h => h.elim)); have C3 := Lib.hid hc3; have HS2 := Lib.hid hsm2; have HR1B := Lib.hid hr1b; have HR2 := Lib.hid hr2
          clear h2 hc3 hst hsm2 hr1b hr2 hc2 hrb hv2 hlow ep
          go_wp2_with fail
          refine (RSame_any w2 _ _ (B.told n) HR1B.out HR2.out).mono ?_
          rintro e w3 ⟨rfl, hc4⟩
          have C4 := Lib.hid hc4
          clear hc4
          go_wp2_with fail
          go_ret
          obtain ⟨v1, v2, h3⟩ := H2.out
          exact ⟨rfl, ⟨_, v1, v2, h3.keep C4.out, HS2.out⟩, (C2.out.trans C3.out).trans (C4.out.mono (fun _ _ h => h.elim))⟩
        · have hn' : n < 0 ∨ 1099511627776 < n := by omega
          have HNN := Lib.hid hn'
          clear hn hn'
          go_wp2_with fail
          refine (PTick_bad wA b n HNN.out).mono ?_
          rintro e w1 ⟨rfl, hc1⟩
          have BKp := hc1.blk HBK.out (fun h => h)
          have ep := BKp.cell 1
          simp only [stepCells, List.getElem?_cons_zero, List.getElem?_cons_succ] at ep
          have T1 := Lib.hid (TA.out.keep hc1); have C1 := Lib.hid (CA.out.trans hc1)
          clear hc1 BKp e0 e1
          go_wp2_with fail
          refine (RTick_bad w1 0 n r rfl HNN.out).mono ?_
          rintro e w2 ⟨rfl, rfl⟩
          go_wp2_with fail
          refine (RSame_any w1 _ _ [] ⟨rfl, .inl ⟨rfl, rfl⟩⟩ ⟨rfl, .inl ⟨rfl, rfl⟩⟩).mono ?_
          rintro e w3 ⟨rfl, hc4⟩
          have C4 := Lib.hid hc4
          clear hc4
          go_wp2_with fail
          go_ret
          exact ⟨rfl, ⟨B, vL, vW, T1.out.keep C4.out, small_mono HS.out (Nat.le_succ k)⟩, (C1.out.trans C4.out).mono (fun _ _ h => h.elim)⟩
      · have n2 : (d == 2) = false := by simpa using h2
        clear h2
        go_wp2_with fail
        refine (Clear_bx hz HOA.out HBA.out).mono ?_
        rintro e w1 ⟨rfl, hb1, hc1⟩
        have hc1' := hc1.mono (fun k _ h => HM.out k h)
        have HB1 := Lib.hid (hb1.keep (own' := RO r vL vW) (Chg.refl _ w1) (fun _ _ h => List.mem_cons_of_mem _ h)); have C1 := Lib.hid hc1'
        clear hb1 hc1 hc1' e0 e1
        go_wp2_with fail
        refine (RClear_any w1 r B vL vW (TA.out.after C1.out)).mono ?_
        rintro e w2 ⟨rfl, hrb, hc2⟩
        have hst : RStep w1 r vL vW w2 B.clear := ⟨⟨_, _, hrb, fun j h => .inl (by
          rcases h with h | h | h
          · exact .inl h
          · cases h
          · cases h)⟩, hc2.mono (fun j _ h => .inl h)⟩
        obtain ⟨h2, hc3⟩ := TA.out.step HB1.out C1.out hst
        have hsm2 := small_mono (small_clear HS.out) (Nat.le_succ k)
        have H2 := Lib.hid h2; have C2 := Lib.hid (CA.out.mono (S' := fun j => base ≤ j) (fun _ _ h => h.elim)); have C3 := Lib.hid hc3; have HS2 := Lib.hid hsm2
        clear h2 hc3 hst hsm2 hc2 hrb
        go_wp2_with fail
        go_ret
        obtain ⟨v1, v2, h3⟩ := H2.out
        exact ⟨rfl, ⟨_, v1, v2, h3, HS2.out⟩, C2.out.trans C3.out⟩
end Go.Proofs.Ytenkglbnlealbaa
