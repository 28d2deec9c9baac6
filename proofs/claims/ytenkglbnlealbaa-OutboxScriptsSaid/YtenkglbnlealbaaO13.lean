import Derived.Test.YtenkglbnlealbaaO12
import Derived.Sort.QuietIn
import Derived.Test.YtenkglbnlealbaaTailIn
namespace Go.Proofs.Ytenkglbnlealbaa
open Go.RowKit
set_option maxHeartbeats 1000000 in
theorem Keys_any (o : Nat) (w : World) : Calls Try.prog 45 #[.map (some o)] w fun e w' => e = .returned (.func (.func 52) #[] #[ptr w.heap.size]) ∧ w' = w.alloc (.cells #[.map (some o)] 66) := by
  go_enter Try.func45, Try.ntmps45
  go_wp2
  go_ret
  exact ⟨rfl, rfl⟩
section
variable {r : Nat} {m : Array MapEntry × Nat}
theorem look66' (n : Int) (hw : IM.Wf .i64 m) : ∀ wx : World, wx.map? r = some m → (Instr.lookup 66 (.map (some r)) (.int .i64 n) false).run Try.prog wx = .ok ((IM.get m.1 n).getD (.pointer none)) wx :=
  fun wx h => by have := IM.run_lookup_m wx false Try.underlying66 Try.underlying3 (n := n) h hw (zero72 wx); simpa using this
end
theorem quietIn_nil {F : Fence} {n : Nat} {P : Program} {ops : Array Oper} {C : World → Prop} {Q : Act → Prop} {a : Act} (h : Q a) : wpQuietIn F n P ops C Q [] a := h
theorem quietIn_skip {F : Fence} {n : Nat} {P : Program} {ops : Array Oper} {C : World → Prop} {Q : Act → Prop} {a : Act} {o : Oper} {rest : List Oper} (ha : o.askedIn F P a C) (hw : Region.wanted o (yielded ops a.tmps) = false)
    (h : wpQuietIn F n P ops C Q rest (a.put o.dst undef)) : wpQuietIn F n P ops C Q (o :: rest) a := by
  unfold wpQuietIn
  rw [hw]
  exact ⟨ha, h⟩
def DueGood (now : Int) (l : Place) (B : Box) (mo mf mq : Array MapEntry × Nat) : Inv := fun pre _ A => ∀ i, i ≤ B.L.length → pre = dues B l now i → l.Ok A (B.upto now i) mo mf mq
def DueCan (now : Int) (l : Place) (B : Box) (pre : List Value) (x : Value) : Prop := ∃ i, ∃ (hi : i < B.L.length) (hp : i < l.ps.length), pre = dues B l now i ∧ due now B.L[i] = true ∧ x = ptr l.ps[i]
attribute [local irreducible] wpQuietIn wpStill
set_option maxRecDepth 100000 in
set_option maxHeartbeats 2000000 in
theorem due_gives (now : Int) (h0 : 0 ≤ now) (h1 : now ≤ 1099511627776) (l : Place) (B : Box) (mo mf mq : Array MapEntry × Nat) (bb bn : Nat) (own0 : List Nat) (W : World) (hbb : W.cell? ⟨bb, 0, none⟩ = some (ptr l.b)) (hbn : W.cell? ⟨bn, 0, none⟩ = some (.int .i64 now))
    (n1 : bb ∉ own0) (n2 : bn ∉ own0) (hB : l.Ok W B mo mf mq) (hsmall : B.L.length < 1000000) :
    Gives Try.prog 43 #[ptr bb, ptr bn] own0 (DueCan now l B) (fun xs => xs = dues B l now B.L.length) (DueGood now l B mo mf mq) W := by
  intro n lp J hF hJ0 hG hY
  have c0 := hB.head.cell 0
  simp only [List.getElem?_cons_zero] at c0
  have ho := hB.ho
  have hsz : mo.1.size = B.L.length := by rw [hB.io.size]; simp [hB.len]
  have lo := World.map?_lt ho; have lbb := World.block_lt_of_cell? _ _ hbb; have lbn := World.block_lt_of_cell? _ _ hbn
  simp only at lbb lbn
  have HF := Lib.hid hF; have HJ := Lib.hid hJ0; have HG := Lib.hid hG; have HY := Lib.hid hY; have HB := Lib.hid hB; have HSZ := Lib.hid hsz; have HN1 := Lib.hid n1; have HN2 := Lib.hid n2
  clear hF hJ0 hG hY hB hsz n1 n2
  unfold ptr at hbb ⊢
  refine callsIn_of_wp Try.func43 rfl trivial ?_ rfl
  simp only [Try.ntmps43, List.size_toArray, List.length_cons, List.length_nil, Nat.reduceAdd, Nat.reduceSub, Array.replicate_succ, Array.replicate_zero, List.push_toArray, List.append_toArray, List.nil_append, List.cons_append]
  gi_wp2_with fail
  refine ⟨trivial, wide_room, (callsIn_wide.2 (Keys_any l.o W)).mono ?_⟩
  rintro e w' ⟨rfl, rfl⟩
  gi_wp2_with fail
  refine ⟨trivial, wide_room, (callsIn_wide.2 (sorted_keys W.heap.size l.o mo (W.alloc (.cells #[.map (some l.o)] 66)) (by go_simp) (by rw [World.map?_alloc_past _ _ _ lo]; exact ho) HB.out.io.wf (by rw [HSZ.out]; exact hsmall))).mono ?_⟩
  rintro e w2 ⟨v, ss, rfl, hp, hrow, hblk, hc⟩
  rw [mergeSort_keys HB.out hp, List.map_map, show ss.length = B.L.length from by rw [← HSZ.out, hp.length_eq]; simp [keysOf]] at hrow
  have hcW : Chg (fun _ => False) W w2 := ((Chg.refl _ W).alloc _).trans hc
  have HROW := Lib.hid hrow; have HBLK := Lib.hid hblk; have HC := Lib.hid hcW
  clear hp hrow hblk hc hcW
  have hlen : ∃ a cap, v = .slice a B.L.length cap := by
    rcases HROW.out.2 with ⟨h, hz⟩ | ⟨g, cap, cur, h, _⟩
    · exact ⟨none, 0, by rw [h, hz]⟩
    · exact ⟨_, cap, h⟩
  obtain ⟨a, cap, rfl⟩ := hlen
  gi_wp2_with fail
  gi_loopw [14] (fun ix wr => ∃ (i : Nat) (own : List Nat), i ≤ B.L.length ∧ ix = .int .i64 i ∧ J (dues B l now i) own wr ∧ bb ∉ own ∧ bn ∉ own ∧ wr.cell? ⟨bb, 0, none⟩ = some (.pointer (some ⟨l.b, 0, none⟩)) ∧ wr.cell? ⟨bn, 0, none⟩ = some (.int .i64 now) ∧
      wr.ownsRow 0 3 1 (.slice a B.L.length cap) B.L.length (B.L.map ((Value.int .i64) ∘ fun x => x.1.xid)) ∧ (∀ k, (Value.slice a B.L.length cap).ownBlock = some k → k ∉ own)) (fun ix _ => B.L.length - (intOf ix).toNat)
  case atStart =>
    refine ⟨0, own0, Nat.zero_le _, rfl, ?_, HN1.out, HN2.out, HC.out.cell hbb (fun h => h), HC.out.cell hbn (fun h => h), HROW.out, ?_⟩
    · have : dues B l now 0 = [] := by simp [dues]
      rw [this]
      exact HF.out.stays _ _ _ _ HJ.out (HC.out.mono (fun _ _ h => h.elim))
    · intro k hk hm
      have h2 := HBLK.out k hk
      have h3 := HF.out.owns _ _ _ HJ.out k hm
      simp at h2
      omega
  case round =>
    obtain ⟨i, own, hi, rfl, hJ, m1, m2, d1, d2, hrow, hnb⟩ := hrel
    have hok := HG.out _ _ _ hJ i hi rfl
    by_cases hlt : i < B.L.length
    · have hpl : l.ps.length = B.L.length := HB.out.len
      obtain ⟨hget, hblkp⟩ := hok.nth hlt hpl
      have hdst := dues_step (B := B) (l := l) (now := now) hlt hpl
      have hst := HB.out.sents _ (List.getElem_mem hlt)
      rcases hrow.2 with ⟨_, hz⟩ | ⟨g, cap', cur, hsl, _, hg, _⟩
      · omega
      · simp only [Value.slice.injEq] at hsl
        obtain ⟨rfl, _, rfl⟩ := hsl
        have hci := hrow.cells (g := g) rfl i (.int .i64 B.L[i].1.xid) (by simp [hlt])
        have hci2 : wr.cell? ⟨g, i, none⟩ = some (.int .i64 B.L[i].1.xid) := by
          have e : (⟨g, 0, none⟩ : Addr).add i = ⟨g, i, none⟩ := by unfold Addr.add; split <;> simp_all
          rw [← e]; exact hci
        have c0 := hok.head.cell 0
        simp only [List.getElem?_cons_zero] at c0
        have ho := hok.ho
        have k1 := look66' (r := l.o) B.L[i].1.xid hok.io.wf
        have b11 := hblkp.cell 11
        simp only [Msg.cells, List.cons_append, List.nil_append, List.getElem?_cons_zero, List.getElem?_cons_succ] at b11
        unfold ptr at hget
        generalize hx : B.L[i].1.xid = xid at hci2 k1 hget
        generalize hs : B.L[i].2 = s at b11 hst
        generalize hq : l.ps[i] = p at hget b11 hblkp hdst
        have HJ2 := Lib.hid hJ; have HROW2 := Lib.hid hrow; have HOK := Lib.hid hok; have HDST := Lib.hid hdst; have HQ := Lib.hid hq; have HNB := Lib.hid hnb; have HM1 := Lib.hid m1; have HM2 := Lib.hid m2; have HS := Lib.hid hs
        obtain ⟨hst1, hst2⟩ := hst
        clear hJ hrow hok hdst hci hblkp hx hs hq hnb hg m1 m2
        by_cases hdue : due now B.L[i] = true
        · have hsame : Chg (fun _ => False) wr wr.drew := Chg.drew (Chg.refl _ wr)
          have hJd : J (dues B l now i) own wr.drew := HF.out.stays _ _ _ _ HJ2.out (hsame.mono (fun _ _ h => h.elim))
          have hY2 := HY.out (n - 1) _ own (ptr p) wr.drew hJd ⟨i, hlt, by omega, rfl, hdue, by rw [HQ.out]⟩
          obtain ⟨fn, tmps, assign, body, hy, hR⟩ := hY2
          unfold ptr at hy
          have HD := Lib.hid hdue; have HSAME := Lib.hid hsame
          clear hdue hsame hJd
          have hor : s = -1 ∨ 3 ≤ now - s := by
            have h := HD.out; unfold due at h; rw [HS.out] at h; simpa using h
          have HOR := Lib.hid hor
          clear hor
          have fin : ∀ W3, (∃ own', J (dues B l now i ++ [ptr p]) own' W3 ∧ Chg (fun k => k ∈ own) wr.drew W3 ∧ ∀ k ∈ own', k ∈ own ∨ wr.drew.heap.size ≤ k) → ∃ (i' : Nat) (own' : List Nat), i' ≤ B.L.length ∧ Value.int .i64 ((i : Int) + 1) = .int .i64 i' ∧ J (dues B l now i') own' W3 ∧ bb ∉ own' ∧ bn ∉ own' ∧ W3.cell? ⟨bb, 0, none⟩ = some (.pointer (some ⟨l.b, 0, none⟩)) ∧ W3.cell? ⟨bn, 0, none⟩ = some (.int .i64 now) ∧
              W3.ownsRow 0 3 1 (.slice (some ⟨g, 0, none⟩) B.L.length cap) B.L.length (B.L.map ((Value.int .i64) ∘ fun x => x.1.xid)) ∧ (∀ k, (Value.slice (some ⟨g, 0, none⟩) B.L.length cap).ownBlock = some k → k ∉ own') := by
            rintro W3 ⟨own', hJ3, hc3, hnew⟩
            have old : ∀ k, k < wr.heap.size → k ∉ own → k ∉ own' := fun k hk hn hm => (hnew k hm).elim hn (fun h => by simp at h; omega)
            have hlb := World.block_lt_of_cell? _ _ d1
            have hln := World.block_lt_of_cell? _ _ d2
            have hlg : g < wr.heap.size := by
              rcases HROW2.out.2 with ⟨h, _⟩ | ⟨g', cap', cur, h, _, hh, _⟩
              · cases h
              · cases h; exact (Array.getElem?_eq_some_iff.1 hh).1
            refine ⟨i + 1, own', by omega, by go_num, ?_, old _ hlb HM1.out, old _ hln HM2.out, hc3.cell (HSAME.out.cell d1 (fun h => h)) HM1.out, hc3.cell (HSAME.out.cell d2 (fun h => h)) HM2.out, ?_, ?_⟩
            · have h := HDST.out
              rw [HD.out] at h
              simp only [if_true] at h
              rw [h]; exact hJ3
            · exact (HROW2.out.keep HSAME.out (fun _ _ h => h)).keep hc3 (fun k hk => HNB.out k hk)
            · intro k hk
              simp only [Value.ownBlock, Option.some.injEq] at hk
              subst hk
              exact old _ hlg (HNB.out _ rfl)
          have FIN := Lib.hid fin
          clear fin
          gi_wp2_with fail
          refine wpIn_region_still_tail 17 (by kernel_rfl) (fun _ => trivial) rfl wide_calls (by kernel_rfl) ?_
          simp only [List.take_succ_cons, List.take_zero, List.drop_succ_cons, List.drop_zero]
          by_cases hm : s = -1
          · have h3 : (s == -1) = true := by simpa using hm
            clear hm
            iterate 6 still_step
            iterate 7 (apply wpStill_skip; kernel_rfl)
            simp only [Act.put, List.setIfInBounds_toArray, List.set_cons_zero, List.set_cons_succ]
            repeat still_step
            refine wpStill_end ?_
            gi_wp2_with fail
            refine ⟨wide_room, hR.mono ?_⟩
            rintro e W3 ⟨rfl, hW3⟩
            have HW3 := Lib.hid hW3
            clear hW3
            gi_wp2_with fail
            go_roundw
            case rel => exact FIN.out _ HW3.out
            case measure => simp [intOf]; omega
          · have h3 : (s == -1) = false := by simpa using hm
            have h4 : decide (3 ≤ now - s) = true := by simp; rcases HOR.out with h | h <;> omega
            clear hm
            have hwr : IntKind.i64.wrap (now - s) = now - s := IntWalk.i64_in _ (by omega)
            repeat still_step
            refine wpStill_end ?_
            clear hwr
            gi_wp2_with fail
            refine ⟨wide_room, hR.mono ?_⟩
            rintro e W3 ⟨rfl, hW3⟩
            have HW3 := Lib.hid hW3
            clear hW3
            gi_wp2_with fail
            go_roundw
            case rel => exact FIN.out _ HW3.out
            case measure => simp [intOf]; omega
        · have hdf : due now B.L[i] = false := by simpa using hdue
          have h3 : (s == -1) = false := by unfold due at hdf; rw [HS.out] at hdf; simp at hdf; simp; exact hdf.1
          have h4 : decide (3 ≤ now - s) = false := by unfold due at hdf; rw [HS.out] at hdf; simp at hdf; simp; exact hdf.2
          have HD := Lib.hid hdf
          clear hdue hdf
          gi_wp2_with fail
          have hwr : IntKind.i64.wrap (now - s) = now - s := IntWalk.i64_in _ (by omega)
          refine wpIn_region_quiet_lit rfl (by kernel_rfl) (by kernel_rfl) ?_
          repeat (gi_big_quiet_step (fail))
          refine quietIn_skip (fun _ _ _ _ => trivial) (by kernel_rfl) ?_
          refine quietIn_skip (fun _ _ _ _ => trivial) (by kernel_rfl) ?_
          simp only [Act.put, List.setIfInBounds_toArray, List.set_cons_zero, List.set_cons_succ]
          gi_big_quiet_step (fail)
          refine quietIn_nil ?_
          rintro _ ⟨nq, rfl⟩
          clear hwr
          gi_wp2_with fail
          go_roundw
          case rel =>
            have hsame : Chg (fun _ => False) wr (wr.drewN nq) := (Chg.refl _ wr).drewN nq
            refine ⟨i + 1, own, by omega, by go_num, ?_, HM1.out, HM2.out, hsame.cell d1 (fun h => h), hsame.cell d2 (fun h => h), HROW2.out.keep hsame (fun _ _ h => h), HNB.out⟩
            have := HDST.out
            rw [HD.out] at this
            rw [this]
            simp only [Bool.false_eq_true, if_false, List.append_nil]
            exact HF.out.stays _ _ _ _ HJ2.out (hsame.mono (fun _ _ h => h.elim))
          case measure => simp [intOf]; omega
    · obtain rfl : i = B.L.length := by omega
      have HJ2 := Lib.hid hJ
      clear hJ hok hrow hnb m1 m2
      gi_wp2_with fail
      go_end0
      exact ⟨⟨_, rfl⟩, _, own, rfl, HJ2.out⟩
end Go.Proofs.Ytenkglbnlealbaa
