import Derived.Test.YtenkglbnlealbaaR6
import Derived.Test.YtenkglbnlealbaaR7
/-! The reference's 'Put'. -/
namespace Go.Proofs.Ytenkglbnlealbaa
open Go.RowKit
attribute [local go_sem] Oper.semAt_some
theorem put1_pair {B : Box} (m : Msg) (hu : B.W.Pairwise fun x y => x.addr ≠ y.addr) : (B.put1 m).W.Pairwise fun x y => x.addr ≠ y.addr := by
  unfold Box.put1
  rw [List.pairwise_append]
  refine ⟨hu.filter _, List.pairwise_singleton .., fun x hx y hy => ?_⟩
  rw [List.mem_singleton] at hy
  subst hy
  simpa using (List.mem_filter.1 hx).2
/-- what lies in the box of what is put, ahead of 'Right', and behind it -/
def putM (m : Msg) : Msg := { m with life := 1, seen := 0, xid := 1 }
theorem RStep.behind {w w5 w6 : World} {b : Nat} {vL vW v5 : Value} {B' : Box} (hc : Chg (fun j => j = b) w w5) (hl : ∀ k, v5.ownBlock = some k → w.heap.size ≤ k) (hs : RStep w5 b vL v5 w6 B') : RStep w b vL vW w6 B' := by
  obtain ⟨⟨v1, v2, hr, hf⟩, h2⟩ := hs
  refine ⟨⟨v1, v2, hr, fun k hk => ?_⟩, ?_⟩
  · rcases hf k hk with (h | h | h) | h
    · exact .inl (.inl h)
    · exact .inl (.inr (.inl h))
    · exact .inr (hl k h)
    · exact .inr (Nat.le_trans hc.size h)
  · refine (hc.mono (fun k _ h => .inl h)).trans' h2 (fun k hk h => ?_)
    rcases h with h | h | h
    · exact .inl h
    · exact .inr (.inl h)
    · have := hl k h; omega
/-- those of the first i that stay -/
def stays (W : List Msg) (a : Int) (i : Nat) : List Msg := (W.take i).filter fun x => x.addr != a
theorem stays_step {W : List Msg} {a : Int} {i : Nat} (hi : i < W.length) : stays W a (i + 1) = stays W a i ++ if (W[i].addr != a) = true then [W[i]] else [] := by
  unfold stays
  rw [List.take_succ_eq_append_getElem hi, List.filter_append]
  simp only [List.filter_cons, List.filter_nil]
set_option maxRecDepth 100000 in
set_option maxHeartbeats 4000000 in
theorem RPut_any (w : World) (b : Nat) (B : Box) (vL vW : Value) (h : RBox w b B vL vW) (m : Msg) (hu : B.W.Pairwise fun x y => x.addr ≠ y.addr) (hX0 : 0 ≤ B.X) (hsm : B.L.length + B.W.length < 900000) :
    Calls Try.prog 31 #[ptr b, m.val] w fun e w' => e = .returned (errNo (B.Put m).1) ∧ RStep w b vL vW w' (B.Put m).2 := by
  have H := Lib.hid h
  have hb := h.head.lt
  have HU := Lib.hid hu
  clear h hu
  unfold Msg.val Msg.cells ptr errNo
  go_enter Try.func31, Try.ntmps31
  go_upto_region 4 with (fail)
  have BK : Blk (w.alloc (.cells (putM m).cells.toArray 35)) w.heap.size (putM m).cells 35 := Blk.new w (putM m).cells 35
  have cA := (Chg.refl (fun _ => False) w).alloc (.cells (putM m).cells.toArray 35)
  obtain ⟨wA, hA⟩ : ∃ wA, w.alloc (.cells (putM m).cells.toArray 35) = wA := ⟨_, rfl⟩
  have zA : w.heap.size < wA.heap.size := by rw [← hA]; simp
  rw [hA] at BK cA
  simp only [putM, Msg.cells] at hA
  rw [hA]
  clear hA
  have e0 := BK.cell 0
  have e1 := BK.cell 1
  have e2 := BK.cell 2
  have e3 := BK.cell 3
  have e4 := BK.cell 4
  have e5 := BK.cell 5
  have e6 := BK.cell 6
  have e7 := BK.cell 7
  have e8 := BK.cell 8
  have e9 := BK.cell 9
  have e10 := BK.cell 10
  simp only [putM, Msg.cells, List.getElem?_cons_zero, List.getElem?_cons_succ] at e0 e1 e2 e3 e4 e5 e6 e7 e8 e9 e10
  have hr := H.out.keep cA (fun _ _ h => h)
  have HBK := Lib.hid BK; have CA := Lib.hid cA; have HR := Lib.hid hr
  clear BK cA hr
  go_wp2_with fail
  refine (RRight_any m wA).mono ?_
  rintro e wB ⟨r, rfl, hright, hcB⟩
  have BK := hcB.blk HBK.out (fun h => h)
  have hrB := HR.out.keep hcB (fun _ _ h => h)
  have c2 := hrB.head.cell 2
  have c1 := hrB.head.cell 1
  have k0 := BK.cell 0
  have f1 := BK.frozen 1
  have f3 := BK.frozen 3
  have l1 := BK.cell 1
  have l3 := BK.cell 3
  simp only [putM, Msg.cells, List.getElem?_cons_zero, List.getElem?_cons_succ] at k0 c1 c2 l1 l3
  have CB := Lib.hid (CA.out.trans hcB); have HRB := Lib.hid hrB; have HBKB := Lib.hid BK; have HRT := Lib.hid hright
  have zB : w.heap.size < wB.heap.size := BK.lt
  clear BK hrB hcB hright e0 e1 e2 e3 e4 e5 e6 e7 e8 e9 e10 HBK HR CA
  by_cases hrk : r = true ∧ m.kind = 2
  · obtain ⟨rfl, hk⟩ := hrk
    have hgood : m.right = true := by rw [HRT.out]; simp [hk]
    rw [hk] at k0
    by_cases hmax : 1073741824 ≤ B.X
    · have hput : B.Put m = (3, B) := by unfold Box.Put; rw [hgood, if_neg (by decide), if_pos hmax]
      have HP := Lib.hid hput
      clear hput hgood hk
      have hd : decide (1073741824 ≤ B.X) = true := by simpa using hmax
      go_wp2_with fail
      go_ret
      refine ⟨by rw [HP.out] <;> rfl, ?_⟩
      rw [HP.out]
      exact RStep.same H.out CB.out
    · have hput : B.Put m = (0, B.put m.bare) := by unfold Box.Put; rw [hgood, if_neg (by decide), if_neg hmax]
      have HP := Lib.hid hput
      have hd : decide (1073741824 ≤ B.X) = false := by simpa using hmax
      have HK := Lib.hid hk
      clear hput hgood hk
      obtain ⟨a2, cap2, rfl⟩ := ownsRow_slice H.out.rowW
      obtain ⟨N, hN⟩ : ∃ N, B.W.length = N := ⟨_, rfl⟩
      rw [hN] at c1 hsm
      have HN := Lib.hid hN
      clear hN
      go_upto_block 0 with fail
      have BKC : Blk ((wB.setCell ⟨w.heap.size, 1, none⟩ (.int .i64 0)).setCell ⟨w.heap.size, 3, none⟩ (.int .i64 0)) w.heap.size m.bare.cells 35 := (HBKB.out.setCell 1 (.int .i64 0)).setCell 3 (.int .i64 0)
      have cC : Chg (fun j => j = w.heap.size) wB ((wB.setCell ⟨w.heap.size, 1, none⟩ (.int .i64 0)).setCell ⟨w.heap.size, 3, none⟩ (.int .i64 0)) := ((Chg.refl (fun j => j = w.heap.size) wB).setCell _ (fun _ => rfl)).setCell _ (fun _ => rfl)
      generalize (wB.setCell ⟨w.heap.size, 1, none⟩ (.int .i64 0)).setCell ⟨w.heap.size, 3, none⟩ (.int .i64 0) = wC at *
      have hmineW : ∀ k, RMine b vL (.slice a2 B.W.length cap2) k → k < w.heap.size := by
        rintro k (h | h | h)
        · omega
        · exact ownsRow_below H.out.rowL h
        · exact ownsRow_below H.out.rowW h
      have hrC := HRB.out.keep cC (fun k hk e => by have := hmineW k hk; omega)
      have hcC : Chg (fun _ => False) w wC := CB.out.trans' cC (fun k hk e => by omega)
      have HBKC := Lib.hid BKC; have HRC := Lib.hid hrC; have HCC := Lib.hid hcC; have HMW := Lib.hid hmineW
      clear BKC cC hrC hcC hmineW c1 c2 k0 f1 f3 l1 l3 hd
      go_wp2_with fail
      go_loopw [6, 7] (fun vx ix wr => ∃ i : Nat, i ≤ N ∧ ix = .int .i64 i ∧ RBox wr b B vL (.slice a2 B.W.length cap2) ∧ Blk wr w.heap.size m.bare.cells 35 ∧ wr.ownsRow 0 35 11 vx (stays B.W m.addr i).length ((stays B.W m.addr i).flatMap Msg.cells) ∧ (∀ k, vx.ownBlock = some k → w.heap.size < k) ∧ Chg (fun _ => False) w wr) (fun _ ix _ => N - (intOf ix).toNat)
      case atStart => exact ⟨0, Nat.zero_le _, rfl, HRC.out, HBKC.out, ⟨by simp [stays], .inl ⟨rfl, by simp [stays]⟩⟩, (fun k hk => by cases hk), HCC.out⟩
      case round =>
        obtain ⟨i, hi, rfl, hr, hbk, ho, hv, hc⟩ := hrel
        have c1 := hr.head.cell 1
        have e5 := hbk.cell 5
        simp only [Msg.bare, Msg.cells, List.getElem?_cons_zero, List.getElem?_cons_succ] at c1 e5
        rw [HN.out] at c1
        have htl : (stays B.W m.addr i).length ≤ N := by
          unfold stays
          refine Nat.le_trans (List.length_filter_le ..) ?_
          rw [List.length_take]; omega
        have lbr := hr.head.lt
        have lpr := hbk.lt
        have HR := Lib.hid hr; have HBK := Lib.hid hbk; have HO := Lib.hid ho; have HV := Lib.hid hv; have HC := Lib.hid hc
        clear hr hbk ho hv hc
        by_cases hlt : i < N
        · have hiL : i < B.W.length := by rw [HN.out]; exact hlt
          obtain ⟨g, cap', hvv, hg, hcell⟩ := ownsRow_cells HR.out.rowW (by omega)
          obtain ⟨rfl, rfl⟩ : a2 = some ⟨g, 0, none⟩ ∧ cap2 = cap' := by simp only [Value.slice.injEq] at hvv; exact ⟨hvv.1, hvv.2.2⟩
          obtain ⟨M, hM⟩ : ∃ M, B.W[i] = M := ⟨_, rfl⟩
          have hcl : ∀ k c, k < 11 → M.cells[k]? = some c → wr.cell? ⟨g, i * 11 + k, none⟩ = some c := fun k c hk h => hcell _ _ (by rw [flat_at _ i k hiL hk, hM]; exact h)
          have hst := stays_step (a := m.addr) hiL
          rw [hM] at hst
          have HST := Lib.hid hst; have HCL := Lib.hid hcl; have HM := Lib.hid hM
          have q5 := hcl 5 _ (by decide) rfl
          clear hst hcl hM hcell hvv
          by_cases ha : M.addr = m.addr
          · have ha2 : (M.addr != m.addr) = false := by simpa using ha
            clear ha
            go_wp2_with fail
            go_quiet (fail)
            go_wp2_with fail
            go_roundw
            case rel =>
              refine ⟨i + 1, by omega, by go_num, HR.out.keep ((Chg.refl (fun _ => False) wr).drewN _) (fun _ _ h => h), HBK.out, ?_, HV.out, HC.out.drewN _⟩
              rw [HST.out, ha2, if_neg (by decide), List.append_nil]
              exact HO.out.keep ((Chg.refl (fun _ => False) wr).drewN _) (fun _ _ h => h)
            case measure => simp [intOf]; omega
          · have ha2 : (M.addr != m.addr) = true := by simpa using ha
            have HA2 := Lib.hid ha2
            clear ha
            go_wp2_with fail
            go_quiet (fail)
            have cq : ∀ S : Nat → Prop, Chg S wr (wr.drewN nq) := fun S => (Chg.refl S wr).drewN nq
            have rr := HR.out.keep (cq (fun _ => False)) (fun _ _ h => h)
            have rk : Blk (wr.drewN nq) w.heap.size m.bare.cells 35 := HBK.out
            have ro := HO.out.keep (cq (fun _ => False)) (fun _ _ h => h)
            have rc := HC.out.trans (cq _)
            have rcl : ∀ k c, k < 11 → M.cells[k]? = some c → (wr.drewN nq).cell? ⟨g, i * 11 + k, none⟩ = some c := HCL.out
            have lbq : b < (wr.drewN nq).heap.size := lbr
            have lgq : g < (wr.drewN nq).heap.size := hg
            clear c1 e5 q5 HR HBK HO HC HCL cq lbr lpr hg
            generalize wr.drewN nq = wq at *
            have c1 := rr.head.cell 1
            simp only [List.getElem?_cons_zero, List.getElem?_cons_succ] at c1
            rw [HN.out] at c1
            have q0 := rcl 0 _ (by decide) rfl
            have q1 := rcl 1 _ (by decide) rfl
            have q2 := rcl 2 _ (by decide) rfl
            have q3 := rcl 3 _ (by decide) rfl
            have q4 := rcl 4 _ (by decide) rfl
            have q5 := rcl 5 _ (by decide) rfl
            have q6 := rcl 6 _ (by decide) rfl
            have q7 := rcl 7 _ (by decide) rfl
            have q8 := rcl 8 _ (by decide) rfl
            have q9 := rcl 9 _ (by decide) rfl
            have q10 := rcl 10 _ (by decide) rfl
            rw [Nat.add_zero] at q0
            obtain ⟨i0, y1, y2, y3, y4⟩ := info_parts Try.info35'
            obtain ⟨g4, cap4, w4, hrun, hr4, hc4, hg4⟩ := row_append (P := Try.prog) (A := wq) (t := 39) (e := 35) Try.underlying39 y1 y2 y3 y4 rfl (by omega) ro M.cells rfl (by simp [Msg.cells, Value.oneCell']) (by simp only [maxLen]; omega) (by omega)
            have hrun2 : ∀ ty, (Builtin.append_ #[39, 39] ty #[u6, .slice (some ⟨wq.heap.size, 0, none⟩) 1 1]).run Try.prog (wq.alloc (.cells #[.int .i64 M.kind, .int .i64 M.life, .int .i64 M.seen, .int .i64 M.xid, .int .i64 M.st, .int .u32 M.addr, .int .i64 M.bind, .string M.client, .int .i64 M.pot, .int .i64 M.time, .bool M.ok] 35)) = .ok (.slice (some ⟨g4, 0, none⟩) ((stays B.W m.addr i).length + 1) cap4) w4 := hrun
            have hz := rk.lt
            have c4 : Chg (fun k => u6.ownBlock = some k) wq w4 := ((Chg.refl _ wq).alloc _).trans hc4
            have hfr : ∀ k, (Value.slice (some ⟨g4, 0, none⟩) ((stays B.W m.addr i).length + 1) cap4).ownBlock = some k → w.heap.size < k := fun k hk => by
              simp only [Value.ownBlock, Option.some.injEq] at hk
              subst hk
              rcases hg4 with h | h
              · exact HV.out _ h
              · omega
            have hbox := rr.keep c4 (fun k hk h => by have := HV.out k h; have := HMW.out k hk; omega)
            have hbk4 := c4.blk rk (fun h => by have := HV.out _ h; omega)
            have hct := rc.trans' c4 (fun k hk h => by have := HV.out k h; omega)
            have HRUN := Lib.hid hrun2; have HBOX := Lib.hid hbox; have HCT := Lib.hid hct; have HFR := Lib.hid hfr; have HR4 := Lib.hid hr4; have HBK4 := Lib.hid hbk4
            clear hrun hrun2 hbox hct hfr hr4 hbk4 rcl hc4 hg4 c4 y1 y2 y3 y4 rr rk ro rc
            go_wp2_with (at_builtin; refine wpList_append_run (by rfl) _ _ 39 (by rfl) (by rfl) (by rfl) HRUN.out ?_)
            go_roundw
            case rel =>
              refine ⟨i + 1, by omega, by go_num, HBOX.out, HBK4.out, ?_, HFR.out, HCT.out⟩
              rw [HST.out, if_pos HA2.out, List.length_append, List.flatMap_append]
              have h9 := HR4.out
              simpa using h9
            case measure => simp [intOf]; omega
        · have hin : i = N := by omega
          subst hin
          have hall : stays B.W m.addr i = B.W.filter (fun x => x.addr != m.addr) := by unfold stays; rw [← HN.out, List.take_length]
          obtain ⟨i0, y1, y2, y3, y4⟩ := info_parts Try.info35'
          obtain ⟨g4, cap4, w4, hrun, hr4, hc4, hg4⟩ := row_append (P := Try.prog) (A := wr) (t := 39) (e := 35) Try.underlying39 y1 y2 y3 y4 rfl (by omega) HO.out m.bare.cells rfl (by simp [Msg.bare, Msg.cells, Value.oneCell']) (by simp only [maxLen]; omega) (by omega)
          have q0 := HBK.out.cell 0
          have q1 := HBK.out.cell 1
          have q2 := HBK.out.cell 2
          have q3 := HBK.out.cell 3
          have q4 := HBK.out.cell 4
          have q5 := HBK.out.cell 5
          have q6 := HBK.out.cell 6
          have q7 := HBK.out.cell 7
          have q8 := HBK.out.cell 8
          have q9 := HBK.out.cell 9
          have q10 := HBK.out.cell 10
          simp only [Msg.bare, Msg.cells, List.getElem?_cons_zero, List.getElem?_cons_succ] at q0 q1 q2 q3 q4 q5 q6 q7 q8 q9 q10
          have hrun2 : ∀ ty, (Builtin.append_ #[39, 39] ty #[u6, .slice (some ⟨wr.heap.size, 0, none⟩) 1 1]).run Try.prog (wr.alloc (.cells #[.int .i64 m.kind, .int .i64 0, .int .i64 0, .int .i64 0, .int .i64 m.st, .int .u32 m.addr, .int .i64 m.bind, .string m.client, .int .i64 m.pot, .int .i64 m.time, .bool m.ok] 35)) = .ok (.slice (some ⟨g4, 0, none⟩) ((stays B.W m.addr i).length + 1) cap4) w4 := hrun
          have c4 : Chg (fun k => u6.ownBlock = some k) wr w4 := ((Chg.refl _ wr).alloc _).trans hc4
          have hfr : ∀ k, (Value.slice (some ⟨g4, 0, none⟩) ((stays B.W m.addr i).length + 1) cap4).ownBlock = some k → w.heap.size < k := fun k hk => by
            simp only [Value.ownBlock, Option.some.injEq] at hk
            subst hk
            rcases hg4 with h | h
            · exact HV.out _ h
            · omega
          have hbox := HR.out.keep c4 (fun k hk h => by have := HV.out k h; have := HMW.out k hk; omega)
          have hbk4 := c4.blk HBK.out (fun h => by have := HV.out _ h; omega)
          have hct := HC.out.trans' c4 (fun k hk h => by have := HV.out k h; omega)
          have k1 := hbox.head.cell 1
          have kf := hbox.head.frozen 1
          have k5 := hbk4.cell 5
          simp only [Msg.bare, Msg.cells, List.getElem?_cons_zero, List.getElem?_cons_succ] at k1 k5
          have hst5 : Chg (fun j => j = b) w4 (w4.setCell ⟨b, 1, none⟩ (.slice (some ⟨g4, 0, none⟩) ((stays B.W m.addr i).length + 1) cap4)) := (Chg.refl _ w4).setCell _ (fun _ => rfl)
          have hlen : (B.put1 m.bare).W.length = (stays B.W m.addr i).length + 1 := by rw [hall]; unfold Box.put1; rw [List.length_append]; rfl
          have hbox5 : RBox (w4.setCell ⟨b, 1, none⟩ (.slice (some ⟨g4, 0, none⟩) ((stays B.W m.addr i).length + 1) cap4)) b (B.put1 m.bare) vL (.slice (some ⟨g4, 0, none⟩) ((stays B.W m.addr i).length + 1) cap4) := by
            refine ⟨hbox.head.setCell 1 _, hbox.rowL.keep hst5 (fun k hk h => hbox.neL k hk h), ?_, hbox.neL, fun k hk e => by have := hfr k hk; omega, fun k hk hk2 => by have := hfr k hk2; have := HMW.out k (.inr (.inl hk)); omega⟩
            rw [hlen]
            have h9 := hr4.keep hst5 (fun k hk h => by have := hfr k hk; omega)
            have e9 : (B.put1 m.bare).W.flatMap Msg.cells = (stays B.W m.addr i).flatMap Msg.cells ++ m.bare.cells := by
              rw [hall]; unfold Box.put1; rw [List.flatMap_append]; simp [Msg.bare]
            rw [e9]
            exact h9
          have HRUN := Lib.hid hrun2; have HB5 := Lib.hid hbox5; have HCT := Lib.hid (hct.mono (S' := fun j => j = b) (fun _ _ h => h.elim)); have HFR := Lib.hid hfr; have HS5 := Lib.hid hst5; have HLEN := Lib.hid hlen
          have lb4 : b < w4.heap.size := hbox.head.lt
          clear hrun hrun2 hbox hct hfr hr4 hbk4 hc4 hg4 c4 y1 y2 y3 y4 hall hst5 hlen hbox5
          go_wp2_with (at_builtin; refine wpList_append_run (by rfl) _ _ 39 (by rfl) (by rfl) (by rfl) HRUN.out ?_)
          refine (RGoes_any _ b (B.put1 m.bare) vL _ HB5.out m.addr (put1_pair m.bare HU.out) hX0 (by
            have := HLEN.out
            show B.L.length + (B.put1 m.bare).W.length < 1000000
            omega)).mono ?_
          rintro e w6 ⟨rfl, hst⟩
          have HST := Lib.hid (RStep.behind (vW := .slice a2 B.W.length cap2) (HCT.out.trans HS5.out) (fun k hk => Nat.le_of_lt (HFR.out k hk)) hst)
          clear hst
          go_wp2_with fail
          go_ret
          refine ⟨by rw [HP.out] <;> rfl, ?_⟩
          rw [HP.out]
          exact HST.out
  · have hbad : m.right = false := by
      rw [HRT.out]
      cases r <;> simp_all
    have hput : B.Put m = (2, B) := by unfold Box.Put; rw [hbad, if_pos rfl]
    have HP := Lib.hid hput
    clear hput hbad
    cases r with
    | false =>
      clear hrk
      go_wp2_with fail
      go_ret
      refine ⟨by rw [HP.out] <;> rfl, ?_⟩
      rw [HP.out]
      exact RStep.same H.out CB.out
    | true =>
      have hk2 : (m.kind != 2) = true := by simpa using hrk
      clear hrk
      go_wp2_with fail
      go_ret
      refine ⟨by rw [HP.out] <;> rfl, ?_⟩
      rw [HP.out]
      exact RStep.same H.out CB.out
end Go.Proofs.Ytenkglbnlealbaa
