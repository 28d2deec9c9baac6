import Derived.Test.YtenkglbnlealbaaOnceQ
import Derived.Deep.CutBlock
import Derived.Deep.Cut
import Derived.BigQuiet
namespace Go.Proofs.Ytenkglbnlealbaa
open Go.RowKit
attribute [local go_sem] Oper.semAt_some
@[local go_sem] theorem World.map?_drewN (w : World) (q n : Nat) : (w.drewN q).map? n = w.map? n := rfl
theorem wrap16 (x : Int) : 0 ≤ x % 16 ∧ x % 16 < 16 := ⟨Int.emod_nonneg x (by decide), Int.emod_lt_of_pos x (by decide)⟩
set_option maxRecDepth 100000 in
set_option maxHeartbeats 4000000 in
theorem Once_any_law (w : World) (v : Value) (n : Nat) (X Y : Nat → Int) (h : Pairs w v n X Y) : Calls Try.prog 3 #[v] w fun e w' => e = .returned (.bool true) ∧ Chg (fun _ => False) w w' := by
  obtain ⟨a, cap, rfl, hmax, hp⟩ := h
  have HP := Lib.hid hp
  clear hp
  have hmm := @run_makeMap Try.prog
  go_enter Try.func3, Try.ntmps3
  go_wp2_with fail
  refine (awake_any w).mono ?_
  rintro e w1 ⟨rfl, hc1⟩
  have C1 := Lib.hid hc1
  clear hc1
  go_wp2_with fail
  refine (New_bx w.heap.size [] w1 C1.out.size (by simp)).mono ?_
  rintro e w2 ⟨b, rfl, hb2, hc2⟩
  have HB2 := Lib.hid hb2; have C2 := Lib.hid hc2
  clear hb2 hc2
  unfold ptr
  simp only [maxLen] at hmax
  have hst : So w.heap.size w2.heap.size b [] (((w2.alloc (.map #[] 0)).alloc (.map #[] 0)).alloc (.map #[] 0)) emptyBox (fun _ => none) (fun _ => none) (fun _ => none) := by
    have hc : Chg (fun _ => False) w2 (((w2.alloc (.map #[] 0)).alloc (.map #[] 0)).alloc (.map #[] 0)) := (((Chg.refl _ w2).alloc _).alloc _).alloc _
    refine ⟨HB2.out.keep (own' := [] ++ [w2.heap.size, w2.heap.size + 1, w2.heap.size + 1 + 1]) (hc.mono (fun _ _ h => h.elim)) (fun k hk hi => ?_), ?_, ?_, ?_⟩
    · simp only [List.nil_append, List.mem_cons, List.not_mem_nil, or_false] at hi
      omega
    · exact IFn.empty (c := 0) (by simp [go_sem])
    · exact IFn.empty (c := 0) (by simp [go_sem])
    · exact IFn.empty (c := 0) (by simp [go_sem])
  have HST := Lib.hid hst
  clear hst
  go_wp2_with fail
  go_loopw [8, 9, 10, 11, 12, 13, 14, 15, 16, 17, 18, 19, 20] (fun nw ix _ _ _ _ _ _ _ _ _ _ _ wr => ∃ (B : Box) (s o : Int → Option Int) (gn : Int → Option Bool) (t : Int) (i : Nat), nw = .int .i64 t ∧ ix = .int .i64 i ∧ i ≤ n ∧ i ≤ 150 ∧ So w.heap.size w2.heap.size b [] wr B s o gn ∧ OInv B s o gn t i ∧ Chg (fun _ => False) w wr) (fun _ ix _ _ _ _ _ _ _ _ _ _ _ _ => n - (intOf ix).toNat)
  case atStart =>
    exact ⟨emptyBox, _, _, _, 0, 0, rfl, rfl, Nat.zero_le _, Nat.zero_le _, HST.out, OInv.start, (C1.out.trans C2.out).trans ((((Chg.refl _ w2).alloc _).alloc _).alloc _)⟩
  case round =>
    obtain ⟨B, s, o, gn, t, i, rfl, rfl, hi, h150, st, I, hc⟩ := hrel
    have hX : B.X < 1073741824 := by have := I.small.2.1; omega
    by_cases hlt : i < n
    · by_cases hlt2 : i < 150
      · obtain ⟨gb, off, rfl, hg, hcell⟩ := HP.out (by omega)
        have p0 := hc.cell (hcell i hlt).1 (fun h => h)
        have p1 := hc.cell (hcell i hlt).2 (fun h => h)
        have hbx := mask2 (X i)
        have hby := mask2 (Y i)
        have hbz := mask4 (Y i)
        have hcv := wrap4 (Y i)
        have hx4 : X i % 4 = 0 ∨ X i % 4 = 1 ∨ (X i % 4 = 2 ∨ X i % 4 = 3) := by omega
        obtain ⟨z0, z1⟩ := wrap16 (Y i)
        have y0' : 0 ≤ Y i % 4 := by omega
        have y1' : Y i % 4 ≤ 3 := by omega
        have ST := Lib.hid st; have HC := Lib.hid hc; have HI := Lib.hid I
        clear st hc I hcell HP HST HB2
        generalize Y i % 4 = y at *
        generalize Y i % 16 = z at *
        generalize X i % 4 = x at *
        generalize X i = x0 at *
        generalize Y i = y0 at *
        rcases hx4 with rfl | rfl | hx23
        · go_wp2_with fail
          refine (upd_any _ _ _).mono ?_
          rintro e w3 ⟨rfl, hc3⟩
          have S3 := Lib.hid (ST.out.keep hc3); have C3 := Lib.hid hc3
          clear hc3
          go_wp2_with fail
          refine (Put_bx (base := w.heap.size) (own := [] ++ [w2.heap.size, w2.heap.size + 1, w2.heap.size + 1 + 1]) (upd y i) (Nat.le_trans HC.out.size C3.out.size) (S3.out.owned (by simp)) S3.out.box).mono ?_
          rw [Put_upd _ _ _ hX]
          rintro e w4 ⟨rfl, hb4, hc4⟩
          have S4 := Lib.hid (S3.out.step (own' := []) hb4 hc4); have C4 := Lib.hid hc4
          clear hb4 hc4
          unfold errNo
          go_wp2_with fail
          go_roundw
          case rel =>
            exact ⟨_, _, _, _, t, i + 1, rfl, by go_num, by omega, by omega, S4.out, HI.out.put _, (HC.out.trans C3.out).trans' C4.out (fun k hk h => by have := h.1; omega)⟩
          case measure => simp [intOf]; omega
        · go_wp2_with fail
          refine (Acked_bx (base := w.heap.size) (own := [] ++ [w2.heap.size, w2.heap.size + 1, w2.heap.size + 1 + 1]) (1 + z) HC.out.size (ST.out.owned (by simp)) ST.out.box).mono ?_
          rintro e w4 ⟨rfl, hb4, hc4⟩
          have S4 := ST.out.step (own' := []) hb4 hc4
          obtain ⟨k1, k2⟩ := HI.out.acked ST.out.box.rise (1 + z)
          obtain ⟨m3, q1, q2, q3⟩ := S4.gone
          obtain ⟨gv, hgv⟩ : ∃ gv, (gn (1 + z)).getD false = gv := ⟨_, rfl⟩
          have hl : ∀ wx : World, wx.map? (w2.heap.size + 1 + 1) = some m3 → (Instr.lookup 28 (.map (some (w2.heap.size + 1 + 1))) (.int .i64 (1 + z)) false).run Try.prog wx = .ok (.bool gv) wx := by
            intro wx hwx
            rw [look28 (1 + z) q2 wx hwx, q3, ib_getD, hgv]
          have hu := upd28 (r := w2.heap.size + 1 + 1) (1 + z) q2
          rw [hgv] at k1 k2
          generalize (B.find (1 + z)).getD noMsg = M at *
          generalize (B.find (1 + z)).isSome = fb at *
          have s6 := fun v => S4.setGone q1 q2 q3 (1 + z) v
          have HS6 := Lib.hid s6; have K2 := Lib.hid k2; have C4 := Lib.hid hc4
          clear s6 k2 hc4 hb4 q2 q3 hgv
          have q4 : w2.heap.size + 1 + 1 < w4.heap.size := World.map?_lt q1
          have S4' := Lib.hid S4
          clear S4
          cases fb <;> cases gv
          · clear k1
            unfold Msg.val Msg.cells
            go_wp2_with fail
            go_roundw
            case rel =>
              exact ⟨_, s, o, _, t, i + 1, rfl, by go_num, by omega, by omega, (HS6.out false).keep ((Chg.refl _ _).alloc _), K2.out, ((HC.out.trans' C4.out (fun k hk h => by have := h.1; omega)).setMap _ (fun hk => by have := C1.out.size; have := C2.out.size; omega)).alloc _⟩
            case measure => simp [intOf]; omega
          · clear k1
            unfold Msg.val Msg.cells
            go_wp2_with fail
            go_roundw
            case rel =>
              exact ⟨_, s, o, _, t, i + 1, rfl, by go_num, by omega, by omega, (HS6.out true).keep ((Chg.refl _ _).alloc _), K2.out, ((HC.out.trans' C4.out (fun k hk h => by have := h.1; omega)).setMap _ (fun hk => by have := C1.out.size; have := C2.out.size; omega)).alloc _⟩
            case measure => simp [intOf]; omega
          · clear k1
            unfold Msg.val Msg.cells
            go_wp2_with fail
            go_roundw
            case rel =>
              exact ⟨_, s, o, _, t, i + 1, rfl, by go_num, by omega, by omega, (HS6.out true).keep ((Chg.refl _ _).alloc _), K2.out, ((HC.out.trans' C4.out (fun k hk h => by have := h.1; omega)).setMap _ (fun hk => by have := C1.out.size; have := C2.out.size; omega)).alloc _⟩
            case measure => simp [intOf]; omega
          · exact absurd (k1 rfl) (by decide)
        · have t0 := HI.out.now0
          have t1 := HI.out.now1
          have z2 : (x == 0) = false := by simp; omega
          have z3 : (x == 1) = false := by simp; omega
          clear hx23
          have I4 := HI.out.tick ST.out.box.rise ST.out.box.sents y y0' y1'
          have hTl : (B.told (t + y)).length ≤ 150 := by
            have h1 := HI.out.small.1
            have h2 := List.length_filter_le (due (t + y)) B.L
            have h3 : (B.told (t + y)).length = (B.L.filter (due (t + y))).length := by unfold Box.told; rw [List.length_map]
            omega
          have hTu := told_uniq HI.out.uniq (t + y)
          have hTo := I4.order
          go_wp2_with fail
          refine (Tick_bx (own := [] ++ [w2.heap.size, w2.heap.size + 1, w2.heap.size + 1 + 1]) (t + y) (by omega) (by omega) (by have := HI.out.small.1; omega) ST.out.box).mono ?_
          rintro e w4 ⟨v4, rfl, hr4, hv4, hb4, hc4⟩
          have S4 := ST.out.step (own' := v4.ownBlock.toList) (B' := B.tick (t + y)) (by rw [List.nil_append] at hb4; exact hb4) hc4
          obtain ⟨a4, cap4, rfl⟩ := ownsRow_slice hr4
          have hXe : (B.tick (t + y)).X = B.X := rfl
          generalize B.told (t + y) = T at *
          generalize B.tick (t + y) = B4 at *
          generalize hN : T.length = N at *
          have HN := Lib.hid hN
          have HI4 := Lib.hid I4; have HS4 := Lib.hid S4; have HR4 := Lib.hid hr4; have HV4 := Lib.hid hv4; have C4 := Lib.hid hc4; have HTU := Lib.hid hTu; have HTo := Lib.hid hTo
          clear hN I4 S4 hr4 hv4 hb4 hc4 hTu hTo hXe
          generalize t + y = t4 at *
          go_wp2_with fail
          go_loopw [16, 17, 18, 19, 20] (fun kx _ _ _ _ wk => ∃ (k : Nat) (s' o' : Int → Option Int), k ≤ N ∧ kx = .int .i64 k ∧ So w.heap.size w2.heap.size b (Value.slice a4 N cap4).ownBlock.toList wk B4 s' o' gn ∧ OTick B4 s' o' gn t4 (i + 1) (T.drop k) ∧ wk.ownsRow 0 35 11 (.slice a4 N cap4) N (T.flatMap Msg.cells) ∧ w4.heap.size ≤ wk.heap.size ∧ Chg (fun _ => False) w wk) (fun kx _ _ _ _ _ => N - (intOf kx).toNat)
          case atStart =>
            exact ⟨0, s, o, Nat.zero_le _, rfl, HS4.out, HI4.out, HR4.out, Nat.le_refl _, HC.out.trans' C4.out (fun k hk h => by have := h.1; omega)⟩
          case round =>
            obtain ⟨k, s', o', hk, rfl, sk, ik, rk, zk, ck⟩ := hrel
            by_cases hlk : k < N
            · have hkT : k < T.length := by rw [HN.out]; exact hlk
              obtain ⟨gq, cap', hv, hgq, hcellq⟩ := ownsRow_cells rk (by omega)
              obtain ⟨rfl, _, rfl⟩ : a4 = some ⟨gq, 0, none⟩ ∧ N = N ∧ cap4 = cap' := by simpa using hv
              have hcl : ∀ (j : Nat) (hj : j < T.length) k' c, k' < 11 → T[j].cells[k']? = some c → wr.cell? ⟨gq, j * 11 + k', none⟩ = some c := fun j hj k' c hk' h => hcellq _ _ (by rw [flat_at _ j k' hj hk']; exact h)
              have hd : T.drop k = T[k] :: T.drop (k + 1) := (List.getElem_cons_drop hkT).symm
              rw [hd] at ik
              obtain ⟨M, hM⟩ : ∃ M, T[k] = M := ⟨_, rfl⟩
              obtain ⟨g0, g1, g2, g3⟩ := ik.asks
              have IK2 := Lib.hid ik.note
              have hcM := hcl k hkT
              rw [hM] at g0 g1 g2 g3 hcM IK2
              have r3 := hcM 3 _ (by decide) rfl
              have r5 := hcM 5 _ (by decide) rfl
              obtain ⟨m1, q1, q2, q3⟩ := sk.sent
              obtain ⟨m2, v1, v2, v3⟩ := sk.of
              obtain ⟨m3, x1, x2, x3⟩ := sk.gone
              have hl28 : ∀ wx : World, wx.map? (w2.heap.size + 1 + 1) = some m3 → (Instr.lookup 28 (.map (some (w2.heap.size + 1 + 1))) (.int .i64 M.xid) false).run Try.prog wx = .ok (.bool false) wx := by
                intro wx hwx
                rw [look28 M.xid x2 wx hwx, x3, ib_getD, g0]
              have hlast : ∀ q, Calls Try.prog 14 #[.pointer (some ⟨b, 0, none⟩)] (wr.drewN q) fun e w' => e = .returned (.int .i64 B4.X) ∧ w' = wr.drewN q := fun q =>
                (Last_bx (sk.box.keep (own' := (Value.slice (some ⟨gq, 0, none⟩) N cap4).ownBlock.toList ++ [w2.heap.size, w2.heap.size + 1, w2.heap.size + 1 + 1]) ((Chg.refl _ wr).drewN q) (fun _ _ h => h))).mono (fun _ _ h => ⟨h.1, h.2.symm⟩)
              generalize B4.X = X4 at *
              have HLAST := Lib.hid hlast
              have SK := Lib.hid sk; have RK := Lib.hid rk; have CK := Lib.hid ck
              have hprev : ∀ j, k = j + 1 → ∃ x', wr.cell? ⟨gq, j * 11 + 3, none⟩ = some (.int .i64 x') ∧ x' < M.xid := by
                intro j hj
                subst hj
                have hjT : j < T.length := by omega
                refine ⟨T[j].xid, hcl j hjT 3 _ (by decide) rfl, ?_⟩
                have := List.pairwise_iff_getElem.1 HTo.out j (j + 1) hjT hkT (by omega)
                rw [hM] at this
                exact this
              have hne : ∀ (j : Nat), j < k → ∃ a', wr.cell? ⟨gq, j * 11 + 5, none⟩ = some (.int .u32 a') ∧ (a' == M.addr) = false := by
                intro j hj
                have hjT : j < T.length := by omega
                refine ⟨T[j].addr, hcl j hjT 5 _ (by decide) rfl, ?_⟩
                have := List.pairwise_iff_getElem.1 HTU.out j k hjT hkT hj
                rw [hM] at this
                simpa using this
              have HPREV := Lib.hid hprev; have HNE := Lib.hid hne
              clear hlast sk ik rk ck hcl hcellq hv hd hM hkT hcM x3 g0 hprev hne
              have hwas : ∃ (was : Bool) (at0 : Int), (∀ wx : World, wx.map? w2.heap.size = some m1 → (Instr.lookup 26 (.map (some w2.heap.size)) (.int .i64 M.xid) true).run Try.prog wx = .ok (.tuple #[.int .i64 at0, .bool was]) wx) ∧ (was = true → at0 ≤ t4 - 3 ∧ -1 ≤ at0 ∧ ∀ wx : World, wx.map? (w2.heap.size + 1) = some m2 → (Instr.lookup 27 (.map (some (w2.heap.size + 1))) (.int .i64 M.xid) false).run Try.prog wx = .ok (.int .u32 M.addr) wx) := by
                rcases g3 with g3 | ⟨τ, g3, g4, g5, g6⟩
                · refine ⟨false, 0, fun wx hwx => ?_, fun h => by cases h⟩
                  rw [look26 M.xid q2 wx hwx, q3, iv_getD, iv_isSome, g3]; rfl
                · refine ⟨true, τ, fun wx hwx => ?_, fun _ => ⟨by omega, g5, fun wx hwx => ?_⟩⟩
                  · rw [look26 M.xid q2 wx hwx, q3, iv_getD, iv_isSome, g3]; rfl
                  · rw [look27 M.xid v2 wx hwx, v3, ia_getD, g6]; rfl
              obtain ⟨was, at0, hl26, hw26⟩ := hwas
              have Q2 := Lib.hid q2; have Q3 := Lib.hid q3; have V1 := Lib.hid v1; have V2 := Lib.hid v2; have V3 := Lib.hid v3
              clear g3 q2 q3 v2 v3 x2
              have f1 : decide (M.xid < 1) = false := by simp; omega
              have f2 : decide (X4 < M.xid) = false := by simp; omega
              have u0 := HI4.out.now0
              have u1 : t4 ≤ 453 := by have := HI4.out.now1; omega
              go_upto_region 21 with (fail)
              go_cut [135] from 86 to 134 (fun rv wc => rv = .bool false ∧ ∃ q, wc = wr.drewN q)
              case rest =>
                obtain ⟨rfl, q, rfl⟩ := hcut
                clear hl28 hl26 hw26 HLAST HPREV x1
                go_wp2_with fail
                go_loopw [20] (fun jx wj => ∃ (j q' : Nat), j ≤ k ∧ jx = .int .i64 j ∧ wj = wr.drewN q') (fun jx _ => k - (intOf jx).toNat)
                case atStart => exact ⟨0, q, Nat.zero_le _, rfl, rfl⟩
                case round =>
                  obtain ⟨j, q', hjk, rfl, rfl⟩ := hrel
                  by_cases hlj : j < k
                  · obtain ⟨a', r6, r7⟩ := HNE.out j hlj
                    clear q1 v1
                    go_wp2_with fail
                    go_quiet (fail)
                    go_wp2_with fail
                    go_roundw
                    case rel => exact ⟨j + 1, q' + nq, by omega, by go_num, rfl⟩
                    case measure => simp [intOf]; omega
                  · have hjk2 : j = k := by omega
                    subst hjk2
                    have cq : ∀ S : Nat → Prop, Chg S wr (wr.drewN q') := fun S => (Chg.refl S wr).drewN q'
                    have rr5 : (wr.drewN q').cell? ⟨gq, j * 11 + 5, none⟩ = some (.int .u32 M.addr) := r5
                    have qq1 : (wr.drewN q').map? w2.heap.size = some m1 := q1
                    have sk2 := SK.out.keep (cq _)
                    have ck2 := CK.out.trans (cq _)
                    have rk2 := RK.out.keep (cq (fun _ => False)) (fun _ _ h => h)
                    have zk2 : w4.heap.size ≤ (wr.drewN q').heap.size := zk
                    clear r5 q1 v1 r3 HNE SK CK RK zk cq
                    generalize wr.drewN q' = wq at *
                    have hu26 := upd26 (r := w2.heap.size) M.xid Q2.out
                    have s3 := sk2.setSent qq1 Q2.out Q3.out M.xid t4
                    have c3 : Chg (fun i => i = w2.heap.size) wq (wq.setMap w2.heap.size (IM.put .i64 m1 M.xid (.int .i64 t4))) := (Chg.refl _ wq).setMap _ (fun _ => rfl)
                    have SK2 := Lib.hid sk2; have CK2 := Lib.hid ck2; have RK2 := Lib.hid rk2; have C3 := Lib.hid c3; have S3 := Lib.hid s3
                    clear sk2 ck2 rk2 c3 s3
                    go_upto_region 29 with (fail)
                    have hgn : ¬ gq = w2.heap.size ∧ ¬ gq = w2.heap.size + 1 ∧ ¬ gq = w2.heap.size + 1 + 1 := by
                      have h1 := ST.out.gone.lt
                      have h2 := HV4.out gq rfl
                      omega
                    have rr6 := C3.out.cell rr5 (fun e => hgn.1 e)
                    clear rr5 qq1 hu26
                    generalize wq.setMap w2.heap.size (IM.put .i64 m1 M.xid (.int .i64 t4)) = w7 at *
                    obtain ⟨m8, v1, v2, v3⟩ := S3.out.of
                    have hu27 := upd27 (r := w2.heap.size + 1) M.xid v2
                    have s4 := S3.out.setOf v1 v2 v3 M.xid M.addr
                    have c4 : Chg (fun i => i = w2.heap.size + 1) w7 (w7.setMap (w2.heap.size + 1) (IM.put .i64 m8 M.xid (.int .u32 M.addr))) := (Chg.refl _ w7).setMap _ (fun _ => rfl)
                    have S4 := Lib.hid s4; have C4' := Lib.hid c4; have HGN := Lib.hid hgn
                    clear s4 c4 v2 v3 hgn
                    go_wp2_with fail
                    go_roundw
                    case rel =>
                      have call := (C3.out.mono (S' := fun i => i = w2.heap.size ∨ i = w2.heap.size + 1) (fun _ _ h => .inl h)).trans (C4'.out.mono (fun _ _ h => .inr h))
                      refine ⟨j + 1, _, _, by omega, by go_num, S4.out, IK2.out, RK2.out.keep call (fun i hi h => ?_), Nat.le_trans zk2 call.size, CK2.out.trans' call (fun i hi h => ?_)⟩
                      · have hi' : gq = i := by simpa [Value.ownBlock] using hi
                        have := HGN.out
                        omega
                      · have := C1.out.size; have := C2.out.size
                        omega
                    case measure => simp [intOf]; omega
              case first =>
              cases was with
              | false =>
                clear hw26
                rcases k with _ | j
                · have hk0 : decide ((0 : Int) < ((0 : Nat) : Int)) = false := by decide
                  go_quiet ((go_at_call 14; exact Calls.quiet_of_same (HLAST.out _)))
                  go_wp2_with fail
                  go_meet
                  case rel => exact ⟨rfl, _, rfl⟩
                · obtain ⟨x', r4, r6⟩ := HPREV.out j rfl
                  have hk0 : decide ((0 : Int) < ((j + 1 : Nat) : Int)) = true := by simp
                  have hk1 : IntKind.i64.wrap (((j + 1 : Nat) : Int) - 1) = (j : Int) := by rw [show (((j + 1 : Nat) : Int) - 1) = (j : Int) by omega]; exact IntWalk.i64_in _ (by omega)
                  have hk2 : decide (M.xid ≤ x') = false := by simp; omega
                  go_quiet ((go_at_call 14; exact Calls.quiet_of_same (HLAST.out _)))
                  go_wp2_with fail
                  go_meet
                  case rel => exact ⟨rfl, _, rfl⟩
              | true =>
                obtain ⟨w5, w6, hl27⟩ := hw26 rfl
                clear hw26
                have hw1 : IntKind.i64.wrap (t4 - at0) = t4 - at0 := IntWalk.i64_in _ (by omega)
                have hw2 : decide (t4 - at0 < 3) = false := by simp; omega
                have hw3 : (M.addr != M.addr) = false := by simp
                rcases k with _ | j
                · have hk0 : decide ((0 : Int) < ((0 : Nat) : Int)) = false := by decide
                  go_quiet ((go_at_call 14; exact Calls.quiet_of_same (HLAST.out _)))
                  go_wp2_with fail
                  go_meet
                  case rel => exact ⟨rfl, _, rfl⟩
                · obtain ⟨x', r4, r6⟩ := HPREV.out j rfl
                  have hk0 : decide ((0 : Int) < ((j + 1 : Nat) : Int)) = true := by simp
                  have hk1 : IntKind.i64.wrap (((j + 1 : Nat) : Int) - 1) = (j : Int) := by rw [show (((j + 1 : Nat) : Int) - 1) = (j : Int) by omega]; exact IntWalk.i64_in _ (by omega)
                  have hk2 : decide (M.xid ≤ x') = false := by simp; omega
                  go_quiet ((go_at_call 14; exact Calls.quiet_of_same (HLAST.out _)))
                  go_wp2_with fail
                  go_meet
                  case rel => exact ⟨rfl, _, rfl⟩
            · have hkn : k = N := by omega
              subst hkn
              have IK := Lib.hid ik; have SK := Lib.hid sk; have CK := Lib.hid ck
              clear ik sk ck rk HR4 HV4 HS4
              go_wp2_with fail
              go_roundw
              case rel =>
                refine ⟨B4, s', o', gn, t4, i + 1, rfl, by go_num, by omega, by omega, SK.out.less, ?_, CK.out⟩
                have := IK.out
                rw [← HN.out, List.drop_length] at this
                exact this.done
              case measure => simp [intOf]; omega
      · have hi2 : i = 150 := by omega
        subst hi2
        have ST := Lib.hid st; have HC := Lib.hid hc; have HI := Lib.hid I
        clear st hc I
        go_wp2_with fail
        go_ret
        exact ⟨rfl, HC.out⟩
    · have hi2 : i = n := by omega
      subst hi2
      have h3 : decide ((i : Int) < i) = false := by simp
      have ST := Lib.hid st; have HC := Lib.hid hc; have HI := Lib.hid I
      clear st hc I
      go_wp2_with fail
      go_ret
      exact ⟨rfl, HC.out⟩
end Go.Proofs.Ytenkglbnlealbaa
