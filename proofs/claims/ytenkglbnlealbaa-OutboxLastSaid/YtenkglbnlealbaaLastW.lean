import Derived.Test.YtenkglbnlealbaaLastQ
import Derived.Deep.CutBlock
import Derived.Deep.Cut
import Derived.BigQuiet
namespace Go.Proofs.Ytenkglbnlealbaa
open Go.RowKit
attribute [local go_sem] Oper.semAt_some
set_option maxRecDepth 100000 in
set_option maxHeartbeats 4000000 in
theorem Last_any_law (w : World) (v : Value) (n : Nat) (X Y : Nat → Int) (h : Pairs w v n X Y) : Calls Try.prog 5 #[v] w fun e w' => e = .returned (.bool true) ∧ Chg (fun _ => False) w w' := by
  obtain ⟨a, cap, rfl, hmax, hp⟩ := h
  have HP := Lib.hid hp
  clear hp
  have hmm := @run_makeMap Try.prog
  go_enter Try.func5, Try.ntmps5
  go_wp2_with fail
  refine (awake_any w).mono ?_
  rintro e w1 ⟨rfl, hc1⟩
  have C1 := Lib.hid hc1
  clear hc1
  go_wp2_with fail
  refine (New_bx w.heap.size [] w1 C1.out.size (by simp)).mono ?_
  rintro e w2 ⟨b, rfl, hb2, hc2⟩
  have HB2 := Lib.hid hb2; have C2 := Lib.hid hc2
  clear hb2 hc2
  unfold ptr
  simp only [maxLen] at hmax
  go_upto_block 0 with fail
  go_cut [8, 9, 10, 11, 12, 13, 14] from 37 to 115 (fun nw _ _ _ _ _ _ wr => ∃ (B : Box) (f g h : Int → Option Int) (t : Int) (i : Nat), nw = .int .i64 t ∧ i ≤ 150 ∧ St w.heap.size w2.heap.size b wr B f g h ∧ LInv B f g h t i [] ∧ Chg (fun _ => False) w wr)
  case rest =>
    obtain ⟨B, f, g, h, t, i, rfl, h150, st, I, hc⟩ := hcut
    have I2 := SInv.of I h150
    have ST := Lib.hid st; have HC := Lib.hid hc; have HI := Lib.hid I2
    clear st hc I I2 HP HB2 h150
    go_wp2_with fail
    go_loopw [8, 15, 16, 17, 18, 19, 20] (fun nw tx _ _ _ _ _ wr => ∃ (B : Box) (g : Int → Option Int) (t : Int) (u : Nat), nw = .int .i64 t ∧ tx = .int .i64 u ∧ St w.heap.size w2.heap.size b wr B f g h ∧ SInv B f g t u ∧ Chg (fun _ => False) w wr) (fun _ tx _ _ _ _ _ _ => 151 - (intOf tx).toNat)
    case atStart => exact ⟨B, g, t, 0, rfl, rfl, ST.out, HI.out, HC.out⟩
    case round =>
      clear ST HC HI
      obtain ⟨B, g, t, u, rfl, rfl, st, I, hc⟩ := hrel
      have hu : u ≤ 150 := by have := I.sum; omega
      have t0 := I.now0
      have t1 := I.now1
      have hsm := I.small.1
      have ST := Lib.hid st; have HC := Lib.hid hc; have HI := Lib.hid I
      clear st hc I
      go_wp2_with fail
      refine (Len_bx ST.out.box (by omega)).mono ?_
      rintro e w3 ⟨rfl, hb3, hc3⟩
      have S3 := Lib.hid (ST.out.keep hc3); have C3 := Lib.hid (HC.out.trans hc3)
      clear hb3 hc3 ST HC
      obtain ⟨ln, hln⟩ : ∃ ln, B.len = ln := ⟨_, rfl⟩
      rw [hln]
      have HLN := Lib.hid hln
      clear hln
      by_cases hpos : 0 < ln
      · have hri := S3.out.box.rise
        have I4 := HI.out.turn hri
        have hLp : 0 < (B.L.map (·.1)).length := by rw [List.length_map]; exact len_pos HI.out.busy (by rw [HLN.out]; exact hpos)
        have hTl : (B.L.map (·.1)).length ≤ 150 := by rw [List.length_map]; omega
        have hS : B.L.length + B.W.length + u ≤ 150 := HI.out.sum
        have hLe : (B.L.map (·.1)).length = B.L.length := List.length_map _
        clear hri
        go_wp2_with fail
        refine (Tick_bx (t + 3) (by omega) (by omega) (by omega) S3.out.box).mono ?_
        rw [(all_due HI.out.sent).1]
        rintro e w4 ⟨v4, rfl, hr4, hv4, hb4, hc4⟩
        have S4 := S3.out.step (hb4.keep (own' := [w2.heap.size, w2.heap.size + 1, w2.heap.size + 1 + 1]) (Chg.refl _ w4) (fun _ _ h => List.mem_append_right _ h)) hc4
        obtain ⟨a4, cap4, rfl⟩ := ownsRow_slice hr4
        have HLE := Lib.hid hLe
        clear hLe
        generalize B.L.map (·.1) = T at *
        generalize B.tick (t + 3) = B4 at *
        generalize B.X = Nx at *
        generalize hS0 : B.L.length + B.W.length = S0 at *
        clear hS0
        generalize hN : T.length = N at *
        have HN := Lib.hid hN
        have HI4 := Lib.hid I4; have HS4 := Lib.hid S4; have HR4 := Lib.hid hr4; have HV4 := Lib.hid hv4; have HB4 := Lib.hid hb4; have C4 := Lib.hid hc4
        clear hN I4 S4 hr4 hv4 hb4 hc4
        go_wp2_with fail
        go_loopw [18, 19, 20] (fun kx _ _ wk => ∃ (k : Nat) (B' : Box) (g' : Int → Option Int), k ≤ N ∧ kx = .int .i64 k ∧ St w.heap.size w2.heap.size b wk B' f g' h ∧ TInv B' f g' T Nx (t + 3) S0 k ∧ wk.ownsRow 0 35 11 (.slice a4 N cap4) N (T.flatMap Msg.cells) ∧
          Boxed w.heap.size ((Value.slice a4 N cap4).ownBlock.toList ++ [w2.heap.size, w2.heap.size + 1, w2.heap.size + 1 + 1]) wk b B' ∧ Chg (fun _ => False) w wk) (fun kx _ _ _ => N - (intOf kx).toNat)
        case atStart =>
          exact ⟨0, B4, g, Nat.zero_le _, rfl, HS4.out, HI4.out, HR4.out, HB4.out, C3.out.trans' C4.out (fun k hk h => by have := h.1; omega)⟩
        case round =>
          obtain ⟨k, B', g', hk, rfl, sk, ik, rk, bk, ck⟩ := hrel
          by_cases hlk : k < N
          · have hkT : k < T.length := by rw [HN.out]; exact hlk
            obtain ⟨gq, cap', hv, hgq, hcellq⟩ := ownsRow_cells rk (by omega)
            obtain ⟨rfl, _, rfl⟩ : a4 = some ⟨gq, 0, none⟩ ∧ N = N ∧ cap4 = cap' := by simpa using hv
            have hcl : ∀ k' c, k' < 11 → T[k].cells[k']? = some c → wr.cell? ⟨gq, k * 11 + k', none⟩ = some c := fun k' c hk' h => hcellq _ _ (by rw [flat_at _ k k' hkT hk']; exact h)
            have st := ik.step sk.box.rise hkT
            obtain ⟨M, hM⟩ : ∃ M, T[k] = M := ⟨_, rfl⟩
            rw [hM] at hcl st
            have r3 := hcl 3 _ (by decide) rfl
            have r5 := hcl 5 _ (by decide) rfl
            have r8 := hcl 8 _ (by decide) rfl
            obtain ⟨m2, q1, q2, q3⟩ := sk.told
            have hu2 := upd54 (r := w2.heap.size + 1) M.addr q2
            have HV5 := HV4.out gq rfl
            have SK := Lib.hid sk; have IK := Lib.hid st.2; have FK := Lib.hid st.1; have RK := Lib.hid rk; have BK := Lib.hid bk; have CK := Lib.hid ck; have Q2 := Lib.hid q2; have Q3 := Lib.hid q3
            clear sk ik rk bk ck st q2 q3 hcl hcellq hv hM hkT
            go_wp2_with fail
            go_region
            have s5 := SK.out.setTold q1 Q2.out Q3.out M.addr M.pot
            have c5 : Chg (fun j => j = w2.heap.size + 1) wr (wr.setMap (w2.heap.size + 1) (IM.put .u32 m2 M.addr (.int .i64 M.pot))) := (Chg.refl _ wr).setMap _ (fun _ => rfl)
            have hgn : ¬ gq = w2.heap.size ∧ ¬ gq = w2.heap.size + 1 ∧ ¬ gq = w2.heap.size + 1 + 1 := by
              have := S3.out.xid.lt
              omega
            generalize wr.setMap (w2.heap.size + 1) (IM.put .u32 m2 M.addr (.int .i64 M.pot)) = w5 at *
            have r3' := c5.cell r3 (fun e => hgn.2.1 e)
            have hb5 : Boxed w.heap.size [gq, w2.heap.size, w2.heap.size + 1, w2.heap.size + 1 + 1] w5 b B' := BK.out.keep (c5.mono (S' := fun k => k ∈ [gq, w2.heap.size, w2.heap.size + 1, w2.heap.size + 1 + 1]) (fun k _ hk => by simp [hk])) (fun _ _ h => h)
            have S5 := Lib.hid s5; have C5 := Lib.hid c5; have HB5 := Lib.hid hb5; have HGN := Lib.hid hgn
            clear s5 c5 r5 r3 r8 q1 hu2 hb5 hgn
            go_wp2_with fail
            have hb5d : Boxed w.heap.size [gq, w2.heap.size, w2.heap.size + 1, w2.heap.size + 1 + 1] w5.drew b B' := HB5.out.keep (own' := [gq, w2.heap.size, w2.heap.size + 1, w2.heap.size + 1 + 1]) ((Chg.refl _ w5).drew) (fun _ _ h => h)
            refine (Acked_bx (w := w5.drew) (base := w.heap.size) (own := [gq, w2.heap.size, w2.heap.size + 1, w2.heap.size + 1 + 1]) M.xid (Nat.le_trans CK.out.size C5.out.size) (fun k hk => ?_) hb5d).mono ?_
            · rcases List.mem_cons.1 hk with h | h
              · have := C5.out.size; show k < w5.heap.size; omega
              · exact S5.out.own k h
            rw [FK.out]
            rintro e w6 ⟨rfl, hb6, hc6⟩
            have S6 := S5.out.step (hb6.keep (own' := [w2.heap.size, w2.heap.size + 1, w2.heap.size + 1 + 1]) (Chg.refl _ w6) (fun _ _ h => List.mem_cons_of_mem _ h)) ((((Chg.refl _ w5).drew).trans hc6).mono (fun k _ h => ⟨h.1, fun hi => h.2 (List.mem_cons_of_mem _ hi)⟩))
            have c6 : Chg (fun j => j = w2.heap.size + 1 ∨ Mine w.heap.size [gq, w2.heap.size, w2.heap.size + 1, w2.heap.size + 1 + 1] j) wr w6 := (C5.out.mono (fun _ _ h => .inl h)).trans (((Chg.refl _ w5).drew.trans hc6).mono (fun _ _ h => .inr h))
            have HS6 := Lib.hid S6; have C6 := Lib.hid c6; have HB6 := Lib.hid hb6
            clear S6 c6 hb6 hc6 r3'
            simp only [Option.getD_some, Option.isSome_some]
            unfold Msg.val Msg.cells
            go_wp2_with fail
            go_roundw
            case rel =>
              have cf : ∀ (S : Nat → Prop) (o : Obj), Chg S w6 (w6.alloc o) := fun S o => (Chg.refl S w6).alloc o
              refine ⟨k + 1, _, _, by omega, by go_num, HS6.out.keep (cf _ _), IK.out, RK.out.keep (C6.out.trans (cf _ _)) (fun j hj h => ?_), HB6.out.keep (cf _ _) (fun _ _ h => h), CK.out.trans' (C6.out.trans (cf _ _)) (fun j hj h => ?_)⟩
              · have hj' : gq = j := by simpa [Value.ownBlock] using hj
                subst hj'
                rcases h with h | h
                · exact HGN.out.2.1 h
                · exact h.2 (by simp)
              · have := C1.out.size; have := C2.out.size
                rcases h with h | h
                · omega
                · have := h.1; omega
            case measure => simp [intOf]; omega
          · have hkn : k = N := by omega
            subst hkn
            have IK := Lib.hid ik; have SK := Lib.hid sk; have CK := Lib.hid ck
            clear ik sk ck rk bk HR4 HV4 HB4
            go_wp2_with fail
            go_roundw
            case rel =>
              refine ⟨B', g', t + 3, u + 1, rfl, by go_num, SK.out, ?_, CK.out⟩
              have := IK.out
              rw [← HN.out] at this
              exact this.done (by rw [HN.out]; exact hLp) hS t1
            case measure => simp [intOf]; omega
      · have hz : ln = 0 := by omega
        subst hz
        clear hpos
        have hfg := HI.out.end_ HLN.out
        obtain ⟨m1, q1, q2, q3⟩ := S3.out.put
        obtain ⟨m2, v1, v2, v3⟩ := S3.out.told
        have hl1 : ∀ (k : Int) (wx : World), wx.map? w2.heap.size = some m1 → (Instr.lookup 54 (.map (some w2.heap.size)) (.int .u32 k) true).run Try.prog wx = .ok (.tuple #[.int .i64 ((f k).getD 0), .bool (f k).isSome]) wx := by
          intro k wx hwx
          rw [look54 k q2 wx hwx, q3, iv_getD, iv_isSome]
        have hl2 : ∀ (k : Int) (wx : World), wx.map? (w2.heap.size + 1) = some m2 → (Instr.lookup 54 (.map (some (w2.heap.size + 1))) (.int .u32 k) true).run Try.prog wx = .ok (.tuple #[.int .i64 ((f k).getD 0), .bool (f k).isSome]) wx := by
          intro k wx hwx
          rw [look54 k v2 wx hwx, v3, iv_getD, iv_isSome, hfg k]
        have HL1 := Lib.hid hl1; have HL2 := Lib.hid hl2
        clear hl1 hl2 q2 q3 v2 v3 hfg HI
        go_wp2_with fail
        go_loop [21, 22, 23, 24, 25] (fun ax _ _ _ _ => ∃ k : Nat, k ≤ 4 ∧ ax = .int .u32 k) (fun ax _ _ _ _ => 4 - (intOf ax).toNat)
        case atStart => exact ⟨0, Nat.zero_le _, rfl⟩
        case round =>
          obtain ⟨k, hk, rfl⟩ := hrel
          by_cases hlk : k < 4
          · have e1 := HL1.out k
            have e2 := HL2.out k
            generalize (f (k : Int)).getD 0 = n0 at *
            generalize (f (k : Int)).isSome = b0 at *
            have z1 : (b0 != b0) = false := by simp
            have z2 : (n0 != n0) = false := by simp
            go_wp2_with fail
            go_round
            case rel => exact ⟨k + 1, by omega, by go_num⟩
            case measure => simp [intOf]; omega
          · have hk4 : k = 4 := by omega
            subst hk4
            go_wp2_with fail
            refine (Len_bx S3.out.box (by omega)).mono ?_
            rw [HLN.out]
            rintro e w4 ⟨rfl, _, hc4⟩
            have C4 := Lib.hid hc4
            clear hc4
            go_wp2_with fail
            go_ret
            exact ⟨rfl, C3.out.trans C4.out⟩
  case first =>
  have hst : St w.heap.size w2.heap.size b (((w2.alloc (.map #[] 0)).alloc (.map #[] 0)).alloc (.map #[] 0)) emptyBox (fun _ => none) (fun _ => none) (fun _ => none) := by
    have hc : Chg (fun _ => False) w2 (((w2.alloc (.map #[] 0)).alloc (.map #[] 0)).alloc (.map #[] 0)) := (((Chg.refl _ w2).alloc _).alloc _).alloc _
    refine ⟨HB2.out.keep (hc.mono (fun _ _ h => h.elim)) (fun k hk hi => ?_), ?_, ?_, ?_⟩
    · simp only [List.mem_cons, List.not_mem_nil, or_false] at hi
      omega
    · exact IFn.empty (c := 0) (by simp [go_sem])
    · exact IFn.empty (c := 0) (by simp [go_sem])
    · exact IFn.empty (c := 0) (by simp [go_sem])
  have HST := Lib.hid hst
  clear hst
  go_wp2_with fail
  go_loopw [8, 9, 10, 11, 12, 13, 14] (fun nw ix _ _ _ _ _ wr => ∃ (B : Box) (f g h : Int → Option Int) (t : Int) (i : Nat), nw = .int .i64 t ∧ ix = .int .i64 i ∧ i ≤ n ∧ i ≤ 150 ∧ St w.heap.size w2.heap.size b wr B f g h ∧ LInv B f g h t i [] ∧ Chg (fun _ => False) w wr) (fun _ ix _ _ _ _ _ _ => n - (intOf ix).toNat)
  case atStart =>
    exact ⟨emptyBox, _, _, _, 0, 0, rfl, rfl, Nat.zero_le _, Nat.zero_le _, HST.out, LInv.start, (C1.out.trans C2.out).trans ((((Chg.refl _ w2).alloc _).alloc _).alloc _)⟩
  case round =>
    obtain ⟨B, f, g, h, t, i, rfl, rfl, hi, h150, st, I, hc⟩ := hrel
    have hX : B.X < 1073741824 := by have := I.small.2.1; omega
    by_cases hlt : i < n
    · by_cases hlt2 : i < 150
      · obtain ⟨gb, off, rfl, hg, hcell⟩ := HP.out (by omega)
        have p0 := hc.cell (hcell i hlt).1 (fun h => h)
        have p1 := hc.cell (hcell i hlt).2 (fun h => h)
        have hbx := mask2 (X i)
        have hby := mask2 (Y i)
        have hcv := wrap4 (Y i)
        have hx4 : (X i % 4 = 0 ∨ X i % 4 = 1) ∨ X i % 4 = 2 ∨ X i % 4 = 3 := by omega
        have ST := Lib.hid st; have HC := Lib.hid hc; have HI := Lib.hid I
        clear st hc I hcell HP HST HB2
        generalize Y i % 4 = y at *
        generalize X i % 4 = x at *
        generalize X i = x0 at *
        generalize Y i = y0 at *
        rcases hx4 with h4 | rfl | rfl
        · rcases h4 with rfl | rfl
          all_goals
            go_wp2_with fail
            refine (upd_any _ _ _).mono ?_
            rintro e w3 ⟨rfl, hc3⟩
            have S3 := Lib.hid (ST.out.keep hc3); have C3 := Lib.hid hc3
            clear hc3
            go_wp2_with fail
            refine (Put_bx (base := w.heap.size) (own := [w2.heap.size, w2.heap.size + 1, w2.heap.size + 1 + 1]) (upd y i) (Nat.le_trans HC.out.size C3.out.size) S3.out.own S3.out.box).mono ?_
            rw [Put_upd _ _ _ hX]
            rintro e w4 ⟨rfl, hb4, hc4⟩
            have S4 := Lib.hid (S3.out.step hb4 hc4); have C4 := Lib.hid hc4
            clear hb4 hc4
            unfold errNo
            obtain ⟨m1, q1, q2, q3⟩ := S4.out.put
            have hu := upd54 (r := w2.heap.size) y q2
            have I2 := HI.out.put hX (upd y i)
            rw [show (upd y (i : Int)).pot = i from by show (i : Int) % 65536 = i; omega] at I2
            have HI2 := Lib.hid I2; have Q2 := Lib.hid q2; have Q3 := Lib.hid q3
            clear I2 q2 q3
            go_wp2_with fail
            go_roundw
            case rel =>
              refine ⟨_, _, _, _, t, i + 1, rfl, by go_num, by omega, by omega, S4.out.setPut q1 Q2.out Q3.out y i, HI2.out, ?_⟩
              exact ((HC.out.trans C3.out).trans' C4.out (fun k hk h => by have := h.1; omega)).setMap _ (fun hk => by have := C1.out.size; have := C2.out.size; omega)
            case measure => simp [intOf]; omega
        · have t0 := HI.out.now0
          have t1 := HI.out.now1
          go_wp2_with fail
          refine (Tick_bx (t + 1) (by omega) (by omega) (by have := HI.out.small.1; omega) ST.out.box).mono ?_
          rintro e w4 ⟨v4, rfl, hr4, hv4, hb4, hc4⟩
          have I4 := HI.out.tick
          have S4 := ST.out.step (hb4.keep (own' := [w2.heap.size, w2.heap.size + 1, w2.heap.size + 1 + 1]) (Chg.refl _ w4) (fun _ _ h => List.mem_append_right _ h)) hc4
          obtain ⟨a4, cap4, rfl⟩ := ownsRow_slice hr4
          have hT : ∀ m ∈ B.told (t + 1), (m, t + 1) ∈ (B.tick (t + 1)).L := fun m hm => told_mem hm
          have hTl : (B.told (t + 1)).length ≤ 150 := by
            have h1 := HI.out.small.1
            have h2 := List.length_filter_le (due (t + 1)) B.L
            have h3 : (B.told (t + 1)).length = (B.L.filter (due (t + 1))).length := by unfold Box.told; rw [List.length_map]
            omega
          generalize B.told (t + 1) = T at *
          generalize B.tick (t + 1) = B4 at *
          have HT := Lib.hid hT; have HI4 := Lib.hid I4; have HS4 := Lib.hid S4; have HR4 := Lib.hid hr4; have HV4 := Lib.hid hv4; have C4 := Lib.hid hc4
          clear hT I4 S4 hr4 hv4 hb4 hc4
          generalize hN : T.length = N at *
          have HN := Lib.hid hN
          clear hN
          go_wp2_with fail
          go_loopw [14] (fun kx wk => ∃ (k : Nat) (g' h' : Int → Option Int), k ≤ N ∧ kx = .int .i64 k ∧ St w.heap.size w2.heap.size b wk B4 f g' h' ∧ LInv B4 f g' h' (t + 1) (i + 1) (T.drop k) ∧ wk.ownsRow 0 35 11 (.slice a4 N cap4) N (T.flatMap Msg.cells) ∧ Chg (fun _ => False) w wk) (fun kx _ => N - (intOf kx).toNat)
          case atStart =>
            exact ⟨0, g, h, Nat.zero_le _, rfl, HS4.out, HI4.out, HR4.out, HC.out.trans' C4.out (fun k hk h => by have := h.1; omega)⟩
          case round =>
            obtain ⟨k, g', h', hk, rfl, sk, ik, rk, ck⟩ := hrel
            by_cases hlk : k < N
            · have hkT : k < T.length := by rw [HN.out]; exact hlk
              obtain ⟨gq, cap', hv, hgq, hcellq⟩ := ownsRow_cells rk (by omega)
              obtain ⟨rfl, _, rfl⟩ : a4 = some ⟨gq, 0, none⟩ ∧ N = N ∧ cap4 = cap' := by simpa using hv
              have hcl : ∀ k' c, k' < 11 → T[k].cells[k']? = some c → wr.cell? ⟨gq, k * 11 + k', none⟩ = some c := fun k' c hk' h => hcellq _ _ (by rw [flat_at _ k k' hkT hk']; exact h)
              have hd : T.drop k = T[k] :: T.drop (k + 1) := (List.getElem_cons_drop hkT).symm
              rw [hd] at ik
              have hmB : (T[k], t + 1) ∈ B4.L := HT.out _ (List.getElem_mem hkT)
              obtain ⟨M, hM⟩ : ∃ M, T[k] = M := ⟨_, rfl⟩
              rw [hM] at hcl ik hmB
              have r3 := hcl 3 _ (by decide) rfl
              have r5 := hcl 5 _ (by decide) rfl
              have r8 := hcl 8 _ (by decide) rfl
              obtain ⟨m2, q1, q2, q3⟩ := sk.told
              have hu := upd54 (r := w2.heap.size + 1) M.addr q2
              have HV5 := HV4.out gq rfl
              have SK := Lib.hid sk; have IK := Lib.hid ik; have RK := Lib.hid rk; have CK := Lib.hid ck; have HMB := Lib.hid hmB; have Q2 := Lib.hid q2; have Q3 := Lib.hid q3
              clear sk ik rk ck hmB q2 q3 hcl hcellq hv hd hM hkT
              go_wp2_with fail
              go_region
              have s5 := SK.out.setTold q1 Q2.out Q3.out M.addr M.pot
              have c5 : Chg (fun j => j = w2.heap.size + 1) wr (wr.setMap (w2.heap.size + 1) (IM.put .u32 m2 M.addr (.int .i64 M.pot))) := (Chg.refl _ wr).setMap _ (fun _ => rfl)
              have hz0 : w2.heap.size < wr.heap.size := SK.out.put.lt
              have hgn : ¬ gq = w2.heap.size + 1 ∧ ¬ gq = w2.heap.size + 1 + 1 := by
                have := ST.out.xid.lt
                omega
              generalize wr.setMap (w2.heap.size + 1) (IM.put .u32 m2 M.addr (.int .i64 M.pot)) = w5 at *
              have r3' := c5.cell r3 (fun e => hgn.1 e)
              have r5' := c5.cell r5 (fun e => hgn.1 e)
              have S5 := Lib.hid s5; have C5 := Lib.hid c5; have R5 := Lib.hid r5
              clear s5 c5 r5 r3 r8 q1 hu
              obtain ⟨m3, q1, q2, q3⟩ := S5.out.xid
              have hu := upd54 (r := w2.heap.size + 1 + 1) M.addr q2
              have Q4 := Lib.hid q2; have Q5 := Lib.hid q3; have HGN := Lib.hid hgn
              clear q2 q3 hgn
              go_wp2_with fail
              go_region
              have s6 := S5.out.setXid q1 Q4.out Q5.out M.addr M.xid
              have c6 : Chg (fun j => j = w2.heap.size + 1 + 1) w5 (w5.setMap (w2.heap.size + 1 + 1) (IM.put .u32 m3 M.addr (.int .i64 M.xid))) := (Chg.refl _ w5).setMap _ (fun _ => rfl)
              generalize w5.setMap (w2.heap.size + 1 + 1) (IM.put .u32 m3 M.addr (.int .i64 M.xid)) = w6 at *
              have S6 := Lib.hid s6; have C6 := Lib.hid c6
              clear s6 c6 hu q1
              go_wp2_with fail
              go_roundw
              case rel =>
                have c7 : Chg (fun j => j = w2.heap.size + 1 ∨ j = w2.heap.size + 1 + 1) wr w6.drew.drew := ((C5.out.mono (fun _ _ h => .inl h)).trans (C6.out.mono (fun _ _ h => .inr h))).drew.drew
                refine ⟨k + 1, _, _, by omega, by go_num, S6.out.keep (Chg.refl _ w6).drew.drew, IK.out.hear (SK.out.box.rise) HMB.out, RK.out.keep c7 (fun j hj h => ?_), CK.out.trans' c7 (fun j hj h => ?_)⟩
                · simp [Value.ownBlock] at hj
                  have := HGN.out
                  omega
                · have := C1.out.size; have := C2.out.size
                  omega
              case measure => simp [intOf]; omega
            · have hkn : k = N := by omega
              subst hkn
              have IK := Lib.hid ik; have SK := Lib.hid sk; have CK := Lib.hid ck
              clear ik sk ck rk HR4 HV4
              go_wp2_with fail
              go_roundw
              case rel =>
                refine ⟨B4, f, g', h', t + 1, i + 1, rfl, by go_num, by omega, by omega, SK.out, ?_, CK.out⟩
                have := IK.out
                rwa [← HN.out, List.drop_length] at this
              case measure => simp [intOf]; omega
        · obtain ⟨m3, q1, q2, q3⟩ := ST.out.xid
          obtain ⟨n0, hn0⟩ : ∃ n0, (h y).getD 0 = n0 := ⟨_, rfl⟩
          have hl : ∀ wx : World, wx.map? (w2.heap.size + 1 + 1) = some m3 → (Instr.lookup 54 (.map (some (w2.heap.size + 1 + 1))) (.int .u32 y) false).run Try.prog wx = .ok (.int .i64 n0) wx := by
            intro wx hwx
            rw [look54' y q2 wx hwx, q3, iv_getD, hn0]
          have I2 := HI.out.acked ST.out.box.rise hX y
          rw [hn0] at I2
          have HI2 := Lib.hid I2
          clear I2 q2 q3 hn0
          go_wp2_with fail
          refine (Acked_bx (base := w.heap.size) (own := [w2.heap.size, w2.heap.size + 1, w2.heap.size + 1 + 1]) n0 HC.out.size ST.out.own ST.out.box).mono ?_
          rintro e w4 ⟨rfl, hb4, hc4⟩
          have S4 := Lib.hid (ST.out.step hb4 hc4); have C4 := Lib.hid hc4
          clear hb4 hc4 hl q1
          go_wp2_with fail
          go_roundw
          case rel =>
            exact ⟨_, f, g, h, t, i + 1, rfl, by go_num, by omega, by omega, S4.out, HI2.out, HC.out.trans' C4.out (fun k hk h => by have := h.1; omega)⟩
          case measure => simp [intOf]; omega
      · have hi2 : i = 150 := by omega
        subst hi2
        have ST := Lib.hid st; have HC := Lib.hid hc; have HI := Lib.hid I
        clear st hc I
        go_wp2_with fail
        go_meet
        case rel => exact ⟨B, f, g, h, t, 150, rfl, Nat.le_refl _, ST.out, HI.out, HC.out⟩
    · have hi2 : i = n := by omega
      subst hi2
      have h3 : decide ((i : Int) < i) = false := by simp
      have ST := Lib.hid st; have HC := Lib.hid hc; have HI := Lib.hid I
      clear st hc I
      go_wp2_with fail
      go_meet
      case rel => exact ⟨B, f, g, h, t, i, rfl, h150, ST.out, HI.out, HC.out⟩
end Go.Proofs.Ytenkglbnlealbaa
