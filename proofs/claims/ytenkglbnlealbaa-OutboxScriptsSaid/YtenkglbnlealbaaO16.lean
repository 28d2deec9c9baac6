import Derived.Test.YtenkglbnlealbaaO15
namespace Go.Proofs.Ytenkglbnlealbaa
open Go.RowKit
attribute [local go_sem] Oper.semAt_some
/-- the append itself, among operations in any order -/
theorem _root_.Go.Oper.wpIn_append_run {P : Program} {F : Fence} {n : Nat} {o : Oper} {a : Act} {K : Act → World → Prop} {Q : Exit → Act → World → Prop} {w w' : World} (s x : Operand) (t : TypeId)
    (hop : o.op = Op.call { callee := Callee.builtin Builtin.append, args := #[s, x], argTypes := #[t, t] }) {v y v' : Value} (hs : a.eval s = v) (hx : a.eval x = y)
    (hrun : ∀ ty, (Builtin.append_ #[t, t] ty #[v, y]).run P w = .ok v' w') (hK : K (a.put o.dst v') w') : o.wpIn F n P a w K Q := by
  unfold Oper.wpIn
  refine ⟨?_, ?_⟩
  · simp [Oper.about, hop, resolve, Target.leads, Sem.run_pure]
  · rw [Oper.semAt_plain F _ _ (by rw [hop]; intro c hc'; cases hc')]
    simp [execOp, hop, resolve, invoke, builtin, hs, hx, hrun, Result.andThen]
    exact hK
theorem due_any (b : Nat) (n : Int) (w : World) : Calls Try.prog 30 #[ptr b, .int .i64 n] w fun e w' => e = .returned (.func (.func 43) #[] #[ptr w.heap.size, ptr (w.heap.size + 1)]) ∧ w' = (w.alloc (.cells #[ptr b] 24)).alloc (.cells #[.int .i64 n] 3) := by
  go_enter Try.func30, Try.ntmps30
  go_wp2
  go_ret
  exact ⟨by simp [ptr], rfl⟩
theorem enters43 : ∀ args w, (callFunc 43 args).run Try.prog w = .ok (.enter 43 args) w := enters Try.func43 (by kernel_rfl) rfl
set_option maxRecDepth 100000 in
set_option maxHeartbeats 1000000 in
theorem Tick_any (now : Int) (w : World) (l : Place) (B : Box) (mo mf mq : Array MapEntry × Nat) (h : l.Ok w B mo mf mq) (n0 : 0 ≤ now) (n1 : now ≤ 1099511627776) (hsmall : B.L.length < 1000000) :
    Calls Try.prog 13 #[ptr l.b, .int .i64 now] w fun e w' => ∃ v, e = .returned (.tuple #[v, .int .i64 0]) ∧ w'.ownsRow 0 35 11 v (B.told now).length ((B.told now).flatMap Msg.cells) ∧
      (∀ k, v.ownBlock = some k → w.heap.size ≤ k) ∧ l.Ok w' (B.tick now) mo mf mq ∧ Chg (fun k => k ∈ l.ps) w w' := by
  refine (callsIn_wide (n := 0)).1 ?_
  have HB := Lib.hid h
  clear h
  have d1 : decide (now < 0) = false := by simp; omega
  have d2 : decide (1099511627776 < now) = false := by simp; omega
  refine callsIn_of_wp_marks Try.func13 rfl trivial ?_ rfl
  simp only [Try.ntmps13, List.size_toArray, List.length_cons, List.length_nil, Nat.reduceAdd, Nat.reduceSub, Array.replicate_succ, Array.replicate_zero, List.push_toArray, List.append_toArray, List.nil_append, List.cons_append]
  gi_wp2_with fail
  refine ⟨trivial, rfl, (callsIn_wide.2 (due_any _ _ _)).mono ?_⟩
  rintro e W1 ⟨rfl, hW1⟩
  have hsz : W1.heap.size = w.heap.size + 4 := by rw [hW1]; simp
  have hcW : Chg (fun _ => False) w W1 := by rw [hW1]; exact ((((Chg.refl _ w).alloc _).alloc _).alloc _).alloc _
  have hb : Blk W1 (w.heap.size + 1) [.slice none 0 0] 39 := by
    rw [hW1]; have := Blk.new (w.alloc (.cells #[.int .i64 now] 3)) [.slice none 0 0] 39; rw [World.size_alloc] at this; exact (this.alloc _).alloc _
  have hs0 : W1.cell? ⟨w.heap.size, 0, none⟩ = some (.int .i64 now) := by
    rw [hW1]; exact ((((Blk.new w [.int .i64 now] 3).alloc _).alloc _).alloc _).cell 0
  have hs2 : W1.cell? ⟨w.heap.size + 2, 0, none⟩ = some (ptr l.b) := by
    rw [hW1]
    have := Blk.new ((w.alloc (.cells #[.int .i64 now] 3)).alloc (.cells #[.slice none 0 0] 39)) [ptr l.b] 24
    simp only [World.size_alloc] at this; exact (this.alloc _).cell 0
  have hs3 : W1.cell? ⟨w.heap.size + 3, 0, none⟩ = some (.int .i64 now) := by
    rw [hW1]
    have := Blk.new (((w.alloc (.cells #[.int .i64 now] 3)).alloc (.cells #[.slice none 0 0] 39)).alloc (.cells #[ptr l.b] 24)) [.int .i64 now] 3
    simp only [World.size_alloc] at this; exact this.cell 0
  simp only [World.size_alloc]
  clear hW1
  have hok : l.Ok W1 B mo mf mq := HB.out.keep hcW (fun _ _ h => h)
  have hlow : ∀ k, l.has k → k < w.heap.size := fun k hk => HB.out.lt hk
  have hlen := HB.out.len
  have HC := Lib.hid hcW; have HBL := Lib.hid hb; have H0 := Lib.hid hs0; have H2 := Lib.hid hs2; have H3 := Lib.hid hs3; have HOK := Lib.hid hok; have HLOW := Lib.hid hlow; have HLEN := Lib.hid hlen
  clear hcW hb hs0 hs2 hs3 hok hlow hlen
  gi_wp2_with fail
  refine wpIn_range_all (gf := 43) (lb := #[ptr (w.heap.size + 2), ptr (w.heap.size + 3)]) rfl enters43 ((w.heap.size + 1) :: l.ps) (DueCan now l B) (fun xs => xs = dues B l now B.L.length) (DueGood now l B mo mf mq) (Ticks now l B mo mf mq w.heap.size) ?_ ?_ ?_ ?_ ?_ ?_ ?_ ?_
  · have := HC.out.size
    exact Ticks.fine _ _ _ _ _ _ _ _ (by omega)
  · refine ⟨⟨.slice none 0 0, 0, Nat.zero_le _, rfl, HBL.out, World.ownsRow_nil _ _ _ _, rfl, fun k hk => by simp [Value.ownBlock] at hk, ?_⟩, H0.out, HLOW.out⟩
    rw [upto_zero]; exact HOK.out
  · rintro k pre own A hk ⟨⟨v, i, hi, hp, h1, h2, rfl, h3, h4⟩, hbx, hlow⟩ j hj hpj
    rw [← upto_dues hi hj HLEN.out (hp.symm.trans hpj)]; exact h4
  · intro W hc hs
    refine due_gives now n0 n1 l B mo mf mq (w.heap.size + 2) (w.heap.size + 3) _ W (hc.cell H2.out (fun h => h)) (hc.cell H3.out (fun h => h)) ?_ ?_ (HOK.out.keep hc (fun _ _ h => h)) hsmall
    · intro hm
      have := HLOW.out (w.heap.size + 2)
      simp only [List.mem_cons] at hm
      rcases hm with hm | hm | hm
      · omega
      · omega
      · have := this (.inr (.inr (.inr (.inr hm)))); omega
    · intro hm
      have := HLOW.out (w.heap.size + 3)
      simp only [List.mem_cons] at hm
      rcases hm with hm | hm | hm
      · omega
      · omega
      · have := this (.inr (.inr (.inr (.inr hm)))); omega
  · exact fun x => { tmps := #[.pointer (some { block := l.b, off := 0 }), .int .i64 now, undef,
              .pointer (some { block := w.heap.size, off := 0 }), .slice none 0 0, .int .i64 0,
              .pointer (some { block := w.heap.size + 1, off := 0 }), x, .int .i64 now,
              .bool false, .bool false, .int .i64 now, .bool false, .bool false,
              .pointer (some { block := l.b, off := 0 }), .int .i64 now,
              .func (Fn.func 43) #[]
                #[.pointer (some { block := w.heap.size + 1 + 1, off := 0 }),
                  .pointer (some { block := w.heap.size + 1 + 1 + 1, off := 0 })],
              x, undef, undef, undef, undef, undef, undef, undef, undef, undef, undef, undef, undef], defers := [] }
  · intro m x W K hK
    gi_wp2
    exact hK
  · rintro m pre own x A ⟨⟨v, i, hi, rfl, h1, h2, rfl, h3, h4⟩, hbx, hlow⟩ ⟨i', hi', hp', hpre, hdue, rfl⟩
    have e1 := toldz_same hpre
    have e2 := upto_dues hi (Nat.le_of_lt hi') HLEN.out hpre
    rw [show tolds B l now i = tolds B l now i' from by unfold tolds; rw [e1]] at h2
    rw [e2] at h4
    rw [hpre]
    clear hpre e1 e2 hi i
    have hblk : Blk A l.ps[i'] (B.L[i'].1.cells ++ [.int .i64 B.L[i'].2]) 75 := (h4.nth hi' HLEN.out).2
    have hstep := toldz_step hi' HLEN.out hdue
    have hds := dues_step (B := B) (l := l) (now := now) hi' HLEN.out
    rw [if_pos hdue] at hds
    have hpl := HLOW.out l.ps[i'] (.inr (.inr (.inr (.inr (List.getElem_mem hp')))))
    have hm : B.L[i'].1 = B.L[i'].1 := rfl
    obtain ⟨p, hpe⟩ : ∃ p, l.ps[i'] = p := ⟨_, rfl⟩
    obtain ⟨M, hM⟩ : ∃ M, B.L[i'].1 = M := ⟨_, rfl⟩
    rw [hpe] at hblk hpl
    rw [hM] at hblk
    rw [hpe]
    have HI := Lib.hid hi'; have HP := Lib.hid hp'; have HS := Lib.hid hstep; have HDS := Lib.hid hds; have HD := Lib.hid hdue; have H4 := Lib.hid h4; have HR := Lib.hid h2; have HV := Lib.hid h3; have HB1 := Lib.hid h1
    have HPE := Lib.hid hpe; have HM := Lib.hid hM
    have b11 := hblk.cell 11
    simp only [Msg.cells, List.cons_append, List.nil_append, List.getElem?_cons_zero, List.getElem?_cons_succ] at b11
    have f11 := hblk.frozen 11
    have HBK := Lib.hid hblk
    have HX := Lib.hid hbx
    clear h1 h2 h3 h4 hstep hds hdue hm hblk hpe hM hlow
    unfold ptr
    clear H0 H2 H3 HOK HC HBL
    gi_wp2_with fail
    obtain ⟨A2, hA2⟩ : ∃ A2, A.setCell ⟨p, 11, none⟩ (.int .i64 now) = A2 := ⟨_, rfl⟩
    have hbk2 : Blk A2 p (M.cells ++ [.int .i64 now]) 75 := by rw [← hA2]; exact HBK.out.setCell 11 _
    have hc2 : Chg (fun k => k = p) A A2 := by rw [← hA2]; exact (Chg.refl _ A).setCell (p := ⟨p, 11, none⟩) _ (fun _ => rfl)
    rw [hA2]
    have hsz2 : A2.heap.size = A.heap.size := by rw [← hA2]; simp
    have hnp : ∀ k, v.ownBlock = some k → k ≠ p := fun k hk => by have := (HV.out k hk).1; omega
    have hr2 := HR.out.keep hc2 hnp
    have hb2 : Blk A2 (w.heap.size + 1) [v] 39 := hc2.blk HB1.out (by omega)
    obtain ⟨i0, q1, q2, q3, q4⟩ := info_parts Try.infoMsg
    have htl : (tolds B l now i').length ≤ B.L.length := by unfold tolds toldz; rw [List.length_map]; exact Nat.le_trans (List.length_filter_le ..) (by simp; omega)
    obtain ⟨g, cap, w2, hrun, hr3, hc3, hg3⟩ := row_append (P := Try.prog) (A := A2.drew) (t := 39) (e := 35) Try.underlying39 q1 q2 q3 q4 rfl (by omega) (hr2.keep ((Chg.refl (fun _ => False) A2).drew) (fun _ _ h => h)) M.cells rfl (by simp [Msg.cells, Value.oneCell']) (by simp only [maxLen]; omega) (by omega)
    have hrun2 : ∀ ty, (Builtin.append_ #[39, 39] ty #[v, .slice (some ⟨A2.heap.size, 0, none⟩) 1 1]).run Try.prog ((A2.alloc (.cells #[.int .i64 M.kind, .int .i64 M.life, .int .i64 M.seen, .int .i64 M.xid, .int .i64 M.st, .int .u32 M.addr, .int .i64 M.bind, .string M.client, .int .i64 M.pot, .int .i64 M.time, .bool M.ok] 35)).drew) = .ok (.slice (some ⟨g, 0, none⟩) ((tolds B l now i').length + 1) cap) w2 := hrun
    have b0 := hbk2.cell 0
    have b1 := hbk2.cell 1
    have b2 := hbk2.cell 2
    have b3 := hbk2.cell 3
    have b4 := hbk2.cell 4
    have b5 := hbk2.cell 5
    have b6 := hbk2.cell 6
    have b7 := hbk2.cell 7
    have b8 := hbk2.cell 8
    have b9 := hbk2.cell 9
    have b10 := hbk2.cell 10
    have c0 := hb2.cell 0
    simp only [Msg.cells, List.cons_append, List.nil_append, List.getElem?_cons_zero, List.getElem?_cons_succ] at b0 b1 b2 b3 b4 b5 b6 b7 b8 b9 b10 c0
    have lc : w.heap.size + 1 < A2.heap.size := hb2.lt
    have HC2 := Lib.hid hc2; have HBK2 := Lib.hid hbk2; have HR3 := Lib.hid hr3; have HC3 := Lib.hid hc3; have HG3 := Lib.hid hg3; have HRUN := Lib.hid hrun2; have HZ2 := Lib.hid hsz2; have HB2 := Lib.hid hb2
    have hc23 : Chg (fun k => v.ownBlock = some k) A2 w2 := ((Chg.refl _ A2).drew.alloc _).trans hc3
    have hb3 : Blk w2 (w.heap.size + 1) [v] 39 := hc23.blk hb2 (fun h => by have := (HV.out _ h).1; omega)
    have hbk3 : Blk w2 p (M.cells ++ [.int .i64 now]) 75 := hc23.blk hbk2 (fun h => hnp _ h rfl)
    have ht : tolds B l now (i' + 1) = tolds B l now i' ++ [M] := by unfold tolds; rw [HS.out]; simp [HM.out]
    have d0 := hb3.cell 0
    simp only [List.getElem?_cons_zero] at d0
    have e0 := hb3.frozen 0
    have FIN : Went (Ticks now l B mo mf mq w.heap.size) (dues B l now i') ((w.heap.size + 1) :: (v.ownBlock.toList ++ l.ps)) (.pointer (some ⟨p, 0, none⟩)) A (w2.setCell ⟨w.heap.size + 1, 0, none⟩ (.slice (some ⟨g, 0, none⟩) ((tolds B l now i').length + 1) cap)) := by
      have hset : Chg (fun k => k = w.heap.size + 1) w2 (w2.setCell ⟨w.heap.size + 1, 0, none⟩ (.slice (some ⟨g, 0, none⟩) ((tolds B l now i').length + 1) cap)) := (Chg.refl _ w2).setCell (p := ⟨w.heap.size + 1, 0, none⟩) _ (fun _ => rfl)
      have hall : Chg (fun k => k = p ∨ v.ownBlock = some k ∨ k = w.heap.size + 1) A (w2.setCell ⟨w.heap.size + 1, 0, none⟩ (.slice (some ⟨g, 0, none⟩) ((tolds B l now i').length + 1) cap)) :=
        ((hc2.mono (fun i _ h => .inl h)).trans (hc23.mono (fun i _ h => .inr (.inl h)))).trans (hset.mono (fun i _ h => .inr (.inr h)))
      have hgl : g < w2.heap.size := by
        rcases hr3.2 with ⟨h, _⟩ | ⟨g', cap', cur, h, _, hh, _⟩
        · cases h
        · cases h; exact (Array.getElem?_eq_some_iff.1 hh).1
      have hA2lt : w.heap.size + 1 < A2.heap.size := hb2.lt
      have hgs : w.heap.size + 1 < g := by
        rcases hg3 with h | h
        · exact (HV.out g h).1
        · have : A2.drew.heap.size = A2.heap.size := rfl
          omega
      have hlowk : ∀ k, l.has k → ¬ (v.ownBlock = some k ∨ k = w.heap.size + 1) := fun k hk h => by
        have h1 := HLOW.out k hk
        rcases h with h | h
        · have := (HV.out k h).1; omega
        · omega
      refine ⟨(w.heap.size + 1) :: (g :: l.ps), ⟨⟨_, i' + 1, HI.out, ?_, hb3.setCell 0 _, ?_, rfl, ?_, ?_⟩, ?_, HLOW.out⟩, ?_, ?_⟩
      · rw [HDS.out, HPE.out]; rfl
      · rw [ht]
        have := hr3.keep hset (fun k hk => by simp [Value.ownBlock] at hk; omega)
        simpa [List.flatMap_append] using this
      · intro k hk
        simp only [Value.ownBlock, Option.some.injEq] at hk
        subst hk
        exact ⟨hgs, by simpa using hgl⟩
      · refine H4.out.send HI.out HP.out HD.out hall ?_ ?_ n0 n1
        · rintro k hk hne (h | h)
          · exact hne (by rw [HPE.out]; exact h)
          · exact hlowk k hk h
        · rw [HPE.out, HM.out]; exact hset.blk hbk3 (by omega)
      · refine hall.cell HX.out (fun h => ?_)
        simp only at h
        rcases h with h | h | h
        · omega
        · have := (HV.out _ h).1; omega
        · omega
      · refine hall.mono (fun i _ h => ?_)
        rcases h with h | h | h
        · have : p ∈ l.ps := by rw [← HPE.out]; exact List.getElem_mem _
          subst h; simp [this]
        · simp [h]
        · simp [h]
      · intro k hk
        simp only [List.mem_cons] at hk
        rcases hk with rfl | rfl | hk
        · exact .inl (List.mem_cons_self ..)
        · rcases hg3 with h | h
          · left; simp [h]
          · right
            have : A2.drew.heap.size = A2.heap.size := rfl
            omega
        · left; simp [hk]
    have HFIN := Lib.hid FIN
    clear FIN hc23 hb3 hbk3 ht hrun2 hsz2 hA2 hbk2 hc2 hr2 hb2 hr3 hc3 hg3 hrun q1 q2 q3 q4 b11 f11 hbx
    refine wpIn_region_any (by kernel_rfl) ?_
    change wpAnyIn _ _ _ _ _ _ _ _ _ (World.drew _)
    refine wpAnyIn_ready (rs := [0, 1]) (by kernel_rfl) (by simp) (AllReadyIn.cons rfl (fun K hK => ?_) (AllReadyIn.cons rfl (fun K hK => ?_) AllReadyIn.nil))
    · go_simp; refine hK _ _ ?_; clear hK K
      refine wpAnyIn_ready (rs := [1]) (by kernel_rfl) (by simp) (AllReadyIn.cons rfl (fun K hK => ?_) AllReadyIn.nil)
      go_simp
      refine hK _ _ ?_; clear hK K
      refine wpAnyIn_ready (rs := [2]) (by kernel_rfl) (by simp) (AllReadyIn.cons rfl (fun K hK => ?_) AllReadyIn.nil)
      go_simp
      refine hK _ _ ?_; clear hK K
      refine wpAnyIn_ready (rs := [3]) (by kernel_rfl) (by simp) (AllReadyIn.cons rfl (fun K hK => ?_) AllReadyIn.nil)
      go_simp
      refine hK _ _ ?_; clear hK K
      refine wpAnyIn_ready (rs := [4]) (by kernel_rfl) (by simp) (AllReadyIn.cons rfl (fun K hK => ?_) AllReadyIn.nil)
      go_simp
      refine hK _ _ ?_; clear hK K
      refine wpAnyIn_ready (rs := [5]) (by kernel_rfl) (by simp) (AllReadyIn.cons rfl (fun K hK => ?_) AllReadyIn.nil)
      go_simp
      refine hK _ _ ?_; clear hK K
      refine wpAnyIn_ready (rs := [6]) (by kernel_rfl) (by simp) (AllReadyIn.cons rfl (fun K hK => ?_) AllReadyIn.nil)
      rw [if_pos (by kernel_rfl)]
      simp only [List.getElem_toArray, List.getElem_cons_zero, List.getElem_cons_succ]
      refine Oper.wpIn_append_run _ _ _ rfl rfl rfl HRUN.out ?_
      refine hK _ _ ?_; clear hK K
      refine wpAnyIn_ready (rs := [7]) (by kernel_rfl) (by simp) (AllReadyIn.cons rfl (fun K hK => ?_) AllReadyIn.nil)
      go_simp
      refine hK _ _ ?_; clear hK K
      refine wpAnyIn_done (by kernel_rfl) ?_ _
      gi_wp2_with fail
      exact HFIN.out
    · go_simp; refine hK _ _ ?_; clear hK K
      refine wpAnyIn_ready (rs := [0, 2]) (by kernel_rfl) (by simp) (AllReadyIn.cons rfl (fun K hK => ?_) (AllReadyIn.cons rfl (fun K hK => ?_) AllReadyIn.nil))
      · go_simp; refine hK _ _ ?_; clear hK K
        refine wpAnyIn_ready (rs := [2]) (by kernel_rfl) (by simp) (AllReadyIn.cons rfl (fun K hK => ?_) AllReadyIn.nil)
        go_simp
        refine hK _ _ ?_; clear hK K
        refine wpAnyIn_ready (rs := [3]) (by kernel_rfl) (by simp) (AllReadyIn.cons rfl (fun K hK => ?_) AllReadyIn.nil)
        go_simp
        refine hK _ _ ?_; clear hK K
        refine wpAnyIn_ready (rs := [4]) (by kernel_rfl) (by simp) (AllReadyIn.cons rfl (fun K hK => ?_) AllReadyIn.nil)
        go_simp
        refine hK _ _ ?_; clear hK K
        refine wpAnyIn_ready (rs := [5]) (by kernel_rfl) (by simp) (AllReadyIn.cons rfl (fun K hK => ?_) AllReadyIn.nil)
        go_simp
        refine hK _ _ ?_; clear hK K
        refine wpAnyIn_ready (rs := [6]) (by kernel_rfl) (by simp) (AllReadyIn.cons rfl (fun K hK => ?_) AllReadyIn.nil)
        rw [if_pos (by kernel_rfl)]
        simp only [List.getElem_toArray, List.getElem_cons_zero, List.getElem_cons_succ]
        refine Oper.wpIn_append_run _ _ _ rfl rfl rfl HRUN.out ?_
        refine hK _ _ ?_; clear hK K
        refine wpAnyIn_ready (rs := [7]) (by kernel_rfl) (by simp) (AllReadyIn.cons rfl (fun K hK => ?_) AllReadyIn.nil)
        go_simp
        refine hK _ _ ?_; clear hK K
        refine wpAnyIn_done (by kernel_rfl) ?_ _
        gi_wp2_with fail
        exact HFIN.out
      · go_simp; refine hK _ _ ?_; clear hK K
        refine wpAnyIn_ready (rs := [0, 3]) (by kernel_rfl) (by simp) (AllReadyIn.cons rfl (fun K hK => ?_) (AllReadyIn.cons rfl (fun K hK => ?_) AllReadyIn.nil))
        · go_simp; refine hK _ _ ?_; clear hK K
          refine wpAnyIn_ready (rs := [3]) (by kernel_rfl) (by simp) (AllReadyIn.cons rfl (fun K hK => ?_) AllReadyIn.nil)
          go_simp
          refine hK _ _ ?_; clear hK K
          refine wpAnyIn_ready (rs := [4]) (by kernel_rfl) (by simp) (AllReadyIn.cons rfl (fun K hK => ?_) AllReadyIn.nil)
          go_simp
          refine hK _ _ ?_; clear hK K
          refine wpAnyIn_ready (rs := [5]) (by kernel_rfl) (by simp) (AllReadyIn.cons rfl (fun K hK => ?_) AllReadyIn.nil)
          go_simp
          refine hK _ _ ?_; clear hK K
          refine wpAnyIn_ready (rs := [6]) (by kernel_rfl) (by simp) (AllReadyIn.cons rfl (fun K hK => ?_) AllReadyIn.nil)
          rw [if_pos (by kernel_rfl)]
          simp only [List.getElem_toArray, List.getElem_cons_zero, List.getElem_cons_succ]
          refine Oper.wpIn_append_run _ _ _ rfl rfl rfl HRUN.out ?_
          refine hK _ _ ?_; clear hK K
          refine wpAnyIn_ready (rs := [7]) (by kernel_rfl) (by simp) (AllReadyIn.cons rfl (fun K hK => ?_) AllReadyIn.nil)
          go_simp
          refine hK _ _ ?_; clear hK K
          refine wpAnyIn_done (by kernel_rfl) ?_ _
          gi_wp2_with fail
          exact HFIN.out
        · go_simp; refine hK _ _ ?_; clear hK K
          refine wpAnyIn_ready (rs := [0, 4]) (by kernel_rfl) (by simp) (AllReadyIn.cons rfl (fun K hK => ?_) (AllReadyIn.cons rfl (fun K hK => ?_) AllReadyIn.nil))
          · go_simp; refine hK _ _ ?_; clear hK K
            refine wpAnyIn_ready (rs := [4]) (by kernel_rfl) (by simp) (AllReadyIn.cons rfl (fun K hK => ?_) AllReadyIn.nil)
            go_simp
            refine hK _ _ ?_; clear hK K
            refine wpAnyIn_ready (rs := [5]) (by kernel_rfl) (by simp) (AllReadyIn.cons rfl (fun K hK => ?_) AllReadyIn.nil)
            go_simp
            refine hK _ _ ?_; clear hK K
            refine wpAnyIn_ready (rs := [6]) (by kernel_rfl) (by simp) (AllReadyIn.cons rfl (fun K hK => ?_) AllReadyIn.nil)
            rw [if_pos (by kernel_rfl)]
            simp only [List.getElem_toArray, List.getElem_cons_zero, List.getElem_cons_succ]
            refine Oper.wpIn_append_run _ _ _ rfl rfl rfl HRUN.out ?_
            refine hK _ _ ?_; clear hK K
            refine wpAnyIn_ready (rs := [7]) (by kernel_rfl) (by simp) (AllReadyIn.cons rfl (fun K hK => ?_) AllReadyIn.nil)
            go_simp
            refine hK _ _ ?_; clear hK K
            refine wpAnyIn_done (by kernel_rfl) ?_ _
            gi_wp2_with fail
            exact HFIN.out
          · go_simp; refine hK _ _ ?_; clear hK K
            refine wpAnyIn_ready (rs := [0, 5]) (by kernel_rfl) (by simp) (AllReadyIn.cons rfl (fun K hK => ?_) (AllReadyIn.cons rfl (fun K hK => ?_) AllReadyIn.nil))
            · go_simp; refine hK _ _ ?_; clear hK K
              refine wpAnyIn_ready (rs := [5]) (by kernel_rfl) (by simp) (AllReadyIn.cons rfl (fun K hK => ?_) AllReadyIn.nil)
              go_simp
              refine hK _ _ ?_; clear hK K
              refine wpAnyIn_ready (rs := [6]) (by kernel_rfl) (by simp) (AllReadyIn.cons rfl (fun K hK => ?_) AllReadyIn.nil)
              rw [if_pos (by kernel_rfl)]
              simp only [List.getElem_toArray, List.getElem_cons_zero, List.getElem_cons_succ]
              refine Oper.wpIn_append_run _ _ _ rfl rfl rfl HRUN.out ?_
              refine hK _ _ ?_; clear hK K
              refine wpAnyIn_ready (rs := [7]) (by kernel_rfl) (by simp) (AllReadyIn.cons rfl (fun K hK => ?_) AllReadyIn.nil)
              go_simp
              refine hK _ _ ?_; clear hK K
              refine wpAnyIn_done (by kernel_rfl) ?_ _
              gi_wp2_with fail
              exact HFIN.out
            · go_simp; refine hK _ _ ?_; clear hK K
              refine wpAnyIn_ready (rs := [0]) (by kernel_rfl) (by simp) (AllReadyIn.cons rfl (fun K hK => ?_) AllReadyIn.nil)
              go_simp
              refine hK _ _ ?_; clear hK K
              refine wpAnyIn_ready (rs := [6]) (by kernel_rfl) (by simp) (AllReadyIn.cons rfl (fun K hK => ?_) AllReadyIn.nil)
              rw [if_pos (by kernel_rfl)]
              simp only [List.getElem_toArray, List.getElem_cons_zero, List.getElem_cons_succ]
              refine Oper.wpIn_append_run _ _ _ rfl rfl rfl HRUN.out ?_
              refine hK _ _ ?_; clear hK K
              refine wpAnyIn_ready (rs := [7]) (by kernel_rfl) (by simp) (AllReadyIn.cons rfl (fun K hK => ?_) AllReadyIn.nil)
              go_simp
              refine hK _ _ ?_; clear hK K
              refine wpAnyIn_done (by kernel_rfl) ?_ _
              gi_wp2_with fail
              exact HFIN.out
  · rintro xs own W' hall ⟨⟨v, i, hi, hxs, h1, h2, rfl, h3, h4⟩, hbx, hlow⟩ hc hD
    have hii := hxs.symm.trans hall
    have e1 := toldz_same hii
    have e2 := upto_dues hi (Nat.le_refl _) HLEN.out hii
    have ht : tolds B l now i = B.told now := by rw [← tolds_all HLEN.out]; unfold tolds; rw [e1]
    rw [ht] at h2
    rw [e2, upto_all] at h4
    have b0 := h1.cell 0
    simp only [List.getElem?_cons_zero] at b0
    have hcw : Chg (fun k => k ∈ l.ps) w W' := (HC.out.mono (fun _ _ h => h.elim)).trans' hc (fun i hi h => by
      rcases List.mem_cons.1 h with h | h
      · omega
      · exact h)
    have H1 := Lib.hid h1; have HR := Lib.hid h2; have HV := Lib.hid h3; have H4 := Lib.hid h4; have HCW := Lib.hid hcw; have HD := Lib.hid hD
    clear h1 h2 h3 h4 hc hcw hD hbx hlow hxs hall hii e1 e2 ht H0 H2 H3 HBL HOK HC
    gi_wp2
    refine ⟨by simp, .inl ⟨_, _, rfl, run_takeDeferred HD.out, ?_⟩⟩
    have hput : Chg (fun k => k = W1.heap.size) W' (W'.putObj W1.heap.size (.deferred none)) := IM.Chg.putObj (Chg.refl _ W') _ (fun _ => rfl)
    refine ⟨.tuple #[v, .int .i64 0], by simp [results, Try.results13, go_sem], v, rfl, ?_, ?_, ?_, ?_⟩
    · refine HR.out.keep hput (fun k hk e => ?_)
      rcases HR.out.2 with ⟨h, _⟩ | ⟨g', cap', cur, h, _, hh, _⟩
      · rw [h] at hk; cases hk
      · rw [h] at hk
        simp only [Value.ownBlock, Option.some.injEq] at hk
        rw [hk, e, HD.out] at hh
        cases hh
    · intro k hk
      have := (HV.out k hk).1; omega
    · refine H4.out.keep hput (fun k hk h => ?_)
      have := HLOW.out k hk; omega
    · exact HCW.out.trans' hput (fun i hi h => by omega)
end Go.Proofs.Ytenkglbnlealbaa
