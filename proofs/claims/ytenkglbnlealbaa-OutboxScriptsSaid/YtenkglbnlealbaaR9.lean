import Derived.Test.YtenkglbnlealbaaR8
/-! The reference's 'Tick'. -/
namespace Go.Proofs.Ytenkglbnlealbaa
open Go.RowKit
attribute [local go_sem] Oper.semAt_some
theorem RTick_bad (w : World) (b now : Int) (p : Nat) (_ : b = b) (h : now < 0 ∨ 1099511627776 < now) : Calls Try.prog 33 #[ptr p, .int .i64 now] w fun e w' => e = .returned (.tuple #[.slice none 0 0, .int .i64 1]) ∧ w = w' := by
  unfold ptr
  rcases h with h | h
  · go_enter Try.func33, Try.ntmps33
    go_wp2
    go_ret2
    exact ⟨rfl, rfl⟩
  · by_cases h0 : now < 0
    · go_enter Try.func33, Try.ntmps33
      go_wp2
      go_ret2
      exact ⟨rfl, rfl⟩
    · go_enter Try.func33, Try.ntmps33
      go_wp2
      go_ret2
      exact ⟨rfl, rfl⟩
theorem ownsRow_below {w : World} {e : TypeId} {size n : Nat} {v : Value} {xs : List Value} (h : w.ownsRow 0 e size v n xs) {k : Nat} (hk : v.ownBlock = some k) : k < w.heap.size := by
  rcases h.2 with ⟨h1, _⟩ | ⟨g, cap, cur, h1, _, h2, _⟩
  · rw [h1] at hk; cases hk
  · rw [h1] at hk
    simp only [Value.ownBlock, Option.some.injEq] at hk
    subst hk
    exact (Array.getElem?_eq_some_iff.1 h2).1
theorem row_cell {w : World} {e : TypeId} {size n cap g : Nat} {xs : List Value} (h : w.ownsRow 0 e size (.slice (some ⟨g, 0, none⟩) n cap) n xs) {j : Nat} {x : Value} (hx : xs[j]? = some x) : w.cell? ⟨g, j, none⟩ = some x := by
  have := h.cells (g := g) rfl j x hx
  have e1 : (⟨g, 0, none⟩ : Addr).add j = ⟨g, j, none⟩ := by unfold Addr.add; split <;> simp_all
  rwa [e1] at this
/-- what is told of the first i -/
def Box.tells (B : Box) (now : Int) (i : Nat) : List Msg := ((B.L.take i).filter (due now)).map (·.1)
theorem tells_all {B : Box} {now : Int} : B.tells now B.L.length = B.told now := by unfold Box.tells Box.told; rw [List.take_length]
theorem tells_step {B : Box} {now : Int} {i : Nat} (hi : i < B.L.length) : B.tells now (i + 1) = B.tells now i ++ if due now B.L[i] = true then [B.L[i].1] else [] := by
  unfold Box.tells
  rw [List.take_succ_eq_append_getElem hi, List.filter_append, List.map_append]
  congr 1
  by_cases hd : due now B.L[i] = true
  · simp [hd]
  · simp [hd]
theorem upto_due {B : Box} {now : Int} {i : Nat} (hi : i < B.L.length) (hd : due now B.L[i] = true) : B.upto now (i + 1) = { B.upto now i with L := (B.upto now i).L.set i (B.L[i].1, now) } := by
  unfold Box.upto
  simp only [Box.mk.injEq, and_true]
  rw [List.take_succ_eq_append_getElem hi, List.map_append, List.append_assoc]
  rw [← List.getElem_cons_drop hi, List.set_append_right _ _ (by simp; omega)]
  have : i - ((B.L.take i).map (tick1 now)).length = 0 := by simp; omega
  rw [this]
  simp only [List.set_cons_zero, List.map_cons, List.map_nil, List.cons_append, List.nil_append]
  rw [tick1, if_pos hd]
theorem flat_setO : ∀ (L : List (Msg × Int)) (i : Nat) (s : Int) (hi : i < L.length), (L.flatMap cellsO).set (i * 12 + 11) (.int .i64 s) = (L.set i (L[i].1, s)).flatMap cellsO
  | [], i, s, hi => absurd hi (Nat.not_lt_zero _)
  | m :: L, 0, s, hi => by simp [cellsO, Msg.cells]
  | m :: L, i + 1, s, hi => by
    have ih := flat_setO L i s (by simpa using hi)
    have e : (i + 1) * 12 + 11 = i * 12 + 11 + (cellsO m).length := by rw [cellsO_len']; omega
    rw [List.flatMap_cons, e, List.set_append_right _ _ (by omega), Nat.add_sub_cancel, ih]
    simp
where cellsO_len' {x : Msg × Int} : (cellsO x).length = 12 := rfl
set_option maxRecDepth 100000 in
set_option maxHeartbeats 2000000 in
theorem RTick_any (w : World) (b : Nat) (B : Box) (vL vW : Value) (h : RBox w b B vL vW) (now : Int) (n0 : 0 ≤ now) (n1 : now ≤ 1099511627776) (hsm : B.L.length < 1000000) (hs : ∀ x ∈ B.L, -1 ≤ x.2 ∧ x.2 ≤ 1099511627776) :
    Calls Try.prog 33 #[ptr b, .int .i64 now] w fun e w' => ∃ v, e = .returned (.tuple #[v, .int .i64 0]) ∧ w'.ownsRow 0 35 11 v (B.told now).length ((B.told now).flatMap Msg.cells) ∧
      (∀ k, v.ownBlock = some k → w.heap.size ≤ k) ∧ RBox w' b (B.tick now) vL vW ∧ Chg (fun k => vL.ownBlock = some k) w w' := by
  obtain ⟨a1, cap1, rfl⟩ := ownsRow_slice h.rowL
  have H := Lib.hid h
  have hb := h.head.lt
  clear h
  obtain ⟨N, hN⟩ : ∃ N, B.L.length = N := ⟨_, rfl⟩
  rw [hN] at hsm
  have HN := Lib.hid hN
  have HS := Lib.hid hs
  clear hN hs
  unfold ptr
  go_enter Try.func33, Try.ntmps33
  go_wp2_with fail
  go_loopw [6, 7] (fun vx ix wr => ∃ i : Nat, i ≤ N ∧ ix = .int .i64 i ∧ RBox wr b (B.upto now i) (.slice a1 B.L.length cap1) vW ∧ wr.ownsRow 0 35 11 vx (B.tells now i).length ((B.tells now i).flatMap Msg.cells) ∧ (∀ k, vx.ownBlock = some k → w.heap.size ≤ k) ∧ Chg (fun k => (Value.slice a1 B.L.length cap1).ownBlock = some k) w wr) (fun _ ix _ => N - (intOf ix).toNat)
  case atStart => exact ⟨0, Nat.zero_le _, rfl, by rw [upto_zero]; exact H.out, ⟨rfl, .inl ⟨rfl, rfl⟩⟩, (fun k hk => by cases hk), Chg.refl _ w⟩
  case round =>
    obtain ⟨i, hi, rfl, hr, ho, hv, hc⟩ := hrel
    have c0 := hr.head.cell 0
    simp only [List.getElem?_cons_zero] at c0
    have HR := Lib.hid hr; have HO := Lib.hid ho; have HV := Lib.hid hv; have HC := Lib.hid hc
    clear hr ho hv hc
    by_cases hlt : i < N
    · have hiL : i < B.L.length := by rw [HN.out]; exact hlt
      obtain ⟨hiU, heU⟩ := upto_get (now := now) hiL
      have hlU : (B.upto now i).L.length = B.L.length := upto_len i (Nat.le_of_lt hiL)
      have hrow := HR.out.rowL
      rw [hlU] at hrow
      obtain ⟨g, cap', hvv, hg, hcell⟩ := ownsRow_cells hrow (by omega)
      obtain ⟨rfl, rfl⟩ : a1 = some ⟨g, 0, none⟩ ∧ cap1 = cap' := by simp only [Value.slice.injEq] at hvv; exact ⟨hvv.1, hvv.2.2⟩
      rw [HN.out] at c0
      obtain ⟨x, hx⟩ : ∃ x, B.L[i] = x := ⟨_, rfl⟩
      have hcl : ∀ k c, k < 12 → (cellsO x)[k]? = some c → wr.cell? ⟨g, i * 12 + k, none⟩ = some c := fun k c hk h => hcell _ _ (by rw [flat_o _ i k hiU hk, heU, hx]; exact h)
      have hsx := HS.out x (by rw [← hx]; exact List.getElem_mem hiL)
      have HX := Lib.hid hx
      have e11 := hcl 11 _ (by decide) rfl
      have HCL := Lib.hid hcl
      have hf := hrow.frozen (i * 12 + 11)
      have HROW := Lib.hid hrow
      obtain ⟨M, s⟩ := x
      simp only at hsx e11
      obtain ⟨hs1, hs2⟩ := hsx
      clear hcl hcell hvv hrow hx heU hiU hlU
      by_cases hdue : due now (M, s) = true
      · have hc : decide (s < 0) = true ∨ (decide (s < 0) = false ∧ decide (3 ≤ now - s) = true) := by
          unfold due at hdue
          simp at hdue
          by_cases hs0 : s < 0
          · exact .inl (by simpa using hs0)
          · refine .inr ⟨by simpa using hs0, ?_⟩
            simp
            rcases hdue with h | h
            · omega
            · exact h
        have HDUE := Lib.hid hdue
        clear hdue
        rcases hc with b1 | ⟨b1, b2⟩
        all_goals
          have htl : (B.tells now i).length ≤ i := by
            have h1 := List.length_filter_le (due now) (B.L.take i)
            have h2 : (B.tells now i).length = ((B.L.take i).filter (due now)).length := by unfold Box.tells; rw [List.length_map]
            rw [List.length_take] at h1
            omega
          have hst := tells_step (now := now) hiL
          have hup := upto_due (now := now) hiL (by rw [HX.out]; exact HDUE.out)
          rw [HX.out, if_pos HDUE.out] at hst
          rw [HX.out] at hup
          have HST := Lib.hid hst; have HUP := Lib.hid hup
          clear hst hup
          go_upto_region 9 with (fail)
          obtain ⟨A2, hA2⟩ : ∃ A2, wr.setCell ⟨g, i * 12 + 11, none⟩ (.int .i64 now) = A2 := ⟨_, rfl⟩
          have c2 : Chg (fun k => k = g) wr A2 := by rw [← hA2]; exact (Chg.refl _ wr).setCell (p := ⟨g, i * 12 + 11, none⟩) _ (fun _ => rfl)
          have hb2 := c2.blk HR.out.head (fun e => HR.out.neL g (by rfl) e.symm)
          have hrow2 : A2.ownsRow 0 107 12 (.slice (some ⟨g, 0, none⟩) B.L.length cap1) B.L.length ((B.upto now (i + 1)).L.flatMap cellsO) := by
            have h3 := HROW.out.set (i * 12 + 11) (.int .i64 now) (by omega)
            obtain ⟨hiU, heU⟩ := upto_get (now := now) hiL
            rw [flat_setO _ i now hiU, heU, HX.out, hA2] at h3
            rw [HUP.out]
            exact h3
          have hw2 := HR.out.rowW.keep c2 (fun k hk e => HR.out.apart g (by rfl) (by rw [← e]; exact hk))
          have lg := ownsRow_below H.out.rowL (k := g) (by rfl)
          have ho2 := HO.out.keep c2 (fun k hk e => by have := HV.out k hk; omega)
          rw [hA2]
          obtain ⟨i0, y1, y2, y3, y4⟩ := info_parts Try.info35'
          obtain ⟨g4, cap4, w4, hrun, hr4, hc4, hg4⟩ := row_append (P := Try.prog) (A := A2) (t := 39) (e := 35) Try.underlying39 y1 y2 y3 y4 rfl (by omega) ho2 M.cells rfl (by simp [Msg.cells, Value.oneCell']) (by simp only [maxLen]; omega) (by omega)
          have d0 := hb2.cell 0
          have lb2 := hb2.lt
          have lg2 : g < A2.heap.size := Nat.lt_of_lt_of_le hg c2.size
          have hw0 := HC.out.size
          have hfr : ∀ k, (Value.slice (some ⟨g4, 0, none⟩) ((B.tells now i).length + 1) cap4).ownBlock = some k → w.heap.size ≤ k := fun k hk => by
            simp only [Value.ownBlock, Option.some.injEq] at hk
            subst hk
            rcases hg4 with h | h
            · exact HV.out _ h
            · have := c2.size; omega
          have c4 : Chg (fun k => u6.ownBlock = some k) A2 w4 := ((Chg.refl _ A2).alloc _).trans hc4
          have hbox : RBox w4 b (B.upto now (i + 1)) (.slice (some ⟨g, 0, none⟩) B.L.length cap1) vW := by
            have hlU : (B.upto now (i + 1)).L.length = B.L.length := upto_len (i + 1) (by omega)
            have hne : ∀ k, u6.ownBlock = some k → ∀ j, j < w.heap.size → k ≠ j := fun k hk j hj => by have := HV.out k hk; omega
            have hwl : ∀ k, vW.ownBlock = some k → k < w.heap.size := fun k hk => ownsRow_below H.out.rowW hk
            refine ⟨?_, ?_, ?_, HR.out.neL, HR.out.neW, HR.out.apart⟩
            · exact c4.blk hb2 (fun h => hne _ h b hb rfl)
            · rw [hlU]
              exact hrow2.keep c4 (fun k hk h => by
                simp only [Value.ownBlock, Option.some.injEq] at hk
                subst hk
                exact hne _ h _ lg rfl)
            · exact hw2.keep c4 (fun k hk h => hne _ h _ (hwl k hk) rfl)
          have hct : Chg (fun k => (Value.slice (some ⟨g, 0, none⟩) B.L.length cap1).ownBlock = some k) w w4 := (HC.out.trans (c2.mono (fun k _ h => by rw [h]; rfl))).trans' c4 (fun k hk h => by have := HV.out k h; omega)
          have hcl2 : ∀ k c, k < 12 → (cellsO (M, now))[k]? = some c → A2.cell? ⟨g, i * 12 + k, none⟩ = some c := fun k c hk h => by
            have hlU : i < (B.upto now (i + 1)).L.length := by rw [upto_len (i + 1) (by omega)]; exact hiL
            have hget : (B.upto now (i + 1)).L[i] = (M, now) := by
              simp only [HUP.out]
              rw [List.getElem_set_self]
            exact row_cell hrow2 (by rw [flat_o _ i k hlU hk, hget]; exact h)
          have q0 := hcl2 0 _ (by decide) rfl
          have q1 := hcl2 1 _ (by decide) rfl
          have q2 := hcl2 2 _ (by decide) rfl
          have q3 := hcl2 3 _ (by decide) rfl
          have q4 := hcl2 4 _ (by decide) rfl
          have q5 := hcl2 5 _ (by decide) rfl
          have q6 := hcl2 6 _ (by decide) rfl
          have q7 := hcl2 7 _ (by decide) rfl
          have q8 := hcl2 8 _ (by decide) rfl
          have q9 := hcl2 9 _ (by decide) rfl
          have q10 := hcl2 10 _ (by decide) rfl
          rw [Nat.add_zero] at q0
          rw [HN.out] at d0
          have hrun2 : ∀ ty, (Builtin.append_ #[39, 39] ty #[u6, .slice (some ⟨A2.heap.size, 0, none⟩) 1 1]).run Try.prog (A2.alloc (.cells #[.int .i64 M.kind, .int .i64 M.life, .int .i64 M.seen, .int .i64 M.xid, .int .i64 M.st, .int .u32 M.addr, .int .i64 M.bind, .string M.client, .int .i64 M.pot, .int .i64 M.time, .bool M.ok] 35)) = .ok (.slice (some ⟨g4, 0, none⟩) ((B.tells now i).length + 1) cap4) w4 := hrun
          have HRUN := Lib.hid hrun2; have HBOX := Lib.hid hbox; have HCT := Lib.hid hct; have HFR := Lib.hid hfr; have HR4 := Lib.hid hr4
          clear hrun hrun2 hbox hct hfr hr4 hcl2 hc4 hg4 hA2 c2 hb2 hrow2 hw2 ho2 c4 y1 y2 y3 y4 e11 hf c0
          go_wp2_with (at_builtin; refine wpList_append_run (by rfl) _ _ 39 (by rfl) (by rfl) (by rfl) HRUN.out ?_)
          go_roundw
          case rel =>
            refine ⟨i + 1, by omega, by go_num, HBOX.out, ?_, HFR.out, HCT.out⟩
            rw [HST.out, List.length_append, List.flatMap_append]
            have h9 := HR4.out
            simpa using h9
          case measure => simp [intOf]; omega
      · have hc : decide (s < 0) = false ∧ decide (3 ≤ now - s) = false := by
          unfold due at hdue
          simp at hdue
          simp
          omega
        have hst := tells_step (now := now) hiL
        have hup := upto_same (now := now) hiL (by rw [HX.out]; simpa using hdue)
        rw [HX.out, if_neg hdue, List.append_nil] at hst
        have HST := Lib.hid hst; have HUP := Lib.hid hup
        obtain ⟨b1, b2⟩ := hc
        clear hst hup hdue
        go_wp2_with fail
        go_roundw
        case rel =>
          refine ⟨i + 1, by omega, by go_num, ?_, ?_, HV.out, HC.out⟩
          · rw [HUP.out]; exact HR.out
          · rw [HST.out]; exact HO.out
        case measure => simp [intOf]; omega
    · have hin : i = N := by omega
      subst hin
      obtain ⟨ax, capx, rfl⟩ := ownsRow_slice HO.out
      rw [HN.out] at c0
      go_wp2_with fail
      go_ret2
      refine ⟨_, rfl, ?_, HV.out, ?_, HC.out⟩
      · have e : B.tells now i = B.told now := by rw [← HN.out]; exact tells_all
        rw [← e]
        exact HO.out
      · have := HR.out
        rwa [← HN.out, upto_all] at this
end Go.Proofs.Ytenkglbnlealbaa
