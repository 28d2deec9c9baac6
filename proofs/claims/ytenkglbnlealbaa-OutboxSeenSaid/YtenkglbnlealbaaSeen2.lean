import Derived.Test.YtenkglbnlealbaaSeen1
/-! The reference's 'Note'. -/
namespace Go.Proofs.Ytenkglbnlealbaa
open Go.RowKit
attribute [local go_sem] Oper.semAt_some
theorem Try.info89 : (Try.prog.info? 89).map (fun i => (i.zero, i.size, i.bytes)) = some (some (.agg #[.int .u32 0, .int .i64 0, .bool false]), 3, 24) := by kernel_rfl
/-- what 'Note' makes of what was noted -/
def rnoted (R : List Noted) (M : Msg) (ok : Bool) : List Noted :=
  if newer R M then (match R.findIdx? (fun n => n.addr == M.addr) with | some i => R.set i ⟨M.addr, M.xid, ok⟩ | none => R ++ [⟨M.addr, M.xid, ok⟩]) else R
theorem findIdx_found {R : List Noted} {a : Int} {i : Nat} (hi : i < R.length) (h : ∀ j (hj : j < R.length), j < i → R[j].addr ≠ a) (e : R[i].addr = a) : R.findIdx? (fun n => n.addr == a) = some i := by
  rw [List.findIdx?_eq_some_iff_getElem]
  refine ⟨hi, by simpa using e, fun j hj => ?_⟩
  simpa using h j (by omega) hj
theorem findIdx_none {R : List Noted} {a : Int} (h : ∀ j (hj : j < R.length), R[j].addr ≠ a) : R.findIdx? (fun n => n.addr == a) = none := by
  rw [List.findIdx?_eq_none_iff]
  intro x hx
  obtain ⟨j, hj, rfl⟩ := List.mem_iff_getElem.1 hx
  simpa using h j hj
theorem flat_set3 : ∀ (R : List Noted) (i : Nat) (n : Noted) (_ : i < R.length), (((R.flatMap Noted.cells3).set (i * 3) (.int .u32 n.addr)).set (i * 3 + 1) (.int .i64 n.xid)).set (i * 3 + 2) (.bool n.ok) = (R.set i n).flatMap Noted.cells3
  | [], i, n, hi => absurd hi (Nat.not_lt_zero _)
  | m :: R, 0, n, hi => by simp [Noted.cells3]
  | m :: R, i + 1, n, hi => by
    have ih := flat_set3 R i n (by simpa using hi)
    have e0 : (i + 1) * 3 = i * 3 + 3 := by omega
    have e1 : (i + 1) * 3 + 1 = i * 3 + 1 + 3 := by omega
    have e2 : (i + 1) * 3 + 2 = i * 3 + 2 + 3 := by omega
    rw [e0]
    have e1 : i * 3 + 3 + 1 = i * 3 + 1 + 3 := by omega
    have e2 : i * 3 + 3 + 2 = i * 3 + 2 + 3 := by omega
    rw [e1, e2]
    simp only [List.flatMap_cons, Noted.cells3, List.cons_append, List.nil_append, List.set_cons_succ] at ih ⊢
    rw [ih]
theorem rnote_fin {w wC w2 : World} {s i : Nat} {R : List Noted} {M : Msg} {ok : Bool} {v v0 v2 : Value} (hb : Blk wC s [v0] 84) (hl : w.heap.size ≤ wC.heap.size) (hs : s < w.heap.size)
    (hap : App2 89 3 (i + 1) (R.flatMap Noted.cells3 ++ [.int .u32 M.addr, .int .i64 M.xid, .bool ok]) wC v2 w2) (hN : R.length = i) (hn : newer R M = true) (hf : R.findIdx? (fun n => n.addr == M.addr) = none) (hc : Chg (fun _ => False) w wC) :
    (∃ v', RSeen (w2.setCell ⟨s, 0, none⟩ v2) s (rnoted R M ok) v' ∧ ∀ k, v'.ownBlock = some k → v.ownBlock = some k ∨ w.heap.size ≤ k) ∧ Chg (fun k => k = s ∨ v.ownBlock = some k) w (w2.setCell ⟨s, 0, none⟩ v2) := by
  have hb2 := hap.chg.blk hb (fun h => h)
  have e : rnoted R M ok = R ++ [⟨M.addr, M.xid, ok⟩] := by unfold rnoted; rw [hn, hf]; rfl
  have hne : v2.ownBlock ≠ some s := fun h => by have := hap.lies s h; omega
  refine ⟨⟨v2, ⟨hb2.setCell 0 v2, ?_, hne⟩, fun k hk => .inr (Nat.le_trans hl (hap.lies k hk))⟩, ?_⟩
  · rw [e, List.length_append, hN, List.flatMap_append]
    exact World.ownsRow.keep (B := w2.setCell ⟨s, 0, none⟩ v2) hap.row (S := fun k => k = s) ((Chg.refl _ w2).setCell v2 (fun _ => rfl)) (fun k hk h => by subst h; exact hne hk)
  · exact ((hc.mono (fun _ _ h => h.elim)).trans (hap.chg.mono (fun _ _ h => h.elim))).setCell v2 (fun _ => .inl rfl)
set_option maxRecDepth 100000 in
set_option maxHeartbeats 40000000 in
theorem RNote_any (w : World) (s : Nat) (R : List Noted) (v : Value) (h : RSeen w s R v) (M : Msg) (ok : Bool) (hsm : R.length < 1000000) :
    Calls Try.prog 20 #[ptr s, M.val, .bool ok] w fun e w' => e = .returned (.tuple #[]) ∧ (∃ v', RSeen w' s (rnoted R M ok) v' ∧ ∀ k, v'.ownBlock = some k → v.ownBlock = some k ∨ w.heap.size ≤ k) ∧ Chg (fun k => k = s ∨ v.ownBlock = some k) w w' := by
  have H := Lib.hid h
  have HSM := Lib.hid hsm
  clear hsm
  have hs := h.head.lt
  clear h
  unfold Msg.val Msg.cells ptr
  go_enter Try.func20, Try.ntmps20
  go_wp2_with fail
  have BK := Blk.new w M.cells 35
  have cA := (Chg.refl (fun _ => False) w).alloc (.cells M.cells.toArray 35)
  have zA : w.heap.size < (w.alloc (.cells M.cells.toArray 35)).heap.size := by simp
  obtain ⟨wA, hA⟩ : ∃ wA, w.alloc (.cells M.cells.toArray 35) = wA := ⟨_, rfl⟩
  rw [hA] at BK cA zA
  unfold Msg.cells at hA
  rw [hA]
  clear hA
  have hr := H.out.keep cA (fun h => h) (fun _ _ h => h)
  have HR := Lib.hid hr; have CA := Lib.hid cA; have HBK := Lib.hid BK
  clear hr cA BK
  refine (RTake_any wA s R v HR.out M).mono ?_
  rintro e wB ⟨rfl, hcB⟩
  have hr := HR.out.keep hcB (fun h => h) (fun _ _ h => h)
  have BK := hcB.blk HBK.out (fun h => h)
  have cB := CA.out.trans hcB
  have zB : w.heap.size < wB.heap.size := Nat.lt_of_lt_of_le zA hcB.size
  have HR2 := Lib.hid hr; have CB := Lib.hid cB; have HBK2 := Lib.hid BK
  clear hr cB BK hcB HBK
  by_cases hn : newer R M = true
  · obtain ⟨a, cap, rfl⟩ := ownsRow_slice H.out.row
    have c0 := HR2.out.head.cell 0
    simp only [List.getElem?_cons_zero] at c0
    have d3 := HBK2.out.cell 3
    have d5 := HBK2.out.cell 5
    simp only [Msg.cells, List.getElem?_cons_zero, List.getElem?_cons_succ] at d3 d5
    obtain ⟨N, hN⟩ : ∃ N, R.length = N := ⟨_, rfl⟩
    have hN6 : N < 1000000 := by rw [← hN]; exact HSM.out
    rw [hN] at c0
    have HN := Lib.hid hN
    have HNEW := Lib.hid hn
    rw [hn]
    generalize (same R M && (lastAt R M.addr).2) = b1
    generalize same R M = b2
    clear hN hn HR
    go_wp2_with fail
    go_loopw [9] (fun ix wr => ∃ (i q : Nat), i ≤ N ∧ ix = .int .i64 i ∧ (∀ j (hj : j < R.length), j < i → R[j].addr ≠ M.addr) ∧ wr = wB.drewN q) (fun ix _ => N - (intOf ix).toNat)
    case atStart => exact ⟨0, 0, Nat.zero_le _, rfl, fun j _ h => absurd h (Nat.not_lt_zero _), rfl⟩
    case round =>
      obtain ⟨i, q, hi, rfl, hno, rfl⟩ := hrel
      have HNO := Lib.hid hno
      clear hno
      by_cases hlt : i < N
      · have hiR : i < R.length := by rw [HN.out]; exact hlt
        obtain ⟨g, cap', hv, hg, hcell⟩ := ownsRow_cells HR2.out.row (by omega)
        obtain ⟨rfl, rfl⟩ : a = some ⟨g, 0, none⟩ ∧ cap = cap' := by
          simp only [Value.slice.injEq] at hv
          exact ⟨hv.1, hv.2.2⟩
        have hcl : ∀ k c, k < 3 → R[i].cells3[k]? = some c → wB.cell? ⟨g, i * 3 + k, none⟩ = some c := fun k c hk h => hcell _ _ (by rw [flat_at3 _ i k hiR hk]; exact h)
        have e0 := hcl 0 _ (by decide) rfl
        have e1 := hcl 1 _ (by decide) rfl
        have e2 := hcl 2 _ (by decide) rfl
        rw [Nat.add_zero] at e0
        clear hcl hcell hv
        by_cases ha : R[i].addr = M.addr
        · have hf := findIdx_found hiR (fun j hj hji => HNO.out j hj hji) ha
          rw [ha] at e0
          have hab : (M.addr == M.addr) = true := by simp
          have HF := Lib.hid hf
          have f0 := HR2.out.row.frozen (i * 3)
          have f1 := HR2.out.row.frozen (i * 3 + 1)
          have f2 := HR2.out.row.frozen (i * 3 + 2)
          clear hf ha
          generalize R[i].xid = x at *
          generalize R[i].ok = ok0 at *
          go_wp2_with fail
          go_quiet (fail)
          go_wp2_with fail
          go_region
          go_wp2_with fail
          refine bodyPost_ret (results_none rfl _ _ _) rfl ⟨rfl, ⟨.slice (some ⟨g, 0, none⟩) N cap, ?_, fun k hk => .inl ?_⟩, ?_⟩
          · have hr := (HR2.out.keep ((Chg.refl (fun _ => False) wB).drewN (q + nq + 1)) (fun h => h) (fun _ _ h => h))
            have hne : ¬ s = g := fun e => hr.ne (by rw [e]; rfl)
            have e : rnoted R M ok = R.set i ⟨M.addr, M.xid, ok⟩ := by unfold rnoted; rw [HNEW.out, HF.out]; rfl
            rw [e]
            have hrow := hr.row
            have hhead := hr.head
            rw [HN.out] at hrow hhead
            refine ⟨((hhead.other _ (fun e => hne e.symm)).other _ (fun e => hne e.symm)).other _ (fun e => hne e.symm), ?_, hr.ne⟩
            have h3 := ((hrow.set (i * 3) (.int .u32 M.addr) (by omega)).set (i * 3 + 1) (.int .i64 M.xid) (by omega)).set (i * 3 + 2) (.bool ok) (by omega)
            rw [flat_set3 R i ⟨M.addr, M.xid, ok⟩ hiR] at h3
            rw [List.length_set, HN.out]
            exact h3
          · exact hk
          · exact (CB.out.mono (fun _ _ h => h.elim)).trans ((((((Chg.refl _ wB).drewN (q + nq + 1)).setCell _ (fun _ => .inr rfl)).setCell _ (fun _ => .inr rfl)).setCell _ (fun _ => .inr rfl)))
        · have ha2 : (R[i].addr == M.addr) = false := by simpa using ha
          generalize hra : R[i].addr = ra at *
          have HRA := Lib.hid hra
          clear hra
          go_wp2_with fail
          go_quiet (fail)
          go_wp2_with fail
          go_roundw
          case rel =>
            refine ⟨i + 1, _, by omega, by go_num, fun j hj hji => ?_, rfl⟩
            by_cases e : j = i
            · subst e; rw [HRA.out]; exact ha
            · exact HNO.out j hj (by omega)
          case measure => simp [intOf]; omega
      · have hin : i = N := by omega
        subst hin
        have hf := findIdx_none (R := R) (a := M.addr) (fun j hj => HNO.out j hj (by have := HN.out; omega))
        have HF := Lib.hid hf
        clear hf
        go_wp2_with fail
        obtain ⟨i0, y1, y2, y3, y4⟩ := info_parts Try.info89
        have HR3 := Lib.hid (HR2.out.keep ((Chg.refl (fun _ => False) wB).drewN q) (fun h => h) (fun _ _ h => h))
        have CB3 := Lib.hid (CB.out.trans ((Chg.refl (fun _ => False) wB).drewN q))
        have k0 : (wB.drewN q).cell? ⟨s, 0, none⟩ = some (.slice a i cap) := c0
        have k3 : (wB.drewN q).cell? ⟨w.heap.size, 3, none⟩ = some (.int .i64 M.xid) := d3
        have k5 : (wB.drewN q).cell? ⟨w.heap.size, 5, none⟩ = some (.int .u32 M.addr) := d5
        have zB3 : w.heap.size < (wB.drewN q).heap.size := zB
        have l0 : s < (wB.drewN q).heap.size := Nat.lt_trans hs zB
        clear c0 d3 d5 zB HR2 HNO CB CA HBK2
        generalize wB.drewN q = wC at *
        have hrow := HR3.out.row
        rw [HN.out] at hrow
        have LIES := Lib.hid hrow.lies
        have HLEN := Lib.hid hrow.1
        clear hrow
        have own0 := Lib.hid (fun (W : World) (hW : W.heap[wC.heap.size]? = some (.cells #[] 89 (0, 0))) => ownsRow_empty (size := 3) hW)
        have ONE := Lib.hid (show ∀ u ∈ R.flatMap Noted.cells3, u.oneCell' = true from fun u hu => by
          obtain ⟨x, _, hx⟩ := List.mem_flatMap.1 hu
          simp only [Noted.cells3, List.mem_cons, List.not_mem_nil, or_false] at hx
          rcases hx with rfl | rfl | rfl <;> rfl)
        have hb0 := HR3.out.head
        rw [HN.out] at hb0
        have HB0 := Lib.hid hb0
        clear hb0
        go_region_law
          ((first
            | (refine step_app (by rfl) _ _ 82 (by rfl) 89 i0 _ 3 24 Try.underlying82 y1 y2 y3 y4 rfl (by decide) (.slice (some ⟨wC.heap.size, 0, none⟩) 0 0) 0 [] (by rfl) (own0.out _ (heap_alloc_new wC _)) (.slice a i cap) i (R.flatMap Noted.cells3) (by rfl) (LIES.out.keep (((Chg.refl (fun _ => False) wC).alloc _).drew) (fun _ _ h => h)) HLEN.out ONE.out (by simp only [maxLen]; omega) (by omega) ?_
               intro v1 w1 ha1
               have cj : Chg (fun _ => False) wC w1 := (((Chg.refl (fun _ => False) wC).alloc _).drew).trans' ha1.chg (fun k hk h => by simp only [Value.ownBlock, Option.some.injEq] at h; omega)
               have kj0 := cj.cell k0 (fun h => h)
               have kj3 := cj.cell k3 (fun h => h)
               have kj5 := cj.cell k5 (fun h => h)
               have HA1 := Lib.hid ha1
               clear ha1 cj)
            | (refine step_app (by rfl) _ _ 82 (by rfl) 89 i0 _ 3 24 Try.underlying82 y1 y2 y3 y4 rfl (by decide) (.slice (some ⟨wC.heap.size, 0, none⟩) 0 0) 0 [] (by rfl) (own0.out _ (heap_two wC _ _)) (.slice a i cap) i (R.flatMap Noted.cells3) (by rfl) (LIES.out.keep ((((Chg.refl (fun _ => False) wC).alloc _).alloc _).drew) (fun _ _ h => h)) HLEN.out ONE.out (by simp only [maxLen]; omega) (by omega) ?_
               intro v1 w1 ha1
               have cj : Chg (fun _ => False) wC w1 := ((((Chg.refl (fun _ => False) wC).alloc _).alloc _).drew).trans' ha1.chg (fun k hk h => by simp only [Value.ownBlock, Option.some.injEq] at h; omega)
               have kj0 := cj.cell k0 (fun h => h)
               have kj3 := cj.cell k3 (fun h => h)
               have kj5 := cj.cell k5 (fun h => h)
               have HY := Lib.hid (Lies.keep' ha1.chg (by exact lies_new (news := [.int .u32 M.addr, .int .i64 M.xid, .bool ok]) (heap_two' wC _ _)) (fun k h1 h2 => by simp only [Value.ownBlock, Option.some.injEq] at h1 h2; omega))
               have HA1 := Lib.hid ha1
               clear ha1 cj)
            | (refine step_app (by rfl) _ _ 82 (by rfl) 89 i0 _ 3 24 Try.underlying82 y1 y2 y3 y4 rfl (by decide) (.slice (some ⟨wC.heap.size + 1, 0, none⟩) 0 0) 0 [] (by rfl) (ownsRow_empty (heap_two' wC _ _)) (.slice a i cap) i (R.flatMap Noted.cells3) (by rfl) (LIES.out.keep ((((Chg.refl (fun _ => False) wC).alloc _).alloc _).drew) (fun _ _ h => h)) HLEN.out ONE.out (by simp only [maxLen]; omega) (by omega) ?_
               intro v1 w1 ha1
               have cj : Chg (fun _ => False) wC w1 := ((((Chg.refl (fun _ => False) wC).alloc _).alloc _).drew).trans' ha1.chg (fun k hk h => by simp only [Value.ownBlock, Option.some.injEq] at h; omega)
               have kj0 := cj.cell k0 (fun h => h)
               have kj3 := cj.cell k3 (fun h => h)
               have kj5 := cj.cell k5 (fun h => h)
               have HY := Lib.hid (Lies.keep' ha1.chg (by exact lies_new (news := [.int .u32 M.addr, .int .i64 M.xid, .bool ok]) (heap_two wC _ _)) (fun k h1 h2 => by simp only [Value.ownBlock, Option.some.injEq] at h1 h2; omega))
               have HA1 := Lib.hid ha1
               clear ha1 cj)
            | (refine step_app (by rfl) _ _ 82 (by rfl) 89 i0 _ 3 24 Try.underlying82 y1 y2 y3 y4 rfl (by decide) v1 (0 + i) ([] ++ R.flatMap Noted.cells3) (by rfl) (HA1.out.row.alloc _) (.slice (some ⟨w1.heap.size, 0, none⟩) 1 1) 1 [.int .u32 M.addr, .int .i64 M.xid, .bool ok] (by rfl) (lies_new (heap_alloc_new w1 _)) (by rfl) (by simp [Value.oneCell']) (by simp only [maxLen]; omega) (by omega) ?_
               intro v2 w2 ha2
               have hap := app2_of (w := wC) (((Chg.refl (fun _ => False) wC).alloc _).drew) (fun k h => by simp only [Value.ownBlock, Option.some.injEq] at h; omega) HA1.out ((Chg.refl _ w1).alloc _) ha2
               have kk0 := hap.chg.cell k0 (fun h => h)
               have kk3 := hap.chg.cell k3 (fun h => h)
               have kk5 := hap.chg.cell k5 (fun h => h)
               have kkn : w.heap.size ≠ s := by omega
               have kkf := (hap.chg.blk HB0.out (fun h => h)).frozen 0
               rw [Nat.zero_add, List.nil_append] at hap
               have HAP := Lib.hid hap
               clear ha2 kkn
               obtain ⟨a2, cap2, rfl⟩ := ownsRow_slice hap.row
               clear hap)
            | (refine step_app (by rfl) _ _ 82 (by rfl) 89 i0 _ 3 24 Try.underlying82 y1 y2 y3 y4 rfl (by decide) v1 (0 + i) ([] ++ R.flatMap Noted.cells3) (by rfl) HA1.out.row _ 1 [.int .u32 M.addr, .int .i64 M.xid, .bool ok] (by rfl) HY.out (by rfl) (by simp [Value.oneCell']) (by simp only [maxLen]; omega) (by omega) ?_
               intro v2 w2 ha2
               have hap := app2_of (w := wC) ((((Chg.refl (fun _ => False) wC).alloc _).alloc _).drew) (fun k h => by simp only [Value.ownBlock, Option.some.injEq] at h; omega) HA1.out (Chg.refl _ w1) ha2
               have kk0 := hap.chg.cell k0 (fun h => h)
               have kk3 := hap.chg.cell k3 (fun h => h)
               have kk5 := hap.chg.cell k5 (fun h => h)
               have kkn : w.heap.size ≠ s := by omega
               have kkf := (hap.chg.blk HB0.out (fun h => h)).frozen 0
               rw [Nat.zero_add, List.nil_append] at hap
               have HAP := Lib.hid hap
               clear ha2 kkn
               obtain ⟨a2, cap2, rfl⟩ := ownsRow_slice hap.row
               clear hap)))
        all_goals go_wp2_with fail
        all_goals exact bodyPost_end (results_none rfl _ _ _) rfl ⟨rfl, rnote_fin HB0.out (by omega) hs HAP.out HN.out HNEW.out HF.out CB3.out⟩
  · rw [Bool.not_eq_true] at hn
    have e : rnoted R M ok = R := by unfold rnoted; rw [hn]; rfl
    have HE := Lib.hid e
    rw [hn]
    clear e hn
    generalize (same R M && (lastAt R M.addr).2) = b1
    generalize same R M = b2
    go_wp2_with fail
    refine bodyPost_ret (results_none rfl _ _ _) rfl ⟨rfl, ⟨v, ?_, fun k hk => .inl hk⟩, CB.out.mono (fun _ _ h => h.elim)⟩
    rw [HE.out]
    exact HR2.out
end Go.Proofs.Ytenkglbnlealbaa
