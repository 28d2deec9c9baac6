import Derived.Test.YtenkglbnlealbaaRows2
/-! The reference's 'Seen'. -/
namespace Go.Proofs.Ytenkglbnlealbaa
open Go.RowKit
attribute [local go_sem] Oper.semAt_some
@[local go_sem] theorem World.map?_drewN' (w : World) (q n : Nat) : (w.drewN q).map? n = w.map? n := rfl
def Noted.cells3 (n : Noted) : List Value := [.int .u32 n.addr, .int .i64 n.xid, .bool n.ok]
theorem flat_at3 : ∀ (L : List Noted) (i k : Nat) (hi : i < L.length) (_ : k < 3), (L.flatMap Noted.cells3)[i * 3 + k]? = L[i].cells3[k]?
  | [], i, k, hi, _ => absurd hi (Nat.not_lt_zero _)
  | m :: L, 0, k, hi, hk => by
    rw [List.flatMap_cons, List.getElem?_append_left (by simp [Noted.cells3]; omega)]
    simp
  | m :: L, i + 1, k, hi, hk => by
    rw [List.flatMap_cons, List.getElem?_append_right (by simp [Noted.cells3]; omega)]
    have := flat_at3 L i k (by simpa using hi) hk
    have e : (i + 1) * 3 + k - m.cells3.length = i * 3 + k := by simp [Noted.cells3]; omega
    rw [e, this]
    simp
structure RSeen (w : World) (s : Nat) (R : List Noted) (v : Value) : Prop where
  head : Blk w s [v] 84
  row : w.ownsRow 0 89 3 v R.length (R.flatMap Noted.cells3)
  ne : v.ownBlock ≠ some s
theorem RSeen.keep {w w' : World} {s : Nat} {R : List Noted} {v : Value} (h : RSeen w s R v) {T : Nat → Prop} (hc : Chg T w w') (h1 : ¬ T s) (h2 : ∀ k, v.ownBlock = some k → ¬ T k) : RSeen w' s R v :=
  ⟨hc.blk h.head h1, h.row.keep hc h2, h.ne⟩
theorem seenAt_found {R : List Noted} {a : Int} {i : Nat} (hi : i < R.length) (h : ∀ j (hj : j < i), (R[j]'(by omega)).addr ≠ a) (e : R[i].addr = a) : seenAt R a = some R[i] := by
  unfold seenAt
  rw [List.find?_eq_some_iff_getElem]
  refine ⟨by simpa using e, i, hi, rfl, fun j hj => ?_⟩
  simpa using h j hj
theorem seenAt_none {R : List Noted} {a : Int} (h : ∀ j (hj : j < R.length), R[j].addr ≠ a) : seenAt R a = none := by
  unfold seenAt
  rw [List.find?_eq_none]
  intro x hx
  obtain ⟨j, hj, rfl⟩ := List.mem_iff_getElem.1 hx
  simpa using h j hj
theorem RNews_any (w : World) : Calls Try.prog 16 #[] w fun e w' => e = .returned (ptr w.heap.size) ∧ Chg (fun _ => False) w w' ∧ RSeen w' w.heap.size [] (.slice none 0 0) := by
  go_enter Try.func16, Try.ntmps16
  go_wp2
  go_ret
  exact ⟨rfl, (Chg.refl _ w).alloc _, Blk.new w _ 84, ⟨rfl, .inl ⟨rfl, rfl⟩⟩, by simp [Value.ownBlock]⟩
set_option maxRecDepth 100000 in
set_option maxHeartbeats 1000000 in
theorem RTake_any (w : World) (s : Nat) (R : List Noted) (v : Value) (h : RSeen w s R v) (M : Msg) :
    Calls Try.prog 18 #[ptr s, M.val] w fun e w' => e = .returned (.tuple #[.bool (newer R M), .bool (same R M && (lastAt R M.addr).2), .bool (same R M)]) ∧ Chg (fun _ => False) w w' := by
  obtain ⟨a, cap, rfl⟩ := ownsRow_slice h.row
  have c0 := h.head.cell 0
  simp only [List.getElem?_cons_zero] at c0
  have hs := h.head.lt
  have hmax : R.length ≤ maxLen := by
    rcases h.row.2 with ⟨h1, h2⟩ | ⟨g, cap', cur, h1, _, _, h2, h3, _⟩
    · omega
    · simp only [Value.slice.injEq] at h1; omega
  have H := Lib.hid h
  clear h
  obtain ⟨N, hN⟩ : ∃ N, R.length = N := ⟨_, rfl⟩
  rw [hN] at c0 hmax
  have HN := Lib.hid hN
  clear hN
  simp only [maxLen] at hmax
  unfold ptr Msg.val Msg.cells
  go_enter Try.func18, Try.ntmps18
  go_wp2_with fail
  have BK := Blk.new w M.cells 35
  have cA := (Chg.refl (fun _ => False) w).alloc (.cells M.cells.toArray 35)
  obtain ⟨wA, hA⟩ : ∃ wA, w.alloc (.cells M.cells.toArray 35) = wA := ⟨_, rfl⟩
  rw [hA] at BK cA
  unfold Msg.cells at hA
  rw [hA]
  clear hA
  have hr := H.out.keep cA (fun h => h) (fun _ _ h => h)
  have d0 := cA.cell c0 (fun h => h)
  have d3 := BK.cell 3
  have d5 := BK.cell 5
  simp only [Msg.cells, List.getElem?_cons_zero, List.getElem?_cons_succ] at d3 d5
  have HR := Lib.hid hr; have CA := Lib.hid cA
  clear hr cA BK c0
  go_loopw [7, 8] (fun ix _ wr => ∃ (i q : Nat), i ≤ N ∧ ix = .int .i64 i ∧ (∀ j (hj : j < R.length), j < i → R[j].addr ≠ M.addr) ∧ wr = wA.drewN q) (fun ix _ _ => N - (intOf ix).toNat)
  case atStart => exact ⟨0, 0, Nat.zero_le _, rfl, fun j _ h => absurd h (Nat.not_lt_zero _), rfl⟩
  case round =>
    obtain ⟨i, q, hi, rfl, hno, rfl⟩ := hrel
    have HNO := Lib.hid hno
    clear hno
    by_cases hlt : i < N
    · have hiR : i < R.length := by rw [HN.out]; exact hlt
      obtain ⟨g, cap', hv, hg, hcell⟩ := ownsRow_cells HR.out.row (by omega)
      obtain ⟨rfl, hRN, rfl⟩ : a = some ⟨g, 0, none⟩ ∧ R.length = N ∧ cap = cap' := by
        have := HN.out
        simp only [Value.slice.injEq] at hv
        exact ⟨hv.1, this, hv.2.2⟩
      have hcl : ∀ k c, k < 3 → R[i].cells3[k]? = some c → wA.cell? ⟨g, i * 3 + k, none⟩ = some c := fun k c hk h => hcell _ _ (by rw [flat_at3 _ i k hiR hk]; exact h)
      have e0 := hcl 0 _ (by decide) rfl
      have e1 := hcl 1 _ (by decide) rfl
      have e2 := hcl 2 _ (by decide) rfl
      rw [Nat.add_zero] at e0
      clear hcl hcell hv hRN
      by_cases ha : R[i].addr = M.addr
      · have hf := seenAt_found hiR (fun j hj => HNO.out j (by omega) hj) ha
        have hnew : newer R M = decide (R[i].xid < M.xid) := by unfold newer lastAt; rw [hf]
        have hsame : same R M = (M.xid == R[i].xid) := by unfold same lastAt; rw [hf]; simp
        have hlast : (lastAt R M.addr).2 = R[i].ok := by unfold lastAt; rw [hf]
        rw [ha] at e0
        have hab : (M.addr == M.addr) = true := by simp
        have hfin : Ending.returned (.tuple #[.bool (newer R M), .bool (same R M && (lastAt R M.addr).2), .bool (same R M)]) = Ending.returned (.tuple #[.bool (decide (R[i].xid < M.xid)), .bool ((M.xid == R[i].xid) && R[i].ok), .bool (M.xid == R[i].xid)]) := by rw [hnew, hsame, hlast]
        have HFIN := Lib.hid hfin
        clear hf hnew hsame hlast hfin
        generalize R[i].xid = x at *
        generalize R[i].ok = ok at *
        clear ha
        by_cases hx : M.xid = x
        · have hx2 : (M.xid == x) = true := by simpa using hx
          clear hx
          go_wp2_with fail
          go_quiet (fail)
          go_wp2_with fail
          go_quiet (fail)
          go_wp2_with fail
          go_quiet (fail)
          go_wp2_with fail
          refine bodyPost_ret (v := .tuple #[.bool (decide (x < M.xid)), .bool ok, .bool true]) (by simp [results, Try.results18, go_sem]) rfl ⟨?_, ?_⟩
          · rw [HFIN.out, hx2]; rfl
          · exact CA.out.trans (((((Chg.refl _ wA).drewN q).drewN _).drewN _).drewN _)
        · have hx2 : (M.xid == x) = false := by simpa using hx
          clear hx
          go_wp2_with fail
          go_quiet (fail)
          go_wp2_with fail
          go_quiet (fail)
          go_wp2_with fail
          go_quiet (fail)
          go_wp2_with fail
          refine bodyPost_ret (v := .tuple #[.bool (decide (x < M.xid)), .bool false, .bool false]) (by simp [results, Try.results18, go_sem]) rfl ⟨?_, ?_⟩
          · rw [HFIN.out, hx2]; rfl
          · exact CA.out.trans (((((Chg.refl _ wA).drewN q).drewN _).drewN _).drewN _)
      · have ha2 : (R[i].addr == M.addr) = false := by simpa using ha
        generalize hra : R[i].addr = ra at *
        have HRA := Lib.hid hra
        clear hra
        go_wp2_with fail
        go_quiet (fail)
        go_wp2_with fail
        go_roundw
        case rel =>
          refine ⟨i + 1, _, by omega, by go_num, fun j hj hji => ?_, rfl⟩
          by_cases e : j = i
          · subst e; rw [HRA.out]; exact ha
          · exact HNO.out j hj (by omega)
        case measure => simp [intOf]; omega
    · have hin : i = N := by omega
      subst hin
      have hf := seenAt_none (R := R) (a := M.addr) (fun j hj => HNO.out j hj (by have := HN.out; omega))
      have hfin : Ending.returned (.tuple #[.bool (newer R M), .bool (same R M && (lastAt R M.addr).2), .bool (same R M)]) = Ending.returned (.tuple #[.bool (decide (0 < M.xid)), .bool false, .bool false]) := by
        unfold newer same lastAt
        rw [hf]
        simp
      have HFIN := Lib.hid hfin
      clear hf hfin
      go_wp2_with fail
      refine bodyPost_ret (v := .tuple #[.bool (decide (0 < M.xid)), .bool false, .bool false]) (by simp [results, Try.results18, go_sem]) rfl ⟨?_, ?_⟩
      · rw [HFIN.out]
      · exact CA.out.trans ((Chg.refl _ wA).drewN q)
end Go.Proofs.Ytenkglbnlealbaa
