import Derived.Test.YtenkglbnlealbaaO21
import Derived.Deep.CutBlock
import Derived.Deep.Cut
import Derived.BigQuiet
namespace Go.Proofs.Ytenkglbnlealbaa
open Go.RowKit
attribute [local go_sem] Oper.semAt_some
theorem flat_at : ∀ (L : List Msg) (i k : Nat) (hi : i < L.length) (_ : k < 11), (L.flatMap Msg.cells)[i * 11 + k]? = L[i].cells[k]?
  | [], i, k, hi, _ => absurd hi (Nat.not_lt_zero _)
  | m :: L, 0, k, hi, hk => by
    rw [List.flatMap_cons, List.getElem?_append_left (by simp [Msg.cells]; omega)]
    simp
  | m :: L, i + 1, k, hi, hk => by
    rw [List.flatMap_cons, List.getElem?_append_right (by simp [Msg.cells]; omega)]
    have := flat_at L i k (by simpa using hi) hk
    have e : (i + 1) * 11 + k - m.cells.length = i * 11 + k := by simp [Msg.cells]; omega
    rw [e, this]
    simp
theorem wrap8 (x : Int) : IntKind.u32.wrap (x % 8) = x % 8 := by
  have h1 := Int.emod_nonneg x (show (8 : Int) ≠ 0 by decide)
  have h2 := Int.emod_lt_of_pos x (show (0 : Int) < 8 by decide)
  simp [IntKind.wrap, IntKind.bits]
  omega
set_option maxRecDepth 100000 in
set_option maxHeartbeats 2000000 in
theorem Answers_any (w : World) (v : Value) (n : Nat) (X Y : Nat → Int) (h : Pairs w v n X Y) : Calls Try.prog 7 #[v] w fun e w' => e = .returned (.bool true) ∧ Chg (fun _ => False) w w' := by
  obtain ⟨a, cap, rfl, hmax, hp⟩ := h
  have HP := Lib.hid hp
  clear hp
  go_enter Try.func7, Try.ntmps7
  go_wp2_with fail
  refine (awake_any w).mono ?_
  rintro e w1 ⟨rfl, hc1⟩
  have C1 := Lib.hid hc1
  clear hc1
  go_wp2_with fail
  refine (New_bx w.heap.size [] w1 C1.out.size (by simp)).mono ?_
  rintro e w2 ⟨b, rfl, hb2, hc2⟩
  have HB2 := Lib.hid hb2; have C2 := Lib.hid hc2
  clear hb2 hc2
  unfold ptr
  simp only [maxLen] at hmax
  go_upto_block 0 with fail
  go_cut [5] from 27 to 51 (fun _ wr => ∃ (B : Box), Boxed w.heap.size [] wr b B ∧ FreshB B ∧ B.small 100 ∧ Chg (fun _ => False) w wr)
  case rest =>
    obtain ⟨B, hb, hf, hs, hc⟩ := hcut
    obtain ⟨hrise, hlow⟩ := hb.rise
    obtain ⟨N, hN⟩ : ∃ N, B.L.length = N := ⟨_, rfl⟩
    have ht : B.told 5 = B.L.map (·.1) := fresh_told hf 5
    have hx : (B.tick 5).X = (N : Int) := by rw [← hN]; exact hf.x
    have hNs : N ≤ 100 := by have := hs.1; omega
    have hb0 := hb
    have HF := Lib.hid hf; have HS := Lib.hid hs; have HC := Lib.hid hc; have HR := Lib.hid hrise; have HL := Lib.hid hlow; have HN := Lib.hid hN; have HT := Lib.hid ht; have HX := Lib.hid hx
    clear hf hs hc hrise hlow hN ht hx HB2
    go_wp2_with fail
    refine (Len_bx hb (by have := HS.out.1; omega)).mono ?_
    rw [fresh_len HF.out, HN.out]
    rintro e w3 ⟨rfl, hb3, hc3⟩
    have HB3 := Lib.hid hb3; have C3 := Lib.hid hc3
    clear hb3 hc3 hb0 hb
    go_wp2_with fail
    refine (Tick_bx 5 (by decide) (by decide) (by have := HS.out.1; omega) HB3.out).mono ?_
    rw [HT.out, List.length_map, HN.out]
    rintro e w4 ⟨v, rfl, hr, hv, hb4, hc4⟩
    obtain ⟨a1, cap1, rfl⟩ := ownsRow_slice hr
    have HB4 := Lib.hid hb4; have C4 := Lib.hid hc4; have HV := Lib.hid hv; have HRW := Lib.hid hr
    clear hb4 hc4 hv hr
    go_wp2_with fail
    refine (Last_bx HB4.out).mono ?_
    rw [HX.out]
    rintro e w5 ⟨rfl, rfl⟩
    have z1 : ((N : Int) != N) = false := by simp
    have hac0 : Acks (B.L.map (·.1)) N 5 (B.tick 5) 0 := ⟨⟨[], by rw [fresh_tick HF.out]; simp, by simp⟩, by rw [HX.out]; exact Int.le_refl _⟩
    have HA := Lib.hid hac0
    clear hac0
    go_wp2_with fail
    go_loopw [9, 10, 11, 12, 13] (fun ix _ _ _ _ wr => ∃ (i : Nat) (B' : Box), i ≤ N ∧ ix = .int .i64 i ∧ Boxed w.heap.size (Value.slice a1 N cap1).ownBlock.toList wr b B' ∧ Acks (B.L.map (·.1)) N 5 B' i ∧ B'.small 100 ∧
      wr.ownsRow 0 35 11 (.slice a1 N cap1) N ((B.L.map (·.1)).flatMap Msg.cells) ∧ w4.heap.size ≤ wr.heap.size ∧ Chg (fun _ => False) w wr) (fun ix _ _ _ _ _ => N - (intOf ix).toNat)
    case atStart =>
      refine ⟨0, B.tick 5, Nat.zero_le _, rfl, ?_, HA.out, small_tick 5 HS.out, HRW.out, Nat.le_refl _, ((HC.out.trans C3.out).trans' C4.out (fun k hk h => by have := h.1; omega))⟩
      have := HB4.out
      rwa [List.append_nil] at this
    case round =>
      obtain ⟨i, B', hi, rfl, hb, hac, hs, hrw, hsz, hc⟩ := hrel
      by_cases hlt : i < N
      · have hi0 : i < (B.L.map (·.1)).length := by rw [List.length_map, HN.out]; exact hlt
        obtain ⟨s1, s2, s3⟩ := acks_step hac hi0 (by rw [List.pairwise_map]; exact HR.out) (fun m hm => by
          obtain ⟨x, hx, rfl⟩ := List.mem_map.1 hm
          have h1 := (HL.out x hx).1
          have h2 : B.X = N := HX.out
          omega)
        obtain ⟨g, cap', hv, hg, hcell⟩ := ownsRow_cells hrw (by omega)
        obtain ⟨rfl, _, rfl⟩ : a1 = some ⟨g, 0, none⟩ ∧ N = N ∧ cap1 = cap' := by simpa using hv
        have hcl : ∀ k c, k < 11 → (B.L.map (fun x : Msg × Int => x.1))[i].cells[k]? = some c → wr.cell? ⟨g, i * 11 + k, none⟩ = some c := fun k c hk h => hcell _ _ (by rw [flat_at _ i k hi0 hk]; exact h)
        obtain ⟨M, hM⟩ : ∃ M, (B.L.map (fun x : Msg × Int => x.1))[i] = M := ⟨_, rfl⟩
        rw [hM] at s1 s2 s3 hcl
        have q3 := hcl 3 _ (by decide) rfl
        have HCL := Lib.hid hcl; have HB5 := Lib.hid hb; have HS2 := Lib.hid hs; have HRW2 := Lib.hid hrw; have HC5 := Lib.hid hc; have S1 := Lib.hid s1; have S2 := Lib.hid s2; have S3 := Lib.hid s3; have HAC := Lib.hid hac
        clear hcl hb hs hrw hc s1 s2 s3 hac hcell hv hM hi0
        go_wp2_with fail
        refine (Acked_bx (own := [g]) M.xid (Nat.le_trans HC5.out.size (Nat.le_refl _)) (fun k hk => ?_) HB5.out).mono ?_
        · rw [List.mem_singleton] at hk; rw [hk]; exact hg
        rw [S1.out]
        rintro e w6 ⟨rfl, hb6, hc6⟩
        have r3 := hc6.cell q3 (fun h => h.2 (by simp))
        have HB6 := Lib.hid hb6; have C6 := Lib.hid hc6
        clear hb6 hc6 q3
        simp only [Option.getD_some, Option.isSome_some]
        unfold Msg.val Msg.cells
        have hg6 : g < w6.heap.size := Nat.lt_of_lt_of_le hg C6.out.size
        go_wp2_with fail
        have BK7 := Blk.new w6 M.cells 35
        obtain ⟨w7, hw7⟩ : ∃ w7, w6.alloc (.cells M.cells.toArray 35) = w7 := ⟨_, rfl⟩
        have c7 : Chg (fun _ => False) w6 w7 := by rw [← hw7]; exact (Chg.refl _ w6).alloc _
        rw [hw7] at BK7
        have z7 : w7.heap.size = w6.heap.size + 1 := by rw [← hw7]; simp
        unfold Msg.cells at hw7
        rw [hw7]
        have hb7 : Boxed w.heap.size [w6.heap.size, g] w7 b (B'.acked M.xid) := HB6.out.keep (c7.mono (fun _ _ h => h.elim)) (fun k hk hi => by
          simp only [List.mem_cons, List.not_mem_nil, or_false] at hi ⊢
          rcases hi with h | h
          · omega
          · exact h)
        refine (Acked_bx (own := [w6.heap.size, g]) M.xid (Nat.le_trans HC5.out.size (Nat.le_trans C6.out.size c7.size)) (fun k hk => ?_) hb7).mono ?_
        · simp only [List.mem_cons, List.not_mem_nil, or_false] at hk
          rcases hk with h | h <;> omega
        rw [S3.out, acked_none S3.out]
        rintro e w8 ⟨rfl, hb8, hc8⟩
        have BK8 := hc8.blk BK7 (fun h => h.2 (by simp))
        have HB8 := Lib.hid hb8; have C8 := Lib.hid hc8; have C7 := Lib.hid c7; have HBK := Lib.hid BK8; have Z7 := Lib.hid z7
        clear hb8 hc8 c7 BK7 BK8 hb7 hw7 r3 z7
        simp only [Option.getD_none, Option.isSome_none]
        have m0 := HBK.out.cell 0
        have m1 := HBK.out.cell 1
        have m2 := HBK.out.cell 2
        have m3 := HBK.out.cell 3
        have m4 := HBK.out.cell 4
        have m5 := HBK.out.cell 5
        have m6 := HBK.out.cell 6
        have m7 := HBK.out.cell 7
        have m8 := HBK.out.cell 8
        have m9 := HBK.out.cell 9
        have m10 := HBK.out.cell 10
        simp only [Msg.cells, List.getElem?_cons_zero, List.getElem?_cons_succ] at m0 m1 m2 m3 m4 m5 m6 m7 m8 m9 m10
        have o0 := C8.out.cell (C7.out.cell (C6.out.cell (HCL.out 0 _ (by decide) rfl) (fun h => h.2 (by simp))) (fun h => h)) (fun h => h.2 (by simp))
        have o1 := C8.out.cell (C7.out.cell (C6.out.cell (HCL.out 1 _ (by decide) rfl) (fun h => h.2 (by simp))) (fun h => h)) (fun h => h.2 (by simp))
        have o2 := C8.out.cell (C7.out.cell (C6.out.cell (HCL.out 2 _ (by decide) rfl) (fun h => h.2 (by simp))) (fun h => h)) (fun h => h.2 (by simp))
        have o3 := C8.out.cell (C7.out.cell (C6.out.cell (HCL.out 3 _ (by decide) rfl) (fun h => h.2 (by simp))) (fun h => h)) (fun h => h.2 (by simp))
        have o4 := C8.out.cell (C7.out.cell (C6.out.cell (HCL.out 4 _ (by decide) rfl) (fun h => h.2 (by simp))) (fun h => h)) (fun h => h.2 (by simp))
        have o5 := C8.out.cell (C7.out.cell (C6.out.cell (HCL.out 5 _ (by decide) rfl) (fun h => h.2 (by simp))) (fun h => h)) (fun h => h.2 (by simp))
        have o6 := C8.out.cell (C7.out.cell (C6.out.cell (HCL.out 6 _ (by decide) rfl) (fun h => h.2 (by simp))) (fun h => h)) (fun h => h.2 (by simp))
        have o7 := C8.out.cell (C7.out.cell (C6.out.cell (HCL.out 7 _ (by decide) rfl) (fun h => h.2 (by simp))) (fun h => h)) (fun h => h.2 (by simp))
        have o8 := C8.out.cell (C7.out.cell (C6.out.cell (HCL.out 8 _ (by decide) rfl) (fun h => h.2 (by simp))) (fun h => h)) (fun h => h.2 (by simp))
        have o9 := C8.out.cell (C7.out.cell (C6.out.cell (HCL.out 9 _ (by decide) rfl) (fun h => h.2 (by simp))) (fun h => h)) (fun h => h.2 (by simp))
        have o10 := C8.out.cell (C7.out.cell (C6.out.cell (HCL.out 10 _ (by decide) rfl) (fun h => h.2 (by simp))) (fun h => h)) (fun h => h.2 (by simp))
        rw [Nat.add_zero] at o0
        have hg8 : g < w8.heap.size := Nat.lt_of_lt_of_le hg6 (Nat.le_trans C7.out.size C8.out.size)
        have h68 : w6.heap.size < w8.heap.size := by have := C8.out.size; have := Z7.out; omega
        unfold Msg.val Msg.cells noMsg
        go_wp2_with fail
        go_quiet (fail)
        go_wp2_with fail
        go_roundw
        case rel =>
          have cf : ∀ (S : Nat → Prop) (o : Obj) (q : Nat), Chg S w8 ((w8.alloc o).drewN q) := fun S o q => ((Chg.refl S w8).alloc o).drewN q
          have call : Chg (Mine w.heap.size [g]) wr w8 := (C6.out.trans (C7.out.mono (fun _ _ h => h.elim))).trans (C8.out.mono (fun k _ h => ⟨h.1, fun hi => h.2 (List.mem_cons_of_mem _ hi)⟩))
          refine ⟨i + 1, B'.acked M.xid, by omega, by go_num, HB8.out.keep (own' := [g]) (cf _ _ _) (fun k _ hi => List.mem_cons_of_mem _ hi), S2.out, small_acked _ HS2.out, (HRW2.out.keep (call.trans (cf _ _ _)) (fun k hk h => ?_)), Nat.le_trans hsz (call.trans (cf _ _ _)).size, HC5.out.trans' (call.trans (cf _ _ _)) (fun k hk h => ?_)⟩
          · exact h.2 (by simp [Value.ownBlock] at hk; simp [hk])
          · have := h.1; omega
        case measure => simp [intOf]; omega
      · have hi2 : i = N := by omega
        subst hi2
        have hb1 := hb.keep (own' := []) (Chg.refl _ wr) (fun _ _ h => absurd h (List.not_mem_nil))
        have HB1 := Lib.hid hb1; have HS1 := Lib.hid hs; have HC1 := Lib.hid hc
        clear hb1 hb hs hc hac hrw HA HRW HB4 HV HR HL HT
        go_wp2_with fail
        refine (upd_any 1 5 wr).mono ?_
        rintro e x1 ⟨rfl, d1⟩
        have D1 := Lib.hid d1
        clear d1
        go_wp2_with fail
        refine (Put_bx (own := []) (upd 1 5) (Nat.le_trans HC1.out.size D1.out.size) (fun _ h => absurd h (List.not_mem_nil)) (HB1.out.keep (own' := []) (D1.out.mono (fun _ _ h => h.elim)) (fun _ _ h => h))).mono ?_
        rw [Put_upd _ _ _ (by have := HS1.out.2.1; omega)]
        rintro e x2 ⟨rfl, e2, d2⟩
        have E2 := Lib.hid e2; have D2 := Lib.hid d2
        clear e2 d2
        unfold errNo
        have S2 := Lib.hid (small_put (upd 1 5) HS1.out)
        have hx2 : w.heap.size ≤ x2.heap.size := Nat.le_trans (Nat.le_trans HC1.out.size D1.out.size) D2.out.size
        generalize B'.put (upd 1 5) = B2 at *
        go_wp2_with fail
        refine (upd_any 1 6 x2).mono ?_
        rintro e x3 ⟨rfl, d3⟩
        have D3 := Lib.hid d3
        clear d3
        go_wp2_with fail
        refine (Put_bx (own := []) (upd 1 6) (Nat.le_trans hx2 D3.out.size) (fun _ h => absurd h (List.not_mem_nil)) (E2.out.keep (own' := []) (D3.out.mono (fun _ _ h => h.elim)) (fun _ _ h => h))).mono ?_
        rw [Put_upd _ _ _ (by have := S2.out.2.1; omega)]
        rintro e x4 ⟨rfl, e4, d4⟩
        have S4 := Lib.hid (small_put (upd 1 6) S2.out)
        generalize B2.put (upd 1 6) = B4 at *
        have E4 := Lib.hid e4; have D4 := Lib.hid d4
        clear e4 d4
        unfold errNo
        have hx4 : w.heap.size ≤ x4.heap.size := Nat.le_trans (Nat.le_trans hx2 D3.out.size) D4.out.size
        go_wp2_with fail
        refine (Last_bx E4.out).mono ?_
        rintro e x5 ⟨rfl, rfl⟩
        go_wp2_with fail
        refine (Clear_bx (own := []) hx4 (fun _ h => absurd h (List.not_mem_nil)) E4.out).mono ?_
        rintro e x6 ⟨rfl, e6, d6⟩
        have E6 := Lib.hid e6; have D6 := Lib.hid d6
        clear e6 d6
        go_wp2_with fail
        refine (Tick_bx (B := B4.clear) 9 (by decide) (by decide) (show (0 : Nat) < 1000000 by decide) E6.out).mono ?_
        rw [(clear_told 9).1, (clear_told (B := B4) 9).2.1]
        rintro e x7 ⟨v7, rfl, hr7, hv7, e7, d7⟩
        obtain ⟨a7, cap7, rfl⟩ := ownsRow_slice hr7
        have e7b := e7.keep (own' := []) (Chg.refl _ x7) (fun _ _ h => absurd h (List.not_mem_nil))
        have E7 := Lib.hid e7b; have D7 := Lib.hid d7
        clear e7 e7b d7 hr7 hv7
        simp only [List.length_nil]
        go_wp2_with fail
        refine (Len_bx (B := B4.clear) E7.out (show (0 : Nat) < 1000000 by decide)).mono ?_
        rw [(clear_told (B := B4) 9).2.2.1]
        rintro e x8 ⟨rfl, e8, d8⟩
        have E8 := Lib.hid e8; have D8 := Lib.hid d8
        clear e8 d8
        go_wp2_with fail
        refine (Busy_bx 1 E8.out).mono ?_
        rw [(clear_told (B := B4) 9).2.2.2]
        rintro e x9 ⟨rfl, e9, d9⟩
        have E9 := Lib.hid e9; have D9 := Lib.hid d9
        clear e9 d9
        go_wp2_with fail
        refine (Last_bx E9.out).mono ?_
        rintro e x10 ⟨rfl, rfl⟩
        have z2 : (B4.clear.X != B4.X) = false := by simp [Box.clear]
        go_wp2_with fail
        refine (upd_any 1 7 x9).mono ?_
        rintro e x11 ⟨rfl, d11⟩
        have D11 := Lib.hid d11
        clear d11
        go_wp2_with fail
        have hx9 : w.heap.size ≤ x9.heap.size := Nat.le_trans hx4 (Nat.le_trans D6.out.size (Nat.le_trans D7.out.size (Nat.le_trans D8.out.size D9.out.size)))
        have hX4 : B4.X < 1073741824 := by have := S4.out.2.1; omega
        refine (Put_bx (B := B4.clear) (own := []) (upd 1 7) (Nat.le_trans hx9 D11.out.size) (fun _ h => absurd h (List.not_mem_nil)) (E9.out.keep (own' := []) (D11.out.mono (fun _ _ h => h.elim)) (fun _ _ h => h))).mono ?_
        rw [Put_upd B4.clear _ _ hX4, clear_put _ hX4]
        rintro e x12 ⟨rfl, e12, d12⟩
        have E12 := Lib.hid e12; have D12 := Lib.hid d12
        clear e12 d12
        unfold errNo
        go_wp2_with fail
        refine (Tick_bx 9 (by decide) (by decide) (by simp) E12.out).mono ?_
        rw [show Box.told ⟨[({ upd 1 7 with xid := B4.X + 1 }, -1)], [], B4.X + 1⟩ 9 = [{ upd 1 7 with xid := B4.X + 1 }] from rfl]
        rintro e x13 ⟨v13, rfl, hr13, hv13, e13, d13⟩
        obtain ⟨g13, cap13, rfl, hg13, hcell13⟩ := ownsRow_cells hr13 (Nat.lt_succ_self 0)
        have p3 : x13.cell? ⟨g13, 3, none⟩ = some (.int .i64 (B4.X + 1)) := hcell13 3 _ rfl
        have p8 : x13.cell? ⟨g13, 8, none⟩ = some (.int .i64 7) := hcell13 8 _ rfl
        have hX0 : 0 ≤ B4.X := S4.out.2.2
        have hfin : Chg (fun _ => False) w x13 := HC1.out.trans' (((((((((((D1.out.mono (fun _ _ h => h.elim)).trans D2.out).trans (D3.out.mono (fun _ _ h => h.elim))).trans D4.out).trans D6.out).trans D7.out).trans (D8.out.mono (fun _ _ h => h.elim))).trans (D9.out.mono (fun _ _ h => h.elim))).trans (D11.out.mono (fun _ _ h => h.elim))).trans D12.out).trans d13) (fun k hk h => by have := h.1; omega)
        have HFIN := Lib.hid hfin
        clear hr13 hv13 hcell13 e13 d13 hfin
        generalize B4.X = X4 at *
        go_wp2_with fail
        go_ret
        exact ⟨rfl, HFIN.out⟩
  case first =>
  go_wp2_with fail
  go_loopw [5] (fun ix wr => ∃ (i : Nat) (B : Box), i ≤ n ∧ i ≤ 100 ∧ ix = .int .i64 i ∧ Boxed w.heap.size [] wr b B ∧ FreshB B ∧ B.small i ∧ Chg (fun _ => False) w wr) (fun ix _ => n - (intOf ix).toNat)
  case atStart => exact ⟨0, emptyBox, Nat.zero_le _, Nat.zero_le _, rfl, HB2.out, fresh_empty, small_empty, C1.out.trans C2.out⟩
  case round =>
    obtain ⟨i, B, hi, h100, rfl, hb, hf, hs, hc⟩ := hrel
    by_cases hlt : i < n
    · by_cases hlt2 : i < 100
      · obtain ⟨g, off, rfl, hg, hcell⟩ := HP.out (by omega)
        have p0 := hc.cell (hcell i hlt).1 (fun h => h)
        have p1 := hc.cell (hcell i hlt).2 (fun h => h)
        have hbit := mask3 (X i)
        have hcv : IntKind.u32.wrap (X i % 8) = X i % 8 := wrap8 (X i)
        have HB := Lib.hid hb; have HF := Lib.hid hf; have HS := Lib.hid hs; have HC := Lib.hid hc
        clear hb hf hs hc hcell HP
        generalize X i % 8 = x at *
        generalize X i = x0 at *
        generalize Y i = y at *
        go_wp2_with fail
        go_region_with (first
          | (refine (upd_any _ _ _).mono ?_; rintro e w3 ⟨rfl, hc3⟩)
          | (refine (Put_bx (base := w.heap.size) (own := []) (upd x y) (Nat.le_trans HC.out.size hc3.size) (fun _ h => absurd h (List.not_mem_nil)) (HB.out.keep (own' := []) (((Chg.refl _ wr).drew).trans (hc3.mono (fun _ _ h => h.elim))) (fun _ _ h => h))).mono ?_; rintro e w4 ⟨rfl, hb4, hc4⟩))
        all_goals
          have hX : B.X < 1073741824 := by have := HS.out.2.1; omega
          rw [Put_upd B x y hX] at hb4
          have hgo : ∃ (i' : Nat) (B' : Box), i' ≤ n ∧ i' ≤ 100 ∧ Value.int .i64 ((i : Int) + 1) = .int .i64 i' ∧ Boxed w.heap.size [] w4 b B' ∧ FreshB B' ∧ B'.small i' ∧ Chg (fun _ => False) w w4 :=
            ⟨i + 1, _, by omega, by omega, by go_num, hb4, fresh_put _ HF.out hX, small_put _ HS.out, (HC.out.trans ((Chg.refl _ wr).drew.trans hc3)).trans' hc4 (fun k hk h => by have := h.1; omega)⟩
          have HGO := Lib.hid hgo
          clear hgo hb4 hc4 hc3
          go_wp2_with fail
          go_roundw
          case rel => exact HGO.out
          case measure => simp [intOf]; omega
      · have hi2 : i = 100 := by omega
        subst hi2
        go_wp2_with fail
        go_meet
        case rel => exact ⟨B, hb, hf, hs, hc⟩
    · have hi2 : i = n := by omega
      subst hi2
      have h3 : decide ((i : Int) < i) = false := by simp
      go_wp2_with fail
      go_meet
      case rel => exact ⟨B, hb, hf, small_mono hs h100, hc⟩
end Go.Proofs.Ytenkglbnlealbaa
