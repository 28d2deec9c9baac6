import Derived.Test.YtenkglbnlealbaaArgs3
import Derived.Deep.RegionHeld3
/-! OutboxScripts. -/
namespace Go.Proofs.Ytenkglbnlealbaa
open Go.RowKit
attribute [local go_sem] Oper.semAt_some
/-- what stays, while both boxes are asked -/
def Good (base r b : Nat) (B : Box) (vL vW : Value) (w0 w : World) : Prop := Two base r b w B vL vW ∧ Chg (fun _ => False) w0 w
section
variable {base r b : Nat} {B : Box} {vL vW : Value} {w0 w : World}
theorem good_len (h : Good base r b B vL vW w0 w) (hs : B.L.length + B.W.length < 1000000) : Calls Try.prog 21 #[.pointer (some ⟨b, 0, none⟩)] w fun e w' => e = .returned (.int .i64 B.len) ∧ Good base r b B vL vW w0 w' := by
  refine (Len_bx h.1.box hs).mono ?_
  rintro e w' ⟨he, hb, hc⟩
  exact ⟨he, h.1.keep hc, h.2.trans hc⟩
theorem good_rlen (h : Good base r b B vL vW w0 w) (hs : B.L.length + B.W.length < 1000000) : Calls Try.prog 24 #[.pointer (some ⟨r, 0, none⟩)] w fun e w' => e = .returned (.int .i64 B.len) ∧ Good base r b B vL vW w0 w' := by
  refine (RLen_any w r B vL vW h.1.ref hs).mono ?_
  rintro e w' ⟨he, rfl⟩
  exact ⟨he, h⟩
theorem good_last (h : Good base r b B vL vW w0 w) : Calls Try.prog 14 #[.pointer (some ⟨b, 0, none⟩)] w fun e w' => e = .returned (.int .i64 B.X) ∧ Good base r b B vL vW w0 w' := by
  refine (Last_bx h.1.box).mono ?_
  rintro e w' ⟨he, rfl⟩
  exact ⟨he, h⟩
theorem good_busy (h : Good base r b B vL vW w0 w) (a : Int) : Calls Try.prog 25 #[.pointer (some ⟨b, 0, none⟩), .int .u32 a] w fun e w' => e = .returned (.bool (B.busy a)) ∧ Good base r b B vL vW w0 w' := by
  refine (Busy_bx a h.1.box).mono ?_
  rintro e w' ⟨he, hb, hc⟩
  exact ⟨he, h.1.keep hc, h.2.trans hc⟩
theorem good_rbusy (h : Good base r b B vL vW w0 w) (a : Int) : Calls Try.prog 26 #[.pointer (some ⟨r, 0, none⟩), .int .u32 a] w fun e w' => e = .returned (.bool (B.busy a)) ∧ Good base r b B vL vW w0 w' := by
  refine (RBusy_any w r B vL vW h.1.ref a).mono ?_
  rintro e w' ⟨he, rfl⟩
  exact ⟨he, h⟩
theorem good_drew (h : Good base r b B vL vW w0 w) : Good base r b B vL vW w0 w.drew := ⟨h.1.keep ((Chg.refl _ w).drew), h.2.drew⟩
theorem good_x (h : Good base r b B vL vW w0 w) : w.cell? ⟨r, 2, none⟩ = some (.int .i64 B.X) := h.1.ref.head.cell 2
theorem good_cell (h : Good base r b B vL vW w0 w) {p : Addr} {v : Value} (hp : w0.cell? p = some v) : w.cell? p = some v := h.2.cell hp (fun h => h)
end
set_option maxRecDepth 100000 in
set_option maxHeartbeats 4000000 in
theorem Scripts_any_law (w : World) (v : Value) (n : Nat) (S : Nat → Int × Int × Msg) (h : Steps w v n S) : Calls Try.prog 6 #[v] w fun e w' => e = .returned (.bool true) ∧ Chg (fun _ => False) w w' := by
  obtain ⟨a, cap, rfl, hmax, hp⟩ := h
  have HP := Lib.hid hp
  clear hp
  simp only [maxLen] at hmax
  go_enter Try.func6, Try.ntmps6
  go_wp2_with fail
  refine (awake_any w).mono ?_
  rintro e w1 ⟨rfl, hc1⟩
  have C1 := Lib.hid hc1
  clear hc1
  go_wp2_with fail
  refine (New_bx w.heap.size [] w1 C1.out.size (by simp)).mono ?_
  rintro e w2 ⟨b, rfl, hb2, hc2⟩
  have HB2 := Lib.hid hb2; have C2 := Lib.hid (C1.out.trans hc2)
  clear hb2 hc2
  unfold ptr
  go_wp2_with fail
  refine (RBNew_any w2).mono ?_
  rintro e w3 ⟨rfl, hc3, hr3⟩
  have htwo : Two w.heap.size w2.heap.size b w3 emptyBox (.slice none 0 0) (.slice none 0 0) := by
    refine ⟨HB2.out.keep2 hc3 (fun _ _ h => h.elim) (fun k hk => ?_), hr3, fun k hk => ?_, (C2.out.trans hc3).size⟩
    · rcases mem_RO.1 hk with h | h | h
      · exact .inr (Nat.le_of_eq h.symm)
      · cases h
      · cases h
    · rcases hk with h | h | h
      · rw [h]; exact C2.out.size
      · cases h
      · cases h
  have HT := Lib.hid htwo; have C3 := Lib.hid (C2.out.trans hc3)
  clear htwo hc3 hr3 HB2
  generalize w2.heap.size = r at *
  unfold ptr
  go_wp2_with fail
  go_loopw [6, 7] (fun ix _ wr => ∃ (i : Nat) (B : Box) (vL vW : Value), i ≤ n ∧ i ≤ 200 ∧ ix = .int .i64 i ∧ Two w.heap.size r b wr B vL vW ∧ B.small i ∧ Chg (fun _ => False) w wr) (fun ix _ _ => n - (intOf ix).toNat)
  case atStart => exact ⟨0, emptyBox, _, _, Nat.zero_le _, Nat.zero_le _, rfl, HT.out, small_empty, C3.out⟩
  case round =>
    obtain ⟨i, B, vL, vW, hi, h200, rfl, ht, hs, hc⟩ := hrel
    have T := Lib.hid ht; have HS := Lib.hid hs; have HC := Lib.hid hc
    clear ht hs hc HT
    by_cases hlt : i < n
    · by_cases hlt2 : i < 200
      · obtain ⟨gb, off, rfl, hg, hcell⟩ := HP.out (by omega)
        obtain ⟨d, hd⟩ : ∃ d, (S i).1 = d := ⟨_, rfl⟩
        obtain ⟨k, hk⟩ : ∃ k, (S i).2.1 = k := ⟨_, rfl⟩
        obtain ⟨m, hm⟩ : ∃ m, (S i).2.2 = m := ⟨_, rfl⟩
        have hcm := hcell i hlt
        rw [hd, hk, hm] at hcm
        have p0 := HC.out.cell (hcm 0 _ rfl) (fun h => h)
        have p1 := HC.out.cell (hcm 1 _ rfl) (fun h => h)
        have p2 := HC.out.cell (hcm 2 _ rfl) (fun h => h)
        have p3 := HC.out.cell (hcm 3 _ rfl) (fun h => h)
        have p4 := HC.out.cell (hcm 4 _ rfl) (fun h => h)
        have p5 := HC.out.cell (hcm 5 _ rfl) (fun h => h)
        have p6 := HC.out.cell (hcm 6 _ rfl) (fun h => h)
        have p7 := HC.out.cell (hcm 7 _ rfl) (fun h => h)
        have p8 := HC.out.cell (hcm 8 _ rfl) (fun h => h)
        have p9 := HC.out.cell (hcm 9 _ rfl) (fun h => h)
        have p10 := HC.out.cell (hcm 10 _ rfl) (fun h => h)
        have p11 := HC.out.cell (hcm 11 _ rfl) (fun h => h)
        have p12 := HC.out.cell (hcm 12 _ rfl) (fun h => h)
        rw [Nat.add_zero] at p0
        have q7 := Lib.hid (hcm 7 _ rfl)
        clear hcm hcell hd hk hm HP
        by_cases hbig : 200 < (m.client.size : Int)
        · have hbd : decide (200 < (m.client.size : Int)) = true := by simpa using hbig
          clear hbig
          go_wp2_with fail
          go_ret
          exact ⟨rfl, HC.out⟩
        · have hbd : decide (200 < (m.client.size : Int)) = false := by simpa using hbig
          clear hbig
          go_wp2_with fail
          refine (Step_any w.heap.size r b i wr B vL vW T.out HS.out (by omega) d k m).mono ?_
          rintro e w4 ⟨rfl, h4, hc4⟩
          obtain ⟨B', vL', vW', ht4, hs4⟩ := h4
          have hc5 := HC.out.trans' hc4 (fun j hj h => by omega)
          have q5 := hc5.cell q7.out (fun h => h)
          have hgood : Good w.heap.size r b B' vL' vW' w4 w4 := ⟨ht4, Chg.refl _ w4⟩
          have hX := good_x hgood
          have hsz := hs4.1
          have HS4 := Lib.hid hs4; have HC5 := Lib.hid hc5
          have G := Lib.hid hgood
          clear ht4 hs4 hc4 hc5 hgood p0 p1 p2 p3 p4 p5 p6 p7 p8 p9 p10 p11 p12
          have zl : ((B'.len : Int) != (B'.len : Int)) = false := by simp
          have zx : (B'.X != B'.X) = false := by simp
          have zb : (B'.busy m.addr != B'.busy m.addr) = false := by simp
          generalize hln : B'.len = ln at *
          generalize hbu : B'.busy m.addr = bu at *
          generalize hxx : B'.X = xx at *
          have HLN := Lib.hid hln; have HBU := Lib.hid hbu; have HXX := Lib.hid hxx
          clear hln hbu hxx
          go_upto_region 12 with (fail)
          go_region_held3 (fun w' => Good w.heap.size r b B' vL' vW' w4 w' ∧ w'.cell? ⟨r, 2, none⟩ = some (.int .i64 xx) ∧ w'.cell? ⟨gb, off + i * 13 + 7, none⟩ = some (.int .u32 m.addr))
            (first
              | exact ⟨good_drew G.out, hX, q5⟩
              | exact ⟨hg', by rw [← HXX.out]; exact good_x hg', good_cell hg' q5⟩)
            ((first
            | (go_at_call 21; refine (good_len (base := w.heap.size) (r := r) (b := b) (B := B') (vL := vL') (vW := vW') (w0 := w4) (And.left (by assumption)) (by omega)).mono ?_; rintro e w' ⟨rfl, hg'⟩; rw [HLN.out])
            | (go_at_call 24; refine (good_rlen (base := w.heap.size) (r := r) (b := b) (B := B') (vL := vL') (vW := vW') (w0 := w4) (And.left (by assumption)) (by omega)).mono ?_; rintro e w' ⟨rfl, hg'⟩; rw [HLN.out])
            | (go_at_call 14; refine (good_last (base := w.heap.size) (r := r) (b := b) (B := B') (vL := vL') (vW := vW') (w0 := w4) (And.left (by assumption))).mono ?_; rintro e w' ⟨rfl, hg'⟩; rw [HXX.out])
            | (go_at_call 25; refine (good_busy (base := w.heap.size) (r := r) (b := b) (B := B') (vL := vL') (vW := vW') (w0 := w4) (And.left (by assumption)) m.addr).mono ?_; rintro e w' ⟨rfl, hg'⟩; rw [HBU.out])
            | (go_at_call 26; refine (good_rbusy (base := w.heap.size) (r := r) (b := b) (B := B') (vL := vL') (vW := vW') (w0 := w4) (And.left (by assumption)) m.addr).mono ?_; rintro e w' ⟨rfl, hg'⟩; rw [HBU.out])))
          all_goals go_wp2_with fail
          all_goals exact ⟨⟨i + 1, B', vL', vW', by omega, by omega, by go_num, hg'.1, HS4.out, HC5.out.trans hg'.2⟩, by simp [intOf]; omega⟩
      · have hi2 : i = 200 := by omega
        subst hi2
        go_wp2_with fail
        go_ret
        exact ⟨rfl, HC.out⟩
    · have hi2 : i = n := by omega
      subst hi2
      have h3 : decide ((i : Int) < i) = false := by simp
      go_wp2_with fail
      go_ret
      exact ⟨rfl, HC.out⟩
end Go.Proofs.Ytenkglbnlealbaa
