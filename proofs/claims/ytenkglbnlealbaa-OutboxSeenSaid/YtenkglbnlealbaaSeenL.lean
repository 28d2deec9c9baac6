import Derived.Test.YtenkglbnlealbaaSeenP
namespace Go.Proofs.Ytenkglbnlealbaa
open Go.RowKit
attribute [local go_sem] Oper.semAt_some
set_option maxRecDepth 100000 in
set_option maxHeartbeats 4000000 in
theorem Seen_any_law (w : World) (v1 v2 : Value) (n1 n2 : Nat) (M : Nat → Msg) (O : Nat → Bool) (h1 : Msgs w v1 n1 M) (h2 : Bools w v2 n2 O) :
    Calls Try.prog 4 #[v1, v2] w fun e w' => e = .returned (.bool true) ∧ Chg (fun _ => False) w w' := by
  obtain ⟨a1, cap1, rfl, hmax1, hp1⟩ := h1
  obtain ⟨a2, cap2, rfl, hmax2, hp2⟩ := h2
  have HP1 := Lib.hid hp1; have HP2 := Lib.hid hp2
  clear hp1 hp2
  go_enter Try.func4, Try.ntmps4
  go_wp2_with fail
  refine (awake_any w).mono ?_
  rintro e w1 ⟨rfl, hc1⟩
  have C1 := Lib.hid hc1
  clear hc1
  go_wp2_with fail
  refine (News_any w1).mono ?_
  rintro e w2 ⟨rfl, hc2, hs2⟩
  have C2 := Lib.hid (C1.out.trans hc2); have HS2 := Lib.hid hs2
  have zw1 := C1.out.size
  clear hc2 hs2
  unfold ptr
  go_wp2_with fail
  refine (RNews_any w2).mono ?_
  rintro e w3 ⟨rfl, hc3, hr3⟩
  have z2 : w1.heap.size + 1 < w2.heap.size := HS2.out.head.lt
  have hs3 := HS2.out.keep hc3 (fun h => h) (fun h => h)
  have HS3 := Lib.hid hs3; have HR3 := Lib.hid hr3; have C3 := Lib.hid (C2.out.trans hc3)
  clear hc3 hr3 hs3 HS2
  unfold ptr
  simp only [maxLen] at hmax1 hmax2
  go_wp2_with fail
  generalize hs0 : w1.heap.size + 1 = s0 at *
  generalize w1.heap.size = r0 at *
  generalize w2.heap.size = t0 at *
  have hrs : r0 < s0 := by omega
  clear hs0
  go_loopw [8, 9, 10, 11, 12, 13, 14, 15] (fun ix _ _ _ _ _ _ _ wr => ∃ (i : Nat) (S R : List Noted) (mm : Array MapEntry × Nat) (v : Value), i ≤ n1 ∧ i ≤ 200 ∧ ix = .int .i64 i ∧ SeenOk wr s0 r0 S mm ∧ RSeen wr t0 R v ∧ (∀ k, v.ownBlock = some k → t0 < k) ∧ R.length ≤ i ∧ (∀ a, seenAt S a = seenAt R a) ∧ Chg (fun _ => False) w wr) (fun ix _ _ _ _ _ _ _ _ => n1 - (intOf ix).toNat)
  case atStart => exact ⟨0, [], [], _, _, Nat.zero_le _, Nat.zero_le _, rfl, HS3.out, HR3.out, (fun k h => by cases h), Nat.le_refl _, fun _ => rfl, C3.out⟩
  case round =>
    obtain ⟨i, S, R, mm, v, hi, h200, rfl, hs, hr, hv, hl, hall, hc⟩ := hrel
    by_cases hlt : i < n1
    · by_cases hlt2 : i < 200
      · obtain ⟨gb, off, rfl, hg, hcell⟩ := HP1.out (by omega)
        obtain ⟨m, hm⟩ : ∃ m, M i = m := ⟨_, rfl⟩
        have hcm : ∀ k c, m.cells[k]? = some c → w.cell? ⟨gb, off + i * 11 + k, none⟩ = some c := by rw [← hm]; exact hcell i hlt
        have HCM := Lib.hid hcm; have HS := Lib.hid hs; have HR := Lib.hid hr; have HV := Lib.hid hv; have HA := Lib.hid hall; have HC := Lib.hid hc; have HL := Lib.hid hl
        clear hcm hs hr hv hall hc hl hcell hm HS3 HR3
        have p0 := HC.out.cell (HCM.out 0 _ rfl) (fun h => h)
        have p1 := HC.out.cell (HCM.out 1 _ rfl) (fun h => h)
        have p2 := HC.out.cell (HCM.out 2 _ rfl) (fun h => h)
        have p3 := HC.out.cell (HCM.out 3 _ rfl) (fun h => h)
        have p4 := HC.out.cell (HCM.out 4 _ rfl) (fun h => h)
        have p5 := HC.out.cell (HCM.out 5 _ rfl) (fun h => h)
        have p6 := HC.out.cell (HCM.out 6 _ rfl) (fun h => h)
        have p7 := HC.out.cell (HCM.out 7 _ rfl) (fun h => h)
        have p8 := HC.out.cell (HCM.out 8 _ rfl) (fun h => h)
        have p9 := HC.out.cell (HCM.out 9 _ rfl) (fun h => h)
        have p10 := HC.out.cell (HCM.out 10 _ rfl) (fun h => h)
        rw [Nat.add_zero] at p0
        go_wp2_with fail
        refine (Take_any wr s0 r0 S mm HS.out m).mono ?_
        rintro e wa ⟨rfl, hca⟩
        have HSa := Lib.hid (HS.out.keep hca (fun h => h) (fun h => h)); have HRa := Lib.hid (HR.out.keep hca (fun h => h) (fun _ _ h => h)); have HCa := Lib.hid (HC.out.trans hca)
        clear p0 p1 p2 p3 p4 p5 p6 p7 p8 p9 p10 hca
        have p0 := HCa.out.cell (HCM.out 0 _ rfl) (fun h => h)
        have p1 := HCa.out.cell (HCM.out 1 _ rfl) (fun h => h)
        have p2 := HCa.out.cell (HCM.out 2 _ rfl) (fun h => h)
        have p3 := HCa.out.cell (HCM.out 3 _ rfl) (fun h => h)
        have p4 := HCa.out.cell (HCM.out 4 _ rfl) (fun h => h)
        have p5 := HCa.out.cell (HCM.out 5 _ rfl) (fun h => h)
        have p6 := HCa.out.cell (HCM.out 6 _ rfl) (fun h => h)
        have p7 := HCa.out.cell (HCM.out 7 _ rfl) (fun h => h)
        have p8 := HCa.out.cell (HCM.out 8 _ rfl) (fun h => h)
        have p9 := HCa.out.cell (HCM.out 9 _ rfl) (fun h => h)
        have p10 := HCa.out.cell (HCM.out 10 _ rfl) (fun h => h)
        rw [Nat.add_zero] at p0
        rw [(same_all HA.out m).1, (same_all HA.out m).2.1, (same_all HA.out m).2.2]
        go_wp2_with fail
        refine (RTake_any wa t0 R v HRa.out m).mono ?_
        rintro e wb ⟨rfl, hcb⟩
        have HSb := Lib.hid (HSa.out.keep hcb (fun h => h) (fun h => h)); have HRb := Lib.hid (HRa.out.keep hcb (fun h => h) (fun _ _ h => h)); have HCb := Lib.hid (HCa.out.trans hcb)
        clear p0 p1 p2 p3 p4 p5 p6 p7 p8 p9 p10 hcb
        have p0 := HCb.out.cell (HCM.out 0 _ rfl) (fun h => h)
        have p1 := HCb.out.cell (HCM.out 1 _ rfl) (fun h => h)
        have p2 := HCb.out.cell (HCM.out 2 _ rfl) (fun h => h)
        have p3 := HCb.out.cell (HCM.out 3 _ rfl) (fun h => h)
        have p4 := HCb.out.cell (HCM.out 4 _ rfl) (fun h => h)
        have p5 := HCb.out.cell (HCM.out 5 _ rfl) (fun h => h)
        have p6 := HCb.out.cell (HCM.out 6 _ rfl) (fun h => h)
        have p7 := HCb.out.cell (HCM.out 7 _ rfl) (fun h => h)
        have p8 := HCb.out.cell (HCM.out 8 _ rfl) (fun h => h)
        have p9 := HCb.out.cell (HCM.out 9 _ rfl) (fun h => h)
        have p10 := HCb.out.cell (HCM.out 10 _ rfl) (fun h => h)
        rw [Nat.add_zero] at p0
        generalize (same R m && (lastAt R m.addr).2) = b2 at *
        generalize newer R m = b1 at *
        generalize same R m = b3 at *
        have y1 : (b1 != b1) = false := by simp
        have y2 : (b2 != b2) = false := by simp
        have y3 : (b3 != b3) = false := by simp
        by_cases hio : i < n2
        · obtain ⟨go, ofo, rfl, hgo, hcello⟩ := HP2.out (by omega)
          have q0 := HCb.out.cell (hcello i hio) (fun h => h)
          clear hcello
          obtain ⟨ok, hok⟩ : ∃ ok, O i = ok := ⟨_, rfl⟩
          rw [hok] at q0
          clear hok
          go_wp2_with fail
          refine (Note_any wb s0 r0 S mm HSb.out m ok).mono ?_
          rintro e wc ⟨rfl, ⟨mm', hsc⟩, hcc⟩
          have hrc := HRb.out.keep hcc (fun h => by omega) (fun k hk h => by have := HV.out k hk; omega)
          have HSc := Lib.hid hsc; have HRc := Lib.hid hrc; have HCc := Lib.hid (HCb.out.trans' hcc (fun k hk h => by omega))
          have zc : t0 < wc.heap.size := hrc.head.lt
          clear p0 p1 p2 p3 p4 p5 p6 p7 p8 p9 p10 hsc hcc hrc
          have p0 := HCc.out.cell (HCM.out 0 _ rfl) (fun h => h)
          have p1 := HCc.out.cell (HCM.out 1 _ rfl) (fun h => h)
          have p2 := HCc.out.cell (HCM.out 2 _ rfl) (fun h => h)
          have p3 := HCc.out.cell (HCM.out 3 _ rfl) (fun h => h)
          have p4 := HCc.out.cell (HCM.out 4 _ rfl) (fun h => h)
          have p5 := HCc.out.cell (HCM.out 5 _ rfl) (fun h => h)
          have p6 := HCc.out.cell (HCM.out 6 _ rfl) (fun h => h)
          have p7 := HCc.out.cell (HCM.out 7 _ rfl) (fun h => h)
          have p8 := HCc.out.cell (HCM.out 8 _ rfl) (fun h => h)
          have p9 := HCc.out.cell (HCM.out 9 _ rfl) (fun h => h)
          have p10 := HCc.out.cell (HCM.out 10 _ rfl) (fun h => h)
          rw [Nat.add_zero] at p0
          go_wp2_with fail
          refine (RNote_any wc t0 R v HRc.out m ok (by have := HL.out; omega)).mono ?_
          rintro e wd ⟨rfl, ⟨v', hrd, hvd⟩, hcd⟩
          have HSd := Lib.hid (HSc.out.keep hcd (fun h => by rcases h with h | h; omega; have := HV.out _ h; omega) (fun h => by rcases h with h | h; omega; have := HV.out _ h; omega))
          have HRd := Lib.hid hrd; have HVd := Lib.hid hvd
          have HCd := Lib.hid (HCc.out.trans' hcd (fun k hk h => by rcases h with h | h; omega; have := HV.out _ h; omega))
          clear p0 p1 p2 p3 p4 p5 p6 p7 p8 p9 p10 hrd hvd hcd
          go_wp2_with fail
          go_roundw
          case rel =>
            exact ⟨i + 1, _, _, mm', v', by omega, by omega, by go_num, HSd.out, HRd.out, (fun k hk => by rcases HVd.out k hk with h | h; exact HV.out k h; omega), (by have := HL.out; have := rnoted_length R m (ok); omega), noted_all HA.out m (ok), HCd.out⟩
          case measure => simp [intOf]; omega
        · have hio2 : decide ((i : Int) < (n2 : Int)) = false := by simp; omega
          go_wp2_with fail
          refine (Note_any wb s0 r0 S mm HSb.out m false).mono ?_
          rintro e wc ⟨rfl, ⟨mm', hsc⟩, hcc⟩
          have hrc := HRb.out.keep hcc (fun h => by omega) (fun k hk h => by have := HV.out k hk; omega)
          have HSc := Lib.hid hsc; have HRc := Lib.hid hrc; have HCc := Lib.hid (HCb.out.trans' hcc (fun k hk h => by omega))
          have zc : t0 < wc.heap.size := hrc.head.lt
          clear p0 p1 p2 p3 p4 p5 p6 p7 p8 p9 p10 hsc hcc hrc
          have p0 := HCc.out.cell (HCM.out 0 _ rfl) (fun h => h)
          have p1 := HCc.out.cell (HCM.out 1 _ rfl) (fun h => h)
          have p2 := HCc.out.cell (HCM.out 2 _ rfl) (fun h => h)
          have p3 := HCc.out.cell (HCM.out 3 _ rfl) (fun h => h)
          have p4 := HCc.out.cell (HCM.out 4 _ rfl) (fun h => h)
          have p5 := HCc.out.cell (HCM.out 5 _ rfl) (fun h => h)
          have p6 := HCc.out.cell (HCM.out 6 _ rfl) (fun h => h)
          have p7 := HCc.out.cell (HCM.out 7 _ rfl) (fun h => h)
          have p8 := HCc.out.cell (HCM.out 8 _ rfl) (fun h => h)
          have p9 := HCc.out.cell (HCM.out 9 _ rfl) (fun h => h)
          have p10 := HCc.out.cell (HCM.out 10 _ rfl) (fun h => h)
          rw [Nat.add_zero] at p0
          go_wp2_with fail
          refine (RNote_any wc t0 R v HRc.out m false (by have := HL.out; omega)).mono ?_
          rintro e wd ⟨rfl, ⟨v', hrd, hvd⟩, hcd⟩
          have HSd := Lib.hid (HSc.out.keep hcd (fun h => by rcases h with h | h; omega; have := HV.out _ h; omega) (fun h => by rcases h with h | h; omega; have := HV.out _ h; omega))
          have HRd := Lib.hid hrd; have HVd := Lib.hid hvd
          have HCd := Lib.hid (HCc.out.trans' hcd (fun k hk h => by rcases h with h | h; omega; have := HV.out _ h; omega))
          clear p0 p1 p2 p3 p4 p5 p6 p7 p8 p9 p10 hrd hvd hcd
          go_wp2_with fail
          go_roundw
          case rel =>
            exact ⟨i + 1, _, _, mm', v', by omega, by omega, by go_num, HSd.out, HRd.out, (fun k hk => by rcases HVd.out k hk with h | h; exact HV.out k h; omega), (by have := HL.out; have := rnoted_length R m (false); omega), noted_all HA.out m (false), HCd.out⟩
          case measure => simp [intOf]; omega
      · have hi2 : i = 200 := by omega
        subst hi2
        have HC := Lib.hid hc
        clear hc hs hr hall
        go_wp2_with fail
        go_ret
        exact ⟨rfl, HC.out⟩
    · have hi2 : i = n1 := by omega
      subst hi2
      have h3 : decide ((i : Int) < i) = false := by simp
      have HC := Lib.hid hc
      clear hc hs hr hall
      go_wp2_with fail
      go_ret
      exact ⟨rfl, HC.out⟩
end Go.Proofs.Ytenkglbnlealbaa
