import Derived.Test.YtenkglbnlealbaaR4
import Derived.Deep.CutBlock
import Derived.Deep.Cut
/-! The reference's 'goes', where something goes out. -/
namespace Go.Proofs.Ytenkglbnlealbaa
open Go.RowKit
attribute [local go_sem] Oper.semAt_some
/-- where the row of those that wait lies, behind its step -/
def GoneW (b N : Nat) (B : Box) (i : Nat) (vL : Value) (wD wc : World) : Prop :=
  ∃ a2 cap2, Blk wc b [vL, .slice a2 (N - 1) cap2, .int .i64 B.X] 63 ∧ wc.ownsRow 0 35 11 (.slice a2 (N - 1) cap2) (N - 1) ((B.W.take i ++ B.W.drop (i + 1)).flatMap Msg.cells) ∧ Chg (fun j => j = b) wD wc ∧ ∀ k, (Value.slice a2 (N - 1) cap2).ownBlock = some k → wD.heap.size ≤ k
theorem gonew_fin {b N i : Nat} {B : Box} {vL vW : Value} {wD w2 : World} {a2 : Option Addr} {cap2 : Nat} (hb : Blk wD b [vL, vW, .int .i64 B.X] 63) (hi : i < B.W.length) (hN : B.W.length = N)
    (hap : App2 35 11 (0 + i + (N - (i + 1))) ([] ++ (B.W.flatMap Msg.cells).take (i * 11) ++ (B.W.flatMap Msg.cells).drop ((i + 1) * 11)) wD (.slice a2 (N - 1) cap2) w2) :
    GoneW b N B i vL wD (w2.setCell ⟨b, 1, none⟩ (.slice a2 (N - 1) cap2)) := by
  have hb2 := hap.chg.blk hb (fun h => h)
  have hne : ∀ k, (Value.slice a2 (N - 1) cap2).ownBlock = some k → k ≠ b := fun k hk e => by have := hap.lies k hk; have := hb.lt; omega
  have e : (B.W.flatMap Msg.cells).take (i * 11) ++ (B.W.flatMap Msg.cells).drop ((i + 1) * 11) = (B.W.take i ++ B.W.drop (i + 1)).flatMap Msg.cells := by
    rw [List.flatMap_append, flat_take Msg.cells 11 cells_len, flat_drop Msg.cells 11 cells_len]
  have hr := hap.row
  rw [List.nil_append, e, show 0 + i + (N - (i + 1)) = N - 1 by omega] at hr
  refine ⟨a2, cap2, hb2.setCell 1 _, hr.keep (S := fun k => k = b) ((Chg.refl _ w2).setCell _ (fun _ => rfl)) (fun k hk h => hne k hk h), (hap.chg.mono (fun _ _ h => h.elim)).setCell _ (fun _ => rfl), hap.lies⟩
theorem ownsRow_lt {w : World} {e : TypeId} {size n : Nat} {v : Value} {xs : List Value} (h : w.ownsRow 0 e size v n xs) {k : Nat} (hk : v.ownBlock = some k) : k < w.heap.size := by
  rcases h.2 with ⟨h1, _⟩ | ⟨g, cap, cur, h1, _, h2, _⟩
  · rw [h1] at hk; cases hk
  · rw [h1] at hk
    simp only [Value.ownBlock, Option.some.injEq] at hk
    subst hk
    exact (Array.getElem?_eq_some_iff.1 h2).1
theorem rgoes_fin {w wE w2 : World} {b K n' : Nat} {B : Box} {vL vW vW' v2 u0 : Value} {x : Msg × Int} {W' : List Msg} (hbw : b < w.heap.size) (hcE : Chg (fun j => j = b) w wE) (hbE : Blk wE b [u0, vW', .int .i64 (B.X + 1)] 63)
    (hn : W'.length = n') (hrW : wE.ownsRow 0 35 11 vW' n' (W'.flatMap Msg.cells)) (hfW : ∀ k, vW'.ownBlock = some k → w.heap.size ≤ k) (hK : B.L.length = K) (hap : App2 107 12 (K + 1) (B.L.flatMap cellsO ++ cellsO x) wE v2 w2) :
    RStep w b vL vW (w2.setCell ⟨b, 0, none⟩ v2) ⟨B.L ++ [x], W', B.X + 1⟩ := by
  subst hn hK
  have hb2 := hap.chg.blk hbE (fun h => h)
  have hn2 : ∀ k, v2.ownBlock = some k → k ≠ b := fun k hk e => by have := hap.lies k hk; have := hbE.lt; omega
  have hnW : ∀ k, vW'.ownBlock = some k → k ≠ b := fun k hk e => by have := hfW k hk; omega
  have hst : Chg (fun k => k = b) w2 (w2.setCell ⟨b, 0, none⟩ v2) := (Chg.refl _ w2).setCell _ (fun _ => rfl)
  refine ⟨⟨v2, vW', ⟨hb2.setCell 0 v2, ?_, ?_, hn2, hnW, fun k hk hk2 => ?_⟩, fun k hk => ?_⟩, ?_⟩
  · have := hap.row.keep hst (fun k hk h => hn2 k hk h)
    simpa [List.flatMap_append] using this
  · exact (hrW.keep hap.chg (fun _ _ h => h)).keep hst (fun k hk h => hnW k hk h)
  · have h1 := hap.lies k hk
    have h2 := ownsRow_lt hrW hk2
    omega
  · rcases hk with h | h | h
    · exact .inl (.inl h)
    · exact .inr (Nat.le_trans hcE.size (hap.lies k h))
    · exact .inr (hfW k h)
  · exact ((hcE.mono (fun k _ h => .inl h)).trans (hap.chg.mono (fun _ _ h => h.elim))).trans (hst.mono (fun k _ h => .inl h))
set_option maxRecDepth 100000 in
set_option maxHeartbeats 8000000 in
theorem RGoes_found (w : World) (b : Nat) (B : Box) (vL vW : Value) (h : RBox w b B vL vW) (a : Int) (k : Nat) (hk : k < B.W.length) (hno : ∀ j (hj : j < B.W.length), j < k → B.W[j].addr ≠ a) (hka : B.W[k].addr = a) (hu : B.W.Pairwise fun x y => x.addr ≠ y.addr) (ho : B.out a = false) (hX0 : 0 ≤ B.X) (hX : B.X < 1073741824) (hsm : B.L.length + B.W.length < 1000000) :
    Calls Try.prog 47 #[ptr b, .int .u32 a] w fun e w' => e = .returned (.tuple #[]) ∧ RStep w b vL vW w' (B.goes a) := by
  have HGO := Lib.hid (goes_found hk hno hka hu ho hX)
  obtain ⟨a2, cap2, rfl⟩ := ownsRow_slice h.rowW
  obtain ⟨a9, cap9, rfl⟩ := ownsRow_slice h.rowL
  have c1 := h.head.cell 1
  have c2 := h.head.cell 2
  simp only [List.getElem?_cons_zero, List.getElem?_cons_succ] at c1 c2
  have H := Lib.hid h
  have HNO := Lib.hid hno
  obtain ⟨N, hN⟩ : ∃ N, B.W.length = N := ⟨_, rfl⟩
  rw [hN] at c1 hsm
  have hkN : k < N := by rw [← hN]; exact hk
  have HN := Lib.hid hN
  have HKA := Lib.hid hka
  have HO := Lib.hid ho
  clear hN hno h hu
  unfold ptr
  go_enter Try.func47, Try.ntmps47
  go_wp2_with fail
  refine (ROut_any w b B _ _ H.out a).mono ?_
  rintro e w' ⟨rfl, rfl⟩
  rw [ho]
  clear ho hka
  go_wp2_with fail
  go_loop [5] (fun ix => ∃ i : Nat, i ≤ k ∧ ix = .int .i64 i) (fun ix => N - (intOf ix).toNat)
  case atStart => exact ⟨0, Nat.zero_le _, rfl⟩
  case round =>
    obtain ⟨i, hi, rfl⟩ := hrel
    have hiL : i < B.W.length := by omega
    obtain ⟨g, cap', hv, hg, hcell⟩ := ownsRow_cells H.out.rowW (by omega)
    obtain ⟨rfl, rfl⟩ : a2 = some ⟨g, 0, none⟩ ∧ cap2 = cap' := by simp only [Value.slice.injEq] at hv; exact ⟨hv.1, hv.2.2⟩
    by_cases hlt : i < k
    · have e5 : w.cell? ⟨g, i * 11 + 5, none⟩ = some (.int .u32 B.W[i].addr) := hcell _ _ (by rw [flat_at _ i 5 hiL (by decide)]; rfl)
      have hc : B.W[i].addr ≠ a := HNO.out i hiL hlt
      clear hcell hv
      generalize B.W[i].addr = ra at *
      have h1 : (ra != a) = true := by simpa using hc
      clear hc
      go_wp2_with fail
      go_round
      case rel => exact ⟨i + 1, by omega, by go_num⟩
      case measure => simp [intOf]; omega
    · have hik : i = k := by omega
      subst hik
      obtain ⟨M, hM⟩ : ∃ M, B.W[i] = M := ⟨_, rfl⟩
      have hcl : ∀ k' c, k' < 11 → M.cells[k']? = some c → w.cell? ⟨g, i * 11 + k', none⟩ = some c := fun k' c hk' h => hcell _ _ (by rw [flat_at _ i k' hiL hk', hM]; exact h)
      have hMa : M.addr = a := by rw [← hM]; exact HKA.out
      have e0 := hcl 0 _ (by decide) rfl
      have e1 := hcl 1 _ (by decide) rfl
      have e2 := hcl 2 _ (by decide) rfl
      have e3 := hcl 3 _ (by decide) rfl
      have e4 := hcl 4 _ (by decide) rfl
      have e5 := hcl 5 _ (by decide) rfl
      have e6 := hcl 6 _ (by decide) rfl
      have e7 := hcl 7 _ (by decide) rfl
      have e8 := hcl 8 _ (by decide) rfl
      have e9 := hcl 9 _ (by decide) rfl
      have e10 := hcl 10 _ (by decide) rfl
      rw [Nat.add_zero] at e0
      have HM := Lib.hid hM
      have hab : (M.addr != a) = false := by simpa using hMa
      have hx : decide (1073741824 ≤ B.X) = false := by simp; omega
      clear hcl hcell hv hM hMa hlt
      go_upto_region 6 with (fail)
      have BK := Blk.new w M.cells 35
      have cD := (Chg.refl (fun _ => False) w).alloc (.cells M.cells.toArray 35)
      obtain ⟨wD, hD⟩ : ∃ wD, w.alloc (.cells M.cells.toArray 35) = wD := ⟨_, rfl⟩
      have zD : wD.heap.size = w.heap.size + 1 := by rw [← hD]; simp
      rw [hD] at BK cD
      unfold Msg.cells at hD
      rw [hD]
      clear hD
      have zD1 : w.heap.size < wD.heap.size := by omega
      have ZD := Lib.hid zD
      clear zD
      have hr := H.out.keep cD (fun _ _ h => h)
      have hcap : N ≤ cap2 ∧ cap2 ≤ maxLen := by
        rcases hr.rowW.2 with ⟨h1, _⟩ | ⟨g', cap', cur, h1, _, _, h2, h3, _⟩
        · cases h1
        · simp only [Value.slice.injEq] at h1
          have := HN.out
          obtain ⟨_, _, rfl⟩ := h1
          omega
      obtain ⟨hcap1, hcap2⟩ := hcap
      simp only [maxLen] at hcap2
      have d1 := cD.cell c1 (fun h => h)
      have d2 := cD.cell c2 (fun h => h)
      have hrow := hr.rowW
      have hbd := hr.head
      rw [HN.out] at hrow hbd
      obtain ⟨i0, y1, y2, y3, y4⟩ := info_parts Try.info35'
      have HBD := Lib.hid hbd
      have LIES1 := Lib.hid (ownsRow_lies_take hrow i cap2)
      have L1 := Lib.hid (show ((B.W.flatMap Msg.cells).take (i * 11)).length = i * 11 by rw [List.length_take, hrow.1]; omega)
      have L2 := Lib.hid (show ((B.W.flatMap Msg.cells).drop ((i + 1) * 11)).length = (N - (i + 1)) * 11 by rw [List.length_drop, hrow.1]; omega)
      have ONE := Lib.hid (one_cells B.W)
      have HBK := Lib.hid BK; have CD := Lib.hid cD; have HRD := Lib.hid hr; have HROW := Lib.hid hrow
      clear BK cD hr hbd hrow e0 e1 e2 e3 e4 e5 e6 e7 e8 e9 e10 hab hx c1 c2
      go_cut [] from 46 to 64 (fun wc => GoneW b N B i (.slice a9 B.L.length cap9) wD wc)
      case rest =>
        obtain ⟨a4, cap4, hb4, hr4, hc4, hl4⟩ := hcut
        have hpb : ¬ w.heap.size = b := fun e => by have := H.out.head.lt; omega
        have hbk := hc4.blk HBK.out hpb
        have hrL := HRD.out.rowL.keep hc4 (fun k hk h => HRD.out.neL k hk h)
        obtain ⟨K, hK⟩ : ∃ K, B.L.length = K := ⟨_, rfl⟩
        rw [hK] at hb4 hrL hsm
        have g0 := hb4.cell 0
        have g2 := hb4.cell 2
        have g3 := hb4.frozen 2
        have g4 := hbk.frozen 3
        have m3 := hbk.cell 3
        simp only [Msg.cells, List.getElem?_cons_zero, List.getElem?_cons_succ] at g0 g2 m3
        have HB4 := Lib.hid hb4; have HR4 := Lib.hid hr4; have HC4 := Lib.hid hc4; have HL4 := Lib.hid hl4; have HBK4 := Lib.hid hbk; have HRL := Lib.hid hrL; have HK := Lib.hid hK; have HPB := Lib.hid hpb
        have lp := hbk.lt
        clear hb4 hr4 hc4 hl4 hbk hrL hK hpb d1 d2
        go_upto_region 9 with (fail)
        have hbE := ((HB4.out.setCell 2 (.int .i64 (B.X + 1))).other (a := ⟨w.heap.size, 3, none⟩) (.int .i64 (B.X + 1)) HPB.out)
        have hbkE := ((HBK4.out.other (a := ⟨b, 2, none⟩) (.int .i64 (B.X + 1)) (fun e => HPB.out e.symm)).setCell 3 (.int .i64 (B.X + 1)))
        have hcE : Chg (fun j => j = b ∨ j = w.heap.size) wc ((wc.setCell ⟨b, 2, none⟩ (.int .i64 (B.X + 1))).setCell ⟨w.heap.size, 3, none⟩ (.int .i64 (B.X + 1))) := ((Chg.refl _ wc).setCell _ (fun _ => .inl rfl)).setCell _ (fun _ => .inr rfl)
        generalize (wc.setCell ⟨b, 2, none⟩ (.int .i64 (B.X + 1))).setCell ⟨w.heap.size, 3, none⟩ (.int .i64 (B.X + 1)) = wE at *
        simp only [Msg.cells, List.set_cons_zero, List.set_cons_succ] at hbE hbkE
        have eb0 := hbE.cell 0
        have m0 := hbkE.cell 0
        have m1 := hbkE.cell 1
        have m2 := hbkE.cell 2
        have m3 := hbkE.cell 3
        have m4 := hbkE.cell 4
        have m5 := hbkE.cell 5
        have m6 := hbkE.cell 6
        have m7 := hbkE.cell 7
        have m8 := hbkE.cell 8
        have m9 := hbkE.cell 9
        have m10 := hbkE.cell 10
        simp only [List.getElem?_cons_zero, List.getElem?_cons_succ] at eb0 m0 m1 m2 m3 m4 m5 m6 m7 m8 m9 m10
        have hrLE := HRL.out.keep hcE (fun k hk h => by
          rcases h with h | h
          · exact HRD.out.neL k (by have := HK.out; rw [this]; exact hk) h
          · have := ownsRow_lt H.out.rowL (k := k) (by have := HK.out; rw [this]; exact hk)
            omega)
        have hrWE := HR4.out.keep hcE (fun k hk h => by
          have := HL4.out k hk
          rcases h with h | h
          · subst h; have := H.out.head.lt; omega
          · omega)
        have hwE : Chg (fun j => j = b) w wE := ((CD.out.mono (fun _ _ h => h.elim)).trans HC4.out).trans' hcE (fun k hk h => by
          rcases h with h | h
          · exact h
          · omega)
        have hWl : (B.W.take i ++ B.W.drop (i + 1)).length = N - 1 := by
          have := HN.out
          rw [List.length_append, List.length_take, List.length_drop]
          omega
        have HBE := Lib.hid hbE; have HWE := Lib.hid hwE; have HRWE := Lib.hid hrWE; have HWL := Lib.hid hWl
        have LL := Lib.hid hrLE.lies
        have LLEN := Lib.hid hrLE.1
        have LONE := Lib.hid (show ∀ u ∈ B.L.flatMap cellsO, u.oneCell' = true from fun u hu => by
          obtain ⟨x, _, hx⟩ := List.mem_flatMap.1 hu
          simp only [cellsO, Msg.cells, List.cons_append, List.nil_append, List.mem_cons, List.not_mem_nil, or_false] at hx
          rcases hx with rfl | rfl | rfl | rfl | rfl | rfl | rfl | rfl | rfl | rfl | rfl | rfl <;> rfl)
        have lbE : b < wE.heap.size := hbE.lt
        have lpE : w.heap.size < wE.heap.size := hbkE.lt
        obtain ⟨i1, x1, x2, x3, x4⟩ := info_parts Try.info107
        clear hbE hbkE hcE hrLE hrWE hwE hWl g0 g2 g3 g4
        go_region_law
          ((first
            | (refine step_app (by rfl) _ _ 61 (by rfl) 107 i1 _ 12 104 Try.underlying61 x1 x2 x3 x4 rfl (by decide) (.slice (some ⟨wE.heap.size, 0, none⟩) 0 0) 0 [] (by rfl) (ownsRow_empty (heap_alloc_new wE _)) (.slice a9 K cap9) K (B.L.flatMap cellsO) (by rfl) (LL.out.keep (((Chg.refl (fun _ => False) wE).alloc _).drew) (fun _ _ h => h)) LLEN.out (fun u hu => LONE.out u hu) (by simp only [maxLen]; omega) (by omega) ?_
               intro v1 w1 ha1
               have cj : Chg (fun _ => False) wE w1 := (((Chg.refl (fun _ => False) wE).alloc _).drew).trans' ha1.chg (fun k hk h => by simp only [Value.ownBlock, Option.some.injEq] at h; omega)
               have kj0 := cj.cell m0 (fun h => h)
               have kj1 := cj.cell m1 (fun h => h)
               have kj2 := cj.cell m2 (fun h => h)
               have kj3 := cj.cell m3 (fun h => h)
               have kj4 := cj.cell m4 (fun h => h)
               have kj5 := cj.cell m5 (fun h => h)
               have kj6 := cj.cell m6 (fun h => h)
               have kj7 := cj.cell m7 (fun h => h)
               have kj8 := cj.cell m8 (fun h => h)
               have kj9 := cj.cell m9 (fun h => h)
               have kj10 := cj.cell m10 (fun h => h)
               have kjb := cj.cell eb0 (fun h => h)
               have HA1 := Lib.hid ha1
               clear ha1 cj)
            | (refine step_app (by rfl) _ _ 61 (by rfl) 107 i1 _ 12 104 Try.underlying61 x1 x2 x3 x4 rfl (by decide) (.slice (some ⟨wE.heap.size, 0, none⟩) 0 0) 0 [] (by rfl) (ownsRow_empty (heap_two wE _ _)) (.slice a9 K cap9) K (B.L.flatMap cellsO) (by rfl) (LL.out.keep ((((Chg.refl (fun _ => False) wE).alloc _).alloc _).drew) (fun _ _ h => h)) LLEN.out (fun u hu => LONE.out u hu) (by simp only [maxLen]; omega) (by omega) ?_
               intro v1 w1 ha1
               have cj : Chg (fun _ => False) wE w1 := ((((Chg.refl (fun _ => False) wE).alloc _).alloc _).drew).trans' ha1.chg (fun k hk h => by simp only [Value.ownBlock, Option.some.injEq] at h; omega)
               have kj0 := cj.cell m0 (fun h => h)
               have kj1 := cj.cell m1 (fun h => h)
               have kj2 := cj.cell m2 (fun h => h)
               have kj3 := cj.cell m3 (fun h => h)
               have kj4 := cj.cell m4 (fun h => h)
               have kj5 := cj.cell m5 (fun h => h)
               have kj6 := cj.cell m6 (fun h => h)
               have kj7 := cj.cell m7 (fun h => h)
               have kj8 := cj.cell m8 (fun h => h)
               have kj9 := cj.cell m9 (fun h => h)
               have kj10 := cj.cell m10 (fun h => h)
               have kjb := cj.cell eb0 (fun h => h)
               have HY := Lib.hid (Lies.keep' ha1.chg (by exact lies_new (news := [.int .i64 M.kind, .int .i64 M.life, .int .i64 M.seen, .int .i64 (B.X + 1), .int .i64 M.st, .int .u32 M.addr, .int .i64 M.bind, .string M.client, .int .i64 M.pot, .int .i64 M.time, .bool M.ok, .int .i64 (-1)]) (heap_two' wE _ _)) (fun k h1 h2 => by simp only [Value.ownBlock, Option.some.injEq] at h1 h2; omega))
               have HA1 := Lib.hid ha1
               clear ha1 cj)
            | (refine step_app (by rfl) _ _ 61 (by rfl) 107 i1 _ 12 104 Try.underlying61 x1 x2 x3 x4 rfl (by decide) (.slice (some ⟨wE.heap.size + 1, 0, none⟩) 0 0) 0 [] (by rfl) (ownsRow_empty (heap_two' wE _ _)) (.slice a9 K cap9) K (B.L.flatMap cellsO) (by rfl) (LL.out.keep ((((Chg.refl (fun _ => False) wE).alloc _).alloc _).drew) (fun _ _ h => h)) LLEN.out (fun u hu => LONE.out u hu) (by simp only [maxLen]; omega) (by omega) ?_
               intro v1 w1 ha1
               have cj : Chg (fun _ => False) wE w1 := ((((Chg.refl (fun _ => False) wE).alloc _).alloc _).drew).trans' ha1.chg (fun k hk h => by simp only [Value.ownBlock, Option.some.injEq] at h; omega)
               have kj0 := cj.cell m0 (fun h => h)
               have kj1 := cj.cell m1 (fun h => h)
               have kj2 := cj.cell m2 (fun h => h)
               have kj3 := cj.cell m3 (fun h => h)
               have kj4 := cj.cell m4 (fun h => h)
               have kj5 := cj.cell m5 (fun h => h)
               have kj6 := cj.cell m6 (fun h => h)
               have kj7 := cj.cell m7 (fun h => h)
               have kj8 := cj.cell m8 (fun h => h)
               have kj9 := cj.cell m9 (fun h => h)
               have kj10 := cj.cell m10 (fun h => h)
               have kjb := cj.cell eb0 (fun h => h)
               have HY := Lib.hid (Lies.keep' ha1.chg (by exact lies_new (news := [.int .i64 M.kind, .int .i64 M.life, .int .i64 M.seen, .int .i64 (B.X + 1), .int .i64 M.st, .int .u32 M.addr, .int .i64 M.bind, .string M.client, .int .i64 M.pot, .int .i64 M.time, .bool M.ok, .int .i64 (-1)]) (heap_two wE _ _)) (fun k h1 h2 => by simp only [Value.ownBlock, Option.some.injEq] at h1 h2; omega))
               have HA1 := Lib.hid ha1
               clear ha1 cj)
            | (refine step_app (by rfl) _ _ 61 (by rfl) 107 i1 _ 12 104 Try.underlying61 x1 x2 x3 x4 rfl (by decide) v1 (0 + K) ([] ++ B.L.flatMap cellsO) (by rfl) (HA1.out.row.alloc _) (.slice (some ⟨w1.heap.size, 0, none⟩) 1 1) 1 [.int .i64 M.kind, .int .i64 M.life, .int .i64 M.seen, .int .i64 (B.X + 1), .int .i64 M.st, .int .u32 M.addr, .int .i64 M.bind, .string M.client, .int .i64 M.pot, .int .i64 M.time, .bool M.ok, .int .i64 (-1)] (by rfl) (lies_new (heap_alloc_new w1 _)) (by rfl) (by simp [Value.oneCell']) (by simp only [maxLen]; omega) (by omega) ?_
               intro v2 w2 ha2
               have hap := app2_of (w := wE) (((Chg.refl (fun _ => False) wE).alloc _).drew) (fun k h => by simp only [Value.ownBlock, Option.some.injEq] at h; omega) HA1.out ((Chg.refl _ w1).alloc _) ha2
               have kkb := hap.chg.cell eb0 (fun h => h)
               have kkf := (hap.chg.blk HBE.out (fun h => h)).frozen 0
               rw [Nat.zero_add, List.nil_append] at hap
               have HAP := Lib.hid hap
               clear ha2
               obtain ⟨a5, cap5, rfl⟩ := ownsRow_slice hap.row
               clear hap)
            | (refine step_app (by rfl) _ _ 61 (by rfl) 107 i1 _ 12 104 Try.underlying61 x1 x2 x3 x4 rfl (by decide) v1 (0 + K) ([] ++ B.L.flatMap cellsO) (by rfl) HA1.out.row _ 1 [.int .i64 M.kind, .int .i64 M.life, .int .i64 M.seen, .int .i64 (B.X + 1), .int .i64 M.st, .int .u32 M.addr, .int .i64 M.bind, .string M.client, .int .i64 M.pot, .int .i64 M.time, .bool M.ok, .int .i64 (-1)] (by rfl) HY.out (by rfl) (by simp [Value.oneCell']) (by simp only [maxLen]; omega) (by omega) ?_
               intro v2 w2 ha2
               have hap := app2_of (w := wE) ((((Chg.refl (fun _ => False) wE).alloc _).alloc _).drew) (fun k h => by simp only [Value.ownBlock, Option.some.injEq] at h; omega) HA1.out (Chg.refl _ w1) ha2
               have kkb := hap.chg.cell eb0 (fun h => h)
               have kkf := (hap.chg.blk HBE.out (fun h => h)).frozen 0
               rw [Nat.zero_add, List.nil_append] at hap
               have HAP := Lib.hid hap
               clear ha2
               obtain ⟨a5, cap5, rfl⟩ := ownsRow_slice hap.row
               clear hap)))
        all_goals go_wp2_with fail
        all_goals refine bodyPost_ret (results_none rfl _ _ _) rfl ⟨rfl, ?_⟩
        all_goals
          rw [HGO.out, HM.out]
          exact rgoes_fin (x := ({ M with xid := B.X + 1 }, -1)) H.out.head.lt HWE.out HBE.out HWL.out HRWE.out (fun k hk => by have := HL4.out k hk; omega) HK.out HAP.out
      case first =>
      have lb : b < wD.heap.size := HBD.out.lt
      have q0 : (0 : Int) ≤ (i : Int) := by omega
      have q1 : (i : Int) ≤ (cap2 : Int) := by omega
      have q2 : (i : Int) + 1 ≤ (N : Int) := by omega
      by_cases hce : i + 1 = cap2
      · subst hce
        obtain rfl : N = i + 1 := by omega
        have q3 : (i : Int) ≤ (i : Int) + 1 := by omega
        have LIES2 := Lib.hid (show Lies wD (.slice (some ⟨g, 0, none⟩) 0 0) (i + 1 - (i + 1)) ((B.W.flatMap Msg.cells).drop ((i + 1) * 11)) from .inl ⟨_, 0, by rw [Nat.sub_self], fun j u h => by rw [List.drop_of_length_le (by rw [HROW.out.1]; omega)] at h; simp at h⟩)
        have hw2 : (0 : Int) ≤ (i : Int) + 1 := by omega
        have hw1 : IntKind.i64.wrap ((i : Int) + 1) = (i : Int) + 1 := IntWalk.i64_in _ (by omega)
        have hw3 : ((i : Int) + 1).toNat = i + 1 := by clear hw1; omega
        go_region_law
          ((first
            | (refine step_app (by rfl) _ _ 39 (by rfl) 35 i0 _ 11 96 Try.underlying39 y1 y2 y3 y4 rfl (by decide) (.slice (some ⟨wD.heap.size, 0, none⟩) 0 0) 0 [] (by rfl) (ownsRow_empty (heap_alloc_new wD _)) (.slice (some ⟨g, 0, none⟩) i (i + 1)) i ((B.W.flatMap Msg.cells).take (i * 11)) (by rfl) (LIES1.out.keep (((Chg.refl (fun _ => False) wD).alloc _).drew) (fun _ _ h => h)) L1.out (fun u hu => ONE.out u (List.mem_of_mem_take hu)) (by clear hw1 hw3; simp only [maxLen]; omega) (by clear hw1 hw3; omega) ?_
               intro v1 w1 ha1
               have cj : Chg (fun _ => False) wD w1 := (((Chg.refl (fun _ => False) wD).alloc _).drew).trans' ha1.chg (fun k hk h => by simp only [Value.ownBlock, Option.some.injEq] at h; clear hw1 hw3; omega)
               have kj1 := cj.cell d1 (fun h => h)
               have LJ := Lib.hid (LIES2.out.keep cj (fun _ _ h => h))
               have HA1 := Lib.hid ha1
               clear ha1 cj)
            | (refine step_app (by rfl) _ _ 39 (by rfl) 35 i0 _ 11 96 Try.underlying39 y1 y2 y3 y4 rfl (by decide) v1 (0 + i) ([] ++ (B.W.flatMap Msg.cells).take (i * 11)) (by rfl) HA1.out.row _ (i + 1 - (i + 1)) ((B.W.flatMap Msg.cells).drop ((i + 1) * 11)) (by rfl) LJ.out L2.out (fun u hu => ONE.out u (List.mem_of_mem_drop hu)) (by clear hw1 hw3; simp only [maxLen]; omega) (by clear hw1 hw3; omega) ?_
               intro v2 w2 ha2
               have hap := app2_of (w := wD) (((Chg.refl (fun _ => False) wD).alloc _).drew) (fun k h => by simp only [Value.ownBlock, Option.some.injEq] at h; clear hw1 hw3; omega) HA1.out (Chg.refl _ w1) ha2
               have kk1 := hap.chg.cell d1 (fun h => h)
               have kkf := (hap.chg.blk HBD.out (fun h => h)).frozen 1
               obtain ⟨a3, cap3, e3⟩ := ownsRow_slice hap.row
               rw [show 0 + i + (i + 1 - (i + 1)) = i + 1 - 1 by clear hw1 hw3; omega] at e3
               subst e3
               have HAP := Lib.hid hap
               clear ha2 hap)))
        all_goals go_wp2_with fail
        all_goals go_meet
        all_goals case rel => exact gonew_fin HBD.out hiL HN.out HAP.out
      · have hce2 : ¬ cap2 = i + 1 := fun e => hce e.symm
        have LIES2 := Lib.hid (ownsRow_lies_drop HROW.out (i + 1) (N - (i + 1)) (cap2 - (i + 1)))
        have hw2 : (0 : Int) ≤ (i : Int) + 1 := by omega
        have hw1 : IntKind.i64.wrap ((i : Int) + 1) = (i : Int) + 1 := IntWalk.i64_in _ (by omega)
        have hw3 : ((i : Int) + 1).toNat = i + 1 := by clear hw1; omega
        go_region_law
          ((first
            | (refine step_app (by rfl) _ _ 39 (by rfl) 35 i0 _ 11 96 Try.underlying39 y1 y2 y3 y4 rfl (by decide) (.slice (some ⟨wD.heap.size, 0, none⟩) 0 0) 0 [] (by rfl) (ownsRow_empty (heap_alloc_new wD _)) (.slice (some ⟨g, 0, none⟩) i cap2) i ((B.W.flatMap Msg.cells).take (i * 11)) (by rfl) (LIES1.out.keep (((Chg.refl (fun _ => False) wD).alloc _).drew) (fun _ _ h => h)) L1.out (fun u hu => ONE.out u (List.mem_of_mem_take hu)) (by clear hw1 hw3; simp only [maxLen]; omega) (by clear hw1 hw3; omega) ?_
               intro v1 w1 ha1
               have cj : Chg (fun _ => False) wD w1 := (((Chg.refl (fun _ => False) wD).alloc _).drew).trans' ha1.chg (fun k hk h => by simp only [Value.ownBlock, Option.some.injEq] at h; clear hw1 hw3; omega)
               have kj1 := cj.cell d1 (fun h => h)
               have LJ := Lib.hid (LIES2.out.keep cj (fun _ _ h => h))
               have HA1 := Lib.hid ha1
               clear ha1 cj)
            | (refine step_app (by rfl) _ _ 39 (by rfl) 35 i0 _ 11 96 Try.underlying39 y1 y2 y3 y4 rfl (by decide) v1 (0 + i) ([] ++ (B.W.flatMap Msg.cells).take (i * 11)) (by rfl) HA1.out.row _ (N - (i + 1)) ((B.W.flatMap Msg.cells).drop ((i + 1) * 11)) (by rfl) LJ.out L2.out (fun u hu => ONE.out u (List.mem_of_mem_drop hu)) (by clear hw1 hw3; simp only [maxLen]; omega) (by clear hw1 hw3; omega) ?_
               intro v2 w2 ha2
               have hap := app2_of (w := wD) (((Chg.refl (fun _ => False) wD).alloc _).drew) (fun k h => by simp only [Value.ownBlock, Option.some.injEq] at h; clear hw1 hw3; omega) HA1.out (Chg.refl _ w1) ha2
               have kk1 := hap.chg.cell d1 (fun h => h)
               have kkf := (hap.chg.blk HBD.out (fun h => h)).frozen 1
               obtain ⟨a3, cap3, e3⟩ := ownsRow_slice hap.row
               rw [show 0 + i + (N - (i + 1)) = N - 1 by clear hw1 hw3; omega] at e3
               subst e3
               have HAP := Lib.hid hap
               clear ha2 hap)))
        all_goals go_wp2_with fail
        all_goals go_meet
        all_goals case rel => exact gonew_fin HBD.out hiL HN.out HAP.out
end Go.Proofs.Ytenkglbnlealbaa
