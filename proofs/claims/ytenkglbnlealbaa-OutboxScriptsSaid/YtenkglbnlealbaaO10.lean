import Derived.Test.YtenkglbnlealbaaO9
namespace Go.Proofs.Ytenkglbnlealbaa
open Go.RowKit
attribute [local go_sem] Oper.semAt_some
theorem Try.infoInt : (Try.prog.info? 3).map (fun i => (i.zero, i.size, i.bytes)) = some (some (.int .i64 0), 1, 8) := by kernel_rfl
/-- between two rounds of 'slices.AppendSeq' -/
structure Apps (w0 : World) (B N : Nat) (pre : List Value) (own : List Nat) (A : World) : Prop where
  box : ∃ v, Blk A B [v] 101 ∧ A.ownsRow 0 3 1 v pre.length pre ∧ own = B :: v.ownBlock.toList ∧ (∀ k, v.ownBlock = some k → B < k ∧ k < A.heap.size) ∧ (v = .slice none 0 0 ↔ pre = []) ∧ v.oneCell' = true
  ints : ∀ x ∈ pre, isInt x
  len : pre.length ≤ N
theorem Apps.fine (w0 : World) (B N : Nat) : Inv.Fine (Apps w0 B N) (B + 1) := by
  refine ⟨?_, ?_⟩
  · rintro pre own A A' ⟨⟨v, h1, h2, rfl, h3, h4, h5⟩, hi, hl⟩ hc
    refine ⟨⟨v, hc.blk h1 (fun h => by omega), h2.keep hc (fun k hk h => h.2 (by simp [hk])), rfl, fun k hk => ?_, h4, h5⟩, hi, hl⟩
    have := h3 k hk
    exact ⟨this.1, Nat.lt_of_lt_of_le this.2 hc.size⟩
  · rintro pre own A ⟨⟨v, h1, h2, rfl, h3, h4, h5⟩, hi, hl⟩ k hk
    rcases List.mem_cons.1 hk with rfl | hk
    · exact h1.lt
    · exact (h3 k (by simpa using hk)).2
set_option maxRecDepth 100000 in
set_option maxHeartbeats 1000000 in
theorem appendSeq_any (n : Nat) (gf : FuncId) (lb : Array Value) (eg : ∀ args w, (callFunc gf args).run Try.prog w = .ok (.enter gf args) w) (N : Nat) (hN : N < 1000000) (all : List Value → Prop) (w : World)
    (hseq : ∀ W own0, Chg (fun _ => False) w W → (∀ k ∈ own0, w.heap.size ≤ k) → Gives Try.prog gf lb own0 (fun pre x => pre.length < N ∧ isInt x) all (fun _ _ _ => True) W) :
    CallsIn Fence.wide n Try.prog 54 #[.slice none 0 0, .func (.func gf) #[] lb] w fun e w' => ∃ v xs, e = .returned v ∧ all xs ∧ w'.ownsRow 0 3 1 v xs.length xs ∧
      (∀ k, v.ownBlock = some k → w.heap.size ≤ k) ∧ (v = .slice none 0 0 ↔ xs = []) ∧ Chg (fun _ => False) w w' ∧ (∀ x ∈ xs, isInt x) ∧ xs.length ≤ N := by
  have HS := Lib.hid hseq
  clear hseq
  refine callsIn_of_wp_marks Try.func54 rfl trivial ?_ rfl
  simp only [Try.ntmps54, List.size_toArray, List.length_cons, List.length_nil, Nat.reduceAdd, Nat.reduceSub, Array.replicate_succ, Array.replicate_zero, List.push_toArray, List.append_toArray, List.nil_append, List.cons_append]
  gi_wp2
  have hb := Blk.new w [.slice none 0 0] 101
  refine wpIn_range_all (gf := gf) (lb := lb) rfl eg [w.heap.size] (fun pre x => pre.length < N ∧ isInt x) all (fun _ _ _ => True) (Apps w w.heap.size N) ?_ ?_ (fun _ _ _ _ _ _ => trivial) ?_
    (fun x => { tmps := #[.slice none 0 0, .func (.func gf) #[] lb, .pointer (some ⟨w.heap.size, 0, none⟩), undef, .slice none 0 0, x, .func (.func gf) #[] lb, x, undef, undef, undef, undef, undef], defers := [] }) ?_ ?_ ?_
  · have := Apps.fine w w.heap.size N; rwa [World.size_alloc]
  · exact ⟨⟨.slice none 0 0, hb, World.ownsRow_nil _ _ _ _, rfl, fun k hk => by simp [Value.ownBlock] at hk, by simp, rfl⟩, by simp, by simp⟩
  · intro W hc hs
    refine HS.out W _ (((Chg.refl _ w).alloc _).trans hc) (fun k hk => ?_)
    rw [World.size_alloc] at hk
    simp at hk
    omega
  · intro m x W K hK
    gi_wp2
    exact hK
  · rintro m pre own x A ⟨⟨v, h1, h2, rfl, h3, h4, h5⟩, hi, hl⟩ ⟨hlt, hx⟩
    obtain ⟨z, rfl⟩ := hx
    obtain ⟨i0, q1, q2, q3, q4⟩ := info_parts Try.infoInt
    obtain ⟨g, cap, w2, hrun, hr2, hc2, hg2⟩ := row_append (P := Try.prog) (A := A) (t := 101) (e := 3) Try.underlying101 q1 q2 q3 q4 rfl (by omega) h2 [.int .i64 z] rfl (by simp [Value.oneCell']) (by simp only [maxLen]; omega) (by omega)
    have b0 := h1.cell 0
    simp only [List.getElem?_cons_zero] at b0
    have hlB := h1.lt
    have hne : ∀ k, v.ownBlock = some k → k ≠ w.heap.size := fun k hk => by have := (h3 k hk).1; omega
    have b2 : Blk w2 w.heap.size [v] 101 := hc2.blk (h1.alloc _) (fun h => hne _ h rfl)
    have c0 := b2.cell 0
    simp only [List.getElem?_cons_zero] at c0
    have f0 := b2.frozen 0
    have hsz := hc2.size
    simp at hsz
    have H3 := Lib.hid h3; have HR := Lib.hid hr2; have HC := Lib.hid hc2; have HG := Lib.hid hg2; have HI := Lib.hid hi; have HB := Lib.hid b2; have HNE := Lib.hid hne; have H4 := Lib.hid h4
    clear h3 hr2 hc2 hg2 hi b2 hne h4 h2 h1 q1 q2 q3 q4
    have HRUN := Lib.hid hrun
    clear hrun
    gi_wp2_with (gi_at_builtin; refine wpListIn_append_run rfl _ _ _ rfl rfl rfl HRUN.out ?_)
    have hgB : g ≠ w.heap.size := by
      rcases HG.out with h | h
      · exact HNE.out g h
      · omega
    have hset : Chg (fun k => k = w.heap.size) w2 (w2.setCell ⟨w.heap.size, 0, none⟩ (.slice (some ⟨g, 0, none⟩) (pre.length + 1) cap)) := (Chg.refl _ w2).setCell (p := ⟨w.heap.size, 0, none⟩) _ (fun _ => rfl)
    have hgl : g < w2.heap.size := by
      rcases HR.out.2 with ⟨h, _⟩ | ⟨g', cap', cur, h, _, hh, _⟩
      · cases h
      · cases h; exact (Array.getElem?_eq_some_iff.1 hh).1
    refine ⟨[w.heap.size, g], ⟨⟨_, HB.out.setCell 0 _, ?_, rfl, ?_, by simp, rfl⟩, ?_, by simp; omega⟩, ?_, ?_⟩
    · have := HR.out.keep hset (fun k hk => by simp [Value.ownBlock] at hk; omega)
      simpa using this
    · intro k hk
      simp only [Value.ownBlock, Option.some.injEq] at hk
      subst hk
      refine ⟨?_, by simpa using hgl⟩
      rcases HG.out with h | h
      · exact (H3.out g h).1
      · omega
    · intro x hx
      rcases List.mem_append.1 hx with hx | hx
      · exact HI.out x hx
      · rw [List.mem_singleton] at hx; exact ⟨z, hx⟩
    · refine (((Chg.refl _ A).alloc _).trans (HC.out.mono (fun i _ h => ?_))).trans (hset.mono (fun i _ h => ?_))
      · simp [h]
      · simp [h]
    · intro k hk
      simp only [List.mem_cons, List.not_mem_nil, or_false] at hk
      rcases hk with rfl | rfl
      · exact .inl (List.mem_cons_self ..)
      · rcases HG.out with h | h
        · left; simp [h]
        · right; omega
  · intro xs own W' hall hI hc hD
    obtain ⟨⟨v, h1, h2, rfl, h3, h4, h5⟩, hi, hl⟩ := hI
    have b0 := h1.cell 0
    simp only [List.getElem?_cons_zero] at b0
    have H1 := Lib.hid h1; have H2 := Lib.hid h2; have H3 := Lib.hid h3; have H4 := Lib.hid h4; have HA := Lib.hid hall; have HC := Lib.hid hc; have HD := Lib.hid hD; have HI := Lib.hid hi
    clear h1 h2 h3 h4 hall hc hD hi hb
    gi_wp2
    refine ⟨by simp, .inl ⟨_, _, rfl, run_takeDeferred HD.out, ?_⟩⟩
    rw [World.size_alloc] at HD ⊢
    have hput : Chg (fun k => k = w.heap.size + 1) W' (W'.putObj (w.heap.size + 1) (.deferred none)) := IM.Chg.putObj (Chg.refl _ W') _ (fun _ => rfl)
    have hc2 := ((Chg.refl (fun _ => False) w).alloc (.cells #[.slice none 0 0] 101)).trans' HC.out (fun i hi h => by simp at h; omega)
    refine ⟨_, results_tmp rfl _ _ _, v, xs, rfl, HA.out, H2.out.keep hput (fun k hk e => ?_), fun k hk => by have := (H3.out k hk).1; omega, H4.out, hc2.trans' hput (fun i hi h => by omega), HI.out, hl⟩
    rcases H2.out.2 with ⟨h, _⟩ | ⟨g', cap', cur, h, _, hh, _⟩
    · rw [h] at hk; cases hk
    · rw [h] at hk
      simp only [Value.ownBlock, Option.some.injEq] at hk
      rw [hk, e, HD.out] at hh
      cases hh
end Go.Proofs.Ytenkglbnlealbaa
