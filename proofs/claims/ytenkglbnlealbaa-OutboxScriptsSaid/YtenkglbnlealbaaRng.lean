import Derived.Test.YtenkglbnlealbaaIter
import Derived.RangeFuncSeq
/-! A range over a function, in the fence that asks nothing: what the rounds own is told by a list of blocks. -/
namespace Go
open Go.RowKit
/-- The caller's word between two rounds: 'pre' has come; the rounds may turn the blocks of 'own', and new ones. -/
abbrev Inv := List Value → List Nat → World → Prop
/-- It speaks of what lay ahead of 'base', and of what it owns. -/
structure Inv.Fine (J : Inv) (base : Nat) : Prop where
  stays : ∀ pre own A B, J pre own A → Chg (fun k => base ≤ k ∧ k ∉ own) A B → J pre own B
  owns : ∀ pre own A, J pre own A → ∀ k ∈ own, k < A.heap.size
/-- A round's word. -/
def Went (J : Inv) (pre : List Value) (own : List Nat) (x : Value) (A B : World) : Prop :=
  ∃ own', J (pre ++ [x]) own' B ∧ Chg (fun k => k ∈ own) A B ∧ ∀ k ∈ own', k ∈ own ∨ A.heap.size ≤ k
/-- AN ITERATOR, called at W: what can come next, what has come in the end. -/
def Gives (P : Program) (g : FuncId) (lb : Array Value) (own0 : List Nat) (can : List Value → Value → Prop) (all : List Value → Prop) (Good : Inv) (W : World) : Prop :=
  ∀ (n l : Nat) (J : Inv), J.Fine W.heap.size → J [] own0 W → (∀ pre own A, J pre own A → Good pre own A) →
    (∀ m pre own x A, J pre own A → can pre x → YieldAt Fence.wide m P l #[x] A fun e B => e = .returned (.bool true) ∧ Went J pre own x A B) →
    CallsIn Fence.wide n P g (#[.func (.yield l) #[] #[]] ++ lb) W fun e W' => (∃ v, e = .returned v) ∧ ∃ xs own, all xs ∧ J xs own W'
def roundRec (fn : FuncId) (tmps : Array Value) (ps : Array Tmp) (assign body : Code) (D : Nat) (st : LoopState) : Loop :=
  { state := st, pending := none, fn, tmps, params := ps, assign, body, defers := D }
variable {P : Program}
theorem wide_room {n : Nat} : (Fence.wide.depth.isSome = true → 1 ≤ n) := fun h => by cases h
/-- 'for x := range g { body }' where no round leaves early. -/
theorem wpIn_range_all {n : Nat} {g : Operand} {p : Tmp} {assign body : Code} {Q : Exit → Act → World → Prop} {a : Act} {w : World}
    {gf : FuncId} {lb : Array Value} (hg : a.eval g = .func (.func gf) #[] lb) (eg : ∀ args w, (callFunc gf args).run P w = .ok (.enter gf args) w)
    (own0 : List Nat) (can : List Value → Value → Prop) (all : List Value → Prop) (Good I : Inv)
    (hI : I.Fine w.heap.size) (h0 : I [] own0 w)
    (hgood : ∀ (l : Nat) pre own A, w.heap.size ≤ l → I pre own A → Good pre (l :: own) A)
    (hseq : ∀ W, Chg (fun _ => False) w W → W.heap.size = w.heap.size + 2 → Gives P gf lb ((w.heap.size + 1) :: own0) can all Good W)
    (a₁ : Value → Act)
    (hassign : ∀ m x W (K : Act → World → Prop), K (a₁ x) W → assign.wpIn (Fence.wide.inRound (w.heap.size + 1)) m P (Exit.then K (fun _ _ _ => False)) { tmps := a.tmps.setIfInBounds p x, defers := [] } W)
    (hbody : ∀ m pre own x A, I pre own A → can pre x → body.wpIn (Fence.wide.inRound (w.heap.size + 1)) m P (fun e _ B => e = .normal ∧ Went I pre own x A B) (a₁ x) A)
    (hdone : ∀ xs own W', all xs → I xs own W' → Chg (fun k => k ∈ own0) w W' → W'.heap[w.heap.size]? = some (.deferred (some [])) → Q .normal { a with defers := { target := .collected w.heap.size, args := #[] } :: a.defers } W') :
    (Code.rangeFunc g #[p] assign body).wpIn Fence.wide n P Q a w := by
  refine wpIn_rangeFunc ?_
  intro fn _
  obtain ⟨W1, hW1⟩ : ∃ W1, (w.alloc (.deferred (some []))).alloc (.loop (roundRec fn a.tmps #[p] assign body w.heap.size .ready)) = W1 := ⟨_, rfl⟩
  have hs1 : W1.heap.size = w.heap.size + 2 := by rw [← hW1]; simp
  have hc1 : Chg (fun _ => False) w W1 := by rw [← hW1]; exact ((Chg.refl _ w).alloc _).alloc _
  have hL1 : W1.heap[w.heap.size + 1]? = some (.loop (roundRec fn a.tmps #[p] assign body w.heap.size .ready)) := by
    rw [← hW1]; have := World.alloc_heap_new (w.alloc (.deferred (some []))) (.loop (roundRec fn a.tmps #[p] assign body w.heap.size .ready)); rwa [World.size_alloc] at this
  have hD1 : W1.heap[w.heap.size]? = some (.deferred (some [])) := by
    rw [← hW1]; exact (Below.heap_alloc _ _ _ (by simp)).trans (World.alloc_heap_new w _)
  have hfree : ∀ pre own A, I pre own A → True := fun _ _ _ _ => trivial
  refine ⟨w.heap.size + 1, [{ target := .collected w.heap.size, args := #[] }], W1, { target := .fn (.func gf) lb, args := #[.func (.yield (w.heap.size + 1)) #[] #[]] }, W1, gf,
    #[.func (.yield (w.heap.size + 1)) #[] #[]] ++ lb, W1, ?_, ?_, ?_, ?_, wide_room, ?_⟩
  · rw [← hW1]; exact run_enterLoop_outer _ _ _ _ _
  · simp only [resolve, hg]
    simp [go_sem]
  · intro f' _; trivial
  · simp [invoke, go_sem, eg]
  · -- the invariant with the loop's own record and block beside it
    let J : Inv := fun pre own1 A => ∃ own, own1 = (w.heap.size + 1) :: own ∧ I pre own A ∧ A.heap[w.heap.size + 1]? = some (.loop (roundRec fn a.tmps #[p] assign body w.heap.size .ready)) ∧
      A.heap[w.heap.size]? = some (.deferred (some [])) ∧ w.heap.size ∉ own ∧ w.heap.size + 1 ∉ own ∧ w.heap.size + 2 ≤ A.heap.size ∧ (∀ k ∈ own, k ∈ own0 ∨ w.heap.size ≤ k) ∧ Chg (fun k => k ∈ own0) w A
    have hJ : J.Fine W1.heap.size := by
      refine ⟨?_, ?_⟩
      · rintro pre own1 A B ⟨own, rfl, hi, hl, hd, n1, n2, hsz, hold, hch⟩ hc
        rw [hs1] at hc
        refine ⟨own, rfl, hI.stays _ _ _ _ hi (hc.mono (fun i _ h => ⟨by omega, fun hm => h.2 (List.mem_cons_of_mem _ hm)⟩)), ?_, ?_, n1, n2, Nat.le_trans hsz hc.size, hold, ?_⟩
        · rw [hc.block _ (by omega) (fun h => by omega)]; exact hl
        · rw [hc.block _ (by omega) (fun h => by omega)]; exact hd
        · exact hch.trans' hc (fun i hi h => by omega)
      · rintro pre own1 A ⟨own, rfl, hi, hl, hd, n1, n2, hsz, hold, hch⟩ k hk
        rcases List.mem_cons.1 hk with rfl | hk
        · omega
        · exact hI.owns _ _ _ hi k hk
    have hlt0 := hI.owns _ _ _ h0
    have hJ0 : J [] ((w.heap.size + 1) :: own0) W1 :=
      ⟨own0, rfl, hI.stays _ _ _ _ h0 (hc1.mono (fun _ _ h => h.elim)), hL1, hD1, fun hm => by have := hlt0 _ hm; omega, fun hm => by have := hlt0 _ hm; omega, by omega, fun k hk => .inl hk, hc1.mono (fun _ _ h => h.elim)⟩
    refine (hseq W1 hc1 hs1 (n - 1) (w.heap.size + 1) J hJ hJ0 ?_ ?_).mono ?_
    · rintro pre own1 A ⟨own, rfl, hi, _⟩
      exact hgood _ _ _ _ (by omega) hi
    · -- a round
      rintro m pre own1 x A ⟨own, rfl, hi, hl, hd, n1, n2, hsz, hold, hch⟩ hcan
      refine ⟨fn, _, assign, body, run_yield hl (by simp [roundRec]), ?_⟩
      have htm : (((roundRec fn a.tmps #[p] assign body w.heap.size .ready).params.zip #[x]).foldl (fun tmps (t, a) => tmps.setIfInBounds t a) (roundRec fn a.tmps #[p] assign body w.heap.size .ready).tmps) = a.tmps.setIfInBounds p x := by
        simp [roundRec]
      rw [htm]
      refine roundIn_of_wpIn trivial ?_
      refine hassign m x A _ ?_
      refine ⟨A.putObj (w.heap.size + 1) (.loop (roundRec fn a.tmps #[p] assign body w.heap.size .busy)), run_beginRound hl rfl, ?_⟩
      have hcb : Chg (fun k => k = w.heap.size + 1) A (A.putObj (w.heap.size + 1) (.loop (roundRec fn a.tmps #[p] assign body w.heap.size .busy))) := IM.Chg.putObj (Chg.refl _ A) _ (fun _ => rfl)
      have hib := hI.stays _ _ _ _ hi (hcb.mono (fun i _ h => ⟨by omega, fun hm => n2 (h ▸ hm)⟩))
      refine Code.wpIn_mono ?_ (hbody m pre own x _ hib hcan)
      rintro e a' B ⟨rfl, own', hi', hc', hnew⟩
      have hlB : B.heap[w.heap.size + 1]? = some (.loop (roundRec fn a.tmps #[p] assign body w.heap.size .busy)) := by
        rw [hc'.block _ (by simp; omega) n2]; exact World.putObj_heap_same (by omega)
      have hdB : B.heap[w.heap.size]? = some (.deferred (some [])) := by
        rw [hc'.block _ (by simp; omega) n1, World.putObj_heap_other (by omega)]; exact hd
      refine ⟨_, _, run_endRound none hlB, rfl, ?_⟩
      have hsB := hc'.size
      simp at hsB
      have hce : Chg (fun k => k = w.heap.size + 1) B (B.putObj (w.heap.size + 1) (.loop (roundRec fn a.tmps #[p] assign body w.heap.size .ready))) := IM.Chg.putObj (Chg.refl _ B) _ (fun _ => rfl)
      have n1' : w.heap.size ∉ own' := fun hm => by
        rcases hnew _ hm with h | h
        · exact n1 h
        · simp at h; omega
      have n2' : w.heap.size + 1 ∉ own' := fun hm => by
        rcases hnew _ hm with h | h
        · exact n2 h
        · simp at h; omega
      have hall : Chg (fun k => k ∈ (w.heap.size + 1) :: own) A (B.putObj (w.heap.size + 1) (.loop (roundRec fn a.tmps #[p] assign body w.heap.size .ready))) :=
        ((hcb.mono (fun i _ h => by rw [h]; exact List.mem_cons_self ..)).trans (hc'.mono (fun i _ h => List.mem_cons_of_mem _ h))).trans (hce.mono (fun i _ h => by rw [h]; exact List.mem_cons_self ..))
      refine ⟨(w.heap.size + 1) :: own', ⟨own', rfl, hI.stays _ _ _ _ hi' (hce.mono (fun i _ h => ⟨by omega, fun hm => n2' (h ▸ hm)⟩)), ?_, ?_, n1', n2', by simp; omega, ?_, ?_⟩, hall, ?_⟩
      · exact World.putObj_heap_same (by omega)
      · rw [World.putObj_heap_other (by omega)]; exact hdB
      · intro k hk
        rcases hnew k hk with h | h
        · exact hold k h
        · simp at h; omega
      · refine hch.trans' hall (fun i hi h => ?_)
        rcases List.mem_cons.1 h with h | h
        · omega
        · rcases hold i h with h | h
          · exact h
          · omega
      · intro k hk
        rcases List.mem_cons.1 hk with rfl | hk
        · exact .inl (List.mem_cons_self ..)
        · rcases hnew k hk with h | h
          · exact .inl (List.mem_cons_of_mem _ h)
          · simp at h; exact .inr h
    · -- all have come
      rintro e W' ⟨⟨v, rfl⟩, xs, own1, hall, own, rfl, hi, hl, hd, n1, n2, hsz, hold, hch⟩
      refine ⟨_, _, run_endLoop hl (by simp [roundRec]), ?_⟩
      have hce : Chg (fun k => k = w.heap.size + 1) W' (W'.putObj (w.heap.size + 1) (.loop { roundRec fn a.tmps #[p] assign body w.heap.size .ready with state := .exhausted })) := IM.Chg.putObj (Chg.refl _ W') _ (fun _ => rfl)
      refine hdone xs own _ hall (hI.stays _ _ _ _ hi (hce.mono (fun i _ h => ⟨by omega, fun hm => n2 (h ▸ hm)⟩))) (hch.trans' hce (fun i hi h => by omega)) ?_
      rw [World.putObj_heap_other (by omega)]; exact hd
end Go
