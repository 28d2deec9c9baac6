import Derived.Test.YtenkglbnlealbaaRow
import Derived.StillTail
import Derived.StillTailTactics
import Derived.Stop.RegionWithIn
/-! A region that draws its order, in the fence that asks nothing: its first operations leave the world alone, what is behind them is forced. -/
namespace Go
variable {P : Program} {ops : Array Oper} {md : Region.Mode} {w : World} {n : Nat} {F : Fence}
/-- no 'defer' among the operations -/
def Region.noDefer (ops : Array Oper) : Bool := ops.all fun o => match o.op with | .defer _ => false | _ => true
theorem Region.noDefer_spec (h : Region.noDefer ops = true) {i : Nat} {o : Oper} (ho : ops[i]? = some o) : ∀ c, o.op ≠ .defer c := by
  unfold Region.noDefer at h
  rw [Array.all_eq_true] at h
  obtain ⟨hlt, e⟩ := Array.getElem?_eq_some_iff.1 ho
  intro c hc
  have := h i hlt
  rw [e, hc] at this
  cases this
theorem Oper.wpIn_of_still (hF : ∀ f, F.fn f) (hd : F.depth = none) (hcalls : ∀ {f args w R}, Calls P f args w R → CallsIn F (n - 1) P f args w R) {o : Oper} (hdef : ∀ c, o.op ≠ .defer c) {a : Act} {K : Act → Prop} {K' : Act → World → Prop} {Q' : Exit → Act → World → Prop}
    (h : ∀ a, K a → K' a w) (hh : o.still P a w K) : o.wpIn F n P a w K' Q' := by
  refine ⟨fun f _ => hF f, ?_⟩
  rw [Oper.semAt_plain F _ _ hdef]
  unfold Oper.still at hh
  generalize (execOp a.eval o).run P w = r at *
  cases r with
  | ok nx w' =>
    cases nx <;> simp only [Oper.stillUpon] at hh <;> simp only [Oper.uponIn]
    case enter f args =>
      obtain ⟨rfl, v, hc, hn⟩ := hh
      refine ⟨fun h => (by rw [hd] at h; cases h), hcalls (hc.mono fun e w'' ⟨he, hw⟩ => by subst he; subst hw; exact h _ hn)⟩
    all_goals (obtain ⟨rfl, h2⟩ := hh; exact h _ h2)
  | halt x w' => simp only [Oper.stillUpon] at hh
theorem wpOpIn_of_stOp (hF : ∀ f, F.fn f) (hd : F.depth = none) (hcalls : ∀ {f args w R}, Calls P f args w R → CallsIn F (n - 1) P f args w R) (hdef : Region.noDefer ops = true) {i : Nat} {a : Act} {K : Act → Prop} {K' : Act → World → Prop} {Q' : Exit → Act → World → Prop}
    (h : ∀ a, K a → K' a w) (hh : stOp P ops w i K a) : wpOpIn F n P ops Q' i K' a w := by
  unfold stOp at hh
  unfold wpOpIn
  split
  · rename_i ho; simp only [ho] at hh; exact h _ hh
  · rename_i o ho
    simp only [ho] at hh
    split
    · rename_i hw; simp only [hw, if_true] at hh; exact Oper.wpIn_of_still hF hd hcalls (Region.noDefer_spec hdef ho) h hh
    · rename_i hw; simp only [hw] at hh; exact ⟨fun f _ => hF f, h _ hh⟩
theorem wpAnyIn_of_head (hF : ∀ f, F.fn f) (hd : F.depth = none) (hcalls : ∀ {f args w R}, Calls P f args w R → CallsIn F (n - 1) P f args w R) (hdef : Region.noDefer ops = true) {N g : Nat} {L : Array Bool → Act → Prop} {Q' : Exit → Act → World → Prop}
    (hL : ∀ listed a, L listed a → wpAnyIn F n P md ops Q' g listed a w) :
    ∀ (f : Nat) (listed : Array Bool) (a : Act), wpAnyL P md ops w N L f listed a → wpAnyIn F n P md ops Q' (f + g) listed a w
  | 0, listed, a, h => by rw [Nat.zero_add]; exact hL _ _ h
  | f + 1, listed, a, h => by
    rw [show f + 1 + g = (f + g) + 1 by omega]
    exact ⟨fun h0 => absurd h0 h.1, fun i hi => wpOpIn_of_stOp hF hd hcalls hdef (fun a' h' => wpAnyIn_of_head hF hd hcalls hdef hL f _ a' h') (h.2 i hi).2⟩
theorem wpAnyIn_of_seq {Q' : Exit → Act → World → Prop} : ∀ (l : List Oper) (k : Nat) (listed : Array Bool) (a : Act) (w : World), (∀ j, l[j]? = ops[k + j]?) →
    Region.seqB md ops l.length k listed = true → wpListIn F n P ops Q' l a w → wpAnyIn F n P md ops Q' l.length listed a w
  | [], _, _, _, _, _, hB, h => ⟨by simpa [Region.seqB] using hB, h⟩
  | o :: l, k, listed, a, w, hl, hB, h => by
    have h0 : ops[k]? = some o := by simpa using (hl 0).symm
    simp only [List.length_cons, Region.seqB, Bool.and_eq_true, decide_eq_true_eq] at hB
    refine ⟨fun h1 => (by rw [hB.1] at h1; cases h1), fun i hi => ?_⟩
    rw [hB.1] at hi
    have hik : i = k := by simpa using hi
    subst hik
    have hw : wpOpIn F n P ops Q' i (wpListIn F n P ops Q' l) a w := by unfold wpOpIn; simp only [h0]; exact h
    exact wpOpIn_mono (fun a' w' h' => wpAnyIn_of_seq l (i + 1) _ a' w' (fun j => by have := hl (j + 1); simpa [Nat.add_assoc, Nat.add_comm 1 j] using this) hB.2 h') hw
theorem wpIn_region_still_tail {id : Nat} {Q : Exit → Act → World → Prop} {a : Act} {l : List Oper} (N : Nat) (hm : P.follows .mixedOrders = true) (hF : ∀ f, F.fn f) (hd : F.depth = none) (hcalls : ∀ {f args w R}, Calls P f args w R → CallsIn F (n - 1) P f args w R)
    (hB : (Region.lexTailB .any l.toArray N && Region.noDefer l.toArray) = true)
    (h : wpStill P l.toArray w.drew (fun a' => wpListIn F n P l.toArray Q (l.drop N) a' w.drew) (l.take N) a) : (Code.region id l.toArray true).wpIn F n P Q a w := by
  simp only [Region.lexTailB, Bool.and_eq_true, decide_eq_true_eq] at hB
  obtain ⟨⟨⟨⟨⟨hsel, hn⟩, hs⟩, hc⟩, hlex⟩, hdef⟩ := hB
  have hn' : N < l.length := by simpa using hn
  have htl : (l.take N).length = N := by simp; omega
  have hdl : (l.drop N).length = l.toArray.size - N := by simp
  have inv0 : HeadInv .any l.toArray N (Array.replicate l.toArray.size false) :=
    ⟨by simp, fun j oj _ hl => (by rw [getD_replicate_false] at hl; cases hl), fun t _ ht => getD_in (by simpa using ht) (getD_replicate_false _ _)⟩
  have H := wpAnyL_lex (md := .any) (g := l.toArray.size - N) hsel hs hc hn (l.take N) 0 _ a (fun j hj => by
    have hj' : j < N := by rw [htl] at hj; exact hj
    simp [hj']) (by simpa using htl) inv0 (by rw [htl]; exact hlex) h
  refine wpIn_region_any hm ?_
  have := wpAnyIn_of_head (F := F) (n := n) hF hd hcalls hdef (Q' := Q) (g := l.toArray.size - N) (fun listed a' hL => by
    have := wpAnyIn_of_seq (F := F) (n := n) (md := .any) (Q' := Q) (l.drop N) N listed a' w.drew (fun j => by simp [List.getElem?_drop]) (by rw [hdl]; exact hL.1) hL.2
    rwa [hdl] at this) _ _ _ H
  rw [htl, show N + (l.toArray.size - N) = l.toArray.size by omega] at this
  exact this
theorem wpStill_skip {Q : Act → Prop} {a : Act} {o : Oper} {rest : List Oper} (hw : Region.wanted o (yielded ops a.tmps) = false) (h : wpStill P ops w Q rest (a.put o.dst undef)) : wpStill P ops w Q (o :: rest) a := by
  unfold wpStill
  rw [hw]
  exact h
theorem wpStill_end {Q : Act → Prop} {a : Act} (h : Q a) : wpStill P ops w Q [] a := h
theorem wide_calls {f : FuncId} {args : Array Value} {w : World} {R : Ending → World → Prop} (h : Calls P f args w R) : CallsIn Fence.wide n P f args w R := callsIn_wide.2 h
end Go
