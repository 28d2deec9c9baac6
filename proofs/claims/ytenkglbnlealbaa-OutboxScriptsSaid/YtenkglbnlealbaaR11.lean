import Derived.Test.YtenkglbnlealbaaR10
import Derived.Test.YtenkglbnlealbaaLastP
/-! A step of both boxes: what is wanted for it. -/
namespace Go.Proofs.Ytenkglbnlealbaa
open Go.RowKit
attribute [local go_sem] Oper.semAt_some
theorem Boxed.keep2 {base : Nat} {own own' : List Nat} {w w' : World} {b : Nat} {B : Box} {S : Nat → Prop} (h : Boxed base own w b B) (hc : Chg S w w') (hS : ∀ k, k < w.heap.size → S k → k ∈ own) (ho : ∀ k ∈ own', k ∈ own ∨ w.heap.size ≤ k) : Boxed base own' w' b B := by
  obtain ⟨l, rfl, ⟨mo, mf, mq, hl⟩, hm⟩ := h
  refine ⟨l, rfl, ⟨mo, mf, mq, hl.keep hc (fun k hk hs => (hm k hk).2 (hS k (hl.lt hk) hs))⟩, fun k hk => ⟨(hm k hk).1, fun hi => ?_⟩⟩
  rcases ho k hi with h | h
  · exact (hm k hk).2 h
  · have := hl.lt hk; omega
theorem Boxed.facts {base : Nat} {own : List Nat} {w : World} {b : Nat} {B : Box} (h : Boxed base own w b B) : (B.W.Pairwise fun x y => x.addr ≠ y.addr) ∧ 0 ≤ B.X ∧ (∀ x ∈ B.L, -1 ≤ x.2 ∧ x.2 ≤ 1099511627776) := by
  obtain ⟨l, _, ⟨mo, mf, mq, hl⟩, _⟩ := h
  refine ⟨?_, hl.x0, hl.sents⟩
  have := hl.iq.nodup
  rw [List.pairwise_map] at this
  exact this
theorem RAcked_any (w : World) (b : Nat) (B : Box) (vL vW : Value) (h : RBox w b B vL vW) (n : Int) (hu : B.W.Pairwise fun x y => x.addr ≠ y.addr) (hr : Rise B) (hX0 : 0 ≤ B.X) (hsm : B.L.length + B.W.length < 1000000) :
    Calls Try.prog 32 #[ptr b, .int .i64 n] w fun e w' => e = .returned (.tuple #[((B.find n).getD noMsg).val, .bool (B.find n).isSome]) ∧ RStep w b vL vW w' (B.acked n) := by
  rcases find_at B.L n with hno | ⟨k, hk, hno, hkn⟩
  · have hf : B.find n = none := by
      unfold Box.find
      rw [List.find?_eq_none.2]
      · rfl
      · intro x hx
        obtain ⟨j, hj, rfl⟩ := List.mem_iff_getElem.1 hx
        simpa using hno j hj
    rw [hf, acked_none hf]
    exact RAcked_none w b B vL vW h n hno
  · have hf : B.find n = some B.L[k].1 := by
      unfold Box.find
      have : B.L.find? (fun x => x.1.xid == n) = some B.L[k] := by
        rw [List.find?_eq_some_iff_getElem]
        exact ⟨by simpa using hkn, k, hk, rfl, fun j hj => by simpa using hno j (by omega) hj⟩
      rw [this]; rfl
    have ha : B.acked n = Box.goes ⟨B.L.take k ++ B.L.drop (k + 1), B.W, B.X⟩ B.L[k].1.addr := by
      unfold Box.acked
      rw [hf]
      unfold Box.acked1
      have := filter_xid B.L k hk hr.1
      rw [hkn] at this
      simp only [this]
    rw [hf, ha]
    exact RAcked_found w b B vL vW h n k hk hno hkn hu hX0 hsm
theorem PTick_bad (w : World) (p : Nat) (now : Int) (h : now < 0 ∨ 1099511627776 < now) : Calls Try.prog 13 #[ptr p, .int .i64 now] w fun e w' => e = .returned (.tuple #[.slice none 0 0, .int .i64 1]) ∧ Chg (fun _ => False) w w' := by
  unfold ptr
  rcases h with h | h
  · go_enter Try.func13, Try.ntmps13
    go_wp2
    go_ret2
    exact ⟨rfl, (Chg.refl _ w).alloc _⟩
  · by_cases h0 : now < 0
    · go_enter Try.func13, Try.ntmps13
      go_wp2
      go_ret2
      exact ⟨rfl, (Chg.refl _ w).alloc _⟩
    · go_enter Try.func13, Try.ntmps13
      go_wp2
      go_ret2
      exact ⟨rfl, (Chg.refl _ w).alloc _⟩
/-- the blocks of the reference's box -/
def RO (r : Nat) (vL vW : Value) : List Nat := r :: (vL.ownBlock.toList ++ vW.ownBlock.toList)
theorem mem_RO {r : Nat} {vL vW : Value} {k : Nat} : k ∈ RO r vL vW ↔ RMine r vL vW k := by
  unfold RO RMine
  rw [List.mem_cons, List.mem_append, Option.mem_toList, Option.mem_toList]
/-- both boxes hold the same -/
structure Two (base r b : Nat) (w : World) (B : Box) (vL vW : Value) : Prop where
  box : Boxed base (RO r vL vW) w b B
  ref : RBox w r B vL vW
  low : ∀ k, RMine r vL vW k → base ≤ k
  size : base ≤ w.heap.size
section
variable {base r b : Nat} {w w1 w2 : World} {B B' : Box} {vL vW : Value}
theorem Two.own (t : Two base r b w B vL vW) : ∀ k ∈ RO r vL vW, k < w.heap.size := fun k hk => by
  rcases mem_RO.1 hk with h | h | h
  · rw [h]; exact t.ref.head.lt
  · exact ownsRow_below t.ref.rowL h
  · exact ownsRow_below t.ref.rowW h
theorem Two.keep (t : Two base r b w B vL vW) (hc : Chg (fun _ => False) w w1) : Two base r b w1 B vL vW :=
  ⟨t.box.keep (hc.mono (fun _ _ h => h.elim)) (fun _ _ h => h), t.ref.keep hc (fun _ _ h => h), t.low, Nat.le_trans t.size hc.size⟩
/-- behind a step of the one, then of the other -/
theorem Two.step (t : Two base r b w B vL vW) (hb : Boxed base (RO r vL vW) w1 b B') (h1 : Chg (Mine base (RO r vL vW)) w w1) (hr : RStep w1 r vL vW w2 B') : (∃ vL' vW', Two base r b w2 B' vL' vW') ∧ Chg (fun k => base ≤ k) w w2 := by
  obtain ⟨⟨v1, v2, h2, hf⟩, hc⟩ := hr
  refine ⟨⟨v1, v2, hb.keep2 hc (fun k _ h => mem_RO.2 h) (fun k hk => ?_), h2, fun k hk => ?_, Nat.le_trans (Nat.le_trans t.size h1.size) hc.size⟩, ?_⟩
  · rcases hf k (mem_RO.1 hk) with h | h
    · exact .inl (mem_RO.2 h)
    · exact .inr h
  · rcases hf k hk with h | h
    · exact t.low k h
    · exact Nat.le_trans (Nat.le_trans t.size h1.size) h
  · exact (h1.mono (fun k _ h => h.1)).trans (hc.mono (fun k _ h => t.low k h))
theorem Two.after (t : Two base r b w B vL vW) (h1 : Chg (Mine base (RO r vL vW)) w w1) : RBox w1 r B vL vW := t.ref.keep h1 (fun _ hk h => h.2 (mem_RO.2 hk))
end
end Go.Proofs.Ytenkglbnlealbaa
