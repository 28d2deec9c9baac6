import Derived.Test.YtenkglbnlealbaaO20
import Derived.ProofKit
import Derived.Deep.Slices
import Derived.OpenShut
/-! What comes in: rows of pairs of numbers. -/
namespace Go.Proofs.Ytenkglbnlealbaa
open Go.ChangeShapes Go.WideShapes Go.ChangeAt Go.RowKit Go.Deep
theorem Try.cells31 : Try.prog.cellsOf 31 = 2 := by kernel_rfl
theorem Try.cells3 : Try.prog.cellsOf 3 = 1 := by kernel_rfl
theorem two_of {α : Type} {l : List α} (h : l.length = 2) : ∃ a b, l = [a, b] := by
  match l, h with
  | [a, b], _ => exact ⟨a, b, rfl⟩
section
variable {H : Type} {enc : TypeId × Value → H} {w : World} {base : Nat} {spare : Nat → Bool} {held : Bool}
theorem open_pair {n : Nat} {cs : List Value} {x : DataW H × List MemPlace} (h : DataW.trod enc Try.prog w base spare held n 31 cs = some x) (hl : cs.length = 2) : ∃ a b, cs = [.int .i64 a, .int .i64 b] := by
  obtain ⟨xs, m, _, _, _, hxl, hf⟩ := DataW.trod_array Try.underlying31 h
  obtain ⟨v0, v1, rfl⟩ := two_of hl
  obtain ⟨y0, y1, rfl⟩ := two_of hxl
  have h0 := hf 0 (by decide)
  have h1 := hf 1 (by decide)
  simp only [Try.cells3] at h0 h1
  simp at h0 h1
  obtain ⟨a, ha, _⟩ := DataW.trod_int Try.underlying3 h0
  obtain ⟨b, hb, _⟩ := DataW.trod_int Try.underlying3 h1
  simp at ha hb
  exact ⟨a, b, by rw [ha, hb]⟩
theorem open_pairs {fuel : Nat} {v : Value} {x : DataW H × List MemPlace} (h : DataW.trod enc Try.prog w base spare held fuel 22 [v] = some x) : ∃ n X Y, Pairs w v n X Y := by
  rcases open_slice Try.underlying22 h with ⟨h0, _⟩ | ⟨a, len, cap, m, n, D, Pl, hc, hb, hl, hm, hmm, rfl, hx⟩
  · simp at h0
    exact ⟨0, fun _ => 0, fun _ => 0, none, 0, h0, Nat.zero_le _, fun h => absurd h (Nat.lt_irrefl _)⟩
  · have hlm : len ≤ m := by rw [hmm]; split <;> omega
    simp only [List.cons.injEq, and_true] at hc
    simp only [Try.cells31] at hx
    have each : ∀ i, i < len → ∃ q : Int × Int, w.cell? (a.add (i * 2)) = some (.int .i64 q.1) ∧ w.cell? (a.add (i * 2 + 1)) = some (.int .i64 q.2) := by
      intro i hi
      obtain ⟨cs', h1, h2⟩ := hx i (by omega)
      obtain ⟨_, hlen, hcell⟩ := World.cells?_some h1
      obtain ⟨p, q, rfl⟩ := open_pair h2 hlen
      have e0 := hcell 0 (by decide)
      have e1 := hcell 1 (by decide)
      rw [add_add] at e0 e1
      exact ⟨(p, q), by simpa using e0, by simpa using e1⟩
    obtain ⟨q, hq⟩ := choose_lt each
    refine ⟨len, fun i => (q i).1, fun i => (q i).2, some a, cap, hc, by omega, fun hz => ?_⟩
    obtain ⟨b, off, spot⟩ := a
    have hspot : spot = none := by simpa [Addr.add] using World.cell?_spot (hq 0 (by omega)).1
    subst hspot
    refine ⟨b, off, rfl, World.block_lt_of_cell? _ _ (by simpa [Addr.add] using (hq 0 (by omega)).1), fun i hi => ?_⟩
    have := hq i hi
    rw [add_plain, add_plain] at this
    exact ⟨this.1, by rw [Nat.add_assoc]; exact this.2⟩
end
end Go.Proofs.Ytenkglbnlealbaa
