import Derived.Test.YtenkglbnlealbaaArgs2
import Derived.Test.YtenkglbnlealbaaR12
/-! What comes in: rows of steps. -/
namespace Go.Proofs.Ytenkglbnlealbaa
open Go.ChangeShapes Go.WideShapes Go.ChangeAt Go.RowKit Go.Deep
theorem thirteen_of {l : List Value} (h : l.length = 13) : ∃ a0 a1 t, l = a0 :: a1 :: t ∧ t.length = 11 := by
  match l, h with
  | a0 :: a1 :: t, h => exact ⟨a0, a1, t, rfl, by simpa using h⟩
section
variable {H : Type} {enc : TypeId × Value → H} {w : World} {base : Nat} {spare : Nat → Bool} {held : Bool}
set_option maxRecDepth 100000 in
theorem open_step {n : Nat} {cs : List Value} {x : DataW H × List MemPlace} (h : DataW.trod enc Try.prog w base spare held n 59 cs = some x) : ∃ (d k : Int) (m : Msg), cs = stepCells d k m := by
  obtain ⟨xs, m, _, _, hl, hxl, hf⟩ := DataW.trod_struct Try.underlying59 h
  rw [Try.cells59] at hl
  obtain ⟨c0, c1, t, rfl, ht⟩ := thirteen_of hl
  have hs : ∀ j, j < 3 → xs[j]? ≠ none := fun j hj => by rw [List.getElem?_eq_getElem (by rw [hxl]; exact hj)]; simp
  have f0 := hf 0 _ rfl
  have f1 := hf 1 _ rfl
  have f2 := hf 2 _ rfl
  have g0 : DataW.trod enc Try.prog w base spare held m 3 [c0] = xs[0]? := by
    have e : ((c0 :: c1 :: t).drop 0).take (Try.prog.cellsOf 3) = [c0] := by rw [Try.cells3]; rfl
    rw [← e]; exact f0
  have g1 : DataW.trod enc Try.prog w base spare held m 3 [c1] = xs[1]? := by
    have e : ((c0 :: c1 :: t).drop 1).take (Try.prog.cellsOf 3) = [c1] := by rw [Try.cells3]; rfl
    rw [← e]; exact f1
  have g2 : DataW.trod enc Try.prog w base spare held m 35 t = xs[2]? := by
    have e : ((c0 :: c1 :: t).drop 2).take (Try.prog.cellsOf 35) = t := by rw [Try.cells35, ← ht]; simp
    have f2' : DataW.trod enc Try.prog w base spare held m 35 (((c0 :: c1 :: t).drop 2).take (Try.prog.cellsOf 35)) = xs[2]? := f2
    rwa [e] at f2'
  obtain ⟨a0, rfl⟩ := one_int Try.underlying3 g0 (hs 0 (by decide))
  obtain ⟨a1, rfl⟩ := one_int Try.underlying3 g1 (hs 1 (by decide))
  obtain ⟨y2, hy2⟩ := Option.ne_none_iff_exists'.1 (hs 2 (by decide))
  rw [hy2] at g2
  obtain ⟨M, rfl⟩ := open_msg g2
  exact ⟨a0, a1, M, rfl⟩
/-- a row of n steps -/
def Steps (w : World) (v : Value) (n : Nat) (S : Nat → Int × Int × Msg) : Prop :=
  ∃ a cap, v = .slice a n cap ∧ n ≤ maxLen ∧ (0 < n → ∃ b off, a = some ⟨b, off, none⟩ ∧ b < w.heap.size ∧ ∀ i, i < n → ∀ k c, (stepCells (S i).1 (S i).2.1 (S i).2.2)[k]? = some c → w.cell? ⟨b, off + i * 13 + k, none⟩ = some c)
theorem open_steps {fuel : Nat} {v : Value} {x : DataW H × List MemPlace} (h : DataW.trod enc Try.prog w base spare held fuel 55 [v] = some x) : ∃ n S, Steps w v n S := by
  rcases open_slice Try.underlying55 h with ⟨h0, _⟩ | ⟨a, len, cap, m, n, D, Pl, hc, hb, hl, hm, hmm, rfl, hx⟩
  · simp at h0
    exact ⟨0, fun _ => (0, 0, noMsg), none, 0, h0, Nat.zero_le _, fun h => absurd h (Nat.lt_irrefl _)⟩
  · have hlm : len ≤ m := by rw [hmm]; split <;> omega
    simp only [List.cons.injEq, and_true] at hc
    simp only [Try.cells59] at hx
    have each : ∀ i, i < len → ∃ S : Int × Int × Msg, ∀ k c, (stepCells S.1 S.2.1 S.2.2)[k]? = some c → w.cell? ((a.add (i * 13)).add k) = some c := by
      intro i hi
      obtain ⟨cs', h1, h2⟩ := hx i (by omega)
      obtain ⟨_, hlen, hcell⟩ := World.cells?_some h1
      obtain ⟨d, k', M, rfl⟩ := open_step h2
      refine ⟨(d, k', M), fun k c hk => ?_⟩
      have hk13 : k < 13 := by
        have := (List.getElem?_eq_some_iff.1 hk).1
        simpa [stepCells, Msg.cells] using this
      rw [hcell k hk13]
      exact hk
    obtain ⟨S, hS⟩ := choose_lt each
    refine ⟨len, S, some a, cap, hc, by omega, fun hz => ?_⟩
    obtain ⟨b, off, spot⟩ := a
    have h0 := hS 0 hz 0 _ rfl
    have hspot : spot = none := by
      have := World.cell?_spot h0
      simpa [Addr.add] using this
    subst hspot
    refine ⟨b, off, rfl, World.block_lt_of_cell? _ _ (by simpa [Addr.add] using h0), fun i hi k c hk => ?_⟩
    have := hS i hi k c hk
    rwa [add_plain, add_plain] at this
end
end Go.Proofs.Ytenkglbnlealbaa
