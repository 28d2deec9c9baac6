import Derived.Test.YtenkglbnlealbaaArgs
/-! What comes in: rows of messages, of bools, of steps. -/
namespace Go.Proofs.Ytenkglbnlealbaa
open Go.ChangeShapes Go.WideShapes Go.ChangeAt Go.RowKit Go.Deep
theorem Try.cells35 : Try.prog.cellsOf 35 = 11 := by kernel_rfl
theorem Try.cells30 : Try.prog.cellsOf 30 = 1 := by kernel_rfl
theorem Try.cells4 : Try.prog.cellsOf 4 = 1 := by kernel_rfl
theorem Try.cells9 : Try.prog.cellsOf 9 = 1 := by kernel_rfl
theorem Try.cells59 : Try.prog.cellsOf 59 = 13 := by kernel_rfl
theorem eleven_of {α : Type} {l : List α} (h : l.length = 11) : ∃ a0 a1 a2 a3 a4 a5 a6 a7 a8 a9 a10, l = [a0, a1, a2, a3, a4, a5, a6, a7, a8, a9, a10] := by
  match l, h with
  | [a0, a1, a2, a3, a4, a5, a6, a7, a8, a9, a10], _ => exact ⟨a0, a1, a2, a3, a4, a5, a6, a7, a8, a9, a10, rfl⟩
section
variable {H : Type} {enc : TypeId × Value → H} {w : World} {base : Nat} {spare : Nat → Bool} {held : Bool}
theorem one_int {k : IntKind} {t : TypeId} (ht : Try.prog.underlying t = some (.int k)) {n : Nat} {c : Value} {y : Option (DataW H × List MemPlace)} (h : DataW.trod enc Try.prog w base spare held n t [c] = y) (hy : y ≠ none) : ∃ a, c = .int k a := by
  cases y with
  | none => exact absurd rfl hy
  | some x =>
    obtain ⟨a, ha, _⟩ := DataW.trod_int ht h
    exact ⟨a, by simpa using ha⟩
set_option maxRecDepth 100000 in
theorem open_msg {n : Nat} {cs : List Value} {x : DataW H × List MemPlace} (h : DataW.trod enc Try.prog w base spare held n 35 cs = some x) : ∃ M : Msg, cs = M.cells := by
  obtain ⟨xs, m, _, _, hl, hxl, hf⟩ := DataW.trod_struct Try.underlying35 h
  rw [Try.cells35] at hl
  obtain ⟨c0, c1, c2, c3, c4, c5, c6, c7, c8, c9, c10, rfl⟩ := eleven_of hl
  have hs : ∀ j, j < 11 → xs[j]? ≠ none := fun j hj => by rw [List.getElem?_eq_getElem (by rw [hxl]; exact hj)]; simp
  have key2 : ∀ (j : Nat) (f : Field) (c : Value), f.offset = j → Try.prog.cellsOf f.type = 1 → [c0, c1, c2, c3, c4, c5, c6, c7, c8, c9, c10][j]? = some c → DataW.trod enc Try.prog w base spare held m f.type (([c0, c1, c2, c3, c4, c5, c6, c7, c8, c9, c10].drop f.offset).take (Try.prog.cellsOf f.type)) = xs[j]? → DataW.trod enc Try.prog w base spare held m f.type [c] = xs[j]? := by
    intro j f c h1 h2 h3 h4
    rw [h1, h2] at h4
    have : ([c0, c1, c2, c3, c4, c5, c6, c7, c8, c9, c10].drop j).take 1 = [c] := by
      obtain ⟨hj, e⟩ := List.getElem?_eq_some_iff.1 h3
      rw [List.drop_eq_getElem_cons hj, e]
      rfl
    rwa [this] at h4
  have f0 := key2 0 _ c0 rfl Try.cells3 rfl (hf 0 _ rfl)
  have f1 := key2 1 _ c1 rfl Try.cells3 rfl (hf 1 _ rfl)
  have f2 := key2 2 _ c2 rfl Try.cells3 rfl (hf 2 _ rfl)
  have f3 := key2 3 _ c3 rfl Try.cells3 rfl (hf 3 _ rfl)
  have f4 := key2 4 _ c4 rfl Try.cells3 rfl (hf 4 _ rfl)
  have f5 := key2 5 _ c5 rfl Try.cells30 rfl (hf 5 _ rfl)
  have f6 := key2 6 _ c6 rfl Try.cells3 rfl (hf 6 _ rfl)
  have f7 := key2 7 _ c7 rfl Try.cells9 rfl (hf 7 _ rfl)
  have f8 := key2 8 _ c8 rfl Try.cells3 rfl (hf 8 _ rfl)
  have f9 := key2 9 _ c9 rfl Try.cells3 rfl (hf 9 _ rfl)
  have f10 := key2 10 _ c10 rfl Try.cells4 rfl (hf 10 _ rfl)
  obtain ⟨a0, rfl⟩ := one_int Try.underlying3 f0 (hs 0 (by decide))
  obtain ⟨a1, rfl⟩ := one_int Try.underlying3 f1 (hs 1 (by decide))
  obtain ⟨a2, rfl⟩ := one_int Try.underlying3 f2 (hs 2 (by decide))
  obtain ⟨a3, rfl⟩ := one_int Try.underlying3 f3 (hs 3 (by decide))
  obtain ⟨a4, rfl⟩ := one_int Try.underlying3 f4 (hs 4 (by decide))
  obtain ⟨a5, rfl⟩ := one_int Try.underlying30 f5 (hs 5 (by decide))
  obtain ⟨a6, rfl⟩ := one_int Try.underlying3 f6 (hs 6 (by decide))
  obtain ⟨y7, hy7⟩ := Option.ne_none_iff_exists'.1 (hs 7 (by decide))
  rw [hy7] at f7
  obtain ⟨s7, h7, _⟩ := DataW.trod_string Try.underlying9 f7
  obtain rfl : c7 = .string s7 := by simpa using h7
  obtain ⟨a8, rfl⟩ := one_int Try.underlying3 f8 (hs 8 (by decide))
  obtain ⟨a9, rfl⟩ := one_int Try.underlying3 f9 (hs 9 (by decide))
  obtain ⟨y10, hy10⟩ := Option.ne_none_iff_exists'.1 (hs 10 (by decide))
  rw [hy10] at f10
  obtain ⟨b10, h10, _⟩ := DataW.trod_bool Try.underlying4 f10
  obtain rfl : c10 = .bool b10 := by simpa using h10
  exact ⟨⟨a0, a1, a2, a3, a4, a5, a6, s7, a8, a9, b10⟩, rfl⟩
instance : Inhabited Msg := ⟨noMsg⟩
/-- a row of n messages -/
def Msgs (w : World) (v : Value) (n : Nat) (M : Nat → Msg) : Prop :=
  ∃ a cap, v = .slice a n cap ∧ n ≤ maxLen ∧ (0 < n → ∃ b off, a = some ⟨b, off, none⟩ ∧ b < w.heap.size ∧ ∀ i, i < n → ∀ k c, (M i).cells[k]? = some c → w.cell? ⟨b, off + i * 11 + k, none⟩ = some c)
/-- a row of n bools -/
def Bools (w : World) (v : Value) (n : Nat) (B : Nat → Bool) : Prop :=
  ∃ a cap, v = .slice a n cap ∧ n ≤ maxLen ∧ (0 < n → ∃ b off, a = some ⟨b, off, none⟩ ∧ b < w.heap.size ∧ ∀ i, i < n → w.cell? ⟨b, off + i, none⟩ = some (.bool (B i)))
theorem open_msgs {fuel : Nat} {v : Value} {x : DataW H × List MemPlace} (h : DataW.trod enc Try.prog w base spare held fuel 39 [v] = some x) : ∃ n M, Msgs w v n M := by
  rcases open_slice Try.underlying39 h with ⟨h0, _⟩ | ⟨a, len, cap, m, n, D, Pl, hc, hb, hl, hm, hmm, rfl, hx⟩
  · simp at h0
    exact ⟨0, fun _ => noMsg, none, 0, h0, Nat.zero_le _, fun h => absurd h (Nat.lt_irrefl _)⟩
  · have hlm : len ≤ m := by rw [hmm]; split <;> omega
    simp only [List.cons.injEq, and_true] at hc
    simp only [Try.cells35] at hx
    have each : ∀ i, i < len → ∃ M : Msg, ∀ k c, M.cells[k]? = some c → w.cell? ((a.add (i * 11)).add k) = some c := by
      intro i hi
      obtain ⟨cs', h1, h2⟩ := hx i (by omega)
      obtain ⟨_, hlen, hcell⟩ := World.cells?_some h1
      obtain ⟨M, rfl⟩ := open_msg h2
      refine ⟨M, fun k c hk => ?_⟩
      have hk11 : k < 11 := by
        have := (List.getElem?_eq_some_iff.1 hk).1
        simpa [Msg.cells] using this
      rw [hcell k hk11, hk]
    obtain ⟨M, hM⟩ := choose_lt each
    refine ⟨len, M, some a, cap, hc, by omega, fun hz => ?_⟩
    obtain ⟨b, off, spot⟩ := a
    have h0 := hM 0 hz 0 _ rfl
    have hspot : spot = none := by
      have := World.cell?_spot h0
      simpa [Addr.add] using this
    subst hspot
    refine ⟨b, off, rfl, World.block_lt_of_cell? _ _ (by simpa [Addr.add] using h0), fun i hi k c hk => ?_⟩
    have := hM i hi k c hk
    rwa [add_plain, add_plain] at this
theorem open_bools {fuel : Nat} {v : Value} {x : DataW H × List MemPlace} (h : DataW.trod enc Try.prog w base spare held fuel 45 [v] = some x) : ∃ n B, Bools w v n B := by
  rcases open_slice Try.underlying45 h with ⟨h0, _⟩ | ⟨a, len, cap, m, n, D, Pl, hc, hb, hl, hm, hmm, rfl, hx⟩
  · simp at h0
    exact ⟨0, fun _ => false, none, 0, h0, Nat.zero_le _, fun h => absurd h (Nat.lt_irrefl _)⟩
  · have hlm : len ≤ m := by rw [hmm]; split <;> omega
    simp only [List.cons.injEq, and_true] at hc
    simp only [Try.cells4] at hx
    have each : ∀ i, i < len → ∃ b : Bool, w.cell? (a.add i) = some (.bool b) := by
      intro i hi
      obtain ⟨cs', h1, h2⟩ := hx i (by omega)
      obtain ⟨_, hlen, hcell⟩ := World.cells?_some h1
      obtain ⟨b, hb, _⟩ := DataW.trod_bool Try.underlying4 h2
      refine ⟨b, ?_⟩
      have := hcell 0 (by decide)
      rw [hb] at this
      simpa [Addr.add] using this
    obtain ⟨B, hB⟩ := choose_lt each
    refine ⟨len, B, some a, cap, hc, by omega, fun hz => ?_⟩
    obtain ⟨b, off, spot⟩ := a
    have h0 := hB 0 hz
    have hspot : spot = none := by
      have := World.cell?_spot h0
      simpa [Addr.add] using this
    subst hspot
    refine ⟨b, off, rfl, World.block_lt_of_cell? _ _ (by simpa [Addr.add] using h0), fun i hi => ?_⟩
    have := hB i hi
    rwa [add_plain] at this
end
end Go.Proofs.Ytenkglbnlealbaa
