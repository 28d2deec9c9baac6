import Derived.Test.YtenkglbnlealbaaO19
/-! The plain side of the laws: how boxes grow. -/
namespace Go.Proofs.Ytenkglbnlealbaa
open Go.RowKit
/-- a row of n pairs -/
def Pairs (w : World) (v : Value) (n : Nat) (X Y : Nat → Int) : Prop :=
  ∃ a cap, v = .slice a n cap ∧ n ≤ maxLen ∧ (0 < n → ∃ b off, a = some ⟨b, off, none⟩ ∧ b < w.heap.size ∧
    ∀ i, i < n → w.cell? ⟨b, off + i * 2, none⟩ = some (.int .i64 (X i)) ∧ w.cell? ⟨b, off + i * 2 + 1, none⟩ = some (.int .i64 (Y i)))

/-- a box that has seen at most k messages -/
def Box.small (B : Box) (k : Nat) : Prop := B.L.length + B.W.length ≤ k ∧ B.X + B.W.length ≤ k ∧ 0 ≤ B.X
section
variable {B : Box} {k : Nat}
theorem small_empty : emptyBox.small 0 := by simp [Box.small, emptyBox]
theorem small_mono {k' : Nat} (h : B.small k) (hk : k ≤ k') : B.small k' := by
  obtain ⟨h1, h2, h3⟩ := h; exact ⟨by omega, by omega, h3⟩
theorem filter_lt {α : Type} {l : List α} {p : α → Bool} {x : α} (hx : x ∈ l) (hp : p x = false) : (l.filter p).length < l.length := by
  induction l with
  | nil => cases hx
  | cons y l ih =>
    rw [List.filter_cons]
    rcases List.mem_cons.1 hx with rfl | hx
    · rw [hp, if_neg (by decide)]; have := List.length_filter_le p l; simp only [List.length_cons]; omega
    · have := ih hx
      split
      · simp only [List.length_cons]; omega
      · simp only [List.length_cons]; omega
theorem small_goes (a : Int) (h : B.small k) : (B.goes a).small k := by
  obtain ⟨h1, h2, h3⟩ := h
  unfold Box.goes
  cases hw : B.wait a with
  | none => exact ⟨h1, h2, h3⟩
  | some m =>
    simp only []
    split
    · exact ⟨h1, h2, h3⟩
    · have hm := List.mem_of_find?_eq_some hw
      have ha := List.find?_some hw
      have : (B.W.filter fun m => m.addr != a).length < B.W.length := filter_lt hm (by simpa using ha)
      refine ⟨?_, ?_, ?_⟩
      · simp only [List.length_append, List.length_cons, List.length_nil]; omega
      · simp only []; omega
      · simp only []; omega
theorem small_put (m : Msg) (h : B.small k) : (B.put m).small (k + 1) := by
  refine small_goes _ ?_
  obtain ⟨h1, h2, h3⟩ := h
  have := List.length_filter_le (fun x : Msg => x.addr != m.addr) B.W
  refine ⟨?_, ?_, h3⟩
  · simp only [Box.put1, List.length_append, List.length_cons, List.length_nil]; omega
  · simp only [Box.put1, List.length_append, List.length_cons, List.length_nil]; omega
theorem small_acked (n : Int) (h : B.small k) : (B.acked n).small k := by
  unfold Box.acked
  split
  · exact h
  · refine small_goes _ ?_
    obtain ⟨h1, h2, h3⟩ := h
    have := List.length_filter_le (fun x : Msg × Int => x.1.xid != n) B.L
    exact ⟨by simp only [Box.acked1]; omega, by simp only [Box.acked1]; omega, h3⟩
theorem small_tick (now : Int) (h : B.small k) : (B.tick now).small k := by
  obtain ⟨h1, h2, h3⟩ := h
  exact ⟨by simp only [Box.tick, List.length_map]; omega, by simp only [Box.tick]; omega, h3⟩
theorem small_clear (h : B.small k) : B.clear.small k := by
  obtain ⟨h1, h2, h3⟩ := h
  exact ⟨by simp [Box.clear], by simp only [Box.clear, List.length_nil]; omega, h3⟩
end
end Go.Proofs.Ytenkglbnlealbaa
