import Derived.Test.YtenkglbnlealbaaO20
/-! The plain side of OutboxAnswers. -/
namespace Go.Proofs.Ytenkglbnlealbaa
open Go.RowKit
structure FreshB (B : Box) : Prop where
  x : B.X = B.L.length
  sent : ∀ x ∈ B.L, x.2 = -1
  busy : ∀ m ∈ B.W, B.out m.addr = true
section
variable {B : Box} {k : Nat}
theorem fresh_empty : FreshB emptyBox := ⟨rfl, by simp [emptyBox], by simp [emptyBox]⟩
theorem put1_wait (m : Msg) : (B.put1 m).wait m.addr = some m := by
  unfold Box.wait Box.put1
  simp only [List.find?_append]
  have : (B.W.filter fun x => x.addr != m.addr).find? (fun x => x.addr == m.addr) = none := by
    rw [List.find?_eq_none]
    intro x hx
    have := (List.mem_filter.1 hx).2
    simpa using this
  rw [this]
  simp
theorem put_eq (m : Msg) (hX : B.X < 1073741824) : B.put m = if B.out m.addr = true then B.put1 m else ⟨B.L ++ [({ m with xid := B.X + 1 }, -1)], B.W.filter (fun x => x.addr != m.addr), B.X + 1⟩ := by
  unfold Box.put Box.goes
  rw [put1_wait]
  have e1 : (B.put1 m).out m.addr = B.out m.addr := rfl
  have e2 : (B.put1 m).X = B.X := rfl
  simp only [e1, e2]
  by_cases h : B.out m.addr = true
  · rw [if_pos (.inl h), if_pos h]
  · rw [if_neg (by rintro (h1 | h1); exact h h1; omega), if_neg h]
    have : (B.put1 m).W.filter (fun x => x.addr != m.addr) = B.W.filter (fun x => x.addr != m.addr) := by
      unfold Box.put1
      simp [List.filter_append, List.filter_filter]
    rw [this]
    rfl
theorem fresh_put (m : Msg) (h : FreshB B) (hX : B.X < 1073741824) : FreshB (B.put m) := by
  rw [put_eq m hX]
  split
  · rename_i ho
    refine ⟨h.x, h.sent, fun x hx => ?_⟩
    show B.out x.addr = true
    simp only [Box.put1] at hx
    rcases List.mem_append.1 hx with hx | hx
    · exact h.busy x (List.mem_filter.1 hx).1
    · rw [List.mem_singleton] at hx; rw [hx]; exact ho
  · refine ⟨by simp only [List.length_append, List.length_cons, List.length_nil, h.x]; omega, fun x hx => ?_, fun x hx => ?_⟩
    · simp only at hx
      rcases List.mem_append.1 hx with hx | hx
      · exact h.sent x hx
      · rw [List.mem_singleton] at hx; rw [hx]
    · have := h.busy x (List.mem_filter.1 hx).1
      unfold Box.out at this ⊢
      rw [List.any_append, this]; rfl
theorem fresh_len (h : FreshB B) : B.len = B.L.length := by
  unfold Box.len
  have : (B.W.filter fun m => !B.out m.addr) = [] := by
    rw [List.filter_eq_nil_iff]
    intro m hm
    rw [h.busy m hm]; simp
  rw [this]; rfl
theorem fresh_told (h : FreshB B) (now : Int) : B.told now = B.L.map (·.1) := by
  unfold Box.told
  rw [List.filter_eq_self.2]
  intro x hx
  unfold due
  rw [h.sent x hx]; rfl
theorem fresh_tick (h : FreshB B) (now : Int) : (B.tick now).L = (B.L.map (·.1)).map fun m => (m, now) := by
  unfold Box.tick
  simp only [List.map_map]
  refine List.map_congr_left fun x hx => ?_
  unfold tick1 due
  rw [h.sent x hx]; rfl
structure Acks (L0 : List Msg) (N t : Int) (B : Box) (i : Nat) : Prop where
  it : ∃ Ln, B.L = (L0.drop i).map (fun m => (m, t)) ++ Ln ∧ ∀ x ∈ Ln, N < x.1.xid
  x : N ≤ B.X
theorem goes_L (a : Int) : ∃ Ln, (B.goes a).L = B.L ++ Ln ∧ (∀ x ∈ Ln, x.1.xid = B.X + 1) ∧ B.X ≤ (B.goes a).X := by
  unfold Box.goes
  split
  · exact ⟨[], by simp, by simp, Int.le_refl _⟩
  · split
    · exact ⟨[], by simp, by simp, Int.le_refl _⟩
    · exact ⟨_, rfl, by simp, by simp only []; omega⟩
theorem acks_step {L0 : List Msg} {N t : Int} {i : Nat} (h : Acks L0 N t B i) (hi : i < L0.length) (hr : L0.Pairwise fun x y => x.xid < y.xid) (hl : ∀ m ∈ L0, m.xid ≤ N) :
    B.find L0[i].xid = some L0[i] ∧ Acks L0 N t (B.acked L0[i].xid) (i + 1) ∧ (B.acked L0[i].xid).find L0[i].xid = none := by
  obtain ⟨⟨Ln, hL, hn⟩, hx⟩ := h
  rw [List.drop_eq_getElem_cons hi, List.map_cons, List.cons_append] at hL
  have hf : B.find L0[i].xid = some L0[i] := by
    unfold Box.find
    rw [hL, List.find?_cons]
    simp
  have hle : L0[i].xid ≤ N := hl _ (List.getElem_mem hi)
  have hgt : ∀ m ∈ L0.drop (i + 1), L0[i].xid < m.xid := by
    intro m hm
    obtain ⟨j, hj, rfl⟩ := List.mem_iff_getElem.1 hm
    simp only [List.length_drop] at hj
    rw [List.getElem_drop]
    exact List.pairwise_iff_getElem.1 hr i (i + 1 + j) hi (by omega) (by omega)
  have h1 : (B.acked1 L0[i].xid).L = (L0.drop (i + 1)).map (fun m => (m, t)) ++ Ln := by
    unfold Box.acked1
    simp only [hL, List.filter_cons]
    rw [if_neg (by simp), List.filter_append, List.filter_eq_self.2, List.filter_eq_self.2]
    · intro x hx
      have := hn x hx
      simp; omega
    · intro x hx
      obtain ⟨m, hm, rfl⟩ := List.mem_map.1 hx
      have := hgt m hm
      simp; omega
  have hak : B.acked L0[i].xid = (B.acked1 L0[i].xid).goes L0[i].addr := by unfold Box.acked; rw [hf]
  obtain ⟨Lm, g1, g2, g3⟩ := goes_L (B := B.acked1 L0[i].xid) L0[i].addr
  have gx : (B.acked1 L0[i].xid).X = B.X := rfl
  rw [gx] at g2 g3
  rw [h1] at g1
  have hall : ∀ x ∈ (B.acked L0[i].xid).L, L0[i].xid < x.1.xid := by
    intro x hx'
    rw [hak, g1] at hx'
    rcases List.mem_append.1 hx' with hx' | hx'
    · rcases List.mem_append.1 hx' with hx' | hx'
      · obtain ⟨m, hm, rfl⟩ := List.mem_map.1 hx'
        exact hgt m hm
      · have := hn x hx'; omega
    · have := g2 x hx'; omega
  refine ⟨hf, ⟨⟨Ln ++ Lm, ?_, ?_⟩, ?_⟩, ?_⟩
  · rw [hak, g1, List.append_assoc]
  · intro x hx'
    rcases List.mem_append.1 hx' with hx' | hx'
    · exact hn x hx'
    · have := g2 x hx'; omega
  · rw [hak]; omega
  · unfold Box.find
    rw [List.find?_eq_none.2]
    · rfl
    · intro x hx'
      have := hall x hx'
      simp; omega
theorem acked_none {n : Int} (h : B.find n = none) : B.acked n = B := by unfold Box.acked; rw [h]
/-- what a box says behind 'Clear' -/
theorem clear_told (now : Int) : B.clear.told now = [] ∧ B.clear.tick now = B.clear ∧ B.clear.len = 0 ∧ (∀ a, B.clear.busy a = false) := ⟨rfl, rfl, rfl, fun _ => rfl⟩
theorem clear_put (m : Msg) (hX : B.X < 1073741824) : B.clear.put m = ⟨[({ m with xid := B.X + 1 }, -1)], [], B.X + 1⟩ := by
  rw [put_eq (B := B.clear) m hX]; rfl
end
theorem Boxed.rise {base : Nat} {own : List Nat} {w : World} {b : Nat} {B : Box} (h : Boxed base own w b B) : (B.L.Pairwise fun x y => x.1.xid < y.1.xid) ∧ ∀ x ∈ B.L, x.1.xid ≤ B.X ∧ 1 ≤ x.1.xid := by
  obtain ⟨l, _, ⟨mo, mf, mq, hl⟩, _⟩ := h
  exact ⟨hl.rise, hl.low⟩
end Go.Proofs.Ytenkglbnlealbaa
