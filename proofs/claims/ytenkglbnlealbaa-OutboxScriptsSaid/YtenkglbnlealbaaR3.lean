import Derived.Test.YtenkglbnlealbaaR2
/-! The reference's 'goes'. -/
namespace Go.Proofs.Ytenkglbnlealbaa
open Go.RowKit
attribute [local go_sem] Oper.semAt_some
/-- a step of the reference's box -/
def RStep (w : World) (b : Nat) (vL vW : Value) (w' : World) (B' : Box) : Prop := (∃ vL' vW', RBox w' b B' vL' vW' ∧ ∀ k, RMine b vL' vW' k → RMine b vL vW k ∨ w.heap.size ≤ k) ∧ Chg (RMine b vL vW) w w'
theorem RStep.same {w w' : World} {b : Nat} {B : Box} {vL vW : Value} (h : RBox w b B vL vW) (hc : Chg (fun _ => False) w w') : RStep w b vL vW w' B :=
  ⟨⟨vL, vW, h.keep hc (fun _ _ h => h), fun _ h => .inl h⟩, hc.mono (fun _ _ h => h.elim)⟩
theorem goes_none' {B : Box} {a : Int} (h : ∀ j (hj : j < B.W.length), B.W[j].addr ≠ a) : B.goes a = B := by
  unfold Box.goes Box.wait
  rw [List.find?_eq_none.2]
  intro x hx
  obtain ⟨j, hj, rfl⟩ := List.mem_iff_getElem.1 hx
  simpa using h j hj
theorem goes_stay {B : Box} {a : Int} (h : B.out a = true ∨ 1073741824 ≤ B.X) : B.goes a = B := by
  unfold Box.goes
  split
  · rfl
  · rw [if_pos h]
theorem filter_at : ∀ (W : List Msg) (i : Nat) (hi : i < W.length) (_ : W.Pairwise fun x y => x.addr ≠ y.addr), W.filter (fun m => m.addr != W[i].addr) = W.take i ++ W.drop (i + 1)
  | [], i, hi, _ => absurd hi (Nat.not_lt_zero _)
  | m :: W, 0, hi, h => by
    simp only [List.getElem_cons_zero, List.take_zero, List.nil_append, List.drop_succ_cons, List.drop_zero]
    rw [List.filter_cons, if_neg (by simp), List.filter_eq_self.2]
    intro x hx
    have := (List.pairwise_cons.1 h).1 x hx
    simpa using fun e => this e.symm
  | m :: W, i + 1, hi, h => by
    have hi' : i < W.length := by simpa using hi
    simp only [List.getElem_cons_succ, List.take_succ_cons, List.drop_succ_cons, List.cons_append]
    have := (List.pairwise_cons.1 h).1 W[i] (List.getElem_mem hi')
    rw [List.filter_cons, if_pos (by simpa using this), filter_at W i hi' (List.pairwise_cons.1 h).2]
theorem goes_found {B : Box} {a : Int} {i : Nat} (hi : i < B.W.length) (h : ∀ j (hj : j < B.W.length), j < i → B.W[j].addr ≠ a) (e : B.W[i].addr = a) (hu : B.W.Pairwise fun x y => x.addr ≠ y.addr) (ho : B.out a = false) (hX : B.X < 1073741824) :
    B.goes a = ⟨B.L ++ [({ B.W[i] with xid := B.X + 1 }, -1)], B.W.take i ++ B.W.drop (i + 1), B.X + 1⟩ := by
  have hw : B.wait a = some B.W[i] := by
    unfold Box.wait
    rw [List.find?_eq_some_iff_getElem]
    exact ⟨by simpa using e, i, hi, rfl, fun j hj => by simpa using h j (by omega) hj⟩
  unfold Box.goes
  rw [hw]
  simp only
  rw [if_neg (by rintro (h | h); rw [ho] at h; cases h; omega)]
  have := filter_at B.W i hi hu
  rw [e] at this
  rw [this]
theorem Try.info107 : (Try.prog.info? 107).map (fun i => (i.zero, i.size, i.bytes)) = some (some (.agg (cellsO (noMsg, 0)).toArray), 12, 104) := by kernel_rfl
theorem Try.info35' : (Try.prog.info? 35).map (fun i => (i.zero, i.size, i.bytes)) = some (some noMsg.val, 11, 96) := by kernel_rfl
theorem flat_take {α : Type} (c : α → List Value) (n : Nat) (hc : ∀ x, (c x).length = n) : ∀ (L : List α) (i : Nat), (L.take i).flatMap c = (L.flatMap c).take (i * n)
  | [], i => by simp
  | m :: L, 0 => by simp
  | m :: L, i + 1 => by
    have e : (i + 1) * n = (c m).length + i * n := by rw [hc, Nat.succ_mul]; omega
    rw [List.take_succ_cons, List.flatMap_cons, List.flatMap_cons, flat_take c n hc L i, e, List.take_length_add_append]
theorem flat_drop {α : Type} (c : α → List Value) (n : Nat) (hc : ∀ x, (c x).length = n) : ∀ (L : List α) (i : Nat), (L.drop i).flatMap c = (L.flatMap c).drop (i * n)
  | [], i => by simp
  | m :: L, 0 => by simp
  | m :: L, i + 1 => by
    have e : (i + 1) * n = (c m).length + i * n := by rw [hc, Nat.succ_mul]; omega
    rw [List.drop_succ_cons, List.flatMap_cons, flat_drop c n hc L i, e, List.drop_length_add_append]
theorem cells_len (m : Msg) : m.cells.length = 11 := rfl
/-- the first i of a row, and those behind the first i -/
theorem ownsRow_lies_take {w : World} {e : TypeId} {size n cap g : Nat} {xs : List Value} (h : w.ownsRow 0 e size (.slice (some ⟨g, 0, none⟩) n cap) n xs) (i : Nat) (c : Nat) : Lies w (.slice (some ⟨g, 0, none⟩) i c) i (xs.take (i * size)) := by
  refine .inl ⟨_, c, rfl, fun j u hj => h.cells (g := g) rfl j u ?_⟩
  rw [List.getElem?_take] at hj
  split at hj
  · exact hj
  · cases hj
theorem ownsRow_lies_drop {w : World} {e : TypeId} {size n cap g : Nat} {xs : List Value} (h : w.ownsRow 0 e size (.slice (some ⟨g, 0, none⟩) n cap) n xs) (i m : Nat) (c : Nat) : Lies w (.slice (some ⟨g, i * size, none⟩) m c) m (xs.drop (i * size)) := by
  refine .inl ⟨_, c, rfl, fun j u hj => ?_⟩
  rw [List.getElem?_drop] at hj
  have := h.cells (g := g) rfl (i * size + j) u hj
  have e1 : (⟨g, 0, none⟩ : Addr).add (i * size + j) = ⟨g, i * size + j, none⟩ := by unfold Addr.add; split <;> simp_all
  have e2 : (⟨g, i * size, none⟩ : Addr).add j = ⟨g, i * size + j, none⟩ := by unfold Addr.add; split <;> simp_all
  rw [e1] at this
  rwa [e2]
theorem one_cells (L : List Msg) : ∀ u ∈ L.flatMap Msg.cells, u.oneCell' = true := by
  intro u hu
  obtain ⟨x, _, hx⟩ := List.mem_flatMap.1 hu
  simp only [Msg.cells, List.mem_cons, List.not_mem_nil, or_false] at hx
  rcases hx with rfl | rfl | rfl | rfl | rfl | rfl | rfl | rfl | rfl | rfl | rfl <;> rfl
end Go.Proofs.Ytenkglbnlealbaa
