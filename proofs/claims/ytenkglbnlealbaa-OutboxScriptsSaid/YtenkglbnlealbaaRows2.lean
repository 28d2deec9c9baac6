import Derived.Test.YtenkglbnlealbaaO22
import Derived.Deep.RegionHeld3
import Derived.Deep.AppendLies
import Derived.Deep.Upon
/-! Rows of one's own: a store, appending whatever lies somewhere. -/
namespace Go
theorem World.ownsRow.set {w : World} {e : TypeId} {size n cap g : Nat} {xs : List Value} (h : w.ownsRow 0 e size (.slice (some ⟨g, 0, none⟩) n cap) n xs) (j : Nat) (v : Value) (_ : j < n * size) :
    (w.setCell ⟨g, j, none⟩ v).ownsRow 0 e size (.slice (some ⟨g, 0, none⟩) n cap) n (xs.set j v) := by
  refine ⟨by rw [List.length_set]; exact h.1, ?_⟩
  rcases h.2 with ⟨h1, _⟩ | ⟨g', cap', cur, h1, h2, h3, h4, h5, h6, h7⟩
  · cases h1
  · simp only [Value.slice.injEq, Option.some.injEq, Addr.mk.injEq, and_true, true_and] at h1
    obtain ⟨rfl, rfl⟩ := h1
    refine .inr ⟨g, cap, cur.set! j v, rfl, h2, ?_, h4, h5, by simpa using h6, ?_⟩
    · simp [World.setCell, Array.getElem?_modify, h3]
    · rw [← h7, Array.set!_eq_setIfInBounds, Array.toList_setIfInBounds, List.take_set]
theorem World.ownsRow.frozen {w : World} {e : TypeId} {size n cap g : Nat} {xs : List Value} (h : w.ownsRow 0 e size (.slice (some ⟨g, 0, none⟩) n cap) n xs) (j : Nat) : w.frozen? ⟨g, j, none⟩ = false := by
  rcases h.2 with ⟨h1, _⟩ | ⟨g', cap', cur, h1, h2, h3, _⟩
  · cases h1
  · simp only [Value.slice.injEq, Option.some.injEq, Addr.mk.injEq, and_true, true_and] at h1
    obtain ⟨rfl, rfl⟩ := h1
    simp [World.frozen?, h3]
/-- m elements that lie somewhere, their cells one behind the other -/
def Lies (w : World) (y : Value) (m : Nat) (news : List Value) : Prop := (∃ ad c, y = .slice (some ad) m c ∧ ∀ j u, news[j]? = some u → w.cell? (ad.add j) = some u) ∨ (y = .slice none 0 0 ∧ m = 0)
/-- a row of one's own, but for where it lies -/
theorem ownsRow_empty {w : World} {e : TypeId} {size g : Nat} (h : w.heap[g]? = some (.cells #[] e (0, 0))) : w.ownsRow 0 e size (.slice (some ⟨g, 0, none⟩) 0 0) 0 [] :=
  ⟨by simp, .inr ⟨g, 0, #[], rfl, Nat.zero_le _, h, Nat.le_refl _, Nat.zero_le _, by simp, by simp⟩⟩
section
variable {P : Program}
/-- what 'append(v, y...)' comes to -/
theorem row_append_any {w : World} {t e : TypeId} {i : TypeInfo} {z : Value} {size bytes : Nat} (ht : P.underlying t = some (.slice e)) (hi : P.info? e = some i) (hz : i.zero = some z)
    (hsize : i.size = size) (hby : i.bytes = bytes) (hzs : z.cells.size = size) (hsz : 0 < size) {v : Value} {n : Nat} {xs : List Value} (hown : w.ownsRow 0 e size v n xs)
    {y : Value} {m : Nat} {news : List Value} (hy : Lies w y m news) (hl : news.length = m * size) (h1 : ∀ u ∈ news, u.oneCell' = true) (h63 : n + m ≤ maxLen) (hbytes : (n + m) * bytes ≤ 140737488355328) :
    ∃ v' w', (∀ ty, (Builtin.append_ #[t, t] ty #[v, y]).run P w = .ok v' w') ∧ w'.ownsRow 0 e size v' (n + m) (xs ++ news) ∧ Chg (fun k => v.ownBlock = some k) w w' ∧ (∀ k, v'.ownBlock = some k → v.ownBlock = some k ∨ w.heap.size ≤ k) := by
  rcases Nat.eq_zero_or_pos m with hm | hm
  · subst hm
    obtain rfl : news = [] := List.eq_nil_of_length_eq_zero (by simpa using hl)
    have hsrc : Src P i.size t y 0 [] w := by
      rcases hy with ⟨ad, c, rfl, _⟩ | ⟨rfl, _⟩
      · exact ⟨.inl ⟨e, ht⟩, fun w' => by simp [Builtin.lenOf], by simp [Builtin.firstCells, loadCells, loadCellsFrom], by simp [Builtin.firstCells, loadCells, loadCellsFrom], by simp, by simp⟩
      · exact ⟨.inl ⟨e, ht⟩, fun w' => by simp [Builtin.lenOf], by simp [Builtin.firstCells], by simp [Builtin.firstCells], by simp, by simp⟩
    refine ⟨v, w, fun ty => ?_, by simpa using hown, Chg.refl _ w, fun k hk => .inl hk⟩
    rcases hown.2 with ⟨rfl, rfl⟩ | ⟨g, cap, cur, rfl, _, _, hnc, _⟩
    · exact run_append_nothing (P := P) w t t ty e i ht hi _ _ _ (Nat.le_refl _) y hsrc
    · exact run_append_nothing (P := P) w t t ty e i ht hi _ _ _ hnc y hsrc
  · rcases hy with ⟨ad, c, rfl, hnews⟩ | ⟨rfl, rfl⟩
    · obtain ⟨v', w', hr, h2, h3, h4⟩ := run_append_own (P := P) w 0 t 0 e i z size bytes ht hi hz hsize hby hzs hsz v n xs hown ad m c news hl hnews h1 h63 hbytes (Nat.zero_le _)
      refine ⟨v', w', fun ty => hr, h2, ⟨h3.os, h3.tape, h3.output, h3.size, fun k hk hs => h3.block k hk (fun e => hs e.symm)⟩, fun k hk => ?_⟩
      obtain ⟨g, cap, rfl, hg⟩ := append_block ht hi hz hsize hby hown hl hnews h1 hm h63 hbytes hr
      simp only [Value.ownBlock, Option.some.injEq] at hk
      subst hk
      rcases hg with hg | hg
      · exact .inl hg
      · exact .inr (Nat.le_of_eq hg.symm)
    · omega
/-- what lies behind an append -/
structure Apped (e : TypeId) (size : Nat) (v : Value) (n : Nat) (xs : List Value) (w : World) (v' : Value) (w' : World) : Prop where
  row : w'.ownsRow 0 e size v' n xs
  chg : Chg (fun k => v.ownBlock = some k) w w'
  lies : ∀ k, v'.ownBlock = some k → v.ownBlock = some k ∨ w.heap.size ≤ k
theorem step_app {ops : Array Oper} {o : Oper} {a : Act} {w : World} {K : Act → World → Prop} {Q : Exit → Act → World → Prop} {E : Prop} (hgd : o.guard = none) (s x : Operand) (t : TypeId)
    (ho : o.op = .call { callee := .builtin .append, args := #[s, x], argTypes := #[t, t] })
    (e : TypeId) (i : TypeInfo) (z : Value) (size bytes : Nat) (ht : P.underlying t = some (.slice e)) (hi : P.info? e = some i) (hz : i.zero = some z)
    (hsize : i.size = size) (hby : i.bytes = bytes) (hzs : z.cells.size = size) (hsz : 0 < size) (v : Value) (n : Nat) (xs : List Value) (hs : a.eval s = v) (hown : w.ownsRow 0 e size v n xs)
    (y : Value) (m : Nat) (news : List Value) (hx : a.eval x = y) (hy : Lies w y m news) (hl : news.length = m * size) (h1 : ∀ u ∈ news, u.oneCell' = true) (h63 : n + m ≤ maxLen) (hbytes : (n + m) * bytes ≤ 140737488355328)
    (h : ∀ v' w', Apped e size v (n + m) (xs ++ news) w v' w' → K (a.put o.dst v') w') :
    if Region.wanted o (yielded ops a.tmps) = true then Oper.wp P o a w K Q else E := by
  have hw : Region.wanted o (yielded ops a.tmps) = true := by simp [Region.wanted, hgd]
  rw [if_pos hw]
  obtain ⟨v', w', hrun, r1, r2, r3⟩ := row_append_any (P := P) ht hi hz hsize hby hzs hsz hown hy hl h1 h63 hbytes
  unfold Oper.wp
  simp [execOp, ho, resolve, invoke, builtin, hs, hx, hrun, Result.andThen]
  exact h v' w' ⟨r1, r2, r3⟩
end
theorem Lies.keep {w w' : World} {y : Value} {m : Nat} {news : List Value} (h : Lies w y m news) {S : Nat → Prop} (hc : Chg S w w') (hS : ∀ k, y.ownBlock = some k → ¬ S k) : Lies w' y m news := by
  rcases h with ⟨ad, c, rfl, hn⟩ | h
  · refine .inl ⟨ad, c, rfl, fun j u hj => hc.cell (hn j u hj) ?_⟩
    have : (ad.add j).block = ad.block := by unfold Addr.add; split <;> rfl
    rw [this]
    exact hS _ rfl
  · exact .inr h
theorem Lies.keep' {w w' : World} {y : Value} {m : Nat} {news : List Value} {S : Nat → Prop} (hc : Chg S w w') (h : Lies w y m news) (hS : ∀ k, y.ownBlock = some k → ¬ S k) : Lies w' y m news := h.keep hc hS
theorem World.ownsRow.lies {w : World} {e : TypeId} {size : Nat} {v : Value} {n : Nat} {xs : List Value} (h : w.ownsRow 0 e size v n xs) : Lies w v n xs := by
  rcases h.2 with ⟨h1, h2⟩ | ⟨g, cap, cur, h1, h3⟩
  · exact .inr ⟨h1, h2⟩
  · exact .inl ⟨_, cap, h1, fun j u hj => h.cells (g := g) (by rw [h1]; rfl) j u hj⟩
/-- a new block of one element's cells -/
theorem lies_new {w : World} {g : Nat} {news : List Value} {e : TypeId} (h : w.heap[g]? = some (.cells news.toArray e (0, 0))) : Lies w (.slice (some ⟨g, 0, none⟩) 1 1) 1 news := by
  refine .inl ⟨_, 1, rfl, fun j u hj => ?_⟩
  have := Blk.cell (w := w) (b := g) (c := news) (t := e) h j
  have e2 : (⟨g, 0, none⟩ : Addr).add j = ⟨g, j, none⟩ := by unfold Addr.add; split <;> simp_all
  rw [e2, this, hj]
/-- what two appends come to, the first one to a row just made -/
structure App2 (e : TypeId) (size : Nat) (n : Nat) (xs : List Value) (w : World) (v' : Value) (w' : World) : Prop where
  row : w'.ownsRow 0 e size v' n xs
  chg : Chg (fun _ => False) w w'
  lies : ∀ k, v'.ownBlock = some k → w.heap.size ≤ k
theorem app2_of {e : TypeId} {size n1 n2 : Nat} {xs1 xs2 : List Value} {w W1 w1 W2 w2 : World} {v0 v1 v2 : Value} (hc : Chg (fun _ => False) w W1) (hv0 : ∀ k, v0.ownBlock = some k → w.heap.size ≤ k) (A1 : Apped e size v0 n1 xs1 W1 v1 w1)
    (hc2 : Chg (fun _ => False) w1 W2) (A2 : Apped e size v1 n2 xs2 W2 v2 w2) : App2 e size n2 xs2 w v2 w2 := by
  have h1 : ∀ k, v1.ownBlock = some k → w.heap.size ≤ k := fun k hk => by
    rcases A1.lies k hk with h | h
    · exact hv0 k h
    · exact Nat.le_trans hc.size h
  refine ⟨A2.row, ((hc.trans' A1.chg (fun k hk h => by have := hv0 k h; omega)).trans hc2).trans' A2.chg (fun k hk h => by have := h1 k h; omega), fun k hk => ?_⟩
  rcases A2.lies k hk with h | h
  · exact h1 k h
  · exact Nat.le_trans (Nat.le_trans (Nat.le_trans hc.size A1.chg.size) hc2.size) h
theorem heap_two (w : World) (o o' : Obj) : ((w.alloc o).alloc o').heap[w.heap.size]? = some o := by
  rw [Go.RowKit.Below.heap_alloc (w.alloc o) o' w.heap.size (by simp)]; exact heap_alloc_new w o
theorem heap_two' (w : World) (o o' : Obj) : ((w.alloc o).alloc o').heap[w.heap.size + 1]? = some o' := by
  have := heap_alloc_new (w.alloc o) o'
  simpa using this
end Go
