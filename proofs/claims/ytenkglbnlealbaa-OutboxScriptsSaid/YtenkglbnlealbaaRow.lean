import Derived.Test.YtenkglbnlealbaaRng
import Derived.OwnWalkIn
/-! Appending to a row of one's own, one element at a time: where the row lies behind it. -/
namespace Go
variable {P : Program}
theorem append_block {w w' : World} {t ty e : TypeId} {i : TypeInfo} {z : Value} {size bytes : Nat} (ht : P.underlying t = some (.slice e)) (hi : P.info? e = some i) (hz : i.zero = some z)
    (hsize : i.size = size) (hby : i.bytes = bytes) {v v' : Value} {n : Nat} {xs : List Value} (hown : w.ownsRow 0 e size v n xs)
    {a : Addr} {m c : Nat} {news : List Value} (hl : news.length = m * size) (hnews : ∀ j u, news[j]? = some u → w.cell? (a.add j) = some u) (h1 : ∀ u ∈ news, u.oneCell' = true) (hm : 0 < m)
    (h63 : n + m ≤ maxLen) (hbytes : (n + m) * bytes ≤ 140737488355328) (hr : (Builtin.append_ #[t, t] ty #[v, .slice (some a) m c]).run P w = .ok v' w') :
    ∃ g cap, v' = .slice (some ⟨g, 0, none⟩) (n + m) cap ∧ (v.ownBlock = some g ∨ g = w.heap.size) := by
  subst hsize; subst hby
  have hsmall : n + m ≤ 9223372036854775807 := by simp only [maxLen] at h63; omega
  rcases hown.2 with ⟨rfl, rfl⟩ | ⟨g, cap, cur, rfl, _, hg, hnc, hcm, hcs, htake⟩
  · have hq := run_append_nil (P := P) w t ty e i z ht hi hz a m c news hl hnews hm (by omega) (by simp only [Nat.zero_add] at hbytes; omega)
    rw [hq] at hr
    injection hr with h2 h3
    exact ⟨w.heap.size, _, by rw [← h2, Nat.zero_add], .inr rfl⟩
  · by_cases hroom : n + m ≤ cap
    · have hfit : n * i.size + news.length ≤ cur.size := by rw [hl, hcs, ← Nat.add_mul]; exact Nat.mul_le_mul_right _ hroom
      have hq := run_append_room (P := P) w t ty e i ht hi g n cap cur hg a m c news hl hnews h1 hroom hfit
      rw [hq] at hr
      injection hr with h2 h3
      exact ⟨g, cap, h2.symm, .inl rfl⟩
    · have holds : ∀ j u, xs[j]? = some u → w.cell? ((⟨g, 0, none⟩ : Addr).add j) = some u := hown.cells (g := g) rfl
      have hq := run_append_grow (P := P) w t ty e i z ht hi hz ⟨g, 0, none⟩ n cap xs hown.1 holds a m c news hl hnews (by omega) (by omega) (growslice_fits (by omega) hbytes)
      rw [hq] at hr
      injection hr with h2 h3
      exact ⟨w.heap.size, _, h2.symm, .inr rfl⟩
/-- what 'x = append(x, y)' comes to, y one element: its cells lie in a new block -/
theorem row_append {A : World} {t e : TypeId} {i : TypeInfo} {z : Value} {size bytes : Nat} (ht : P.underlying t = some (.slice e)) (hi : P.info? e = some i) (hz : i.zero = some z)
    (hsize : i.size = size) (hby : i.bytes = bytes) (hzs : z.cells.size = size) (hsz : 0 < size) {v : Value} {n : Nat} {xs : List Value} (hown : A.ownsRow 0 e size v n xs)
    (news : List Value) (hl : news.length = size) (h1 : ∀ u ∈ news, u.oneCell' = true) (h63 : n + 1 ≤ maxLen) (hbytes : (n + 1) * bytes ≤ 140737488355328) :
    ∃ g cap w', (∀ ty, (Builtin.append_ #[t, t] ty #[v, .slice (some ⟨A.heap.size, 0, none⟩) 1 1]).run P (A.alloc (.cells news.toArray e)) = .ok (.slice (some ⟨g, 0, none⟩) (n + 1) cap) w') ∧
      w'.ownsRow 0 e size (.slice (some ⟨g, 0, none⟩) (n + 1) cap) (n + 1) (xs ++ news) ∧ Chg (fun k => v.ownBlock = some k) (A.alloc (.cells news.toArray e)) w' ∧ (v.ownBlock = some g ∨ g = A.heap.size + 1) := by
  have hown' : (A.alloc (.cells news.toArray e)).ownsRow 0 e size v n xs := hown.alloc _
  have hnews : ∀ j u, news[j]? = some u → (A.alloc (.cells news.toArray e)).cell? ((⟨A.heap.size, 0, none⟩ : Addr).add j) = some u := by
    intro j u hj
    have := (Blk.new A news e).cell j
    rw [hj] at this
    unfold Addr.add
    split
    · rename_i h0; subst h0; exact this
    · simpa using this
  obtain ⟨v', w', hr, h2, h3, _⟩ := run_append_own (P := P) (A.alloc (.cells news.toArray e)) 0 t 0 e i z size bytes ht hi hz hsize hby hzs hsz v n xs hown' ⟨A.heap.size, 0, none⟩ 1 1 news (by simpa using hl) hnews h1 h63 hbytes (Nat.zero_le _)
  obtain ⟨g, cap, rfl, hg⟩ := append_block ht hi hz hsize hby hown' (m := 1) (by simpa using hl) hnews h1 (by omega) h63 hbytes hr
  refine ⟨g, cap, w', fun ty => hr, h2, ⟨h3.os, h3.tape, h3.output, h3.size, fun k hk hs => h3.block k hk (fun e => hs e.symm)⟩, hg.imp id (fun h => by simpa using h)⟩
theorem World.ownsRow.keep {A B : World} {e : TypeId} {size : Nat} {v : Value} {n : Nat} {xs : List Value} (h : A.ownsRow 0 e size v n xs) {S : Nat → Prop} (hc : Chg S A B) (hS : ∀ k, v.ownBlock = some k → ¬ S k) : B.ownsRow 0 e size v n xs := by
  refine ⟨h.1, ?_⟩
  rcases h.2 with h2 | ⟨g, cap, cur, rfl, h3, h4, h5⟩
  · exact .inl h2
  · exact .inr ⟨g, cap, cur, rfl, h3, (hc.block g (Array.getElem?_eq_some_iff.1 h4).1 (hS g rfl)).trans h4, h5⟩
/-- an append that is known to run so -/
theorem wpListIn_append_run {F : Fence} {n : Nat} {ops : Array Oper} {rest : List Oper} {o : Oper} {a : Act} {Q : Exit → Act → World → Prop} {w w' : World} (hg : o.guard = none) (s x : Operand) (t : TypeId)
    (hop : o.op = Op.call { callee := Callee.builtin Builtin.append, args := #[s, x], argTypes := #[t, t] }) {v y v' : Value} (hs : a.eval s = v) (hx : a.eval x = y)
    (hrun : ∀ ty, (Builtin.append_ #[t, t] ty #[v, y]).run P w = .ok v' w') (hK : wpListIn F n P ops Q rest (a.put o.dst v') w') : wpListIn F n P ops Q (o :: rest) a w := by
  refine wpListIn_plain hg fun K hK' => ?_
  unfold Oper.wpIn
  refine ⟨?_, ?_⟩
  · simp [Oper.about, hop, resolve, Target.leads, Sem.run_pure]
  · rw [Oper.semAt_plain F _ _ (by rw [hop]; intro c hc'; cases hc')]
    simp [execOp, hop, resolve, invoke, builtin, hs, hx, hrun, Result.andThen]
    exact hK' _ _ hK
theorem wpList_append_run {ops : Array Oper} {rest : List Oper} {o : Oper} {a : Act} {Q : Exit → Act → World → Prop} {w w' : World} (hg : o.guard = none) (s x : Operand) (t : TypeId)
    (hop : o.op = Op.call { callee := Callee.builtin Builtin.append, args := #[s, x], argTypes := #[t, t] }) {v y v' : Value} (hs : a.eval s = v) (hx : a.eval x = y)
    (hrun : ∀ ty, (Builtin.append_ #[t, t] ty #[v, y]).run P w = .ok v' w') (hK : wpList P ops Q rest (a.put o.dst v') w') : wpList P ops Q (o :: rest) a w := by
  refine wpList_plain hg fun K hK' => ?_
  unfold Oper.wp
  simp [execOp, hop, resolve, invoke, builtin, hs, hx, hrun, Result.andThen]
  exact hK' _ _ hK
end Go
