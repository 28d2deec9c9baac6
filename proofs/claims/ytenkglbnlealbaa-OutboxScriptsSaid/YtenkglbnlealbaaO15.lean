import Derived.Test.YtenkglbnlealbaaO14
namespace Go.Proofs.Ytenkglbnlealbaa
open Go.RowKit
attribute [local go_sem] Oper.semAt_some
theorem Try.infoMsg : (Try.prog.info? 35).map (fun i => (i.zero, i.size, i.bytes)) = some (some noMsg.val, 11, 96) := by kernel_rfl
def toldz (B : Box) (l : Place) (now : Int) (i : Nat) : List ((Msg × Int) × Nat) := ((B.L.zip l.ps).take i).filter (fun z => due now z.1)
def tolds (B : Box) (l : Place) (now : Int) (i : Nat) : List Msg := (toldz B l now i).map (·.1.1)
section
variable {B : Box} {l : Place} {now : Int} {mo mf mq : Array MapEntry × Nat}
theorem dues_toldz (i : Nat) : dues B l now i = (toldz B l now i).map (fun z => ptr z.2) := rfl
theorem toldz_step {i : Nat} (hi : i < B.L.length) (hl : l.ps.length = B.L.length) (hd : due now B.L[i] = true) : toldz B l now (i + 1) = toldz B l now i ++ [(B.L[i], l.ps[i]'(by omega))] := by
  unfold toldz
  have hz : i < (B.L.zip l.ps).length := by simp; omega
  rw [List.take_succ_eq_append_getElem hz, List.filter_append]
  simp [hd]
theorem toldz_same {i j : Nat} (h : dues B l now i = dues B l now j) : toldz B l now i = toldz B l now j := by
  have hlen : (toldz B l now i).length = (toldz B l now j).length := by
    have := congrArg List.length h
    rwa [dues_toldz, dues_toldz, List.length_map, List.length_map] at this
  have key : ∀ i j, i ≤ j → (toldz B l now i).length = (toldz B l now j).length → toldz B l now i = toldz B l now j := by
    intro i j hij hl
    refine List.Sublist.eq_of_length ?_ hl
    unfold toldz
    have : ((B.L.zip l.ps).take i) = ((B.L.zip l.ps).take j).take i := by rw [List.take_take, Nat.min_eq_left hij]
    rw [this]
    exact (List.take_sublist i _).filter _
  rcases Nat.le_total i j with hij | hij
  · exact key i j hij hlen
  · exact (key j i hij hlen.symm).symm
theorem upto_dues {i j : Nat} (hi : i ≤ B.L.length) (hj : j ≤ B.L.length) (hl : l.ps.length = B.L.length) (h : dues B l now i = dues B l now j) : B.upto now i = B.upto now j := by
  rcases Nat.le_total i j with hij | hij
  · exact dues_mono hij hj hl h
  · exact (dues_mono hij hi hl h.symm).symm
/-- what is told in the end -/
def Box.told (B : Box) (now : Int) : List Msg := (B.L.filter (due now)).map (·.1)
theorem tolds_all (hl : l.ps.length = B.L.length) : tolds B l now B.L.length = B.told now := by
  unfold tolds toldz Box.told
  rw [List.take_of_length_le (by simp; omega)]
  have : ∀ (L : List (Msg × Int)) (ps : List Nat), ps.length = L.length → ((L.zip ps).filter (fun z => due now z.1)).map (·.1.1) = (L.filter (due now)).map (·.1) := by
    intro L
    induction L with
    | nil => intro ps h; simp
    | cons x L ih =>
      intro ps h
      cases ps with
      | nil => simp at h
      | cons p ps =>
        simp only [List.zip_cons_cons, List.filter_cons]
        simp at h
        split
        · simp only [List.map_cons]; rw [ih ps h]
        · exact ih ps h
  exact this _ _ hl
end
/-- between two rounds of 'Tick' -/
structure Ticks (now : Int) (l : Place) (B : Box) (mo mf mq : Array MapEntry × Nat) (s : Nat) (pre : List Value) (own : List Nat) (A : World) : Prop where
  it : ∃ v i, i ≤ B.L.length ∧ pre = dues B l now i ∧ Blk A (s + 1) [v] 39 ∧ A.ownsRow 0 35 11 v (tolds B l now i).length ((tolds B l now i).flatMap Msg.cells) ∧ own = (s + 1) :: (v.ownBlock.toList ++ l.ps) ∧
    (∀ k, v.ownBlock = some k → s + 1 < k ∧ k < A.heap.size) ∧ l.Ok A (B.upto now i) mo mf mq
  box : A.cell? ⟨s, 0, none⟩ = some (.int .i64 now)
  low : ∀ k, l.has k → k < s
theorem Ticks.fine (now : Int) (l : Place) (B : Box) (mo mf mq : Array MapEntry × Nat) (s base : Nat) (hb : s + 2 ≤ base) : Inv.Fine (Ticks now l B mo mf mq s) base := by
  refine ⟨?_, ?_⟩
  · rintro pre own A A' ⟨⟨v, i, hi, hp, h1, h2, rfl, h3, h4⟩, hbx, hlow⟩ hc
    refine ⟨⟨v, i, hi, hp, hc.blk h1 (fun h => by omega), h2.keep hc (fun k hk h => h.2 (by simp [hk])), rfl, fun k hk => ?_, h4.keep hc (fun k hk h => ?_)⟩, hc.cell hbx (fun h => by simp only at h; omega), hlow⟩
    · have := h3 k hk
      exact ⟨this.1, Nat.lt_of_lt_of_le this.2 hc.size⟩
    · have := hlow k hk; omega
  · rintro pre own A ⟨⟨v, i, hi, hp, h1, h2, rfl, h3, h4⟩, hbx, hlow⟩ k hk
    rcases List.mem_cons.1 hk with rfl | hk
    · exact h1.lt
    · rcases List.mem_append.1 hk with hk | hk
      · exact (h3 k (by simpa using hk)).2
      · exact h4.lt (.inr (.inr (.inr (.inr hk))))
end Go.Proofs.Ytenkglbnlealbaa
