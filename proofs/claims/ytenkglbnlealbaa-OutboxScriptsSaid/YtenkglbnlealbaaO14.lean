import Derived.Test.YtenkglbnlealbaaO13
namespace Go.Proofs.Ytenkglbnlealbaa
open Go.RowKit
section
variable {w w' : World} {l : Place} {B : Box} {mo mf mq : Array MapEntry × Nat} {now : Int}
theorem upto_succ {i : Nat} (hi : i < B.L.length) : (B.upto now (i + 1)).L = (B.L.take i).map (tick1 now) ++ tick1 now B.L[i] :: B.L.drop (i + 1) := by
  unfold Box.upto
  simp only []
  rw [List.take_succ_eq_append_getElem hi]
  simp only [List.map_append, List.map_cons, List.map_nil, List.append_assoc, List.cons_append, List.nil_append]
theorem upto_at {i : Nat} (hi : i < B.L.length) : (B.upto now i).L = (B.L.take i).map (tick1 now) ++ B.L[i] :: B.L.drop (i + 1) := by
  unfold Box.upto
  simp only []
  rw [List.getElem_cons_drop]
theorem tick1_fst (x : Msg × Int) : (tick1 now x).1 = x.1 := by unfold tick1; split <;> rfl
theorem zip_fsts {L L' : List (Msg × Int)} (h : L.map (·.1) = L'.map (·.1)) (ps : List Nat) : (L.zip ps).map (fun x => (x.1.1.xid, ptr x.2)) = (L'.zip ps).map fun x => (x.1.1.xid, ptr x.2) := by
  have : ∀ M : List (Msg × Int), (M.zip ps).map (fun x => (x.1.1.xid, ptr x.2)) = ((M.map (·.1)).zip ps).map fun x => (x.1.xid, ptr x.2) := by
    intro M
    rw [List.zip_map_left, List.map_map]; rfl
  rw [this, this, h]
theorem Place.Ok.send {i : Nat} (h : l.Ok w (B.upto now i) mo mf mq) (hi : i < B.L.length) (hp : i < l.ps.length) (hd : due now B.L[i] = true) {S : Nat → Prop} (hc : Chg S w w') (hS : ∀ k, l.has k → k ≠ l.ps[i] → ¬ S k)
    (hb : Blk w' l.ps[i] (B.L[i].1.cells ++ [.int .i64 now]) 75) (n0 : 0 ≤ now) (n1 : now ≤ 1099511627776) : l.Ok w' (B.upto now (i + 1)) mo mf mq := by
  have e0 := upto_at (B := B) (now := now) hi
  have e1 := upto_succ (B := B) (now := now) hi
  have et : tick1 now B.L[i] = (B.L[i].1, now) := by unfold tick1; rw [if_pos hd]
  have ef : (B.upto now (i + 1)).L.map (·.1) = (B.upto now i).L.map (·.1) := by
    rw [e0, e1]; simp only [List.map_append, List.map_cons, tick1_fst]
  have hl : (B.upto now (i + 1)).L.length = (B.upto now i).L.length := by have := congrArg List.length ef; simpa using this
  have hpb : l.ps[i] ≠ l.b ∧ l.ps[i] ≠ l.o ∧ l.ps[i] ≠ l.f ∧ l.ps[i] ≠ l.q := by
    have := h.ps_core (List.getElem_mem hp)
    exact ⟨fun e => this (.inl e), fun e => this (.inr (.inl e)), fun e => this (.inr (.inr (.inl e))), fun e => this (.inr (.inr (.inr e)))⟩
  have hXX : (B.upto now (i + 1)).X = (B.upto now i).X := rfl
  have hWW : (B.upto now (i + 1)).W = (B.upto now i).W := rfl
  refine ⟨?_, ?_, ?_, ?_, h.of, h.oq, h.fq, by rw [h.len, hl], h.nodup, ?_, ?_, ?_, ?_, ?_, ?_, h.x0, h.x1, ?_⟩
  · exact hc.blk h.head (hS _ (.inl rfl) hpb.1.symm)
  · exact hc.map h.ho (hS _ (.inr (.inl rfl)) hpb.2.1.symm)
  · exact hc.map h.hf (hS _ (.inr (.inr (.inl rfl))) hpb.2.2.1.symm)
  · exact hc.map h.hq (hS _ (.inr (.inr (.inr (.inl rfl)))) hpb.2.2.2.symm)
  · rw [zip_fsts ef]; exact h.io
  · have : (B.upto now (i + 1)).L.map (fun x => (x.1.addr, Value.int .i64 x.1.xid)) = (B.upto now i).L.map (fun x => (x.1.addr, Value.int .i64 x.1.xid)) := by
      have := congrArg (List.map fun m : Msg => (m.addr, Value.int .i64 m.xid)) ef
      rw [List.map_map, List.map_map] at this
      exact this
    rw [this]; exact h.if_
  · exact h.iq
  · intro x hx
    obtain ⟨j, hj, rfl⟩ := List.mem_iff_getElem.1 hx
    simp only [List.length_zip] at hj
    rw [List.getElem_zip]
    simp only []
    by_cases hji : j = i
    · subst hji
      have : (B.upto now (j + 1)).L[j]'(by omega) = (B.L[j].1, now) := by
        simp only [e1, List.getElem_append]
        have : ¬ j < ((B.L.take j).map (tick1 now)).length := by simp; omega
        rw [dif_neg this]
        simp [et, Nat.min_eq_left (Nat.le_of_lt hi)]
      rw [this]
      exact hb
    · have hj' : j < (B.upto now i).L.length := by omega
      have same : (B.upto now (i + 1)).L[j]'(by omega) = (B.upto now i).L[j] := by
        simp only [e0, e1, List.getElem_append]
        split
        · rfl
        · rename_i hge
          simp at hge
          have hij : i < j := by omega
          have hk : j - ((B.L.take i).map (tick1 now)).length = (j - i - 1) + 1 := by simp; omega
          simp only [hk, List.getElem_cons_succ]
      have hmem : ((B.upto now i).L[j], l.ps[j]'(by omega)) ∈ (B.upto now i).L.zip l.ps := by
        rw [List.mem_iff_getElem]
        exact ⟨j, by simp; omega, by simp⟩
      have hold := h.outs _ hmem
      rw [same]
      refine hc.blk hold (hS _ (.inr (.inr (.inr (.inr (List.getElem_mem _))))) ?_)
      intro e
      have hnd := List.pairwise_iff_getElem.1 h.nodup
      rcases Nat.lt_or_ge j i with hlt | hge
      · exact hnd j i (by omega) (by omega) hlt e
      · exact hnd i j (by omega) (by omega) (by omega) e.symm
  · have := h.rise
    have e : ∀ L : List (Msg × Int), L.Pairwise (fun x y => x.1.xid < y.1.xid) ↔ (L.map (·.1)).Pairwise (fun x y => x.xid < y.xid) := fun L => by rw [List.pairwise_map]
    rw [e, ef, ← e]; exact this
  · intro x hx
    have hm : x.1 ∈ (B.upto now (i + 1)).L.map (·.1) := List.mem_map.2 ⟨x, hx, rfl⟩
    rw [ef] at hm
    obtain ⟨y, hy, e⟩ := List.mem_map.1 hm
    have := h.low y hy
    simp only [e] at this
    exact this
  · intro x hx
    rw [e1] at hx
    rcases List.mem_append.1 hx with hx | hx
    · exact h.sents x (by rw [e0]; exact List.mem_append_left _ hx)
    · rcases List.mem_cons.1 hx with rfl | hx
      · rw [et]; simp; omega
      · exact h.sents x (by rw [e0]; exact List.mem_append_right _ (List.mem_cons_of_mem _ hx))
theorem dues_mono {i j : Nat} (hij : i ≤ j) (hj : j ≤ B.L.length) (hl : l.ps.length = B.L.length) (h : dues B l now i = dues B l now j) : B.upto now i = B.upto now j := by
  induction j with
  | zero => have : i = 0 := by omega
            subst this; rfl
  | succ j ih =>
    by_cases e : i = j + 1
    · rw [e]
    · have hs := dues_step (B := B) (l := l) (now := now) (i := j) (by omega) hl
      have hmono : (dues B l now i).length ≤ (dues B l now j).length := by
        unfold dues
        rw [List.length_map, List.length_map]
        have : ((B.L.zip l.ps).take i) = ((B.L.zip l.ps).take j).take i := by rw [List.take_take, Nat.min_eq_left (by omega)]
        rw [this]
        exact ((List.take_sublist i _).filter _).length_le
      have hlen := congrArg List.length h
      rw [hs] at hlen
      by_cases hd : due now B.L[j] = true
      · simp [hd] at hlen; omega
      · have hd' : due now (B.L[j]'(by omega)) = false := by simpa using hd
        rw [upto_same (by omega) hd']
        refine ih (by omega) (by omega) ?_
        rw [h, hs]
        simp [hd']
end
end Go.Proofs.Ytenkglbnlealbaa
