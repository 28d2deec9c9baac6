import Derived.Test.YtenkglbnlealbaaLastQ
/-! The plain side of OutboxOnce. -/
namespace Go.Proofs.Ytenkglbnlealbaa
open Go.RowKit
/-- what is noted of one that is out: when it was told, of what address -/
def Noted1 (s o : Int → Option Int) (x : Msg × Int) : Prop := s x.1.xid = (if x.2 = -1 then none else some x.2) ∧ (x.2 ≠ -1 → o x.1.xid = some x.1.addr)
structure OInv (B : Box) (s o : Int → Option Int) (gn : Int → Option Bool) (now : Int) (i : Nat) : Prop where
  uniq : Uniq B
  small : B.small i
  now0 : 0 ≤ now
  now1 : now ≤ 3 * i
  noted : ∀ x ∈ B.L, Noted1 s o x
  fresh : ∀ n, B.X < n → s n = none
  gone : ∀ n, gn n = some true → n ≤ B.X ∧ ∀ x ∈ B.L, x.1.xid ≠ n
def upB (f : Int → Option Bool) (a : Int) (v : Bool) : Int → Option Bool := fun b => if b = a then some v else f b
section
variable {B : Box} {s o : Int → Option Int} {gn : Int → Option Bool} {now : Int} {i : Nat}
theorem OInv.start : OInv emptyBox (fun _ => none) (fun _ => none) (fun _ => none) 0 0 :=
  ⟨List.Pairwise.nil, small_empty, Int.le_refl _, Int.le_refl _, by simp [emptyBox], fun _ _ => rfl, by simp⟩
theorem OInv.put (I : OInv B s o gn now i) (m : Msg) : OInv (B.put m) s o gn now (i + 1) := by
  obtain ⟨Ln, h1, h2, h3, h4⟩ := put_new (B := B) m
  refine ⟨uniq_put I.uniq m, small_put m I.small, I.now0, by have := I.now1; omega, fun x hx => ?_, fun n hn => I.fresh n (by omega), fun n hn => ?_⟩
  · rw [h1] at hx
    rcases List.mem_append.1 hx with hx | hx
    · exact I.noted x hx
    · obtain ⟨e1, e2, _⟩ := h2 x hx
      refine ⟨?_, fun h => absurd e2 h⟩
      rw [if_pos e2, e1]
      exact I.fresh _ (by omega)
  · obtain ⟨k1, k2⟩ := I.gone n hn
    refine ⟨by omega, fun x hx => ?_⟩
    rw [h1] at hx
    rcases List.mem_append.1 hx with hx | hx
    · exact k2 x hx
    · have := (h2 x hx).1; omega
theorem OInv.acked (I : OInv B s o gn now i) (hr : Rise B) (n : Int) :
    ((B.find n).isSome = true → (gn n).getD false = false) ∧ OInv (B.acked n) s o (upB gn n ((gn n).getD false || (B.find n).isSome)) now (i + 1) := by
  cases hf : B.find n with
  | none =>
    rw [acked_none hf]
    refine ⟨(fun h => by cases h), I.uniq, small_mono I.small (Nat.le_succ _), I.now0, by have := I.now1; omega, I.noted, I.fresh, fun k hk => ?_⟩
    unfold upB at hk
    by_cases e : k = n
    · rw [if_pos e] at hk
      simp at hk
      refine I.gone k ?_
      rw [e]
      cases hg : gn n with
      | none => rw [hg] at hk; cases hk
      | some v => rw [hg] at hk; simpa using hk
    · rw [if_neg e] at hk
      exact I.gone k hk
  | some m =>
    obtain ⟨A, t, C, Ln, hL, hn, h1, h2, h3, h4, _⟩ := acked_new hr hf
    have hm : (m, t) ∈ B.L := by rw [hL]; simp
    have sub : ∀ x ∈ (B.acked n).L, (x ∈ B.L ∧ x.1.xid ≠ n) ∨ x.1.xid = B.X + 1 ∧ x.2 = -1 := by
      intro x hx
      have hp := hr.1
      rw [hL, List.pairwise_append] at hp
      rw [h1] at hx
      rcases List.mem_append.1 hx with hx | hx
      · refine .inl ?_
        rw [hL]
        rcases List.mem_append.1 hx with hx | hx
        · refine ⟨List.mem_append_left _ hx, ?_⟩
          have := hp.2.2 x hx _ (List.mem_cons_self ..)
          simp only at this; omega
        · refine ⟨List.mem_append_right _ (List.mem_cons_of_mem _ hx), ?_⟩
          have := (List.pairwise_cons.1 hp.2.1).1 x hx
          simp only at this; omega
      · exact .inr ⟨(h2 x hx).1, (h2 x hx).2.1⟩
    have hnX : n ≤ B.X := by have := (hr.2 _ hm).1; simp only at this; omega
    refine ⟨fun _ => ?_, uniq_acked hr I.uniq hf, small_mono (small_acked _ I.small) (Nat.le_succ _), I.now0, by have := I.now1; omega, fun x hx => ?_, fun k hk => I.fresh k (by omega), fun k hk => ?_⟩
    · cases hg : gn n with
      | none => rfl
      | some v =>
        cases v with
        | false => rfl
        | true => exact absurd hn ((I.gone n hg).2 _ hm)
    · rcases sub x hx with hx | hx
      · exact I.noted x hx.1
      · refine ⟨?_, fun h => absurd hx.2 h⟩
        rw [if_pos hx.2, hx.1]
        exact I.fresh _ (by omega)
    · unfold upB at hk
      by_cases e : k = n
      · refine ⟨by omega, fun x hx => ?_⟩
        rcases sub x hx with hx | hx
        · rw [e]; exact hx.2
        · omega
      · rw [if_neg e] at hk
        obtain ⟨k1, k2⟩ := I.gone k hk
        refine ⟨by omega, fun x hx => ?_⟩
        rcases sub x hx with hx | hx
        · exact k2 x hx.1
        · omega
/-- in a tick's round: those of T are yet to be noted -/
structure OTick (B : Box) (s o : Int → Option Int) (gn : Int → Option Bool) (now : Int) (i : Nat) (T : List Msg) : Prop where
  uniq : Uniq B
  rise : Rise B
  small : B.small i
  now0 : 0 ≤ now
  now1 : now ≤ 3 * i
  noted : ∀ x ∈ B.L, x.1 ∈ T ∨ Noted1 s o x
  todo : ∀ m ∈ T, (m, now) ∈ B.L ∧ (s m.xid = none ∨ ∃ t, s m.xid = some t ∧ 3 ≤ now - t ∧ -1 ≤ t ∧ o m.xid = some m.addr)
  order : T.Pairwise fun x y => x.xid < y.xid
  fresh : ∀ n, B.X < n → s n = none
  gone : ∀ n, gn n = some true → n ≤ B.X ∧ ∀ x ∈ B.L, x.1.xid ≠ n
theorem rise_fst {B B' : Box} (h : B'.L.map (·.1) = B.L.map (·.1)) (hX : B'.X = B.X) (hu : Rise B) : Rise B' := by
  obtain ⟨h1, h2⟩ := hu
  refine ⟨?_, fun x hx => ?_⟩
  · have key : ∀ L : List (Msg × Int), (L.Pairwise fun x y => x.1.xid < y.1.xid) ↔ (L.map (·.1)).Pairwise fun x y => x.xid < y.xid := by
      intro L; rw [List.pairwise_map]
    rw [key] at *
    rwa [h]
  · have : x.1 ∈ B'.L.map (·.1) := List.mem_map.2 ⟨x, hx, rfl⟩
    rw [h] at this
    obtain ⟨y, hy, e⟩ := List.mem_map.1 this
    rw [← e, hX]
    exact h2 y hy
theorem OInv.tick (I : OInv B s o gn now i) (hr : Rise B) (hs : ∀ x ∈ B.L, -1 ≤ x.2) (d : Int) (d0 : 0 ≤ d) (d1 : d ≤ 3) : OTick (B.tick (now + d)) s o gn (now + d) (i + 1) (B.told (now + d)) := by
  refine ⟨uniq_fst (tick_fst _) I.uniq, rise_fst (tick_fst _) rfl hr, small_mono (small_tick _ I.small) (Nat.le_succ _), by have := I.now0; omega, by have := I.now1; omega, fun x hx => ?_, fun m hm => ⟨told_mem hm, ?_⟩, ?_, I.fresh, fun n hn => ⟨(I.gone n hn).1, fun x hx => ?_⟩⟩
  · obtain ⟨y, hy, e, ⟨hd, hs'⟩ | ⟨hd, hs'⟩⟩ := tick_mem hx
    · rw [e]; exact .inl (due_told hy hd)
    · refine .inr ?_
      have := I.noted y hy
      unfold Noted1 at this ⊢
      rw [e, hs']; exact this
  · unfold Box.told at hm
    obtain ⟨y, hy, rfl⟩ := List.mem_map.1 hm
    obtain ⟨h1, h2⟩ := List.mem_filter.1 hy
    have hn := I.noted y h1
    unfold Noted1 at hn
    by_cases e : y.2 = -1
    · rw [if_pos e] at hn
      exact .inl hn.1
    · rw [if_neg e] at hn
      refine .inr ⟨y.2, hn.1, ?_, hs y h1, hn.2 e⟩
      unfold due at h2
      simp [e] at h2
      exact h2
  · unfold Box.told
    rw [List.pairwise_map]
    exact List.Pairwise.filter _ hr.1
  · obtain ⟨y, hy, e, _⟩ := tick_mem hx
    rw [e]
    exact (I.gone n hn).2 y hy
theorem OTick.note {m : Msg} {T : List Msg} (I : OTick B s o gn now i (m :: T)) : OTick B (upF s m.xid now) (upF o m.xid m.addr) gn now i T := by
  obtain ⟨hm, _⟩ := I.todo m (List.mem_cons_self ..)
  have hord := List.pairwise_cons.1 I.order
  refine ⟨I.uniq, I.rise, I.small, I.now0, I.now1, fun x hx => ?_, fun k hk => ⟨(I.todo k (List.mem_cons_of_mem _ hk)).1, ?_⟩, hord.2, fun n hn => ?_, I.gone⟩
  · by_cases e : x.1.xid = m.xid
    · have : x = (m, now) := pair_unique (f := fun x : Msg × Int => x.1.xid) (I.rise.1.imp (fun h => by omega)) hx hm e
      subst this
      refine .inr ⟨?_, fun _ => upF_same ..⟩
      rw [if_neg (by have := I.now0; simp only; omega)]
      exact upF_same ..
    · rcases I.noted x hx with h | h
      · rcases List.mem_cons.1 h with h | h
        · exact absurd (by rw [h]) e
        · exact .inl h
      · refine .inr ?_
        unfold Noted1 at h ⊢
        rw [upF_other _ _ e, upF_other _ _ e]
        exact h
  · have hne : k.xid ≠ m.xid := by have := hord.1 k hk; omega
    rw [upF_other _ _ hne, upF_other _ _ hne]
    exact (I.todo k (List.mem_cons_of_mem _ hk)).2
  · rw [upF_other]
    · exact I.fresh n hn
    · have := (I.rise.2 _ hm).1; simp only at this; omega
theorem OTick.done (I : OTick B s o gn now i []) : OInv B s o gn now i :=
  ⟨I.uniq, I.small, I.now0, I.now1, fun x hx => by rcases I.noted x hx with h | h; cases h; exact h, I.fresh, I.gone⟩
/-- what the law asks of a message that is told -/
theorem OTick.asks {m : Msg} {T : List Msg} (I : OTick B s o gn now i (m :: T)) : (gn m.xid).getD false = false ∧ 1 ≤ m.xid ∧ m.xid ≤ B.X ∧ (s m.xid = none ∨ ∃ t, s m.xid = some t ∧ 3 ≤ now - t ∧ -1 ≤ t ∧ o m.xid = some m.addr) := by
  obtain ⟨hm, h⟩ := I.todo m (List.mem_cons_self ..)
  have hr := I.rise.2 _ hm
  refine ⟨?_, hr.2, hr.1, h⟩
  cases hg : gn m.xid with
  | none => rfl
  | some v =>
    cases v with
    | false => rfl
    | true => exact absurd rfl ((I.gone _ hg).2 _ hm)
theorem told_uniq (hu : Uniq B) (now : Int) : (B.told now).Pairwise fun x y => x.addr ≠ y.addr := by
  unfold Box.told
  rw [List.pairwise_map]
  exact List.Pairwise.filter _ hu
end
theorem Boxed.sents {base : Nat} {own : List Nat} {w : World} {b : Nat} {B : Box} (h : Boxed base own w b B) : ∀ x ∈ B.L, -1 ≤ x.2 := by
  obtain ⟨l, _, ⟨mo, mf, mq, hl⟩, _⟩ := h
  exact fun x hx => (hl.sents x hx).1
end Go.Proofs.Ytenkglbnlealbaa
