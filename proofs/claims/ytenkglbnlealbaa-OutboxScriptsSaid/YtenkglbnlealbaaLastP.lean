import Derived.Test.YtenkglbnlealbaaO21
/-! The plain side of OutboxLast. -/
namespace Go.Proofs.Ytenkglbnlealbaa
open Go.RowKit
/-- what is out of an address -/
def Box.at_ (B : Box) (a : Int) : Option Msg := (B.L.find? fun x => x.1.addr == a).map (·.1)
/-- what was put last of an address, as far as box and tellings know -/
def Box.last (B : Box) (g : Int → Option Int) (a : Int) : Option Int := match B.wait a with
  | some m => some m.pot
  | none => match B.at_ a with
    | some m => some m.pot
    | none => g a
def upF (f : Int → Option Int) (a v : Int) : Int → Option Int := fun b => if b = a then some v else f b
theorem upF_same (f : Int → Option Int) (a v : Int) : upF f a v a = some v := if_pos rfl
theorem upF_other (f : Int → Option Int) {a b : Int} (v : Int) (h : b ≠ a) : upF f a v b = f b := if_neg h
def Uniq (B : Box) : Prop := B.L.Pairwise fun x y => x.1.addr ≠ y.1.addr
def Rise (B : Box) : Prop := (B.L.Pairwise fun x y => x.1.xid < y.1.xid) ∧ ∀ x ∈ B.L, x.1.xid ≤ B.X ∧ 1 ≤ x.1.xid
theorem pw_one {α : Type} {R : α → α → Prop} {l : List α} (h : l.length ≤ 1) : l.Pairwise R := by
  cases l with
  | nil => exact List.Pairwise.nil
  | cons y l =>
    cases l with
    | nil => exact List.pairwise_singleton ..
    | cons z l => simp at h
section
variable {B : Box}
theorem at_mem (hu : Uniq B) {x : Msg × Int} (hx : x ∈ B.L) : B.at_ x.1.addr = some x.1 := by
  unfold Box.at_ Uniq at *
  induction h : B.L generalizing B with
  | nil => rw [h] at hx; cases hx
  | cons y l ih =>
    rw [h] at hu hx
    rw [List.find?_cons]
    rcases List.mem_cons.1 hx with rfl | hx
    · simp
    · have := (List.pairwise_cons.1 hu).1 x hx
      have e : (y.1.addr == x.1.addr) = false := by simpa using this
      rw [e]
      exact ih (B := ⟨l, B.W, B.X⟩) (List.pairwise_cons.1 hu).2 hx rfl
theorem at_none {a : Int} (h : ∀ x ∈ B.L, x.1.addr ≠ a) : B.at_ a = none := by
  unfold Box.at_
  rw [List.find?_eq_none.2]
  · rfl
  · intro x hx; simpa using h x hx
theorem at_some {a : Int} {m : Msg} (h : B.at_ a = some m) : ∃ s, (m, s) ∈ B.L ∧ m.addr = a := by
  unfold Box.at_ at h
  obtain ⟨x, hx, rfl⟩ := Option.map_eq_some_iff.1 h
  exact ⟨x.2, List.mem_of_find?_eq_some hx, by simpa using List.find?_some hx⟩
theorem out_at (a : Int) : B.out a = (B.at_ a).isSome := by
  unfold Box.out Box.at_
  rw [Option.isSome_map, Bool.eq_iff_iff, List.any_eq_true, List.find?_isSome]
theorem find_split (hr : Rise B) {n : Int} {m : Msg} (hf : B.find n = some m) : ∃ A s C, B.L = A ++ (m, s) :: C ∧ m.xid = n ∧ (B.acked1 n).L = A ++ C := by
  unfold Box.find at hf
  obtain ⟨x, hx, rfl⟩ := Option.map_eq_some_iff.1 hf
  obtain ⟨hp, A, C, hL, hA⟩ := List.find?_eq_some_iff_append.1 hx
  have hxn : x.1.xid = n := by simpa using hp
  refine ⟨A, x.2, C, hL, hxn, ?_⟩
  have h1 := hr.1
  rw [hL, List.pairwise_append] at h1
  have hC : ∀ y ∈ C, (y.1.xid != n) = true := fun y hy => by
    have := (List.pairwise_cons.1 h1.2.1).1 y hy
    simp; omega
  have hA' : ∀ y ∈ A, (y.1.xid != n) = true := fun y hy => by have := hA y hy; simpa using this
  unfold Box.acked1
  simp only [hL]
  rw [List.filter_append, List.filter_eq_self.2 hA', List.filter_cons, if_neg (by simp [hxn]), List.filter_eq_self.2 hC]
theorem wait_filter (W : List Msg) (a b : Int) : (W.filter fun m => m.addr != a).find? (fun m => m.addr == b) = if b = a then none else W.find? (fun m => m.addr == b) := by
  split
  · rename_i h
    subst h
    rw [List.find?_eq_none]
    intro x hx
    have := (List.mem_filter.1 hx).2
    simpa using this
  · rename_i h
    rw [List.find?_filter]
    congr 1
    funext m
    by_cases e : m.addr = b
    · simp [e, h]
    · simp [e]
/-- what 'goes' does, address by address -/
theorem goes_view {a : Int} (hX : B.X < 1073741824) (ho : B.out a = false) (b : Int) :
    (B.goes a).wait b = (if b = a then none else B.wait b) ∧ (B.goes a).at_ b = (if b = a then (B.wait a).map (fun m => { m with xid := B.X + 1 }) else B.at_ b) := by
  unfold Box.goes
  cases hw : B.wait a with
  | none =>
    simp only
    refine ⟨?_, ?_⟩
    · split
      · rename_i h; rw [h, hw]
      · rfl
    · split
      · rename_i h; rw [h]; rw [out_at] at ho; simpa using ho
      · rfl
  | some m =>
    have hma : m.addr = a := by simpa using List.find?_some hw
    simp only
    rw [if_neg (by rintro (h | h); rw [ho] at h; cases h; omega)]
    refine ⟨wait_filter _ _ _, ?_⟩
    unfold Box.at_
    simp only [List.find?_append, List.find?_cons, List.find?_nil]
    by_cases h : b = a
    · rw [if_pos h]
      subst h
      rw [out_at] at ho
      unfold Box.at_ at ho
      rw [Option.isSome_map] at ho
      have : B.L.find? (fun x => x.1.addr == b) = none := by simpa using ho
      rw [this]
      simp [hma]
    · rw [if_neg h]
      have e : (m.addr == b) = false := by rw [hma]; simpa using fun h' => h h'.symm
      simp only [e]
      cases B.L.find? (fun x => x.1.addr == b) <;> simp
theorem goes_same {a : Int} (h : B.out a = true) : B.goes a = B := by
  unfold Box.goes
  split
  · rfl
  · rw [if_pos (.inl h)]
theorem put1_at (m : Msg) (b : Int) : (B.put1 m).at_ b = B.at_ b := rfl
theorem put1_wait' (m : Msg) (b : Int) : (B.put1 m).wait b = if b = m.addr then some m else B.wait b := by
  split
  · rename_i h; rw [h, put1_wait]
  · rename_i h
    unfold Box.put1 Box.wait
    simp only [List.find?_append, wait_filter, if_neg h, List.find?_cons, List.find?_nil]
    have e : (m.addr == b) = false := by simpa using fun h' => h h'.symm
    rw [e]
    cases B.W.find? (fun m => m.addr == b) <;> rfl
theorem put_view (hX : B.X < 1073741824) (m : Msg) (b : Int) :
    (B.put m).wait b = (if b = m.addr then (if B.out m.addr = true then some m else none) else B.wait b) ∧
    (B.put m).at_ b = (if b = m.addr then (if B.out m.addr = true then B.at_ b else some { m with xid := B.X + 1 }) else B.at_ b) := by
  unfold Box.put
  by_cases ho : B.out m.addr = true
  · rw [goes_same (B := B.put1 m) ho, put1_wait', if_pos ho, if_pos ho, put1_at]
    refine ⟨rfl, ?_⟩
    by_cases hb : b = m.addr
    · rw [if_pos hb]
    · rw [if_neg hb]
  · have ho' : (B.put1 m).out m.addr = false := (Bool.not_eq_true _).mp ho
    obtain ⟨h1, h2⟩ := goes_view (B := B.put1 m) (a := m.addr) hX ho' b
    rw [h1, h2, put1_wait, put1_wait', if_neg ho, if_neg ho, put1_at]
    refine ⟨?_, rfl⟩
    by_cases hb : b = m.addr
    · rw [if_pos hb, if_pos hb]
    · rw [if_neg hb, if_neg hb, if_neg hb]
theorem acked_view (hr : Rise B) (hu : Uniq B) (hX : B.X < 1073741824) {n : Int} {m : Msg} (hf : B.find n = some m) (b : Int) :
    (B.acked n).wait b = (if b = m.addr then none else B.wait b) ∧ (B.acked n).at_ b = (if b = m.addr then (B.wait m.addr).map (fun m => { m with xid := B.X + 1 }) else B.at_ b) := by
  obtain ⟨A, s, C, hL, hn, h1⟩ := find_split hr hf
  have hu' := hu
  unfold Uniq at hu'
  rw [hL, List.pairwise_append] at hu'
  have hA : ∀ x ∈ A, x.1.addr ≠ m.addr := fun x hx => hu'.2.2 x hx _ (List.mem_cons_self ..)
  have hC : ∀ x ∈ C, x.1.addr ≠ m.addr := fun x hx => Ne.symm ((List.pairwise_cons.1 hu'.2.1).1 x hx)
  have ho : (B.acked1 n).out m.addr = false := by
    rw [out_at, at_none]
    · rfl
    · intro x hx
      rw [h1] at hx
      rcases List.mem_append.1 hx with hx | hx
      · exact hA x hx
      · exact hC x hx
  have e : B.acked n = (B.acked1 n).goes m.addr := by unfold Box.acked; rw [hf]
  obtain ⟨g1, g2⟩ := goes_view (B := B.acked1 n) hX ho b
  rw [e, g1, g2]
  refine ⟨rfl, ?_⟩
  split
  · rfl
  · rename_i hb
    unfold Box.at_
    rw [h1, hL]
    simp only [List.find?_append, List.find?_cons]
    have : (m.addr == b) = false := by simpa using fun h => hb h.symm
    rw [this]
theorem last_put (hX : B.X < 1073741824) {f g : Int → Option Int} (h : ∀ a, f a = B.last g a) (m : Msg) : ∀ a, upF f m.addr m.pot a = (B.put m).last g a := by
  intro a
  obtain ⟨h1, h2⟩ := put_view hX m a
  unfold Box.last
  rw [h1, h2]
  by_cases ha : a = m.addr
  · rw [if_pos ha, if_pos ha, ha, upF_same]
    by_cases ho : B.out m.addr = true
    · simp [ho]
    · simp [ho]
  · rw [if_neg ha, if_neg ha, upF_other _ _ ha, h a]; rfl
theorem last_acked (hr : Rise B) (hu : Uniq B) (hX : B.X < 1073741824) {f g : Int → Option Int} (h : ∀ a, f a = B.last g a) {n : Int} {m : Msg} (hf : B.find n = some m) (hg : g m.addr = some m.pot) : ∀ a, f a = (B.acked n).last g a := by
  intro a
  obtain ⟨h1, h2⟩ := acked_view hr hu hX hf a
  rw [h a]
  unfold Box.last
  rw [h1, h2]
  by_cases ha : a = m.addr
  · rw [if_pos ha, if_pos ha, ha]
    cases hw : B.wait m.addr with
    | some m2 => rfl
    | none =>
      obtain ⟨A, s, C, hL, hn, _⟩ := find_split hr hf
      have := at_mem hu (x := (m, s)) (by rw [hL]; simp)
      simp only at this
      rw [this, hg]; rfl
  · rw [if_neg ha, if_neg ha]
theorem last_told (hu : Uniq B) {f g : Int → Option Int} (h : ∀ a, f a = B.last g a) {x : Msg × Int} (hx : x ∈ B.L) (v : Int) : ∀ a, f a = B.last (upF g x.1.addr v) a := by
  intro a
  rw [h a]
  unfold Box.last
  by_cases ha : a = x.1.addr
  · rw [ha, at_mem hu hx]
  · rw [upF_other _ _ ha]
def Busy (B : Box) : Prop := ∀ a, B.at_ a = none → B.wait a = none
theorem busy_put (hX : B.X < 1073741824) (h : Busy B) (m : Msg) : Busy (B.put m) := by
  intro a ha
  obtain ⟨h1, h2⟩ := put_view hX m a
  rw [h2] at ha
  rw [h1]
  by_cases e : a = m.addr
  · rw [if_pos e] at ha ⊢
    by_cases ho : B.out m.addr = true
    · rw [if_pos ho] at ha
      rw [out_at, ← e, ha] at ho
      cases ho
    · rw [if_neg ho] at ha; cases ha
  · rw [if_neg e] at ha ⊢
    exact h a ha
theorem busy_acked (hr : Rise B) (hu : Uniq B) (hX : B.X < 1073741824) (h : Busy B) {n : Int} {m : Msg} (hf : B.find n = some m) : Busy (B.acked n) := by
  intro a ha
  obtain ⟨h1, h2⟩ := acked_view hr hu hX hf a
  rw [h2] at ha
  rw [h1]
  by_cases e : a = m.addr
  · rw [if_pos e]
  · rw [if_neg e] at ha ⊢
    exact h a ha
/-- a new one that is out: its number, that it was not sent -/
theorem goes_new (a : Int) : ∃ Ln, (B.goes a).L = B.L ++ Ln ∧ (∀ x ∈ Ln, x.1.xid = B.X + 1 ∧ x.2 = -1 ∧ x.1.addr = a ∧ B.out a = false) ∧ Ln.length ≤ 1 ∧ B.X ≤ (B.goes a).X ∧ (B.goes a).L.length + (B.goes a).W.length ≤ B.L.length + B.W.length := by
  unfold Box.goes
  cases hw : B.wait a with
  | none => exact ⟨[], by simp, by simp, by simp, Int.le_refl _, Nat.le_refl _⟩
  | some m =>
    simp only
    have hma : m.addr = a := by simpa using List.find?_some hw
    split
    · exact ⟨[], by simp, by simp, by simp, Int.le_refl _, Nat.le_refl _⟩
    · rename_i h
      refine ⟨_, rfl, ?_, by simp, by simp only; omega, ?_⟩
      · intro x hx
        rw [List.mem_singleton] at hx
        subst hx
        exact ⟨rfl, rfl, hma, by cases ho : B.out a <;> simp_all⟩
      · have := filter_lt (p := fun m => m.addr != a) (List.mem_of_find?_eq_some hw) (by simp [hma])
        simp only [List.length_append, List.length_cons, List.length_nil]; omega
theorem uniq_append {Ln : List (Msg × Int)} (hu : Uniq B) {B' : Box} (h : B'.L = B.L ++ Ln) (hn : ∀ x ∈ Ln, B.out x.1.addr = false) (hl : Ln.length ≤ 1) : Uniq B' := by
  unfold Uniq at *
  rw [h, List.pairwise_append]
  refine ⟨hu, ?_, ?_⟩
  · exact pw_one hl
  · intro x hx y hy e
    have := hn y hy
    rw [out_at, ← e, at_mem hu hx] at this
    cases this
theorem put_new (m : Msg) : ∃ Ln, (B.put m).L = B.L ++ Ln ∧ (∀ x ∈ Ln, x.1.xid = B.X + 1 ∧ x.2 = -1 ∧ x.1.addr = m.addr ∧ B.out m.addr = false) ∧ Ln.length ≤ 1 ∧ B.X ≤ (B.put m).X := by
  obtain ⟨Ln, h1, h2, h3, h4, _⟩ := goes_new (B := B.put1 m) m.addr
  exact ⟨Ln, h1, h2, h3, h4⟩
theorem uniq_put (hu : Uniq B) (m : Msg) : Uniq (B.put m) := by
  obtain ⟨Ln, h1, h2, h3, _⟩ := put_new (B := B) m
  exact uniq_append hu h1 (fun x hx => by obtain ⟨_, _, e, h⟩ := h2 x hx; rw [e]; exact h) h3
theorem acked_new (hr : Rise B) {n : Int} {m : Msg} (hf : B.find n = some m) : ∃ A s C Ln, B.L = A ++ (m, s) :: C ∧ m.xid = n ∧ (B.acked n).L = A ++ C ++ Ln ∧ (∀ x ∈ Ln, x.1.xid = B.X + 1 ∧ x.2 = -1 ∧ x.1.addr = m.addr ∧ (B.acked1 n).out m.addr = false) ∧ Ln.length ≤ 1 ∧ B.X ≤ (B.acked n).X ∧
    (B.acked n).L.length + (B.acked n).W.length + 1 ≤ B.L.length + B.W.length := by
  obtain ⟨A, s, C, hL, hn, h1⟩ := find_split hr hf
  have e : B.acked n = (B.acked1 n).goes m.addr := by unfold Box.acked; rw [hf]
  obtain ⟨Ln, g1, g2, g3, g4, g5⟩ := goes_new (B := B.acked1 n) m.addr
  rw [h1] at g1 g5
  refine ⟨A, s, C, Ln, hL, hn, by rw [e, g1], g2, g3, by rw [e]; exact g4, ?_⟩
  have hw : (B.acked1 n).W = B.W := rfl
  rw [hw] at g5
  rw [e, hL]
  simp only [List.length_append, List.length_cons] at g5 ⊢
  omega
theorem uniq_acked (hr : Rise B) (hu : Uniq B) {n : Int} {m : Msg} (hf : B.find n = some m) : Uniq (B.acked n) := by
  obtain ⟨A, s, C, Ln, hL, hn, h1, h2, h3, _⟩ := acked_new hr hf
  obtain ⟨A', s', C', hL', hn', h1'⟩ := find_split hr hf
  have e : (B.acked n).L = (B.acked1 n).L ++ Ln := by
    have hg : B.acked n = (B.acked1 n).goes m.addr := by unfold Box.acked; rw [hf]
    obtain ⟨Lm, g1, _⟩ := goes_new (B := B.acked1 n) m.addr
    have q : A ++ C = (B.acked1 n).L := by
      unfold Box.acked1
      simp only [hL]
      have hrr := hr.1
      rw [hL, List.pairwise_append] at hrr
      rw [List.filter_append, List.filter_cons, if_neg (by simp [hn]), List.filter_eq_self.2, List.filter_eq_self.2]
      · intro y hy; have := (List.pairwise_cons.1 hrr.2.1).1 y hy; simp only at this; simp; omega
      · intro y hy; have := hrr.2.2 y hy (m, s) (List.mem_cons_self ..); simp only at this; simp; omega
    rw [h1, q]
  refine uniq_append (B := B.acked1 n) ?_ e (fun x hx => by obtain ⟨_, _, e, h⟩ := h2 x hx; rw [e]; exact h) h3
  unfold Uniq Box.acked1
  exact List.Pairwise.filter _ hu
theorem tick_fst (now : Int) : (B.tick now).L.map (·.1) = B.L.map (·.1) := by
  unfold Box.tick
  simp only [List.map_map]
  refine List.map_congr_left fun x _ => ?_
  simp only [Function.comp_apply, tick1]; split <;> rfl
theorem tick_at (now a : Int) : (B.tick now).at_ a = B.at_ a := by
  have key : ∀ L : List (Msg × Int), (L.find? fun x => x.1.addr == a).map (·.1) = (L.map (·.1)).find? (fun m => m.addr == a) := by
    intro L; rw [List.find?_map]; rfl
  unfold Box.at_
  rw [key, key, tick_fst]
theorem uniq_fst {B B' : Box} (h : B'.L.map (·.1) = B.L.map (·.1)) (hu : Uniq B) : Uniq B' := by
  unfold Uniq at *
  have key : ∀ L : List (Msg × Int), (L.Pairwise fun x y => x.1.addr ≠ y.1.addr) ↔ (L.map (·.1)).Pairwise fun x y => x.addr ≠ y.addr := by
    intro L; rw [List.pairwise_map]
  rw [key] at *
  rwa [h]
theorem tick_mem {now : Int} {x : Msg × Int} (hx : x ∈ (B.tick now).L) : ∃ y ∈ B.L, x.1 = y.1 ∧ (due now y = true ∧ x.2 = now ∨ due now y = false ∧ x.2 = y.2) := by
  unfold Box.tick at hx
  obtain ⟨y, hy, rfl⟩ := List.mem_map.1 hx
  refine ⟨y, hy, ?_⟩
  unfold tick1
  by_cases hd : due now y = true
  · rw [if_pos hd]; exact ⟨rfl, .inl ⟨hd, rfl⟩⟩
  · rw [if_neg hd]; exact ⟨rfl, .inr ⟨by simpa using hd, rfl⟩⟩
theorem told_mem {now : Int} {m : Msg} (hm : m ∈ B.told now) : (m, now) ∈ (B.tick now).L := by
  unfold Box.told at hm
  obtain ⟨y, hy, rfl⟩ := List.mem_map.1 hm
  obtain ⟨h1, h2⟩ := List.mem_filter.1 hy
  unfold Box.tick
  exact List.mem_map.2 ⟨y, h1, by unfold tick1; rw [if_pos h2]⟩
theorem due_told {now : Int} {x : Msg × Int} (hx : x ∈ B.L) (hd : due now x = true) : x.1 ∈ B.told now := List.mem_map.2 ⟨x, List.mem_filter.2 ⟨hx, hd⟩, rfl⟩
end
/-- what holds of box and law ahead of each round -/
structure LInv (B : Box) (f g h : Int → Option Int) (now : Int) (i : Nat) (T : List Msg) : Prop where
  last : ∀ a, f a = B.last g a
  busy : Busy B
  uniq : Uniq B
  told : ∀ x ∈ B.L, x.2 ≠ -1 → g x.1.addr = some x.1.pot ∨ x.1 ∈ T
  xids : ∀ a n, h a = some n → n ≤ B.X ∧ ∀ x ∈ B.L, x.1.xid = n → x.2 ≠ -1 ∧ x.1.addr = a
  small : B.small i
  now0 : 0 ≤ now
  now1 : now ≤ i
  sent : ∀ x ∈ B.L, x.2 ≤ now
section
variable {B : Box} {f g h : Int → Option Int} {now : Int} {i : Nat}
theorem LInv.start : LInv emptyBox (fun _ => none) (fun _ => none) (fun _ => none) 0 0 [] :=
  ⟨fun _ => rfl, fun _ _ => rfl, List.Pairwise.nil, by simp [emptyBox], by simp, small_empty, Int.le_refl _, Int.le_refl _, by simp [emptyBox]⟩
theorem LInv.put (I : LInv B f g h now i []) (hX : B.X < 1073741824) (m : Msg) : LInv (B.put m) (upF f m.addr m.pot) g h now (i + 1) [] := by
  obtain ⟨Ln, h1, h2, h3, h4⟩ := put_new (B := B) m
  refine ⟨last_put hX I.last m, busy_put hX I.busy m, uniq_put I.uniq m, fun x hx hs => ?_, fun a n ha => ?_, small_put m I.small, I.now0, by have := I.now1; omega, fun x hx => ?_⟩
  · rw [h1] at hx
    rcases List.mem_append.1 hx with hx | hx
    · exact I.told x hx hs
    · exact absurd (h2 x hx).2.1 hs
  · obtain ⟨k1, k2⟩ := I.xids a n ha
    refine ⟨by omega, fun x hx e => ?_⟩
    rw [h1] at hx
    rcases List.mem_append.1 hx with hx | hx
    · exact k2 x hx e
    · have := (h2 x hx).1; omega
  · rw [h1] at hx
    rcases List.mem_append.1 hx with hx | hx
    · exact I.sent x hx
    · have := (h2 x hx).2.1; have := I.now0; omega
theorem LInv.acked (I : LInv B f g h now i []) (hr : Rise B) (hX : B.X < 1073741824) (a : Int) : LInv (B.acked ((h a).getD 0)) f g h now (i + 1) [] := by
  cases hf : B.find ((h a).getD 0) with
  | none =>
    rw [acked_none hf]
    exact ⟨I.last, I.busy, I.uniq, I.told, I.xids, small_mono I.small (Nat.le_succ _), I.now0, by have := I.now1; omega, I.sent⟩
  | some m =>
    obtain ⟨A, s, C, Ln, hL, hn, h1, h2, h3, h4, _⟩ := acked_new hr hf
    have hm : (m, s) ∈ B.L := by rw [hL]; simp
    obtain ⟨n, ha⟩ : ∃ n, h a = some n := by
      cases e : h a with
      | none =>
        have := (hr.2 _ hm).2
        rw [e] at hn
        simp only [Option.getD_none] at hn
        simp only at this
        omega
      | some n => exact ⟨n, rfl⟩
    rw [ha, Option.getD_some] at hn
    have k := (I.xids a n ha).2 _ hm hn
    have hg : g m.addr = some m.pot := by
      rcases I.told _ hm k.1 with h | h
      · exact h
      · cases h
    have sub : ∀ x ∈ (B.acked ((h a).getD 0)).L, x ∈ B.L ∨ x.1.xid = B.X + 1 ∧ x.2 = -1 := by
      intro x hx
      rw [h1] at hx
      rcases List.mem_append.1 hx with hx | hx
      · refine .inl ?_
        rw [hL]
        rcases List.mem_append.1 hx with hx | hx
        · exact List.mem_append_left _ hx
        · exact List.mem_append_right _ (List.mem_cons_of_mem _ hx)
      · exact .inr ⟨(h2 x hx).1, (h2 x hx).2.1⟩
    refine ⟨last_acked hr I.uniq hX I.last hf hg, busy_acked hr I.uniq hX I.busy hf, uniq_acked hr I.uniq hf, fun x hx hs => ?_, fun b n' hb => ?_, small_mono (small_acked _ I.small) (Nat.le_succ _), I.now0, by have := I.now1; omega, fun x hx => ?_⟩
    · rcases sub x hx with hx | hx
      · exact I.told x hx hs
      · exact absurd hx.2 hs
    · obtain ⟨k1, k2⟩ := I.xids b n' hb
      refine ⟨by omega, fun x hx e => ?_⟩
      rcases sub x hx with hx | hx
      · exact k2 x hx e
      · omega
    · rcases sub x hx with hx | hx
      · exact I.sent x hx
      · have := I.now0; omega
theorem LInv.tick (I : LInv B f g h now i []) : LInv (B.tick (now + 1)) f g h (now + 1) (i + 1) (B.told (now + 1)) := by
  refine ⟨fun a => ?_, fun a ha => ?_, uniq_fst (tick_fst _) I.uniq, fun x hx hs => ?_, fun a n ha => ?_, small_mono (small_tick _ I.small) (Nat.le_succ _), by have := I.now0; omega, by have := I.now1; omega, fun x hx => ?_⟩
  · rw [I.last a]
    unfold Box.last
    rw [tick_at]
    rfl
  · rw [tick_at] at ha
    exact I.busy a ha
  · obtain ⟨y, hy, e, ⟨hd, hs'⟩ | ⟨hd, hs'⟩⟩ := tick_mem hx
    · rw [e]; exact .inr (due_told hy hd)
    · rw [e]
      rw [hs'] at hs
      rcases I.told y hy hs with h | h
      · exact .inl h
      · cases h
  · obtain ⟨k1, k2⟩ := I.xids a n ha
    refine ⟨k1, fun x hx e => ?_⟩
    obtain ⟨y, hy, e', ⟨hd, hs'⟩ | ⟨hd, hs'⟩⟩ := tick_mem hx
    · rw [e'] at e ⊢
      exact ⟨by have := I.now0; omega, (k2 y hy e).2⟩
    · rw [e'] at e ⊢
      rw [hs']
      exact k2 y hy e
  · obtain ⟨y, hy, e', ⟨hd, hs'⟩ | ⟨hd, hs'⟩⟩ := tick_mem hx
    · omega
    · have := I.sent y hy; omega
/-- one message of those that were told -/
theorem LInv.hear {m : Msg} {T : List Msg} (I : LInv B f g h now i (m :: T)) (hr : Rise B) (hm : (m, now) ∈ B.L) : LInv B f (upF g m.addr m.pot) (upF h m.addr m.xid) now i T := by
  refine ⟨last_told I.uniq I.last hm _, I.busy, I.uniq, fun x hx hs => ?_, fun a n ha => ?_, I.small, I.now0, I.now1, I.sent⟩
  · by_cases e : x.1.addr = m.addr
    · have e1 := at_mem I.uniq hx
      have e2 := at_mem I.uniq hm
      simp only at e2
      rw [e, e2] at e1
      rw [Option.some.inj e1.symm]
      exact .inl (upF_same ..)
    · rw [upF_other _ _ e]
      rcases I.told x hx hs with h | h
      · exact .inl h
      · rcases List.mem_cons.1 h with h | h
        · exact absurd (by rw [h]) e
        · exact .inr h
  · by_cases e : a = m.addr
    · subst e
      rw [upF_same] at ha
      cases ha
      refine ⟨(hr.2 _ hm).1, fun x hx e => ?_⟩
      have : x = (m, now) := pair_unique (f := fun x : Msg × Int => x.1.xid) (hr.1.imp (fun h => by omega)) hx hm e
      subst this
      exact ⟨by have := I.now0; simp only; omega, rfl⟩
    · rw [upF_other _ _ e] at ha
      exact I.xids a n ha
end
end Go.Proofs.Ytenkglbnlealbaa
namespace Go.Proofs.Ytenkglbnlealbaa
open Go.RowKit
section
variable {B : Box} {f g : Int → Option Int} {now : Int}
/-- what holds ahead of each turn -/
structure SInv (B : Box) (f g : Int → Option Int) (now : Int) (t : Nat) : Prop where
  last : ∀ a, f a = B.last g a
  busy : Busy B
  uniq : Uniq B
  small : B.small 150
  sum : B.L.length + B.W.length + t ≤ 150
  now0 : 0 ≤ now
  now1 : now ≤ 150 + 3 * t
  sent : ∀ x ∈ B.L, x.2 ≤ now
/-- what holds in a turn, where so many are answered -/
structure TInv (B : Box) (f g : Int → Option Int) (T : List Msg) (N t : Int) (S k : Nat) : Prop where
  last : ∀ a, f a = B.last g a
  busy : Busy B
  uniq : Uniq B
  small : B.small 150
  sum : B.L.length + B.W.length + k ≤ S
  t0 : 0 ≤ t
  acks : Acks T N t B k
  rise : T.Pairwise fun x y => x.xid < y.xid
  low : ∀ m ∈ T, m.xid ≤ N
  sent : ∀ x ∈ B.L, x.2 ≤ t
theorem all_due (h : ∀ x ∈ B.L, x.2 ≤ now) : B.told (now + 3) = B.L.map (·.1) ∧ (B.tick (now + 3)).L = (B.L.map (·.1)).map fun m => (m, now + 3) := by
  have hd : ∀ x ∈ B.L, due (now + 3) x = true := by
    intro x hx
    have := h x hx
    unfold due
    rw [show decide (3 ≤ now + 3 - x.2) = true from decide_eq_true (by omega)]
    simp
  refine ⟨?_, ?_⟩
  · unfold Box.told
    rw [List.filter_eq_self.2 hd]
  · unfold Box.tick
    simp only [List.map_map]
    refine List.map_congr_left fun x hx => ?_
    simp only [Function.comp_apply]
    unfold tick1
    rw [if_pos (hd x hx)]
theorem len_le : B.L.length ≤ B.len := by unfold Box.len; omega
theorem busy_wait (hb : Busy B) (h : B.L = []) : ∀ a, B.wait a = none := fun a => hb a (by unfold Box.at_; rw [h]; rfl)
theorem len_pos (hb : Busy B) (h : 0 < B.len) : 0 < B.L.length := by
  rcases Nat.eq_zero_or_pos B.L.length with e | e
  · have e' : B.L = [] := List.length_eq_zero_iff.1 e
    have hw : B.W = [] := by
      cases hW : B.W with
      | nil => rfl
      | cons m l =>
        have := busy_wait hb e' m.addr
        unfold Box.wait at this
        rw [hW] at this
        simp at this
    unfold Box.len at h
    rw [e', hw] at h
    simp at h
  · exact e
theorem SInv.of {h : Int → Option Int} {i : Nat} (I : LInv B f g h now i []) (hi : i ≤ 150) : SInv B f g now 0 :=
  ⟨I.last, I.busy, I.uniq, small_mono I.small hi, by have := I.small.1; omega, I.now0, by have := I.now1; omega, I.sent⟩
theorem SInv.turn {t : Nat} (I : SInv B f g now t) (hr : Rise B) : TInv (B.tick (now + 3)) f g (B.L.map (·.1)) B.X (now + 3) (B.L.length + B.W.length) 0 := by
  obtain ⟨h1, h2⟩ := all_due I.sent
  refine ⟨fun a => ?_, fun a ha => ?_, uniq_fst (tick_fst _) I.uniq, small_tick _ I.small, ?_, by have := I.now0; omega, ⟨⟨[], by rw [h2]; simp, by simp⟩, Int.le_refl _⟩, ?_, ?_, ?_⟩
  · rw [I.last a]
    unfold Box.last
    rw [tick_at]
    rfl
  · rw [tick_at] at ha
    exact I.busy a ha
  · rw [h2]
    simp only [List.length_map]
    show B.L.length + B.W.length + 0 ≤ _
    omega
  · rw [List.pairwise_map]; exact hr.1
  · intro m hm
    obtain ⟨x, hx, rfl⟩ := List.mem_map.1 hm
    exact (hr.2 x hx).1
  · intro x hx
    rw [h2] at hx
    obtain ⟨m, hm, rfl⟩ := List.mem_map.1 hx
    exact Int.le_refl _
theorem TInv.step {T : List Msg} {N t : Int} {S k : Nat} (I : TInv B f g T N t S k) (hr : Rise B) (hk : k < T.length) :
    B.find T[k].xid = some T[k] ∧ TInv (B.acked T[k].xid) f (upF g T[k].addr T[k].pot) T N t S (k + 1) := by
  have hX : B.X < 1073741824 := by have := I.small.2.1; omega
  obtain ⟨hf, ha, _⟩ := acks_step I.acks hk I.rise I.low
  obtain ⟨A, s, C, Ln, hL, hn, h1, h2, h3, h4, h5⟩ := acked_new hr hf
  have hm : (T[k], s) ∈ B.L := by rw [hL]; simp
  refine ⟨hf, last_acked hr I.uniq hX (last_told I.uniq I.last hm _) hf (upF_same ..), busy_acked hr I.uniq hX I.busy hf, uniq_acked hr I.uniq hf, small_acked _ I.small, by have := I.sum; omega, I.t0, ha, I.rise, I.low, fun x hx => ?_⟩
  rw [h1] at hx
  rcases List.mem_append.1 hx with hx | hx
  · refine I.sent x ?_
    rw [hL]
    rcases List.mem_append.1 hx with hx | hx
    · exact List.mem_append_left _ hx
    · exact List.mem_append_right _ (List.mem_cons_of_mem _ hx)
  · have := (h2 x hx).2.1; have := I.t0; omega
theorem TInv.done {T : List Msg} {N : Int} {S t : Nat} (I : TInv B f g T N (now + 3) S T.length) (h0 : 0 < T.length) (hS : S + t ≤ 150) (hn : now ≤ 150 + 3 * t) : SInv B f g (now + 3) (t + 1) :=
  ⟨I.last, I.busy, I.uniq, I.small, by have := I.sum; omega, I.t0, by omega, I.sent⟩
theorem SInv.end_ {t : Nat} (I : SInv B f g now t) (h : B.len = 0) : ∀ a, f a = g a := by
  intro a
  have hl : B.L = [] := List.length_eq_zero_iff.1 (by have := len_le (B := B); omega)
  rw [I.last a]
  unfold Box.last
  rw [busy_wait I.busy hl a]
  unfold Box.at_
  rw [hl]
  rfl
end
end Go.Proofs.Ytenkglbnlealbaa
