import Derived.Test.YtenkglbnlealbaaO17
namespace Go.Proofs.Ytenkglbnlealbaa
open Go.RowKit
/-- no block of the caller's own -/
def Mine (base : Nat) (own : List Nat) (k : Nat) : Prop := base ≤ k ∧ k ∉ own
/-- A box whose blocks are none of the caller's. -/
def Boxed (base : Nat) (own : List Nat) (w : World) (b : Nat) (B : Box) : Prop := ∃ l : Place, l.b = b ∧ Here w l B ∧ ∀ k, l.has k → Mine base own k
section
variable {base : Nat} {own : List Nat} {w w' : World} {b : Nat} {B : Box}
theorem Place.core_has {l : Place} {k : Nat} (h : l.core k) : l.has k := by
  rcases h with h | h | h | h
  · exact .inl h
  · exact .inr (.inl h)
  · exact .inr (.inr (.inl h))
  · exact .inr (.inr (.inr (.inl h)))
theorem Boxed.keep (h : Boxed base own w b B) {own' : List Nat} (hc : Chg (fun k => k ∈ own') w w') (ho : ∀ k, k < w.heap.size → k ∈ own' → k ∈ own) : Boxed base own' w' b B := by
  obtain ⟨l, rfl, ⟨mo, mf, mq, hl⟩, hm⟩ := h
  refine ⟨l, rfl, ⟨mo, mf, mq, hl.keep hc (fun k hk hi => (hm k hk).2 (ho k (hl.lt hk) hi))⟩, fun k hk => ⟨(hm k hk).1, fun hi => (hm k hk).2 (ho k (hl.lt hk) hi)⟩⟩
theorem Boxed.step {l : Place} {B' : Box} (h : Step w l B' w') (hm : ∀ k, l.has k → Mine base own k) (hb : base ≤ w.heap.size) (ho : ∀ k ∈ own, k < w.heap.size) : Boxed base own w' l.b B' ∧ Chg (Mine base own) w w' := by
  obtain ⟨hc, ps, hh, hp⟩ := h
  refine ⟨⟨{ l with ps := ps }, rfl, hh, fun k hk => ?_⟩, hc.mono (fun k _ hk => hm k (Place.core_has hk))⟩
  rcases hk with h | h | h | h | h
  · exact hm k (.inl h)
  · exact hm k (.inr (.inl h))
  · exact hm k (.inr (.inr (.inl h)))
  · exact hm k (.inr (.inr (.inr (.inl h))))
  · rcases hp k h with h | h
    · exact hm k (.inr (.inr (.inr (.inr h))))
    · exact ⟨by omega, fun hi => by have := ho k hi; omega⟩
theorem New_bx (base : Nat) (own : List Nat) (w : World) (hb : base ≤ w.heap.size) (ho : ∀ k ∈ own, k < w.heap.size) : Calls Try.prog 9 #[] w fun e w' => ∃ b, e = .returned (ptr b) ∧ Boxed base own w' b emptyBox ∧ Chg (fun _ => False) w w' := by
  refine (New_any w).mono ?_
  rintro e w' ⟨b, rfl, hbb, hc, hh⟩
  refine ⟨b, rfl, ⟨_, rfl, hh, fun k hk => ?_⟩, hc⟩
  have : w.heap.size ≤ k := by
    rcases hk with h | h | h | h | h
    · simp only at h; omega
    · simp only at h; omega
    · simp only at h; omega
    · simp only at h; omega
    · cases h
  exact ⟨by omega, fun hi => by have := ho k hi; omega⟩
theorem Put_bx (m : Msg) (hb : base ≤ w.heap.size) (ho : ∀ k ∈ own, k < w.heap.size) (h : Boxed base own w b B) :
    Calls Try.prog 10 #[ptr b, m.val] w fun e w' => e = .returned (errNo (B.Put m).1) ∧ Boxed base own w' b (B.Put m).2 ∧ Chg (Mine base own) w w' := by
  obtain ⟨l, rfl, hh, hm⟩ := h
  refine (Put_any m w l B hh).mono ?_
  rintro e w' ⟨rfl, hs⟩
  exact ⟨rfl, Boxed.step hs hm hb ho⟩
theorem Acked_bx (n : Int) (hb : base ≤ w.heap.size) (ho : ∀ k ∈ own, k < w.heap.size) (h : Boxed base own w b B) :
    Calls Try.prog 12 #[ptr b, .int .i64 n] w fun e w' => e = .returned (.tuple #[((B.find n).getD noMsg).val, .bool (B.find n).isSome]) ∧ Boxed base own w' b (B.acked n) ∧ Chg (Mine base own) w w' := by
  obtain ⟨l, rfl, hh, hm⟩ := h
  refine (Acked_any n w l B hh).mono ?_
  rintro e w' ⟨rfl, hs⟩
  exact ⟨rfl, Boxed.step hs hm hb ho⟩
theorem Tick_bx (now : Int) (n0 : 0 ≤ now) (n1 : now ≤ 1099511627776) (hsmall : B.L.length < 1000000) (h : Boxed base own w b B) :
    Calls Try.prog 13 #[ptr b, .int .i64 now] w fun e w' => ∃ v, e = .returned (.tuple #[v, .int .i64 0]) ∧ w'.ownsRow 0 35 11 v (B.told now).length ((B.told now).flatMap Msg.cells) ∧
      (∀ k, v.ownBlock = some k → w.heap.size ≤ k ∧ k < w'.heap.size) ∧ Boxed base (v.ownBlock.toList ++ own) w' b (B.tick now) ∧ Chg (Mine base own) w w' := by
  obtain ⟨l, rfl, ⟨mo, mf, mq, hl⟩, hm⟩ := h
  refine (Tick_any now w l B mo mf mq hl n0 n1 hsmall).mono ?_
  rintro e w' ⟨v, rfl, hr, hv, hk, hc⟩
  refine ⟨v, rfl, hr, fun k hk => ⟨hv k hk, ?_⟩, ⟨l, rfl, ⟨mo, mf, mq, hk⟩, fun k hk => ⟨(hm k hk).1, fun hi => ?_⟩⟩, hc.mono (fun k _ hk => hm k (.inr (.inr (.inr (.inr hk)))))⟩
  · rcases hr.2 with ⟨h, _⟩ | ⟨g', cap', cur, h, _, hh, _⟩
    · rw [h] at hk; cases hk
    · rw [h] at hk
      simp only [Value.ownBlock, Option.some.injEq] at hk
      subst hk
      exact (Array.getElem?_eq_some_iff.1 hh).1
  · rcases List.mem_append.1 hi with hi | hi
    · have h1 := hv k (by simpa using hi)
      have h2 := hl.lt hk
      omega
    · exact (hm k hk).2 hi
theorem Clear_bx (hb : base ≤ w.heap.size) (ho : ∀ k ∈ own, k < w.heap.size) (h : Boxed base own w b B) :
    Calls Try.prog 27 #[ptr b] w fun e w' => e = .returned (.tuple #[]) ∧ Boxed base own w' b B.clear ∧ Chg (Mine base own) w w' := by
  obtain ⟨l, rfl, hh, hm⟩ := h
  refine (Clear_any w l B hh).mono ?_
  rintro e w' ⟨rfl, hs⟩
  exact ⟨rfl, Boxed.step hs hm hb ho⟩
theorem Busy_bx (a : Int) (h : Boxed base own w b B) : Calls Try.prog 25 #[ptr b, .int .u32 a] w fun e w' => e = .returned (.bool (B.busy a)) ∧ Boxed base own w' b B ∧ Chg (fun _ => False) w w' := by
  have h0 := h
  obtain ⟨l, rfl, hh, hm⟩ := h
  refine (Busy_any a w l B hh).mono ?_
  rintro e w' ⟨rfl, hs⟩
  obtain ⟨mo, mf, mq, hl⟩ := hh
  exact ⟨rfl, ⟨l, rfl, ⟨mo, mf, mq, hl.keep hs (fun _ _ h => h)⟩, hm⟩, hs⟩
theorem Len_bx (h : Boxed base own w b B) (hlim : B.L.length + B.W.length < 1000000) : Calls Try.prog 21 #[ptr b] w fun e w' => e = .returned (.int .i64 B.len) ∧ Boxed base own w' b B ∧ Chg (fun _ => False) w w' := by
  obtain ⟨l, rfl, hh, hm⟩ := h
  refine (Len_any w l B hh hlim).mono ?_
  rintro e w' ⟨rfl, hs⟩
  obtain ⟨mo, mf, mq, hl⟩ := hh
  exact ⟨rfl, ⟨l, rfl, ⟨mo, mf, mq, hl.keep hs (fun _ _ h => h)⟩, hm⟩, hs⟩
theorem Last_bx (h : Boxed base own w b B) : Calls Try.prog 14 #[ptr b] w fun e w' => e = .returned (.int .i64 B.X) ∧ w = w' := by
  obtain ⟨l, rfl, hh, hm⟩ := h
  exact Last_any w l B hh
end
def updM (a pot : Int) : Msg := ⟨2, 0, 0, 0, 0, a, 2, ⟨#[97]⟩, bits BinOp.and IntKind.i64 pot 65535, 0, false⟩
theorem mask_mod (k : Nat) (hk : k < 63) (x : Int) : bits BinOp.and IntKind.i64 x ((2 ^ k - 1 : Nat) : Int) = x % ((2 ^ k : Nat) : Int) := by
  have hp : (2 : Nat) ^ k < 2 ^ 63 := Nat.pow_lt_pow_right (by decide) hk
  have hpos : 0 < (2 : Nat) ^ k := Nat.pow_pos (by decide)
  have e : bits BinOp.and IntKind.i64 x ((2 ^ k - 1 : Nat) : Int) = IntKind.i64.wrap ((BitVec.ofInt 64 x &&& BitVec.ofInt 64 ((2 ^ k - 1 : Nat) : Int)).toNat : Int) := rfl
  rw [e, BitVec.toNat_and]
  have e2 : (BitVec.ofInt 64 ((2 ^ k - 1 : Nat) : Int)).toNat = 2 ^ k - 1 := by
    rw [BitVec.toNat_ofInt]
    have : (((2 ^ k - 1 : Nat) : Int) % ((2 ^ 64 : Nat) : Int)) = ((2 ^ k - 1 : Nat) : Int) := Int.emod_eq_of_lt (by omega) (by omega)
    rw [this]; rfl
  rw [e2, Nat.and_two_pow_sub_one_eq_mod, BitVec.toNat_ofInt]
  have h64 : (0 : Int) ≤ x % ((2 ^ 64 : Nat) : Int) := Int.emod_nonneg _ (by decide)
  have e3 : (((x % ((2 ^ 64 : Nat) : Int)).toNat % 2 ^ k : Nat) : Int) = x % ((2 ^ k : Nat) : Int) := by
    rw [Int.natCast_emod, Int.toNat_of_nonneg h64]
    refine Int.emod_emod_of_dvd x ?_
    exact Int.natCast_dvd_natCast.2 (Nat.pow_dvd_pow 2 (by omega))
  rw [e3]
  have h1 : 0 ≤ x % ((2 ^ k : Nat) : Int) := Int.emod_nonneg _ (by omega)
  have h2 : x % ((2 ^ k : Nat) : Int) < ((2 ^ k : Nat) : Int) := Int.emod_lt_of_pos _ (by omega)
  exact IntWalk.i64_in _ ⟨by omega, by omega⟩
theorem mask16 (x : Int) : bits BinOp.and IntKind.i64 x 65535 = x % 65536 := mask_mod 16 (by decide) x
theorem mask2 (x : Int) : bits BinOp.and IntKind.i64 x 3 = x % 4 := mask_mod 2 (by decide) x
theorem mask3 (x : Int) : bits BinOp.and IntKind.i64 x 7 = x % 8 := mask_mod 3 (by decide) x
theorem mask4 (x : Int) : bits BinOp.and IntKind.i64 x 15 = x % 16 := mask_mod 4 (by decide) x
theorem upd_right (a pot : Int) : (updM a pot).right = true := by
  have h1 := Int.emod_nonneg pot (show (65536 : Int) ≠ 0 by decide)
  have h2 := Int.emod_lt_of_pos pot (show (0 : Int) < 65536 by decide)
  unfold Msg.right updM rightU fineAt
  rw [mask16]
  simp [inRange]
  exact ⟨by decide, by omega, by omega⟩
/-- what lies in a box of a law's -/
def upd (a pot : Int) : Msg := ⟨2, 0, 0, 0, 0, a, 2, ⟨#[97]⟩, pot % 65536, 0, false⟩
theorem updM_eq (a pot : Int) : updM a pot = upd a pot := by unfold updM upd; rw [mask16]
theorem Put_upd (B : Box) (a pot : Int) (hX : B.X < 1073741824) : B.Put (upd a pot) = (0, B.put (upd a pot)) := by
  have := upd_right a pot
  rw [updM_eq] at this
  unfold Box.Put
  rw [this]
  rw [if_neg (by decide), if_neg (by omega)]
  rfl
end Go.Proofs.Ytenkglbnlealbaa
