import Derived.Test.YtenkglbnlealbaaRows
import Derived.WalkKit
import Derived.WalkSpells
import Derived.WalkLawsBesides
import Derived.Deep.QuietTactic
import Derived.BigQuiet
import Derived.StillTailTactics
import Derived.Lib.Hide
namespace Go.Proofs.Ytenkglbnlealbaa
open Go.RowKit
def inRange (lo hi n : Int) : Bool := decide (lo ≤ n) && decide (n ≤ hi)
set_option maxHeartbeats 400000 in
theorem within_any (n lo hi : Int) (w : World) :
    Calls Try.prog 40 #[.int .i64 n, .int .i64 lo, .int .i64 hi] w fun e w' => e = .returned (.bool (inRange lo hi n)) ∧ w = w' := by
  by_cases h : lo ≤ n
  · go_enter Try.func40, Try.ntmps40
    go_wp2
    go_ret
    exact ⟨by simp [inRange, h], rfl⟩
  · go_enter Try.func40, Try.ntmps40
    go_wp2
    go_ret
    exact ⟨by simp [inRange]; omega, rfl⟩
theorem still_of {P : Program} {f : FuncId} {args : Array Value} {w : World} {v : Value} (h : Calls P f args w fun e w' => e = .returned v ∧ w = w') : Calls P f args w fun e w' => e = .returned v ∧ w' = w :=
  h.mono fun _ _ ⟨a, b⟩ => ⟨a, b.symm⟩
theorem wpStill_skip {P : Program} {ops : Array Oper} {w : World} {Q : Act → Prop} {a : Act} {o : Oper} {rest : List Oper} (hw : Region.wanted o (yielded ops a.tmps) = false) (h : wpStill P ops w Q rest (a.put o.dst undef)) : wpStill P ops w Q (o :: rest) a := by
  unfold wpStill
  rw [hw]
  exact h
def hasI (zs : List Int) (k : Int) : Bool := zs.contains k
theorem hasI_at {zs : List Int} {k : Int} {j : Nat} (h : j < zs.length) (e : zs[j] = k) : hasI zs k = true := by
  unfold hasI; rw [List.contains_iff_mem, ← e]; exact List.getElem_mem h
theorem hasI_step {zs : List Int} {k : Int} {j : Nat} (h : j < zs.length) (e : ¬ zs[j] = k) (hn : hasI (zs.take j) k = false) : hasI (zs.take (j + 1)) k = false := by
  unfold hasI at *
  rw [List.take_succ_eq_append_getElem h]
  rw [← Bool.not_eq_true, List.contains_iff_mem] at hn ⊢
  intro hm
  rcases List.mem_append.1 hm with hm | hm
  · exact hn hm
  · rw [List.mem_singleton] at hm; exact e hm.symm
theorem hasI_end {zs : List Int} {k : Int} (hn : hasI (zs.take zs.length) k = false) : hasI zs k = false := by
  rwa [List.take_of_length_le (Nat.le_refl _)] at hn
set_option maxHeartbeats 400000 in
theorem of_any (k : Int) (zs : List Int) (b off : Nat) (w : World) (hlen : zs.length < 1000) (hc : ∀ i, i < zs.length → w.cell? ⟨b, off + i, none⟩ = some (.int .i64 (zs.getD i 0))) :
    Calls Try.prog 37 #[.int .i64 k, .slice (some ⟨b, off, none⟩) zs.length zs.length] w fun e w' => e = .returned (.bool (hasI zs k)) ∧ w = w' := by
  have HC := Lib.hid hc; clear hc
  go_enter Try.func37, Try.ntmps37
  go_wp2
  go_loop [6, 9] (fun _ i => ∃ j : Nat, j ≤ zs.length ∧ i = .int .i64 j ∧ hasI (zs.take j) k = false) (fun _ i => zs.length - (intOf i).toNat)
  case atStart => exact ⟨0, Nat.zero_le _, rfl, by simp [hasI]⟩
  case round =>
    obtain ⟨j, hj, rfl, hn⟩ := hrel
    have HN := Lib.hid hn; clear hn
    by_cases hlt : j < zs.length
    · have hcj := HC.out j hlt
      have hg : zs.getD j 0 = zs[j] := by simp [List.getD, hlt]
      rw [hg] at hcj
      clear hg
      by_cases he : zs[j] = k
      · have HE := Lib.hid he
        have he2 : (zs[j] == k) = true := by simpa using he
        clear he
        go_wp2
        go_ret
        exact ⟨by rw [hasI_at hlt HE.out]; rfl, rfl⟩
      · have HE := Lib.hid he
        have he2 : (zs[j] == k) = false := by simpa using he
        clear he
        go_wp2
        go_round
        case rel => exact ⟨j + 1, by omega, by go_num, hasI_step hlt HE.out HN.out⟩
        case measure => simp [intOf]; omega
    · obtain rfl : j = zs.length := by omega
      go_wp2
      go_ret
      exact ⟨by rw [hasI_end HN.out]; rfl, rfl⟩
set_option maxRecDepth 100000 in
set_option maxHeartbeats 400000 in
theorem Right1_yes (bf bp op : Nat) (n lo hi x : Int) (w : World) (hf : w.cell? ⟨bf, 0, none⟩ = some (.bool true)) (hz : w.frozen? ⟨bf, 0, none⟩ = false) (hx : w.cell? ⟨bp, op, none⟩ = some (.int .i64 x)) :
    Calls Try.prog 39 #[.agg #[.pointer (some ⟨bp, op, none⟩), .int .i64 n, .int .i64 lo, .int .i64 hi], .pointer (some ⟨bf, 0, none⟩)] w fun e w' =>
      e = .returned (.tuple #[]) ∧ w' = ((w.setCell ⟨bf, 0, none⟩ (.bool (true && inRange lo hi x))).alloc (.cells #[.pointer (some ⟨bp, op, none⟩), .int .i64 n, .int .i64 lo, .int .i64 hi] 96)).drew := by
  have hlt := World.block_lt_of_cell? _ _ hf
  have hlp := World.block_lt_of_cell? _ _ hx
  simp only at hlt hlp
  go_enter Try.func39, Try.ntmps39
  go_wp2
  refine wp_region_still_tail 12 (by kernel_rfl) (by kernel_rfl) ?_
  simp only [World.drew_eq, List.take_succ_cons, List.take_zero, List.drop_succ_cons, List.drop_zero]
  repeat still_step
  still_call (still_of (within_any x lo hi _))
  repeat still_step
  refine wpStill_nil ?_
  go_wp2
  go_end0
  exact ⟨rfl, rfl⟩
section
attribute [local irreducible] wpStill
set_option maxRecDepth 100000 in
set_option maxHeartbeats 400000 in
theorem Right1_no (bf bp op : Nat) (n lo hi x : Int) (w : World) (hf : w.cell? ⟨bf, 0, none⟩ = some (.bool false)) (hz : w.frozen? ⟨bf, 0, none⟩ = false) (hx : w.cell? ⟨bp, op, none⟩ = some (.int .i64 x)) :
    Calls Try.prog 39 #[.agg #[.pointer (some ⟨bp, op, none⟩), .int .i64 n, .int .i64 lo, .int .i64 hi], .pointer (some ⟨bf, 0, none⟩)] w fun e w' =>
      e = .returned (.tuple #[]) ∧ w' = ((w.setCell ⟨bf, 0, none⟩ (.bool (false && inRange lo hi x))).alloc (.cells #[.pointer (some ⟨bp, op, none⟩), .int .i64 n, .int .i64 lo, .int .i64 hi] 96)).drew := by
  have hlt := World.block_lt_of_cell? _ _ hf
  have hlp := World.block_lt_of_cell? _ _ hx
  simp only at hlt hlp
  go_enter Try.func39, Try.ntmps39
  go_wp2
  refine wp_region_still_tail 12 (by kernel_rfl) (by kernel_rfl) ?_
  simp only [World.drew_eq, List.take_succ_cons, List.take_zero, List.drop_succ_cons, List.drop_zero]
  iterate 2 still_step
  iterate 9 (apply wpStill_skip; kernel_rfl)
  simp only [Act.put, List.setIfInBounds_toArray, List.set_cons_zero, List.set_cons_succ]
  iterate 1 still_step
  refine wpStill_nil ?_
  go_wp2
  go_end0
  exact ⟨rfl, rfl⟩
end
theorem Right1_any (f : Bool) (bf bp op : Nat) (n lo hi x : Int) (w : World) (hf : w.cell? ⟨bf, 0, none⟩ = some (.bool f)) (hz : w.frozen? ⟨bf, 0, none⟩ = false) (hx : w.cell? ⟨bp, op, none⟩ = some (.int .i64 x)) :
    Calls Try.prog 39 #[.agg #[.pointer (some ⟨bp, op, none⟩), .int .i64 n, .int .i64 lo, .int .i64 hi], .pointer (some ⟨bf, 0, none⟩)] w fun e w' =>
      e = .returned (.tuple #[]) ∧ w' = ((w.setCell ⟨bf, 0, none⟩ (.bool (f && inRange lo hi x))).alloc (.cells #[.pointer (some ⟨bp, op, none⟩), .int .i64 n, .int .i64 lo, .int .i64 hi] 96)).drew := by
  cases f
  · exact Right1_no bf bp op n lo hi x w hf hz hx
  · exact Right1_yes bf bp op n lo hi x w hf hz hx
theorem of1 (r : Bool) (k z : Int) (b : Nat) (w : World) (h0 : w.cell? ⟨b, 0, none⟩ = some (.int .i64 z)) (hr : hasI [z] k = r) :
    Calls Try.prog 37 #[.int .i64 k, .slice (some ⟨b, 0, none⟩) 1 1] w fun e w' => e = .returned (.bool r) ∧ w = w' := by
  subst hr
  refine of_any k [z] b 0 w (by simp) (fun i hi => ?_)
  match i, hi with
  | 0, _ => exact h0
theorem of2 (r : Bool) (k z0 z1 : Int) (b : Nat) (w : World) (h0 : w.cell? ⟨b, 0, none⟩ = some (.int .i64 z0)) (h1 : w.cell? ⟨b, 1, none⟩ = some (.int .i64 z1)) (hr : hasI [z0, z1] k = r) :
    Calls Try.prog 37 #[.int .i64 k, .slice (some ⟨b, 0, none⟩) 2 2] w fun e w' => e = .returned (.bool r) ∧ w = w' := by
  subst hr
  refine of_any k [z0, z1] b 0 w (by simp) (fun i hi => ?_)
  match i, hi with
  | 0, _ => exact h0
  | 1, _ => exact h1
theorem of3 (r : Bool) (k z0 z1 z2 : Int) (b : Nat) (w : World) (h0 : w.cell? ⟨b, 0, none⟩ = some (.int .i64 z0)) (h1 : w.cell? ⟨b, 1, none⟩ = some (.int .i64 z1)) (h2 : w.cell? ⟨b, 2, none⟩ = some (.int .i64 z2)) (hr : hasI [z0, z1, z2] k = r) :
    Calls Try.prog 37 #[.int .i64 k, .slice (some ⟨b, 0, none⟩) 3 3] w fun e w' => e = .returned (.bool r) ∧ w = w' := by
  subst hr
  refine of_any k [z0, z1, z2] b 0 w (by simp) (fun i hi => ?_)
  match i, hi with
  | 0, _ => exact h0
  | 1, _ => exact h1
  | 2, _ => exact h2
theorem of5 (r : Bool) (k z0 z1 z2 z3 z4 : Int) (b : Nat) (w : World) (h0 : w.cell? ⟨b, 0, none⟩ = some (.int .i64 z0)) (h1 : w.cell? ⟨b, 1, none⟩ = some (.int .i64 z1)) (h2 : w.cell? ⟨b, 2, none⟩ = some (.int .i64 z2))
    (h3 : w.cell? ⟨b, 3, none⟩ = some (.int .i64 z3)) (h4 : w.cell? ⟨b, 4, none⟩ = some (.int .i64 z4)) (hr : hasI [z0, z1, z2, z3, z4] k = r) :
    Calls Try.prog 37 #[.int .i64 k, .slice (some ⟨b, 0, none⟩) 5 5] w fun e w' => e = .returned (.bool r) ∧ w = w' := by
  subst hr
  refine of_any k [z0, z1, z2, z3, z4] b 0 w (by simp) (fun i hi => ?_)
  match i, hi with
  | 0, _ => exact h0
  | 1, _ => exact h1
  | 2, _ => exact h2
  | 3, _ => exact h3
  | 4, _ => exact h4
end Go.Proofs.Ytenkglbnlealbaa
