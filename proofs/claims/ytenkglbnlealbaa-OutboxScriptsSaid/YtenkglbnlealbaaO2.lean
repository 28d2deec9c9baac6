import Derived.Test.YtenkglbnlealbaaO1
namespace Go.Proofs.Ytenkglbnlealbaa
open Go.RowKit
/-- 'walk' over an Update: whatever holds between the visits, so new blocks leave it and each visit carries it on. -/
structure Visits (N O : FuncId) (cN cO : Array Value) (bm : Nat) (I : Nat → World → Prop) : Prop where
  kind : ∀ i w, I i w → w.cell? ⟨bm, 0, none⟩ = some (.int .i64 2)
  alloc : ∀ i w o, I i w → I i (w.alloc o)
  life : ∀ w, I 0 w → Calls Try.prog N (#[.agg #[.pointer (some ⟨bm, 1, none⟩), .int .i64 4, .int .i64 1, .int .i64 536870912]] ++ cN) w fun e w' => e = .returned (.tuple #[]) ∧ I 1 w'
  seen : ∀ w, I 1 w → Calls Try.prog N (#[.agg #[.pointer (some ⟨bm, 2, none⟩), .int .i64 4, .int .i64 0, .int .i64 536870912]] ++ cN) w fun e w' => e = .returned (.tuple #[]) ∧ I 2 w'
  xid : ∀ w, I 2 w → Calls Try.prog N (#[.agg #[.pointer (some ⟨bm, 3, none⟩), .int .i64 4, .int .i64 1, .int .i64 1073741824]] ++ cN) w fun e w' => e = .returned (.tuple #[]) ∧ I 3 w'
  other : ∀ w, I 3 w → Calls Try.prog O cO w fun e w' => e = .returned (.tuple #[]) ∧ I 4 w'
  bind : ∀ w, I 4 w → Calls Try.prog N (#[.agg #[.pointer (some ⟨bm, 6, none⟩), .int .i64 1, .int .i64 0, .int .i64 5]] ++ cN) w fun e w' => e = .returned (.tuple #[]) ∧ I 5 w'
  pot : ∀ w, I 5 w → Calls Try.prog N (#[.agg #[.pointer (some ⟨bm, 8, none⟩), .int .i64 6, .int .i64 0, .int .i64 1099511627776]] ++ cN) w fun e w' => e = .returned (.tuple #[]) ∧ I 6 w'
  time : ∀ w, I 6 w → Calls Try.prog N (#[.agg #[.pointer (some ⟨bm, 9, none⟩), .int .i64 6, .int .i64 0, .int .i64 1099511627776]] ++ cN) w fun e w' => e = .returned (.tuple #[]) ∧ I 7 w'
set_option maxRecDepth 100000 in
set_option maxHeartbeats 1000000 in
theorem walk_upd {N O : FuncId} {cN cO : Array Value} {bm : Nat} {I : Nat → World → Prop} (V : Visits N O cN cO bm I)
    (eN : ∀ args w, (callFunc N args).run Try.prog w = .ok (.enter N args) w) (eO : ∀ args w, (callFunc O args).run Try.prog w = .ok (.enter O args) w) (w : World) (h : I 0 w) :
    Calls Try.prog 38 #[.pointer (some ⟨bm, 0, none⟩), .func (.func N) #[] cN, .func (.func O) #[] cO] w fun e w' => e = .returned (.tuple #[]) ∧ I 7 w' := by
  go_enter Try.func38, Try.ntmps38
  go_wp2_with fail
  refine (V.life w h).mono ?_; rintro e w1 ⟨rfl, h1⟩
  go_wp2_with fail
  refine (V.seen w1 h1).mono ?_; rintro e w2 ⟨rfl, h2⟩
  have k2 := V.kind _ _ h2
  go_wp2_with fail
  refine (of3 true 2 1 3 2 _ _ (by go_simp) (by go_simp) (by go_simp) (by decide)).mono ?_; rintro e w' ⟨rfl, rfl⟩
  go_wp2_with fail
  refine (V.xid _ (V.alloc _ _ _ h2)).mono ?_; rintro e w3 ⟨rfl, h3⟩
  have k3 := V.kind _ _ h3
  clear k2
  go_wp2_with fail
  refine (of1 false 2 1 _ _ (by go_simp) (by decide)).mono ?_; rintro e w' ⟨rfl, rfl⟩
  have h3a := V.alloc _ _ (.cells #[.int .i64 1] 3) h3
  have k3a := V.kind _ _ h3a
  go_wp2_with fail
  refine (of2 true 2 3 2 _ _ (by go_simp) (by go_simp) (by decide)).mono ?_; rintro e w' ⟨rfl, rfl⟩
  go_wp2_with fail
  refine (V.other _ (V.alloc _ _ _ h3a)).mono ?_; rintro e w4 ⟨rfl, h4⟩
  have k4 := V.kind _ _ h4
  clear k3 k3a
  go_wp2_with fail
  refine (of1 true 2 2 _ _ (by go_simp) (by decide)).mono ?_; rintro e w' ⟨rfl, rfl⟩
  go_wp2_with fail
  refine (V.bind _ (V.alloc _ _ _ h4)).mono ?_; rintro e w5 ⟨rfl, h5⟩
  go_wp2_with fail
  refine (V.pot _ h5).mono ?_; rintro e w6 ⟨rfl, h6⟩
  go_wp2_with fail
  refine (V.time _ h6).mono ?_; rintro e w7 ⟨rfl, h7⟩
  go_wp2_with fail
  go_end0
  exact ⟨rfl, h7⟩
end Go.Proofs.Ytenkglbnlealbaa
