import Derived.Test.YtenkglbnlealbaaO2
import Derived.Test.YtenkglbnlealbaaHeap
import Derived.Deep.RegionHeld3
namespace Go.Proofs.Ytenkglbnlealbaa
open Go.RowKit
set_option maxHeartbeats 1000000 in
theorem zero_any (bm off : Nat) (n lo hi x : Int) (w : World) (hx : w.cell? ⟨bm, off, none⟩ = some (.int .i64 x)) (hz : w.frozen? ⟨bm, off, none⟩ = false) :
    Calls Try.prog 48 #[.agg #[.pointer (some ⟨bm, off, none⟩), .int .i64 n, .int .i64 lo, .int .i64 hi]] w fun e w' =>
      e = .returned (.tuple #[]) ∧ w' = (w.setCell ⟨bm, off, none⟩ (.int .i64 0)).alloc (.cells #[.pointer (some ⟨bm, off, none⟩), .int .i64 n, .int .i64 lo, .int .i64 hi] 96) := by
  have hlt := World.block_lt_of_cell? _ _ hx
  simp only at hlt
  go_enter Try.func48, Try.ntmps48
  go_wp2
  go_end0
  exact ⟨rfl, rfl⟩
set_option maxHeartbeats 1000000 in
theorem bare2_any (bm : Nat) (ok : Bool) (w : World) (h0 : w.cell? ⟨bm, 0, none⟩ = some (.int .i64 2)) (hx : w.cell? ⟨bm, 10, none⟩ = some (.bool ok)) (hz : w.frozen? ⟨bm, 10, none⟩ = false) :
    Calls Try.prog 49 #[.pointer (some ⟨bm, 0, none⟩)] w fun e w' =>
      e = .returned (.tuple #[]) ∧ w' = w.setCell ⟨bm, 10, none⟩ (.bool ok) := by
  cases ok
  all_goals
    go_enter Try.func49, Try.ntmps49
    go_wp2
    go_end0
    exact ⟨rfl, rfl⟩
/-- the message's cells behind i visits of 'bare' -/
def bareCells (l s x st a bi : Int) (c : ByteArray) (p t : Int) (ok : Bool) : Nat → List Value
  | 0 => [.int .i64 2, .int .i64 l, .int .i64 s, .int .i64 x, .int .i64 st, .int .u32 a, .int .i64 bi, .string c, .int .i64 p, .int .i64 t, .bool ok]
  | 1 => [.int .i64 2, .int .i64 0, .int .i64 s, .int .i64 x, .int .i64 st, .int .u32 a, .int .i64 bi, .string c, .int .i64 p, .int .i64 t, .bool ok]
  | 2 => [.int .i64 2, .int .i64 0, .int .i64 0, .int .i64 x, .int .i64 st, .int .u32 a, .int .i64 bi, .string c, .int .i64 p, .int .i64 t, .bool ok]
  | 3 => [.int .i64 2, .int .i64 0, .int .i64 0, .int .i64 0, .int .i64 st, .int .u32 a, .int .i64 bi, .string c, .int .i64 p, .int .i64 t, .bool ok]
  | 4 => [.int .i64 2, .int .i64 0, .int .i64 0, .int .i64 0, .int .i64 st, .int .u32 a, .int .i64 bi, .string c, .int .i64 p, .int .i64 t, .bool ok]
  | 5 => [.int .i64 2, .int .i64 0, .int .i64 0, .int .i64 0, .int .i64 st, .int .u32 a, .int .i64 0, .string c, .int .i64 p, .int .i64 t, .bool ok]
  | 6 => [.int .i64 2, .int .i64 0, .int .i64 0, .int .i64 0, .int .i64 st, .int .u32 a, .int .i64 0, .string c, .int .i64 0, .int .i64 t, .bool ok]
  | _ => [.int .i64 2, .int .i64 0, .int .i64 0, .int .i64 0, .int .i64 st, .int .u32 a, .int .i64 0, .string c, .int .i64 0, .int .i64 0, .bool ok]
def zeroMsg : List Value := [.int .i64 0, .int .i64 0, .int .i64 0, .int .i64 0, .int .i64 0, .int .u32 0, .int .i64 0, .string ⟨#[]⟩, .int .i64 0, .int .i64 0, .bool false]
theorem bare_visits (l s x st a bi : Int) (c : ByteArray) (p t : Int) (ok : Bool) (w0 : World) :
    Visits 48 49 #[] #[.pointer (some ⟨w0.heap.size, 0, none⟩)] w0.heap.size
      (fun i w => Chg (fun _ => False) w0 w ∧ Blk w w0.heap.size (bareCells l s x st a bi c p t ok i) 35 ∧ Blk w (w0.heap.size + 1) zeroMsg 35) := by
  have step : ∀ (i off : Nat) (n lo hi y : Int) (w : World), (Chg (fun _ => False) w0 w ∧ Blk w w0.heap.size (bareCells l s x st a bi c p t ok i) 35 ∧ Blk w (w0.heap.size + 1) zeroMsg 35) →
      (bareCells l s x st a bi c p t ok i)[off]? = some (.int .i64 y) → (bareCells l s x st a bi c p t ok i).set off (.int .i64 0) = bareCells l s x st a bi c p t ok (i + 1) →
      Calls Try.prog 48 #[.agg #[.pointer (some ⟨w0.heap.size, off, none⟩), .int .i64 n, .int .i64 lo, .int .i64 hi]] w fun e w' => e = .returned (.tuple #[]) ∧
        (Chg (fun _ => False) w0 w' ∧ Blk w' w0.heap.size (bareCells l s x st a bi c p t ok (i + 1)) 35 ∧ Blk w' (w0.heap.size + 1) zeroMsg 35) := by
    rintro i off n lo hi y w ⟨h1, h2, h3⟩ hy hs
    refine (zero_any _ off n lo hi y w (by rw [h2.cell]; exact hy) (h2.frozen _)).mono ?_
    rintro e w' ⟨rfl, rfl⟩
    have h2' := h2.setCell off (.int .i64 0)
    rw [hs] at h2'
    exact ⟨rfl, (h1.setCell _ (fun h => by simp at h)).alloc _, h2'.alloc _, (h3.other _ (by simp)).alloc _⟩
  refine ⟨?_, ?_, fun w h => step 0 1 _ _ _ _ w h rfl rfl, fun w h => step 1 2 _ _ _ _ w h rfl rfl, fun w h => step 2 3 _ _ _ _ w h rfl rfl, ?_, fun w h => step 4 6 _ _ _ _ w h rfl rfl, fun w h => step 5 8 _ _ _ _ w h rfl rfl, fun w h => step 6 9 _ _ _ _ w h rfl rfl⟩
  · rintro i w ⟨_, h2, _⟩
    rw [h2.cell]
    unfold bareCells
    split <;> rfl
  · rintro i w o ⟨h1, h2, h3⟩
    exact ⟨h1.alloc _, h2.alloc _, h3.alloc _⟩
  · rintro w ⟨h1, h2, h3⟩
    refine (bare2_any _ ok w (by rw [h2.cell]; rfl) (by rw [h2.cell]; rfl) (h2.frozen _)).mono ?_
    rintro e w' ⟨rfl, rfl⟩
    have h2' := h2.setCell 10 (.bool ok)
    exact ⟨rfl, h1.setCell _ (fun h => by simp at h), h2', h3.other _ (by simp)⟩
theorem enters48 : ∀ args w, (callFunc 48 args).run Try.prog w = .ok (.enter 48 args) w := enters Try.func48 (by kernel_rfl) rfl
theorem enters49 : ∀ args w, (callFunc 49 args).run Try.prog w = .ok (.enter 49 args) w := enters Try.func49 (by kernel_rfl) rfl
set_option maxRecDepth 100000 in
set_option maxHeartbeats 1000000 in
theorem bare_upd (l s x st a bi : Int) (c : ByteArray) (p t : Int) (ok : Bool) (w : World) :
    Calls Try.prog 42 #[.agg #[.int .i64 2, .int .i64 l, .int .i64 s, .int .i64 x, .int .i64 st, .int .u32 a, .int .i64 bi, .string c, .int .i64 p, .int .i64 t, .bool ok]] w fun e w' =>
      e = .returned (.agg #[.int .i64 2, .int .i64 0, .int .i64 0, .int .i64 0, .int .i64 st, .int .u32 0, .int .i64 0, .string ⟨#[]⟩, .int .i64 0, .int .i64 0, .bool ok]) ∧ Chg (fun _ => False) w w' := by
  go_enter Try.func42, Try.ntmps42
  go_wp2_with fail
  refine (walk_upd (bare_visits l s x st a bi c p t ok w) enters48 enters49 _ ⟨((Chg.refl _ w).alloc _).alloc _, (Blk.new w _ 35).alloc _, by have := Blk.new (w.alloc (.cells (bareCells l s x st a bi c p t ok 0).toArray 35)) zeroMsg 35; rwa [World.size_alloc] at this⟩).mono ?_
  rintro e w' ⟨rfl, h1, h2, h3⟩
  have b0 := h2.cell 0; have b1 := h2.cell 1; have b2 := h2.cell 2; have b3 := h2.cell 3; have b4 := h2.cell 4; have b5 := h2.cell 5; have b6 := h2.cell 6; have b7 := h2.cell 7; have b8 := h2.cell 8; have b9 := h2.cell 9; have b10 := h2.cell 10
  have c0 := h3.cell 0; have c1 := h3.cell 1; have c2 := h3.cell 2; have c3 := h3.cell 3; have c4 := h3.cell 4; have c5 := h3.cell 5; have c6 := h3.cell 6; have c7 := h3.cell 7; have c8 := h3.cell 8; have c9 := h3.cell 9; have c10 := h3.cell 10
  simp only [bareCells, zeroMsg, List.getElem?_cons_zero, List.getElem?_cons_succ] at b0 b1 b2 b3 b4 b5 b6 b7 b8 b9 b10 c0 c1 c2 c3 c4 c5 c6 c7 c8 c9 c10
  have f2 := h2.frozen
  have f3 := h3.frozen
  have H1 := Lib.hid h1; have H2 := Lib.hid h2; have H3 := Lib.hid h3
  clear h1 h2 h3
  go_wp2_with fail
  refine bodyPost_ret (v := .agg #[.int .i64 2, .int .i64 0, .int .i64 0, .int .i64 0, .int .i64 st, .int .u32 0, .int .i64 0, .string ⟨#[]⟩, .int .i64 0, .int .i64 0, .bool ok]) (by simp [results, Try.results42, go_sem, c0, c1, c2, c3, c4, c5, c6, c7, c8, c9, c10]) rfl ⟨rfl, ?_⟩
  with_reducible (repeat (first | exact H1.out | (refine Chg.setCell ?_ _ (fun h => (by simp at h; try omega)))))
end Go.Proofs.Ytenkglbnlealbaa
