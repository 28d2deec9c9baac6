import Derived.Test.YtenkglbnlealbaaO3a
import Derived.Deep.RegionHeld3
import Derived.Deep.RegionWith
import Derived.BigQuiet
import Derived.Deep.QuietTactic
namespace Go.Proofs.Ytenkglbnlealbaa
open Go.RowKit
/-- the fine cell behind i visits of 'Right' -/
def fineAt (f : Bool) (l s x bi p t : Int) : Nat → Bool
  | 0 => f
  | 1 => f && inRange 1 536870912 l
  | 2 => f && inRange 1 536870912 l && inRange 0 536870912 s
  | 3 => f && inRange 1 536870912 l && inRange 0 536870912 s && inRange 1 1073741824 x
  | 4 => f && inRange 1 536870912 l && inRange 0 536870912 s && inRange 1 1073741824 x
  | 5 => f && inRange 1 536870912 l && inRange 0 536870912 s && inRange 1 1073741824 x && inRange 0 5 bi
  | 6 => f && inRange 1 536870912 l && inRange 0 536870912 s && inRange 1 1073741824 x && inRange 0 5 bi && inRange 0 1099511627776 p
  | _ => f && inRange 1 536870912 l && inRange 0 536870912 s && inRange 1 1073741824 x && inRange 0 5 bi && inRange 0 1099511627776 p && inRange 0 1099511627776 t
theorem right_visits (f : Bool) (bm bf : Nat) (hne : bm ≠ bf) (l s x st a bi : Int) (c : ByteArray) (p t : Int) (ok : Bool) (w0 : World) (hb : w0.heap.size ≤ bf) :
    Visits 39 41 #[.pointer (some ⟨bf, 0, none⟩)] #[] bm
      (fun i w => Chg (fun _ => False) w0 w ∧ Blk w bm (bareCells l s x st a bi c p t ok 0) 35 ∧ Blk w bf [.bool (fineAt f l s x bi p t i)] 4) := by
  have step : ∀ (i off : Nat) (n lo hi y : Int) (w : World), (Chg (fun _ => False) w0 w ∧ Blk w bm (bareCells l s x st a bi c p t ok 0) 35 ∧ Blk w bf [.bool (fineAt f l s x bi p t i)] 4) →
      (bareCells l s x st a bi c p t ok 0)[off]? = some (.int .i64 y) → (fineAt f l s x bi p t i && inRange lo hi y) = fineAt f l s x bi p t (i + 1) →
      Calls Try.prog 39 #[.agg #[.pointer (some ⟨bm, off, none⟩), .int .i64 n, .int .i64 lo, .int .i64 hi], .pointer (some ⟨bf, 0, none⟩)] w fun e w' => e = .returned (.tuple #[]) ∧
        (Chg (fun _ => False) w0 w' ∧ Blk w' bm (bareCells l s x st a bi c p t ok 0) 35 ∧ Blk w' bf [.bool (fineAt f l s x bi p t (i + 1))] 4) := by
    rintro i off n lo hi y w ⟨h1, h2, h3⟩ hy hs
    refine (Right1_any (fineAt f l s x bi p t i) bf bm off n lo hi y w (by rw [h3.cell]; rfl) (h3.frozen _) (by rw [h2.cell]; exact hy)).mono ?_
    rintro e w' ⟨rfl, rfl⟩
    have h3' := h3.setCell 0 (.bool (fineAt f l s x bi p t i && inRange lo hi y))
    rw [hs] at h3' ⊢
    exact ⟨rfl, ((h1.setCell _ (fun h => by simp at h; omega)).alloc _).drew, ((h2.other _ (fun e => hne e.symm)).alloc _).drew, (h3'.alloc _).drew⟩
  refine ⟨?_, ?_, fun w h => step 0 1 _ _ _ _ w h rfl rfl, fun w h => step 1 2 _ _ _ _ w h rfl rfl, fun w h => step 2 3 _ _ _ _ w h rfl rfl, ?_, fun w h => step 4 6 _ _ _ _ w h rfl rfl, fun w h => step 5 8 _ _ _ _ w h rfl rfl, fun w h => step 6 9 _ _ _ _ w h rfl rfl⟩
  · rintro i w ⟨_, h2, _⟩
    rw [h2.cell]; rfl
  · rintro i w o ⟨h1, h2, h3⟩
    exact ⟨h1.alloc _, h2.alloc _, h3.alloc _⟩
  · rintro w ⟨h1, h2, h3⟩
    go_enter Try.func41, Try.ntmps41
    go_wp2
    go_end0
    exact ⟨rfl, h1, h2, h3⟩
theorem enters39 : ∀ args w, (callFunc 39 args).run Try.prog w = .ok (.enter 39 args) w := enters Try.func39 (by kernel_rfl) rfl
theorem enters41 : ∀ args w, (callFunc 41 args).run Try.prog w = .ok (.enter 41 args) w := enters Try.func41 (by kernel_rfl) rfl
/-- 'message.Right' at an Update -/
def rightU (l s x st bi : Int) (c : ByteArray) (p t : Int) (ok : Bool) : Bool :=
  fineAt (decide ((c.size : Int) ≤ 32)) l s x bi p t 7 && (decide (st = 0) && !ok)
set_option maxRecDepth 100000 in
set_option maxHeartbeats 1000000 in
theorem Right_upd (l s x st a bi : Int) (c : ByteArray) (p t : Int) (ok : Bool) (w : World) :
    Calls Try.prog 28 #[.agg #[.int .i64 2, .int .i64 l, .int .i64 s, .int .i64 x, .int .i64 st, .int .u32 a, .int .i64 bi, .string c, .int .i64 p, .int .i64 t, .bool ok]] w fun e w' =>
      e = .returned (.bool (rightU l s x st bi c p t ok)) ∧ Chg (fun _ => False) w w' := by
  go_enter Try.func28, Try.ntmps28
  go_wp2_with fail
  refine (of5 true 2 1 2 3 4 5 _ _ (by go_simp) (by go_simp) (by go_simp) (by go_simp) (by go_simp) (by decide)).mono ?_; rintro e w' ⟨rfl, rfl⟩
  go_wp2_with fail
  refine (walk_upd (right_visits (decide ((c.size : Int) ≤ 32)) w.heap.size (w.heap.size + 2) (by omega) l s x st a bi c p t ok w (by omega)) enters39 enters41 _ ⟨(((Chg.refl _ w).alloc _).alloc _).alloc _, ((Blk.new w _ 35).alloc _).alloc _,
    by have := Blk.new ((w.alloc (.cells (bareCells l s x st a bi c p t ok 0).toArray 35)).alloc (.cells #[.int .i64 1, .int .i64 2, .int .i64 3, .int .i64 4, .int .i64 5] 3)) [.bool (decide ((c.size : Int) ≤ 32))] 4; rwa [World.size_alloc, World.size_alloc] at this⟩).mono ?_
  rintro e w' ⟨rfl, h1, h2, h3⟩
  have b0 := h2.cell 0; have b1 := h2.cell 1; have b2 := h2.cell 2; have b3 := h2.cell 3; have b4 := h2.cell 4; have b5 := h2.cell 5; have b6 := h2.cell 6; have b7 := h2.cell 7; have b8 := h2.cell 8; have b9 := h2.cell 9; have b10 := h2.cell 10
  have c0 := h3.cell 0
  simp only [bareCells, List.getElem?_cons_zero, List.getElem?_cons_succ] at b0 b1 b2 b3 b4 b5 b6 b7 b8 b9 b10 c0
  have H1 := Lib.hid h1; have H2 := Lib.hid h2; have H3 := Lib.hid h3
  clear h1 h2 h3
  by_cases hf : fineAt (decide ((c.size : Int) ≤ 32)) l s x bi p t 7 = true
  · rw [hf] at c0
    have HF := Lib.hid hf
    clear hf
    by_cases hst : st = 0
    · subst hst
      cases ok
      all_goals
        go_wp2_with fail
        go_region_with (go_at_call 42; refine (bare_upd _ _ _ _ _ _ _ _ _ _ _).mono ?_; rintro e w2 ⟨rfl, hc⟩; have d0 : w2.cell? ⟨w.heap.size, 0, none⟩ = some (.int .i64 2) := hc.cell b0 (fun h => h))
        all_goals go_wp2
        all_goals go_ret
        all_goals (refine ⟨by unfold rightU; rw [HF.out]; rfl, ?_⟩; exact H1.out.trans (Chg.trans (Chg.drew (Chg.refl _ _)) hc))
    · have hst2 : (st == 0) = false := by simpa using hst
      have HS := Lib.hid hst
      clear hst
      go_wp2_with fail
      go_region_with (go_at_call 42; refine (bare_upd _ _ _ _ _ _ _ _ _ _ _).mono ?_; rintro e w2 ⟨rfl, hc⟩; have d0 : w2.cell? ⟨w.heap.size, 0, none⟩ = some (.int .i64 2) := hc.cell b0 (fun h => h))
      all_goals go_wp2
      all_goals go_ret
      all_goals (refine ⟨by rw [show rightU l s x st bi c p t ok = false from by unfold rightU; rw [HF.out, decide_eq_false HS.out]; rfl]; rfl, ?_⟩; exact H1.out.trans (Chg.trans (Chg.drew (Chg.refl _ _)) hc))
  · have hf2 : fineAt (decide ((c.size : Int) ≤ 32)) l s x bi p t 7 = false := by simpa using hf
    rw [hf2] at c0
    have HF := Lib.hid hf2
    clear hf hf2
    go_wp2_with fail
    go_quiet (fail)
    go_wp2
    go_ret
    exact ⟨by rw [show rightU l s x st bi c p t ok = false from by unfold rightU; rw [HF.out]; rfl]; rfl, H1.out.drewN _⟩
end Go.Proofs.Ytenkglbnlealbaa
