import Derived.Test.YtenkglbnlealbaaO10
import Derived.Sort.OwnSortedInts
namespace Go.Proofs.Ytenkglbnlealbaa
open Go.RowKit
attribute [local go_sem] Oper.semAt_some
theorem enters52 : ∀ args w, (callFunc 52 args).run Try.prog w = .ok (.enter 52 args) w := enters Try.func52 (by kernel_rfl) rfl
def keysOf (m : Array MapEntry × Nat) : List Int := m.1.toList.map fun e => IM.ki e.key
theorem ints_of {xs : List Value} (h : ∀ x ∈ xs, isInt x) : ∃ ss : List Int, xs = ss.map (Value.int .i64) := by
  induction xs with
  | nil => exact ⟨[], rfl⟩
  | cons x xs ih =>
    obtain ⟨n, rfl⟩ := h x (by simp)
    obtain ⟨ss, rfl⟩ := ih (fun x hx => h x (by simp [hx]))
    exact ⟨n :: ss, rfl⟩
theorem ints_perm {m : Array MapEntry × Nat} (_hw : IM.Wf .i64 m) {ss : List Int} (h : (ss.map (Value.int .i64)).Perm (m.1.toList.map (·.key))) : ss.Perm (keysOf m) := by
  have h2 := h.map IM.ki
  rw [List.map_map, List.map_map] at h2
  have e1 : ss.map (IM.ki ∘ Value.int .i64) = ss := by
    have : (IM.ki ∘ Value.int .i64) = id := by funext x; rfl
    rw [this]; simp
  rw [e1] at h2
  exact h2
set_option maxRecDepth 100000 in
set_option maxHeartbeats 1000000 in
theorem collect_keys (box o : Nat) (mo : Array MapEntry × Nat) (w : World) (hbox : w.cell? ⟨box, 0, none⟩ = some (.map (some o))) (ho : w.map? o = some mo) (hwf : IM.Wf .i64 mo) (hN : mo.1.size < 1000000) :
    Calls Try.prog 50 #[.func (.func 52) #[] #[ptr box]] w fun e w' => ∃ v ss, e = .returned v ∧ List.Perm ss (keysOf mo) ∧ w'.ownsRow 0 3 1 v ss.length (ss.map (Value.int .i64)) ∧
      (∀ k, v.ownBlock = some k → w.heap.size ≤ k) ∧ (v = .slice none 0 0 ↔ ss = []) ∧ Chg (fun _ => False) w w' := by
  have lo := World.map?_lt ho
  have hcall : Calls Try.prog 54 #[.slice none 0 0, .func (.func 52) #[] #[ptr box]] w _ := callsIn_wide.1 (appendSeq_any 0 52 #[ptr box] enters52 mo.1.size hN (fun xs => xs.Perm (mo.1.toList.map (·.key))) w
    (fun W own0 hc hown => keys_gives box o mo own0 W (hc.cell hbox (fun h => h)) (hc.map ho (fun h => h)) hwf (fun hm => by have := hown _ hm; omega)))
  go_enter Try.func50, Try.ntmps50
  have HC := Lib.hid hcall
  clear hcall
  go_wp2_with fail
  refine HC.out.mono ?_
  rintro e w' ⟨v, xs, rfl, hall, hrow, hblk, hnil, hc, hint, hlen⟩
  obtain ⟨ss, rfl⟩ := ints_of hint
  have HA := Lib.hid hall; have HR := Lib.hid hrow; have HB := Lib.hid hblk; have HN := Lib.hid hnil; have HCC := Lib.hid hc
  clear hall hrow hblk hnil hc
  go_wp2_with fail
  go_ret
  refine ⟨v, ss, rfl, ints_perm hwf HA.out, ?_, HB.out, ?_, HCC.out⟩
  · have := HR.out; simpa using this
  · have := HN.out; simpa using this
set_option maxRecDepth 100000 in
set_option maxHeartbeats 1000000 in
theorem sorted_keys (box o : Nat) (mo : Array MapEntry × Nat) (w : World) (hbox : w.cell? ⟨box, 0, none⟩ = some (.map (some o))) (ho : w.map? o = some mo) (hwf : IM.Wf .i64 mo) (hN : mo.1.size < 1000000) :
    Calls Try.prog 44 #[.func (.func 52) #[] #[ptr box]] w fun e w' => ∃ v ss, e = .returned v ∧ List.Perm ss (keysOf mo) ∧ w'.ownsRow 0 3 1 v ss.length ((ss.mergeSort fun x y => decide (x ≤ y)).map (Value.int .i64)) ∧
      (∀ k, v.ownBlock = some k → w.heap.size ≤ k) ∧ Chg (fun _ => False) w w' := by
  go_enter Try.func44, Try.ntmps44
  have HC := Lib.hid (collect_keys box o mo w hbox ho hwf hN)
  clear hwf ho hbox
  go_wp2_with fail
  refine HC.out.mono ?_
  rintro e w1 ⟨v, ss, rfl, hp, hrow, hblk, hnil, hc⟩
  have hlen : ss.length = mo.1.size := by rw [hp.length_eq]; simp [keysOf]
  have HP := Lib.hid hp; have HR := Lib.hid hrow; have HB := Lib.hid hblk; have HN := Lib.hid hnil; have HCC := Lib.hid hc; have HL := Lib.hid hlen
  clear hp hblk hnil hc hlen
  rcases hrow.2 with ⟨rfl, hz⟩ | ⟨g, cap, cur, rfl, hbase, hg, hnc, hcm, hcs, htake⟩
  · have hss : ss = [] := List.eq_nil_of_length_eq_zero hz
    subst hss
    clear hrow hz
    go_wp2_with fail
    refine (Try.slices_Sort_int_none none 0 w1).mono ?_
    rintro e w' ⟨rfl, rfl⟩
    go_wp2_with fail
    go_ret
    exact ⟨_, [], rfl, HP.out, by simpa using HR.out, HB.out, HCC.out⟩
  · have hH := Go.holds_of_blockI (ss := ss) hg (by simpa using htake)
    have hgl : g < w1.heap.size := (Array.getElem?_eq_some_iff.1 hg).1
    have HH := Lib.hid hH; have HG := Lib.hid hg; have HCS := Lib.hid hcs; have HNC := Lib.hid hnc; have HCM := Lib.hid hcm
    clear hrow hH hg hcs htake hnc hcm hbase
    go_wp2_with fail
    refine (Try.slices_Sort_int g 0 cap ss w1 HH.out hgl (by rw [HL.out]; omega)).mono ?_
    rintro e w' ⟨rfl, nn, os, rfl⟩
    go_wp2_with fail
    go_ret
    refine ⟨_, ss, rfl, HP.out, ?_, HB.out, ?_⟩
    · exact Go.ownsRow_sortedI (by simp) (Nat.zero_le _) HG.out HNC.out HCM.out HCS.out
    · have hgr := Go.grownBy_sortedI (w := w1) (g := g) (n := nn) (os := os) (ss.mergeSort fun x y => decide (x ≤ y)).toArray
      have hch : Chg (fun k => k = g) w1 _ := ⟨hgr.os, hgr.tape, hgr.output, hgr.size, fun k hk hs => hgr.block k hk (fun e => hs (by cases e; rfl))⟩
      exact HCC.out.trans' hch (fun i hi h => by have := HB.out g rfl; omega)
end Go.Proofs.Ytenkglbnlealbaa
