import Derived.Test.YtenkglbnlealbaaO11
import Derived.Stop.RegionWithIn
namespace Go.Proofs.Ytenkglbnlealbaa
open Go.RowKit
def due (now : Int) (x : Msg × Int) : Bool := x.2 == -1 || decide (3 ≤ now - x.2)
def tick1 (now : Int) (x : Msg × Int) : Msg × Int := if due now x = true then (x.1, now) else x
def Box.upto (B : Box) (now : Int) (i : Nat) : Box := { B with L := (B.L.take i).map (tick1 now) ++ B.L.drop i }
def Box.tick (B : Box) (now : Int) : Box := { B with L := B.L.map (tick1 now) }
def dues (B : Box) (l : Place) (now : Int) (i : Nat) : List Value := (((B.L.zip l.ps).take i).filter (fun z => due now z.1)).map (fun z => ptr z.2)
theorem sorted_unique {a b : List Int} (h : a.Perm b) (ha : a.Pairwise (· ≤ ·)) (hb : b.Pairwise (· ≤ ·)) : a = b :=
  List.Perm.eq_of_pairwise (le := fun x y => decide (x ≤ y)) (fun x y _ _ h1 h2 => by simp at h1 h2; omega) (ha.imp (by simp)) (hb.imp (by simp)) h
theorem mergeSort_keys {w : World} {l : Place} {B : Box} {mo mf mq : Array MapEntry × Nat} (h : l.Ok w B mo mf mq) {ss : List Int} (hp : ss.Perm (keysOf mo)) :
    (ss.mergeSort fun x y => decide (x ≤ y)) = B.L.map fun x => x.1.xid := by
  have h1 : (ss.mergeSort fun x y => decide (x ≤ y)).Pairwise (· ≤ ·) :=
    (List.pairwise_mergeSort (le := fun x y => decide (x ≤ y)) (fun a b c h1 h2 => by simp at *; omega) (fun a b => by simp; omega) ss).imp (by simp)
  have h2 : (keysOf mo).Perm (B.L.map fun x => x.1.xid) := by
    have h3 := h.io.perm.map (·.1)
    unfold IM.alist at h3
    rw [List.map_map, List.map_map] at h3
    have h4 := congrArg (List.map (fun x : Msg × Int => x.1.xid)) (maps_zip B.L l.ps h.len).1
    rw [List.map_map] at h4
    rw [← h4]
    exact h3
  refine sorted_unique ((List.mergeSort_perm _ _).trans (hp.trans h2)) h1 ?_
  rw [List.pairwise_map]
  exact h.rise.imp (fun h => by omega)
section
variable {w : World} {l : Place} {B : Box} {mo mf mq : Array MapEntry × Nat} {now : Int}
theorem upto_zero : B.upto now 0 = B := by simp [Box.upto]
theorem upto_all : B.upto now B.L.length = B.tick now := by simp [Box.upto, Box.tick]
theorem upto_same {i : Nat} (hi : i < B.L.length) (hd : due now B.L[i] = false) : B.upto now (i + 1) = B.upto now i := by
  unfold Box.upto
  rw [List.take_succ_eq_append_getElem hi, List.map_append, List.append_assoc, ← List.getElem_cons_drop hi]
  simp [tick1, hd]
theorem dues_step {i : Nat} (hi : i < B.L.length) (hl : l.ps.length = B.L.length) : dues B l now (i + 1) = dues B l now i ++ if due now B.L[i] = true then [ptr (l.ps[i]'(by omega))] else [] := by
  unfold dues
  have hz : i < (B.L.zip l.ps).length := by simp; omega
  rw [List.take_succ_eq_append_getElem hz, List.filter_append, List.map_append]
  congr 1
  by_cases hd : due now B.L[i] = true
  · simp [hd]
  · simp [hd]
theorem upto_get {i : Nat} (hi : i < B.L.length) : ∃ (h : i < (B.upto now i).L.length), (B.upto now i).L[i] = B.L[i] := by
  unfold Box.upto
  refine ⟨by simp; omega, ?_⟩
  simp only []
  rw [List.getElem_append_right (by simp; omega)]
  simp
  congr 1
  omega
theorem upto_len (i : Nat) (hi : i ≤ B.L.length) : (B.upto now i).L.length = B.L.length := by
  unfold Box.upto; simp; omega
theorem upto_xids (i : Nat) : (B.upto now i).L.map (fun x => x.1.xid) = B.L.map fun x => x.1.xid := by
  unfold Box.upto
  simp only [List.map_append, List.map_map]
  have : (fun x : Msg × Int => x.1.xid) ∘ tick1 now = fun x => x.1.xid := by
    funext x; simp only [Function.comp_apply, tick1]; split <;> rfl
  rw [this, ← List.map_append, List.take_append_drop]
/-- the i-th that is out, where the first i have been looked at -/
theorem Place.Ok.nth {i : Nat} (h : l.Ok w (B.upto now i) mo mf mq) (hi : i < B.L.length) (hl : l.ps.length = B.L.length) :
    IM.get mo.1 B.L[i].1.xid = some (ptr (l.ps[i]'(by omega))) ∧ Blk w (l.ps[i]'(by omega)) (B.L[i].1.cells ++ [.int .i64 B.L[i].2]) 75 := by
  obtain ⟨h1, h2⟩ := upto_get (now := now) hi
  have hm : (B.L[i], l.ps[i]'(by omega)) ∈ (B.upto now i).L.zip l.ps := by
    rw [List.mem_iff_getElem]
    refine ⟨i, by simp; omega, ?_⟩
    rw [List.getElem_zip, h2]
  exact ⟨h.io.get_some (List.mem_map.2 ⟨_, hm, rfl⟩), h.outs _ hm⟩
end
end Go.Proofs.Ytenkglbnlealbaa
