import Derived.Test.YtenkglbnlealbaaO8
import Derived.Test.YtenkglbnlealbaaRow
import Derived.Test.YtenkglbnlealbaaShelf
import Derived.OwnWalkIn
import Derived.TacticsInMore
import Derived.LoopNIn
import Derived.LoopIn
import Derived.RangeFuncLeaves
namespace Go.Proofs.Ytenkglbnlealbaa
open Go.RowKit
section
variable {r : Nat} {m : Array MapEntry × Nat}
theorem rng66 : ∀ wx : World, wx.map? r = some m → (Instr.range 66 (.map (some r))).run Try.prog wx = .ok (.pointer (some ⟨wx.heap.size, 0, none⟩)) (wx.alloc (.mapIter (some r) m.2 #[] m.2)) := fun wx h => IM.run_range_m wx Try.underlying66 h
end
def isInt (x : Value) : Prop := ∃ n, x = .int .i64 n
set_option maxRecDepth 100000 in
set_option maxHeartbeats 1000000 in
/-- 'maps.Keys(m)', ranged over -/
theorem keys_gives (box o : Nat) (mo : Array MapEntry × Nat) (own0 : List Nat) (W : World) (hbox : W.cell? ⟨box, 0, none⟩ = some (.map (some o))) (ho : W.map? o = some mo) (hwf : IM.Wf .i64 mo) (n2 : o ∉ own0) :
    Gives Try.prog 52 #[ptr box] own0 (fun pre x => pre.length < mo.1.size ∧ isInt x) (fun xs => xs.Perm (mo.1.toList.map (·.key))) (fun _ _ _ => True) W := by
  intro n l J hF hJ0 _ hY
  have k1 := rng66 (r := o) (m := mo)
  have lo := World.map?_lt ho
  have HW := Lib.hid hwf; have HY := Lib.hid hY; have HF := Lib.hid hF; have HJ := Lib.hid hJ0; have HN := Lib.hid n2
  clear hwf hY hF hJ0 n2
  unfold ptr
  refine callsIn_of_wp Try.func52 rfl trivial ?_ rfl
  simp only [Try.ntmps52, List.size_toArray, List.length_cons, List.length_nil, Nat.reduceAdd, Nat.reduceSub, Array.replicate_succ, Array.replicate_zero, List.push_toArray, List.append_toArray, List.nil_append, List.cons_append]
  gi_wp2
  gi_loopw [3] (fun _ wr => ∃ done left own, IM.Going wr W.heap.size o mo done left ∧ J (done.map (·.key)) own wr ∧ W.heap.size ∉ own ∧ o ∉ own) (fun _ wr => IM.toCome wr W.heap.size mo.1.size)
  case atStart =>
    refine ⟨[], _, own0, IM.Going.start W ho HW.out, HF.out.stays _ _ _ _ HJ.out ((Chg.refl _ W).alloc _), fun h => ?_, HN.out⟩
    have := HF.out.owns _ _ _ HJ.out _ h
    omega
  case round =>
    obtain ⟨done, left, own, hg, hJ, h1, h2⟩ := hrel
    have hlt := hg.lt
    rcases hg.next' (P := Try.prog) with ⟨hl, hrun⟩ | ⟨e, left', w2, hp, hrun, hg2, hc2⟩
    · have HG := Lib.hid hg; have HL := Lib.hid hl; have HJ2 := Lib.hid hJ
      clear hg hl hJ h1 h2
      gi_wp2
      go_end0
      refine ⟨⟨_, rfl⟩, _, own, ?_, HJ2.out⟩
      have hz := HL.out
      subst hz
      have hp := HG.out.perm
      rw [List.append_nil] at hp
      exact (hp.map _).symm
    · have hent := hg2.entry (P := Try.prog)
      have hkey := key_u32 HW.out (hg.mem (hp.mem_iff.2 (List.mem_cons_self ..)))
      have hlen : left.length = left'.length + 1 := by rw [hp.length_eq]; rfl
      have hcnt : done.length < mo.1.size := by
        have := hg.perm.length_eq
        simp at this; omega
      have hJ2 : J (done.map (·.key)) own w2 := HF.out.stays _ _ _ _ hJ (hc2.mono (fun i _ h => by subst h; exact ⟨Nat.le_refl _, h1⟩))
      have hY2 := fun m => HY.out m (done.map (·.key)) own e.key w2 hJ2 ⟨by simpa using hcnt, _, hkey⟩
      have hsn : (done ++ [e]).map (·.key) = done.map (·.key) ++ [e.key] := by simp
      have HSN := Lib.hid hsn
      generalize hkn : IM.ki e.key = a at hkey
      rw [hkey] at hrun hent hY2
      have HK := Lib.hid hkey
      have HG2 := Lib.hid hg2; have HGT := Lib.hid hg.toCome; have HL := Lib.hid hlen; have HH1 := Lib.hid h1; have HH2 := Lib.hid h2; have HYY := Lib.hid hY2
      have hlt2 := hg2.lt
      clear hg hg2 hlen hkn hkey hp hc2 hJ hJ2 h1 h2 hcnt hsn hY2 k1
      obtain ⟨fn, tmps, assign, body, hy, hR⟩ := HYY.out (n - 1)
      gi_wp2
      refine ⟨wide_room, hR.mono ?_⟩
      rintro e' W3 ⟨rfl, own', hJ3, hc3, hnew⟩
      have hg3 := HG2.out.keep hc3 HH1.out HH2.out
      have n1 : W.heap.size ∉ own' := fun h => (hnew _ h).elim HH1.out (fun h => by omega)
      have n2 : o ∉ own' := fun h => (hnew _ h).elim HH2.out (fun h => by omega)
      have HG3 := Lib.hid hg3; have HJ3 := Lib.hid hJ3; have HN1 := Lib.hid n1; have HN2 := Lib.hid n2
      clear hg3 hc3 hnew hJ3 n1 n2 hR hrun hent hy
      gi_wp2
      go_roundw
      case rel => exact ⟨_, _, own', HG3.out, by rw [HSN.out, HK.out]; exact HJ3.out, HN1.out, HN2.out⟩
      case measure => rw [HG3.out.toCome, HGT.out, HL.out]; omega
end Go.Proofs.Ytenkglbnlealbaa
