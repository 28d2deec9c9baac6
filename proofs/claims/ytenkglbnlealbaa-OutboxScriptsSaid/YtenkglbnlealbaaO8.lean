import Derived.Test.YtenkglbnlealbaaO7
import Derived.Maps.RangeWalk
namespace Go.Proofs.Ytenkglbnlealbaa
open Go.RowKit
theorem ret_int {k : IntKind} {a b : Int} (h : a = b) : Ending.returned (.int k a) = .returned (.int k b) := by rw [h]
def Box.len (B : Box) : Nat := B.L.length + (B.W.filter fun m => !B.out m.addr).length
def fresh (B : Box) (es : List MapEntry) : Nat := (es.filter fun e => !B.out (IM.ki e.key)).length
theorem fresh_snoc (B : Box) (es : List MapEntry) (e : MapEntry) : fresh B (es ++ [e]) = fresh B es + if B.out (IM.ki e.key) = true then 0 else 1 := by
  unfold fresh
  rw [List.filter_append]
  by_cases h : B.out (IM.ki e.key) = true <;> simp [h]
theorem fresh_all {w : World} {l : Place} {B : Box} {mo mf mq : Array MapEntry × Nat} (h : l.Ok w B mo mf mq) {done : List MapEntry} (hp : mq.1.toList.Perm done) : fresh B done = (B.W.filter fun m => !B.out m.addr).length := by
  have h1 : (IM.alist mq).Perm (B.W.map fun m => (m.addr, m.val)) := h.iq.perm
  have h2 := (h1.filter (fun p => !B.out p.1)).length_eq
  rw [List.filter_map, List.length_map] at h2
  unfold IM.alist at h2
  rw [List.filter_map, List.length_map] at h2
  unfold fresh
  rw [← (hp.filter (fun e => !B.out (IM.ki e.key))).length_eq]
  exact h2
theorem key_u32 {kd : IntKind} {m : Array MapEntry × Nat} (h : IM.Wf kd m) {e : MapEntry} (he : e ∈ m.1.toList) : e.key = .int kd (IM.ki e.key) := by
  obtain ⟨n, hk⟩ := h.keys e he
  rw [hk]; rfl
set_option maxRecDepth 100000 in
set_option maxHeartbeats 1000000 in
theorem Len_any (w : World) (l : Place) (B : Box) (h : Here w l B) (hlim : B.L.length + B.W.length < 1000000) :
    Calls Try.prog 21 #[ptr l.b] w fun e w' => e = .returned (.int .i64 B.len) ∧ Chg (fun _ => False) w w' := by
  obtain ⟨mo, mf, mq, h⟩ := h
  have c0 := h.head.cell 0; have c1 := h.head.cell 1; have c2 := h.head.cell 2
  simp only [List.getElem?_cons_zero, List.getElem?_cons_succ] at c0 c1 c2
  have hf := h.hf; have hq := h.hq
  have k1 := len54 (r := l.f) (m := mf); have k2 := rng67 (r := l.q) (m := mq)
  have lf := World.map?_lt hf; have lq := World.map?_lt hq; have lb := h.head.lt
  have sf := h.if_.size
  rw [List.length_map] at sf
  have SF := Lib.hid sf
  clear sf
  have H := Lib.hid h
  clear h
  unfold ptr
  go_enter Try.func21, Try.ntmps21
  go_wp2

  go_loopw [3] (fun n wr => ∃ done left, IM.Going wr w.heap.size l.q mq done left ∧ n = .int .i64 ((mf.1.size + fresh B done : Nat) : Int) ∧ Chg (fun _ => False) w wr) (fun _ wr => IM.toCome wr w.heap.size mq.1.size)
  case atStart => exact ⟨[], _, IM.Going.start w hq H.out.iq.wf, by simp [fresh], (Chg.refl _ w).alloc _⟩
  case round =>
    obtain ⟨done, left, hg, rfl, hc⟩ := hrel
    have c0 := hc.cell c0 (fun h => h); have c1 := hc.cell c1 (fun h => h); have c2 := hc.cell c2 (fun h => h)
    have hf' := hc.map hf (fun h => h)
    have hcount : done.length + left.length = B.W.length := by
      have := hg.perm.length_eq
      have h2 := H.out.iq.size
      simp at this h2; omega
    have hfr : fresh B done ≤ done.length := List.length_filter_le _ _
    have hbd : mf.1.size + fresh B done < 2000000 := by have := SF.out; omega
    rcases hg.next' (P := Try.prog) with ⟨hl, hrun⟩ | ⟨e, left', w2, hp, hrun, hg2, hc2⟩
    · have HG := Lib.hid hg; have HL := Lib.hid hl; have HC := Lib.hid hc
      clear hg hl hc
      go_wp2
      go_ret
      refine ⟨ret_int ?_, HC.out⟩
      have hz := HL.out
      subst hz
      have hp := HG.out.perm
      rw [List.append_nil] at hp
      rw [fresh_all H.out hp, SF.out]
      rfl
    · have hent := hg2.entry (P := Try.prog)
      have hkey := key_u32 H.out.iq.wf (hg.mem (hp.mem_iff.2 (List.mem_cons_self ..)))
      have hlen : left.length = left'.length + 1 := by rw [hp.length_eq]; rfl
      generalize hkn : IM.ki e.key = a at hkey
      rw [hkey] at hrun hent
      have e0 : w2.cell? ⟨l.b, 0, none⟩ = _ := hc2.cell c0 (fun h => by simp at h; omega)
      have e1 : w2.cell? ⟨l.b, 1, none⟩ = _ := hc2.cell c1 (fun h => by simp at h; omega)
      have hf2 : w2.map? l.f = some mf := hc2.map hf' (fun h => by omega)
      have g2 := H.out.get_out a
      have k3 := look54 (r := l.f) a H.out.if_.wf
      have hca : Chg (fun _ => False) w w2 := hc.trans' hc2 (fun i hi h => by omega)
      have hsn := fresh_snoc B done e
      rw [hkn] at hsn
      have HSN := Lib.hid hsn; have HG2 := Lib.hid hg2; have HC := Lib.hid hca; have HGT := Lib.hid hg.toCome; have HL := Lib.hid hlen
      clear hsn hg2 hc2 hca hc hg hlen hkey hkn c0 c1 c2 hp hf' hcount k1 k2
      cases hb : B.out a with
      | true =>
        rw [hb] at g2
        have HB := Lib.hid hb
        clear hb
        go_wp2
        go_roundw
        case rel =>
          have := HSN.out
          rw [HB.out] at this
          exact ⟨_, _, HG2.out, by rw [this]; simp, HC.out⟩
        case measure => rw [HG2.out.toCome, HGT.out, HL.out]; omega
      | false =>
        rw [hb] at g2
        have HB := Lib.hid hb
        clear hb
        go_wp2
        go_roundw
        case rel =>
          have := HSN.out
          rw [HB.out] at this
          exact ⟨_, _, HG2.out, by rw [this]; simp; omega, HC.out⟩
        case measure => rw [HG2.out.toCome, HGT.out, HL.out]; omega
end Go.Proofs.Ytenkglbnlealbaa
