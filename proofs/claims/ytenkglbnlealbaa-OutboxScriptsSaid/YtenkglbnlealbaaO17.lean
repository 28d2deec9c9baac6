import Derived.Test.YtenkglbnlealbaaO16
import Derived.BigQuiet
import Derived.StillTail
import Derived.StillTailTactics
namespace Go.Proofs.Ytenkglbnlealbaa
open Go.RowKit
structure Noted where
  addr : Int
  xid : Int
  ok : Bool
def Noted.val (n : Noted) : Value := .agg #[.int .i64 n.xid, .bool n.ok]
def seenAt (S : List Noted) (a : Int) : Option Noted := S.find? fun n => n.addr == a
def lastAt (S : List Noted) (a : Int) : Int × Bool := match seenAt S a with | some n => (n.xid, n.ok) | none => (0, false)
def newer (S : List Noted) (m : Msg) : Bool := decide ((lastAt S m.addr).1 < m.xid)
def same (S : List Noted) (m : Msg) : Bool := (seenAt S m.addr).isSome && (m.xid == (lastAt S m.addr).1)
def noted (S : List Noted) (m : Msg) (ok : Bool) : List Noted := if newer S m then S.filter (fun n => n.addr != m.addr) ++ [⟨m.addr, m.xid, ok⟩] else S
structure SeenOk (w : World) (s r : Nat) (S : List Noted) (m : Array MapEntry × Nat) : Prop where
  head : Blk w s [.map (some r)] 81
  map : w.map? r = some m
  is : IM.Is .u32 m (S.map fun n => (n.addr, n.val))
  ne : s ≠ r
theorem SeenOk.get {w : World} {s r : Nat} {S : List Noted} {m : Array MapEntry × Nat} (h : SeenOk w s r S m) (a : Int) : IM.get m.1 a = (seenAt S a).map Noted.val := by
  unfold seenAt
  cases hw : S.find? (fun m => m.addr == a) with
  | none =>
    refine h.is.get_none (fun p hp => ?_)
    obtain ⟨m, hm, rfl⟩ := List.mem_map.1 hp
    have := List.find?_eq_none.1 hw m hm
    simpa using this
  | some m =>
    have h1 := List.mem_of_find?_eq_some hw
    have h2 := List.find?_some hw
    refine h.is.get_some (List.mem_map.2 ⟨m, h1, ?_⟩)
    simp at h2
    simp [h2]
theorem SeenOk.keep {w w' : World} {s r : Nat} {S : List Noted} {m : Array MapEntry × Nat} (h : SeenOk w s r S m) {T : Nat → Prop} (hc : Chg T w w') (h1 : ¬ T s) (h2 : ¬ T r) : SeenOk w' s r S m := ⟨hc.blk h.head h1, hc.map h.map h2, h.is, h.ne⟩
theorem SeenOk.put {w : World} {s r : Nat} {S : List Noted} {m : Array MapEntry × Nat} (h : SeenOk w s r S m) (n : Noted) : SeenOk (w.setMap r (IM.put .u32 m n.addr n.val)) s r (S.filter (fun x => x.addr != n.addr) ++ [n]) (IM.put .u32 m n.addr n.val) := by
  have hc : Chg (fun k => k = r) w (w.setMap r (IM.put .u32 m n.addr n.val)) := (Chg.refl _ w).setMap _ (fun _ => rfl)
  refine ⟨hc.blk h.head h.ne, World.map?_setMap_same _ _ _ (World.map?_lt h.map), ?_, h.ne⟩
  have := h.is.put n.addr n.val
  rw [List.map_append, List.map_cons, List.map_nil]
  have e : (S.map fun n => (n.addr, n.val)).filter (fun p => p.1 != n.addr) = (S.filter fun x => x.addr != n.addr).map fun n => (n.addr, n.val) := by
    rw [List.filter_map]; rfl
  rwa [e] at this
theorem zero86 : ∀ w, (zeroValue 86).run Try.prog w = .ok (.agg #[.int .i64 0, .bool false]) w := fun _ => by kernel_rfl
section
variable {r : Nat} {m : Array MapEntry × Nat}
theorem look79 (n : Int) (hw : IM.Wf .u32 m) : ∀ wx : World, wx.map? r = some m → (Instr.lookup 79 (.map (some r)) (.int .u32 n) true).run Try.prog wx = .ok (.tuple #[(IM.get m.1 n).getD (.agg #[.int .i64 0, .bool false]), .bool (IM.get m.1 n).isSome]) wx :=
  fun wx h => IM.run_lookup_m wx true Try.underlying79 Try.underlying30 h hw (zero86 wx)
theorem look79' (n : Int) (hw : IM.Wf .u32 m) : ∀ wx : World, wx.map? r = some m → (Instr.lookup 79 (.map (some r)) (.int .u32 n) false).run Try.prog wx = .ok ((IM.get m.1 n).getD (.agg #[.int .i64 0, .bool false])) wx :=
  fun wx h => IM.run_lookup_m wx false Try.underlying79 Try.underlying30 h hw (zero86 wx)
theorem upd79 (n : Int) (hw : IM.Wf .u32 m) (v : Value) : ∀ wx : World, wx.map? r = some m → (Instr.mapUpdate 79 (.map (some r)) (.int .u32 n) v).run Try.prog wx = .ok () (wx.setMap r (IM.put .u32 m n v)) :=
  fun wx h => IM.run_mapUpdate_m wx v Try.underlying79 Try.underlying30 h hw
end
theorem field86 (x y : Value) (w : World) : (Instr.field 86 (.agg #[x, y]) 0).run Try.prog w = .ok x w := by kernel_rfl
theorem News_any (w : World) : Calls Try.prog 15 #[] w fun e w' => e = .returned (ptr (w.heap.size + 1)) ∧ Chg (fun _ => False) w w' ∧ SeenOk w' (w.heap.size + 1) w.heap.size [] (#[], 0) := by
  have hmm := @run_makeMap Try.prog
  go_enter Try.func15, Try.ntmps15
  go_wp2
  go_ret
  refine ⟨rfl, ((Chg.refl _ w).alloc _).alloc _, ?_, by simp [go_sem], IM.Is.empty _ _, by simp⟩
  have := Blk.new (w.alloc (.map #[] 0)) [.map (some w.heap.size)] 81
  simp only [World.size_alloc] at this
  exact this
theorem get_val (S : List Noted) (a : Int) : ((seenAt S a).map Noted.val).getD (.agg #[.int .i64 0, .bool false]) = .agg #[.int .i64 (lastAt S a).1, .bool (lastAt S a).2] ∧ ((seenAt S a).map Noted.val).isSome = (seenAt S a).isSome := by
  unfold lastAt
  cases seenAt S a <;> simp [Noted.val]
set_option maxRecDepth 100000 in
set_option maxHeartbeats 1000000 in
theorem Take_any (w : World) (s r : Nat) (S : List Noted) (mm : Array MapEntry × Nat) (h : SeenOk w s r S mm) (M : Msg) :
    Calls Try.prog 17 #[ptr s, M.val] w fun e w' => e = .returned (.tuple #[.bool (newer S M), .bool (same S M && (lastAt S M.addr).2), .bool (same S M)]) ∧ Chg (fun _ => False) w w' := by
  have c0 := h.head.cell 0
  simp only [List.getElem?_cons_zero] at c0
  have hm := h.map
  have lm := World.map?_lt hm; have lm2 : r < w.heap.size + 1 := (by omega); have lb := h.head.lt
  have k1 := look79 (r := r) M.addr h.is.wf
  rw [h.get, (get_val S M.addr).1, (get_val S M.addr).2] at k1
  have H := Lib.hid h
  clear h
  unfold ptr Msg.val Msg.cells newer same
  generalize (lastAt S M.addr).1 = x at *
  generalize (lastAt S M.addr).2 = ok at *
  generalize (seenAt S M.addr).isSome = is at *
  go_enter Try.func17, Try.ntmps17
  go_wp2
  go_region_held3 (fun w' => w'.cell? ⟨s, 0, none⟩ = some (.map (some r)) ∧ w'.cell? ⟨w.heap.size, 5, none⟩ = some (.int .u32 M.addr) ∧ w'.map? r = some mm) (simp [*, go_sem]) (first | fail)
  all_goals clear k1
  all_goals
    cases is
    · go_wp2
      go_quiet (fail)
      go_wp2
      refine bodyPost_ret (v := .tuple #[.bool (decide (x < M.xid)), .bool (false), .bool (false)]) (by simp [results, Try.results17, go_sem]) rfl ⟨?_, ?_⟩
      · simp [*]
      · exact (((Chg.refl _ w).alloc _).alloc _).drew.drewN _
    · by_cases hx : M.xid = x
      · have hx2 : (M.xid == x) = true := by simpa using hx
        clear hx
        go_wp2
        go_quiet (fail)
        go_wp2
        refine bodyPost_ret (v := .tuple #[.bool (decide (x < M.xid)), .bool (ok), .bool (true)]) (by simp [results, Try.results17, go_sem]) rfl ⟨?_, ?_⟩
        · simp [*]
        · exact (((Chg.refl _ w).alloc _).alloc _).drew.drewN _
      · have hx2 : (M.xid == x) = false := by simpa using hx
        clear hx
        go_wp2
        go_quiet (fail)
        go_wp2
        refine bodyPost_ret (v := .tuple #[.bool (decide (x < M.xid)), .bool (false), .bool (false)]) (by simp [results, Try.results17, go_sem]) rfl ⟨?_, ?_⟩
        · simp [*]
        · exact (((Chg.refl _ w).alloc _).alloc _).drew.drewN _
set_option maxRecDepth 100000 in
set_option maxHeartbeats 1000000 in
theorem Note_any (w : World) (s r : Nat) (S : List Noted) (mm : Array MapEntry × Nat) (h : SeenOk w s r S mm) (M : Msg) (ok : Bool) :
    Calls Try.prog 19 #[ptr s, M.val, .bool ok] w fun e w' => e = .returned (.tuple #[]) ∧ (∃ m', SeenOk w' s r (noted S M ok) m') ∧ Chg (fun k => k = r) w w' := by
  have c0 := h.head.cell 0
  simp only [List.getElem?_cons_zero] at c0
  have hm := h.map
  have lm := World.map?_lt hm; have lm2 : r < w.heap.size + 1 := (by omega); have lb := h.head.lt
  have k1 := look79' (r := r) M.addr h.is.wf
  have k2 := upd79 (r := r) M.addr h.is.wf (.agg #[.int .i64 M.xid, .bool ok])
  rw [h.get, (get_val S M.addr).1] at k1
  have H := Lib.hid h
  clear h
  unfold ptr Msg.val Msg.cells noted newer
  generalize (lastAt S M.addr).1 = x at *
  generalize (lastAt S M.addr).2 = ok0 at *
  have f86 : ∀ wx, (Instr.field 86 (.agg #[.int .i64 x, .bool ok0]) 0).run Try.prog wx = .ok (.int .i64 x) wx := field86 _ _
  by_cases hx : x < M.xid
  · have hx2 : decide (x < M.xid) = true := by simpa using hx
    rw [hx2]
    go_enter Try.func19, Try.ntmps19
    go_wp2
    refine wp_region_still_tail 10 (by kernel_rfl) (by kernel_rfl) ?_
    simp only [World.drew_eq, List.take_succ_cons, List.take_zero, List.drop_succ_cons, List.drop_zero]
    repeat still_step
    refine wpStill_nil ?_
    go_wp2
    refine wp_region_still_tail 10 (by kernel_rfl) (by kernel_rfl) ?_
    simp only [World.drew_eq, List.take_succ_cons, List.take_zero, List.drop_succ_cons, List.drop_zero]
    repeat still_step
    refine wpStill_nil ?_
    clear k1
    go_wp2
    go_end0
    have hp := H.out.put ⟨M.addr, M.xid, ok⟩
    refine ⟨rfl, ⟨_, _, SeenOk.keep (T := fun _ => False) hp ?_ (fun h => h) (fun h => h)⟩, ?_⟩
    · exact ((Chg.refl _ _).alloc _).drew.drew
    · exact ((((Chg.refl (fun k => k = r) w).setMap (r := r) (IM.put .u32 mm M.addr (.agg #[.int .i64 M.xid, .bool ok])) (fun _ => rfl)).alloc _).drew).drew
  · have hx2 : decide (x < M.xid) = false := by simpa using hx
    rw [hx2]
    go_enter Try.func19, Try.ntmps19
    go_wp2
    refine wp_region_still_tail 10 (by kernel_rfl) (by kernel_rfl) ?_
    simp only [World.drew_eq, List.take_succ_cons, List.take_zero, List.drop_succ_cons, List.drop_zero]
    repeat still_step
    refine wpStill_nil ?_
    go_wp2
    go_end0
    exact ⟨rfl, ⟨_, _, H.out.keep (T := fun _ => False) ((Chg.refl _ _).alloc _).drew (fun h => h) (fun h => h)⟩, ((Chg.refl _ w).alloc _).drew⟩
end Go.Proofs.Ytenkglbnlealbaa
