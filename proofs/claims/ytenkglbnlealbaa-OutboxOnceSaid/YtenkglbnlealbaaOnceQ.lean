import Derived.Test.YtenkglbnlealbaaOnceP
/-! The maps of OutboxOnce beside its box. -/
namespace Go.Proofs.Ytenkglbnlealbaa
open Go.RowKit
def ia (f : Int → Option Int) : Int → Option Value := fun a => (f a).map (Value.int .u32)
def ib (f : Int → Option Bool) : Int → Option Value := fun a => (f a).map Value.bool
theorem ia_up (f : Int → Option Int) (a v : Int) : ia (upF f a v) = upV (ia f) a (.int .u32 v) := by
  funext b
  unfold ia upF upV
  by_cases h : b = a
  · rw [if_pos h, if_pos h]; rfl
  · rw [if_neg h, if_neg h]
theorem ib_up (f : Int → Option Bool) (a : Int) (v : Bool) : ib (upB f a v) = upV (ib f) a (.bool v) := by
  funext b
  unfold ib upB upV
  by_cases h : b = a
  · rw [if_pos h, if_pos h]; rfl
  · rw [if_neg h, if_neg h]
theorem ia_getD (f : Int → Option Int) (a : Int) : (ia f a).getD (.int .u32 0) = .int .u32 ((f a).getD 0) := by unfold ia; cases f a <;> rfl
theorem ib_getD (f : Int → Option Bool) (a : Int) : (ib f a).getD (.bool false) = .bool ((f a).getD false) := by unfold ib; cases f a <;> rfl
theorem zero30 : ∀ w, (zeroValue 30).run Try.prog w = .ok (.int .u32 0) w := fun _ => by kernel_rfl
theorem zero4 : ∀ w, (zeroValue 4).run Try.prog w = .ok (.bool false) w := fun _ => by kernel_rfl
section
variable {r : Nat} {m : Array MapEntry × Nat}
theorem look26 (n : Int) (hw : IM.Wf .i64 m) : ∀ wx : World, wx.map? r = some m → (Instr.lookup 26 (.map (some r)) (.int .i64 n) true).run Try.prog wx = .ok (.tuple #[(IM.get m.1 n).getD (.int .i64 0), .bool (IM.get m.1 n).isSome]) wx :=
  fun wx h => IM.run_lookup_m wx true Try.underlying26 Try.underlying3 h hw (zero3 wx)
theorem look27 (n : Int) (hw : IM.Wf .i64 m) : ∀ wx : World, wx.map? r = some m → (Instr.lookup 27 (.map (some r)) (.int .i64 n) false).run Try.prog wx = .ok ((IM.get m.1 n).getD (.int .u32 0)) wx :=
  fun wx h => IM.run_lookup_m wx false Try.underlying27 Try.underlying3 h hw (zero30 wx)
theorem look28 (n : Int) (hw : IM.Wf .i64 m) : ∀ wx : World, wx.map? r = some m → (Instr.lookup 28 (.map (some r)) (.int .i64 n) false).run Try.prog wx = .ok ((IM.get m.1 n).getD (.bool false)) wx :=
  fun wx h => IM.run_lookup_m wx false Try.underlying28 Try.underlying3 h hw (zero4 wx)
theorem upd26 (n : Int) (hw : IM.Wf .i64 m) : ∀ (wx : World) (v : Value), wx.map? r = some m → (Instr.mapUpdate 26 (.map (some r)) (.int .i64 n) v).run Try.prog wx = .ok () (wx.setMap r (IM.put .i64 m n v)) :=
  fun wx v h => IM.run_mapUpdate_m wx v Try.underlying26 Try.underlying3 h hw
theorem upd27 (n : Int) (hw : IM.Wf .i64 m) : ∀ (wx : World) (v : Value), wx.map? r = some m → (Instr.mapUpdate 27 (.map (some r)) (.int .i64 n) v).run Try.prog wx = .ok () (wx.setMap r (IM.put .i64 m n v)) :=
  fun wx v h => IM.run_mapUpdate_m wx v Try.underlying27 Try.underlying3 h hw
theorem upd28 (n : Int) (hw : IM.Wf .i64 m) : ∀ (wx : World) (v : Value), wx.map? r = some m → (Instr.mapUpdate 28 (.map (some r)) (.int .i64 n) v).run Try.prog wx = .ok () (wx.setMap r (IM.put .i64 m n v)) :=
  fun wx v h => IM.run_mapUpdate_m wx v Try.underlying28 Try.underlying3 h hw
end
/-- a law's box and its three maps -/
structure So (base r b : Nat) (own : List Nat) (w : World) (B : Box) (s o : Int → Option Int) (gn : Int → Option Bool) : Prop where
  box : Boxed base (own ++ [r, r + 1, r + 1 + 1]) w b B
  sent : IFn .i64 w r (iv s)
  of : IFn .i64 w (r + 1) (ia o)
  gone : IFn .i64 w (r + 1 + 1) (ib gn)
section
variable {base r b : Nat} {own : List Nat} {w w' : World} {B B' : Box} {s o : Int → Option Int} {gn : Int → Option Bool}
theorem So.owned (h : So base r b own w B s o gn) (ho : ∀ k ∈ own, k < w.heap.size) : ∀ k ∈ own ++ [r, r + 1, r + 1 + 1], k < w.heap.size := by
  intro k hk
  rcases List.mem_append.1 hk with hk | hk
  · exact ho k hk
  · simp only [List.mem_cons, List.not_mem_nil, or_false] at hk
    rcases hk with rfl | rfl | rfl
    · exact h.sent.lt
    · exact h.of.lt
    · exact h.gone.lt
theorem So.keep (h : So base r b own w B s o gn) (hc : Chg (fun _ => False) w w') : So base r b own w' B s o gn :=
  ⟨h.box.keep (hc.mono (fun _ _ h => h.elim)) (fun _ _ h => h), h.sent.keep hc (fun h => h), h.of.keep hc (fun h => h), h.gone.keep hc (fun h => h)⟩
theorem So.less (h : So base r b own w B s o gn) : So base r b [] w B s o gn :=
  ⟨h.box.keep (own' := [] ++ [r, r + 1, r + 1 + 1]) (Chg.refl _ w) (fun _ _ h => List.mem_append_right _ h), h.sent, h.of, h.gone⟩
/-- behind a step of the box -/
theorem So.step (h : So base r b own w B s o gn) {own' : List Nat} (hb : Boxed base (own' ++ [r, r + 1, r + 1 + 1]) w' b B') (hc : Chg (Mine base (own ++ [r, r + 1, r + 1 + 1])) w w') : So base r b own' w' B' s o gn :=
  ⟨hb, h.sent.keep hc (fun h => h.2 (by simp)), h.of.keep hc (fun h => h.2 (by simp)), h.gone.keep hc (fun h => h.2 (by simp))⟩
theorem So.setSent (h : So base r b own w B s o gn) {m : Array MapEntry × Nat} (h1 : w.map? r = some m) (h2 : IM.Wf .i64 m) (h3 : ∀ n, IM.get m.1 n = iv s n) (a v : Int) : So base r b own (w.setMap r (IM.put .i64 m a (.int .i64 v))) B (upF s a v) o gn := by
  have hc : Chg (fun k => k = r) w (w.setMap r (IM.put .i64 m a (.int .i64 v))) := (Chg.refl _ w).setMap _ (fun _ => rfl)
  refine ⟨h.box.keep (hc.mono (S' := fun k => k ∈ own ++ [r, r + 1, r + 1 + 1]) (fun k _ hk => by simp [hk])) (fun _ _ h => h), ?_, h.of.keep hc (by omega), h.gone.keep hc (by omega)⟩
  rw [iv_up]
  exact IFn.put h1 h2 h3 a _
theorem So.setOf (h : So base r b own w B s o gn) {m : Array MapEntry × Nat} (h1 : w.map? (r + 1) = some m) (h2 : IM.Wf .i64 m) (h3 : ∀ n, IM.get m.1 n = ia o n) (a v : Int) : So base r b own (w.setMap (r + 1) (IM.put .i64 m a (.int .u32 v))) B s (upF o a v) gn := by
  have hc : Chg (fun k => k = r + 1) w (w.setMap (r + 1) (IM.put .i64 m a (.int .u32 v))) := (Chg.refl _ w).setMap _ (fun _ => rfl)
  refine ⟨h.box.keep (hc.mono (S' := fun k => k ∈ own ++ [r, r + 1, r + 1 + 1]) (fun k _ hk => by simp [hk])) (fun _ _ h => h), h.sent.keep hc (by omega), ?_, h.gone.keep hc (by omega)⟩
  rw [ia_up]
  exact IFn.put h1 h2 h3 a _
theorem So.setGone (h : So base r b own w B s o gn) {m : Array MapEntry × Nat} (h1 : w.map? (r + 1 + 1) = some m) (h2 : IM.Wf .i64 m) (h3 : ∀ n, IM.get m.1 n = ib gn n) (a : Int) (v : Bool) : So base r b own (w.setMap (r + 1 + 1) (IM.put .i64 m a (.bool v))) B s o (upB gn a v) := by
  have hc : Chg (fun k => k = r + 1 + 1) w (w.setMap (r + 1 + 1) (IM.put .i64 m a (.bool v))) := (Chg.refl _ w).setMap _ (fun _ => rfl)
  refine ⟨h.box.keep (hc.mono (S' := fun k => k ∈ own ++ [r, r + 1, r + 1 + 1]) (fun k _ hk => by simp [hk])) (fun _ _ h => h), h.sent.keep hc (by omega), h.of.keep hc (by omega), ?_⟩
  rw [ib_up]
  exact IFn.put h1 h2 h3 a _
end
end Go.Proofs.Ytenkglbnlealbaa
