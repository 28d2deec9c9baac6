import Derived.Test.YtenkglbnlealbaaLastP
import Derived.Test.YtenkglbnlealbaaFn
import Derived.Test.YtenkglbnlealbaaO22
/-! Maps of a law's own beside a box. -/
namespace Go.Proofs.Ytenkglbnlealbaa
open Go.RowKit
def iv (f : Int → Option Int) : Int → Option Value := fun a => (f a).map (Value.int .i64)
theorem iv_up (f : Int → Option Int) (a v : Int) : iv (upF f a v) = upV (iv f) a (.int .i64 v) := by
  funext b
  unfold iv upF upV
  by_cases h : b = a
  · rw [if_pos h, if_pos h]; rfl
  · rw [if_neg h, if_neg h]
theorem iv_getD (f : Int → Option Int) (a : Int) : (iv f a).getD (.int .i64 0) = .int .i64 ((f a).getD 0) := by unfold iv; cases f a <;> rfl
theorem iv_isSome (f : Int → Option Int) (a : Int) : (iv f a).isSome = (f a).isSome := by unfold iv; cases f a <;> rfl
section
variable {r : Nat} {m : Array MapEntry × Nat}
theorem look54' (n : Int) (hw : IM.Wf .u32 m) : ∀ wx : World, wx.map? r = some m → (Instr.lookup 54 (.map (some r)) (.int .u32 n) false).run Try.prog wx = .ok ((IM.get m.1 n).getD (.int .i64 0)) wx :=
  fun wx h => IM.run_lookup_m wx false Try.underlying54 Try.underlying30 h hw (zero3 wx)
theorem upd54 (n : Int) (hw : IM.Wf .u32 m) : ∀ (wx : World) (v : Value), wx.map? r = some m → (Instr.mapUpdate 54 (.map (some r)) (.int .u32 n) v).run Try.prog wx = .ok () (wx.setMap r (IM.put .u32 m n v)) :=
  fun wx v h => IM.run_mapUpdate_m wx v Try.underlying54 Try.underlying30 h hw
end
/-- a law's box and its three maps -/
structure St (base r b : Nat) (w : World) (B : Box) (f g h : Int → Option Int) : Prop where
  box : Boxed base [r, r + 1, r + 1 + 1] w b B
  put : IFn .u32 w r (iv f)
  told : IFn .u32 w (r + 1) (iv g)
  xid : IFn .u32 w (r + 1 + 1) (iv h)
section
variable {base r b : Nat} {w w' : World} {B B' : Box} {f g h : Int → Option Int}
theorem St.own (s : St base r b w B f g h) : ∀ k ∈ [r, r + 1, r + 1 + 1], k < w.heap.size := by
  intro k hk
  simp only [List.mem_cons, List.not_mem_nil, or_false] at hk
  rcases hk with rfl | rfl | rfl
  · exact s.put.lt
  · exact s.told.lt
  · exact s.xid.lt
theorem St.keep (s : St base r b w B f g h) (hc : Chg (fun _ => False) w w') : St base r b w' B f g h :=
  ⟨s.box.keep (hc.mono (fun _ _ h => h.elim)) (fun _ _ h => h), s.put.keep hc (fun h => h), s.told.keep hc (fun h => h), s.xid.keep hc (fun h => h)⟩
/-- behind a step of the box -/
theorem St.step (s : St base r b w B f g h) (hb : Boxed base [r, r + 1, r + 1 + 1] w' b B') (hc : Chg (Mine base [r, r + 1, r + 1 + 1]) w w') : St base r b w' B' f g h :=
  ⟨hb, s.put.keep hc (fun h => h.2 (by simp)), s.told.keep hc (fun h => h.2 (by simp)), s.xid.keep hc (fun h => h.2 (by simp))⟩
theorem St.setPut (s : St base r b w B f g h) {m : Array MapEntry × Nat} (h1 : w.map? r = some m) (h2 : IM.Wf .u32 m) (h3 : ∀ n, IM.get m.1 n = iv f n) (a v : Int) : St base r b (w.setMap r (IM.put .u32 m a (.int .i64 v))) B (upF f a v) g h := by
  have hc : Chg (fun k => k = r) w (w.setMap r (IM.put .u32 m a (.int .i64 v))) := (Chg.refl _ w).setMap _ (fun _ => rfl)
  refine ⟨s.box.keep (hc.mono (S' := fun k => k ∈ [r, r + 1, r + 1 + 1]) (fun k _ hk => by simp [hk])) (fun _ _ h => h), ?_, s.told.keep hc (by omega), s.xid.keep hc (by omega)⟩
  rw [iv_up]
  exact IFn.put h1 h2 h3 a _
theorem St.setTold (s : St base r b w B f g h) {m : Array MapEntry × Nat} (h1 : w.map? (r + 1) = some m) (h2 : IM.Wf .u32 m) (h3 : ∀ n, IM.get m.1 n = iv g n) (a v : Int) : St base r b (w.setMap (r + 1) (IM.put .u32 m a (.int .i64 v))) B f (upF g a v) h := by
  have hc : Chg (fun k => k = r + 1) w (w.setMap (r + 1) (IM.put .u32 m a (.int .i64 v))) := (Chg.refl _ w).setMap _ (fun _ => rfl)
  refine ⟨s.box.keep (hc.mono (S' := fun k => k ∈ [r, r + 1, r + 1 + 1]) (fun k _ hk => by simp [hk])) (fun _ _ h => h), s.put.keep hc (by omega), ?_, s.xid.keep hc (by omega)⟩
  rw [iv_up]
  exact IFn.put h1 h2 h3 a _
theorem St.setXid (s : St base r b w B f g h) {m : Array MapEntry × Nat} (h1 : w.map? (r + 1 + 1) = some m) (h2 : IM.Wf .u32 m) (h3 : ∀ n, IM.get m.1 n = iv h n) (a v : Int) : St base r b (w.setMap (r + 1 + 1) (IM.put .u32 m a (.int .i64 v))) B f g (upF h a v) := by
  have hc : Chg (fun k => k = r + 1 + 1) w (w.setMap (r + 1 + 1) (IM.put .u32 m a (.int .i64 v))) := (Chg.refl _ w).setMap _ (fun _ => rfl)
  refine ⟨s.box.keep (hc.mono (S' := fun k => k ∈ [r, r + 1, r + 1 + 1]) (fun k _ hk => by simp [hk])) (fun _ _ h => h), s.put.keep hc (by omega), s.told.keep hc (by omega), ?_⟩
  rw [iv_up]
  exact IFn.put h1 h2 h3 a _
end
theorem wrap4 (x : Int) : IntKind.u32.wrap (x % 4) = x % 4 := by
  have h1 := Int.emod_nonneg x (show (4 : Int) ≠ 0 by decide)
  have h2 := Int.emod_lt_of_pos x (show (0 : Int) < 4 by decide)
  simp [IntKind.wrap, IntKind.bits]
  omega
end Go.Proofs.Ytenkglbnlealbaa
