/- The walk of Parse. -/
import Derived.Test.YtanmlgliibgpcaaDoorRxT
import Derived.Tactics
import Derived.Tactics2
import Derived.Defers
import Derived.Recover
import Derived.Laws.Pointers
namespace Go.Proofs.YtanmlgliibgpcaaDoor
open Go.RowKit Thr
set_option linter.unusedVariables false
set_option linter.unusedSimpArgs false

set_option maxRecDepth 100000 in
set_option maxHeartbeats 16000000 in
theorem parse1_idle (g0 g1 g2 : Addr) (w : World) :
    CallsD Tryd.prog 33 #[.pointer (some g0), .pointer (some g1), .pointer (some g2)] .returning w fun e u' w' => e = .returned (.tuple #[]) ∧ u' = .returning ∧ w' = w := by
  refine callsD_of_wpS Tryd.func33 rfl fun c₀ cs hu => ?_
  apply wpS_seq
  apply wpS_region
  simp [wpOpsS, go_sem, recoverD, hu, Tryd.ntmps33, Exit.thenS]
  refine wpS_of_wp ?_
  go_wp2_with fail
  cases c₀
  simp_all [bodyPostS, results, Tryd.results33]
set_option maxRecDepth 100000 in
set_option maxHeartbeats 16000000 in
/-- The three results laid. -/
theorem three_set {w : World} {b : Nat} {x0 x1 x2 x3 x4 x5 x6 y0 z0 : Value} (h0 : Blk w b 26 #[x0, x1, x2, x3, x4, x5, x6]) (h1 : Blk w (b + 1) 3 #[y0]) (h2 : Blk w (b + 1 + 1) 33 #[z0]) (v0 v1 v2 v3 v4 v5 v6 y z : Value) :
    Blk (((put7 w b v0 v1 v2 v3 v4 v5 v6).setCell ⟨b + 1, 0, none⟩ y).setCell ⟨b + 1 + 1, 0, none⟩ z) b 26 #[v0, v1, v2, v3, v4, v5, v6] ∧
    Blk (((put7 w b v0 v1 v2 v3 v4 v5 v6).setCell ⟨b + 1, 0, none⟩ y).setCell ⟨b + 1 + 1, 0, none⟩ z) (b + 1) 3 #[y] ∧
    Blk (((put7 w b v0 v1 v2 v3 v4 v5 v6).setCell ⟨b + 1, 0, none⟩ y).setCell ⟨b + 1 + 1, 0, none⟩ z) (b + 1 + 1) 33 #[z] ∧
    Keeps (fun k => b ≤ k) w (((put7 w b v0 v1 v2 v3 v4 v5 v6).setCell ⟨b + 1, 0, none⟩ y).setCell ⟨b + 1 + 1, 0, none⟩ z) := by
  have k1 : Blk (put7 w b v0 v1 v2 v3 v4 v5 v6) (b + 1) 3 #[y0] := (heap_put7 _ _ _ _ _ _ _ _ _ _ (by omega)).trans h1
  have k2 : Blk (put7 w b v0 v1 v2 v3 v4 v5 v6) (b + 1 + 1) 33 #[z0] := (heap_put7 _ _ _ _ _ _ _ _ _ _ (by omega)).trans h2
  have k1' := k1.set_ 0 y
  have k2' := (k2.far (p := ⟨b + 1, 0, none⟩) (by simp only; omega) y).set_ 0 z
  simp at k1' k2'
  exact ⟨((Blk.put7 h0).far (by simp only; omega) _).far (by simp only; omega) _, k1'.far (by simp only; omega) _, k2',
    (((Keeps.refl _ w).put7 (.inl (Nat.le_refl _)) _ _ _ _ _ _ _).setCell (p := ⟨b + 1, 0, none⟩) (.inl (by simp only; omega)) _).setCell (p := ⟨b + 1 + 1, 0, none⟩) (.inl (by simp only; omega)) _⟩
theorem fault_assert (v : Value) (w : World) : (Instr.typeAssert (.iface 77 v) 20 77 true).run Tryd.prog w = .ok (.tuple #[v, .bool true]) w := by
  simp [Instr.typeAssert, run_underlying Tryd.underlying77]
set_option maxRecDepth 100000 in
set_option maxHeartbeats 16000000 in
theorem parse1_panic (b : Nat) (at_ e : Int) (x0 x1 x2 x3 x4 x5 x6 y0 z0 : Value) (w : World) (h0 : Blk w b 26 #[x0, x1, x2, x3, x4, x5, x6]) (h1 : Blk w (b + 1) 3 #[y0]) (h2 : Blk w (b + 1 + 1) 33 #[z0]) :
    CallsD Tryd.prog 33 #[.pointer (some ⟨b, 0, none⟩), .pointer (some ⟨b + 1, 0, none⟩), .pointer (some ⟨b + 1 + 1, 0, none⟩)] (.panicking [{ v := .iface 77 (.agg #[.int .i64 at_, .int .i64 e]), recovered := false }]) w fun e' u' w' =>
      e' = .returned (.tuple #[]) ∧ u' = .panicking [{ v := .iface 77 (.agg #[.int .i64 at_, .int .i64 e]), recovered := true }] ∧
        Blk w' b 26 zero7 ∧ Blk w' (b + 1) 3 #[.int .i64 at_] ∧ Blk w' (b + 1 + 1) 33 #[.int .i64 e] ∧ Keeps (fun k => b ≤ k) w w' := by
  refine callsD_of_wpS Tryd.func33 rfl fun c₀ cs hu => ?_
  apply wpS_seq
  apply wpS_region
  simp [wpOpsS, go_sem, recoverD, hu, Tryd.ntmps33, Exit.thenS]
  refine wpS_of_wp ?_
  simp only [Array.replicate_succ, Array.replicate_zero, List.push_toArray, List.nil_append, List.cons_append, List.setIfInBounds_toArray, List.set_cons_succ, List.set_cons_zero, List.append_toArray]
  obtain ⟨⟨c0, c1, c2, c3, c4, c5, c6⟩, f0, f1, f2, f3, f4, f5, f6⟩ := h0.seven
  have hX : ∀ o n, Blk (((((put7 w b (.int .i64 0) (.int .i64 0) (.bool false) (.slice none 0 0) (.int .i64 0) (.int .i64 0) (.slice none 0 0)).setCell ⟨b + 1, 0, none⟩ (.int .i64 at_)).setCell ⟨b + 1 + 1, 0, none⟩ (.int .i64 e)).alloc o).drewN n) b 26 zero7 ∧
      Blk (((((put7 w b (.int .i64 0) (.int .i64 0) (.bool false) (.slice none 0 0) (.int .i64 0) (.int .i64 0) (.slice none 0 0)).setCell ⟨b + 1, 0, none⟩ (.int .i64 at_)).setCell ⟨b + 1 + 1, 0, none⟩ (.int .i64 e)).alloc o).drewN n) (b + 1) 3 #[.int .i64 at_] ∧
      Blk (((((put7 w b (.int .i64 0) (.int .i64 0) (.bool false) (.slice none 0 0) (.int .i64 0) (.int .i64 0) (.slice none 0 0)).setCell ⟨b + 1, 0, none⟩ (.int .i64 at_)).setCell ⟨b + 1 + 1, 0, none⟩ (.int .i64 e)).alloc o).drewN n) (b + 1 + 1) 33 #[.int .i64 e] ∧
      Keeps (fun k => b ≤ k) w (((((put7 w b (.int .i64 0) (.int .i64 0) (.bool false) (.slice none 0 0) (.int .i64 0) (.int .i64 0) (.slice none 0 0)).setCell ⟨b + 1, 0, none⟩ (.int .i64 at_)).setCell ⟨b + 1 + 1, 0, none⟩ (.int .i64 e)).alloc o).drewN n) := by
    intro o n
    obtain ⟨a1, a2, a3, a4⟩ := three_set h0 h1 h2 (.int .i64 0) (.int .i64 0) (.bool false) (.slice none 0 0) (.int .i64 0) (.int .i64 0) (.slice none 0 0) (.int .i64 at_) (.int .i64 e)
    exact ⟨Blk.drewN (Blk.alloc a1 _) _, Blk.drewN (Blk.alloc a2 _) _, Blk.drewN (Blk.alloc a3 _) _, (a4.alloc _).drewN _⟩
  have HX := hide hX
  clear hX
  have d0 := h1.cell 0
  have df := h1.frozen 0
  have e0 := h2.cell 0
  have ef := h2.frozen 0
  simp at d0 e0
  have hb0 := h0.lt
  have hb1 := h1.lt
  have hb2 := h2.lt
  have hta := fault_assert (.agg #[.int .i64 at_, .int .i64 e])
  clear h0 h1 h2
  have n0 : b ≠ w.heap.size := by omega
  have n1 : b + 1 ≠ w.heap.size := by omega
  have n2 : b + 1 + 1 ≠ w.heap.size := by omega
  go_wp2_with fail
  go_region
  all_goals
    simp only [Exit.inBlock]
    refine ⟨rfl, _, rfl, .tuple #[], by simp [results, Tryd.results33], rfl, rfl, (unhide HX) _ 1⟩
end Go.Proofs.YtanmlgliibgpcaaDoor
