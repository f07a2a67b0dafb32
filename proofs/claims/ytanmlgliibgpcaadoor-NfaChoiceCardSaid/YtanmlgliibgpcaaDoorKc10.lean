/- NfaChoice returns true of every two texts, every string and every place: no condition beyond the statement's own (a part of its proof). -/
import Derived.Test.YtanmlgliibgpcaaDoorKc09
import Derived.Tactics
import Derived.Tactics2
import Derived.Defers
import Derived.Recover
import Derived.Laws.Pointers
import Derived.Test.YtanmlgliibgpcaaDoorKc07

/- The walk of Parse. -/
namespace Go.Proofs.YtanmlgliibgpcaaDoor
open Go.RowKit Thr
set_option linter.unusedVariables false
set_option linter.unusedSimpArgs false

set_option maxRecDepth 100000 in
set_option maxHeartbeats 16000000 in
theorem parse1_idle (g0 g1 g2 : Addr) (w : World) :
    CallsD Tryd.prog 33 #[.pointer (some g0), .pointer (some g1), .pointer (some g2)] .returning w fun e u' w' => e = .returned (.tuple #[]) ∧ u' = .returning ∧ w' = w := by
  refine callsD_of_wpS Tryd.func33 rfl fun c₀ cs hu => ?_
  apply wpS_seq
  apply wpS_region
  simp [wpOpsS, go_sem, recoverD, hu, Tryd.ntmps33, Exit.thenS]
  refine wpS_of_wp ?_
  go_wp2_with fail
  cases c₀
  simp_all [bodyPostS, results, Tryd.results33]
set_option maxRecDepth 100000 in
set_option maxHeartbeats 16000000 in
/-- The three results laid. -/
theorem three_set {w : World} {b : Nat} {x0 x1 x2 x3 x4 x5 x6 y0 z0 : Value} (h0 : Blk w b 26 #[x0, x1, x2, x3, x4, x5, x6]) (h1 : Blk w (b + 1) 3 #[y0]) (h2 : Blk w (b + 1 + 1) 33 #[z0]) (v0 v1 v2 v3 v4 v5 v6 y z : Value) :
    Blk (((put7 w b v0 v1 v2 v3 v4 v5 v6).setCell ⟨b + 1, 0, none⟩ y).setCell ⟨b + 1 + 1, 0, none⟩ z) b 26 #[v0, v1, v2, v3, v4, v5, v6] ∧
    Blk (((put7 w b v0 v1 v2 v3 v4 v5 v6).setCell ⟨b + 1, 0, none⟩ y).setCell ⟨b + 1 + 1, 0, none⟩ z) (b + 1) 3 #[y] ∧
    Blk (((put7 w b v0 v1 v2 v3 v4 v5 v6).setCell ⟨b + 1, 0, none⟩ y).setCell ⟨b + 1 + 1, 0, none⟩ z) (b + 1 + 1) 33 #[z] ∧
    Keeps (fun k => b ≤ k) w (((put7 w b v0 v1 v2 v3 v4 v5 v6).setCell ⟨b + 1, 0, none⟩ y).setCell ⟨b + 1 + 1, 0, none⟩ z) := by
  have k1 : Blk (put7 w b v0 v1 v2 v3 v4 v5 v6) (b + 1) 3 #[y0] := (heap_put7 _ _ _ _ _ _ _ _ _ _ (by omega)).trans h1
  have k2 : Blk (put7 w b v0 v1 v2 v3 v4 v5 v6) (b + 1 + 1) 33 #[z0] := (heap_put7 _ _ _ _ _ _ _ _ _ _ (by omega)).trans h2
  have k1' := k1.set_ 0 y
  have k2' := (k2.far (p := ⟨b + 1, 0, none⟩) (by simp only; omega) y).set_ 0 z
  simp at k1' k2'
  exact ⟨((Blk.put7 h0).far (by simp only; omega) _).far (by simp only; omega) _, k1'.far (by simp only; omega) _, k2',
    (((Keeps.refl _ w).put7 (.inl (Nat.le_refl _)) _ _ _ _ _ _ _).setCell (p := ⟨b + 1, 0, none⟩) (.inl (by simp only; omega)) _).setCell (p := ⟨b + 1 + 1, 0, none⟩) (.inl (by simp only; omega)) _⟩
theorem fault_assert (v : Value) (w : World) : (Instr.typeAssert (.iface 77 v) 20 77 true).run Tryd.prog w = .ok (.tuple #[v, .bool true]) w := by
  simp [Instr.typeAssert, run_underlying Tryd.underlying77]
set_option maxRecDepth 100000 in
set_option maxHeartbeats 16000000 in
theorem parse1_panic (b : Nat) (at_ e : Int) (x0 x1 x2 x3 x4 x5 x6 y0 z0 : Value) (w : World) (h0 : Blk w b 26 #[x0, x1, x2, x3, x4, x5, x6]) (h1 : Blk w (b + 1) 3 #[y0]) (h2 : Blk w (b + 1 + 1) 33 #[z0]) :
    CallsD Tryd.prog 33 #[.pointer (some ⟨b, 0, none⟩), .pointer (some ⟨b + 1, 0, none⟩), .pointer (some ⟨b + 1 + 1, 0, none⟩)] (.panicking [{ v := .iface 77 (.agg #[.int .i64 at_, .int .i64 e]), recovered := false }]) w fun e' u' w' =>
      e' = .returned (.tuple #[]) ∧ u' = .panicking [{ v := .iface 77 (.agg #[.int .i64 at_, .int .i64 e]), recovered := true }] ∧
        Blk w' b 26 zero7 ∧ Blk w' (b + 1) 3 #[.int .i64 at_] ∧ Blk w' (b + 1 + 1) 33 #[.int .i64 e] ∧ Keeps (fun k => b ≤ k) w w' := by
  refine callsD_of_wpS Tryd.func33 rfl fun c₀ cs hu => ?_
  apply wpS_seq
  apply wpS_region
  simp [wpOpsS, go_sem, recoverD, hu, Tryd.ntmps33, Exit.thenS]
  refine wpS_of_wp ?_
  simp only [Array.replicate_succ, Array.replicate_zero, List.push_toArray, List.nil_append, List.cons_append, List.setIfInBounds_toArray, List.set_cons_succ, List.set_cons_zero, List.append_toArray]
  obtain ⟨⟨c0, c1, c2, c3, c4, c5, c6⟩, f0, f1, f2, f3, f4, f5, f6⟩ := h0.seven
  have hX : ∀ o n, Blk (((((put7 w b (.int .i64 0) (.int .i64 0) (.bool false) (.slice none 0 0) (.int .i64 0) (.int .i64 0) (.slice none 0 0)).setCell ⟨b + 1, 0, none⟩ (.int .i64 at_)).setCell ⟨b + 1 + 1, 0, none⟩ (.int .i64 e)).alloc o).drewN n) b 26 zero7 ∧
      Blk (((((put7 w b (.int .i64 0) (.int .i64 0) (.bool false) (.slice none 0 0) (.int .i64 0) (.int .i64 0) (.slice none 0 0)).setCell ⟨b + 1, 0, none⟩ (.int .i64 at_)).setCell ⟨b + 1 + 1, 0, none⟩ (.int .i64 e)).alloc o).drewN n) (b + 1) 3 #[.int .i64 at_] ∧
      Blk (((((put7 w b (.int .i64 0) (.int .i64 0) (.bool false) (.slice none 0 0) (.int .i64 0) (.int .i64 0) (.slice none 0 0)).setCell ⟨b + 1, 0, none⟩ (.int .i64 at_)).setCell ⟨b + 1 + 1, 0, none⟩ (.int .i64 e)).alloc o).drewN n) (b + 1 + 1) 33 #[.int .i64 e] ∧
      Keeps (fun k => b ≤ k) w (((((put7 w b (.int .i64 0) (.int .i64 0) (.bool false) (.slice none 0 0) (.int .i64 0) (.int .i64 0) (.slice none 0 0)).setCell ⟨b + 1, 0, none⟩ (.int .i64 at_)).setCell ⟨b + 1 + 1, 0, none⟩ (.int .i64 e)).alloc o).drewN n) := by
    intro o n
    obtain ⟨a1, a2, a3, a4⟩ := three_set h0 h1 h2 (.int .i64 0) (.int .i64 0) (.bool false) (.slice none 0 0) (.int .i64 0) (.int .i64 0) (.slice none 0 0) (.int .i64 at_) (.int .i64 e)
    exact ⟨Blk.drewN (Blk.alloc a1 _) _, Blk.drewN (Blk.alloc a2 _) _, Blk.drewN (Blk.alloc a3 _) _, (a4.alloc _).drewN _⟩
  have HX := hide hX
  clear hX
  have d0 := h1.cell 0
  have df := h1.frozen 0
  have e0 := h2.cell 0
  have ef := h2.frozen 0
  simp at d0 e0
  have hb0 := h0.lt
  have hb1 := h1.lt
  have hb2 := h2.lt
  have hta := fault_assert (.agg #[.int .i64 at_, .int .i64 e])
  clear h0 h1 h2
  have n0 : b ≠ w.heap.size := by omega
  have n1 : b + 1 ≠ w.heap.size := by omega
  have n2 : b + 1 + 1 ≠ w.heap.size := by omega
  go_wp2_with fail
  go_region
  all_goals
    simp only [Exit.inBlock]
    refine ⟨rfl, _, rfl, .tuple #[], by simp [results, Tryd.results33], rfl, rfl, (unhide HX) _ 1⟩
end Go.Proofs.YtanmlgliibgpcaaDoor

/- The walk of Parse. -/
namespace Go.Proofs.YtanmlgliibgpcaaDoor
open Go.RowKit Thr
set_option linter.unusedVariables false
set_option linter.unusedSimpArgs false

theorem results_cell3 {fn : Func} {p0 p1 p2 : Tmp} {t0 t1 t2 : TypeId} {P : Program} {w : World} {g0 g1 g2 : Nat} {v0 v1 v2 : Value} {tmps : Array Value} (h : fn.results = #[.cell p0 t0, .cell p1 t1, .cell p2 t2])
    (h0 : tmps.getD p0 undef = .pointer (some ⟨g0, 0, none⟩)) (h1 : tmps.getD p1 undef = .pointer (some ⟨g1, 0, none⟩)) (h2 : tmps.getD p2 undef = .pointer (some ⟨g2, 0, none⟩))
    (l0 : (loadVar t0 ⟨g0, 0, none⟩).run P w = .ok v0 w) (l1 : (loadVar t1 ⟨g1, 0, none⟩).run P w = .ok v1 w) (l2 : (loadVar t2 ⟨g2, 0, none⟩).run P w = .ok v2 w) : (results fn tmps).run P w = .ok (.tuple #[v0, v1, v2]) w := by
  have e0 : tmps[p0]?.getD undef = .pointer (some ⟨g0, 0, none⟩) := by rw [← h0]; simp
  have e1 : tmps[p1]?.getD undef = .pointer (some ⟨g1, 0, none⟩) := by rw [← h1]; simp
  have e2 : tmps[p2]?.getD undef = .pointer (some ⟨g2, 0, none⟩) := by rw [← h2]; simp
  simp only [results, h]
  simp [Sem.run_bind, Result.andThen, e0, e1, e2, asAddr, l0, l1, l2]
theorem load_int {w : World} {g : Nat} {v : Value} (h : Blk w g 3 #[v]) : (loadVar 3 ⟨g, 0, none⟩).run Tryd.prog w = .ok v w := by
  have b0 := h.cell 0
  have f0 := h.frozen 0
  simp at b0
  have a1 := Tryd.isAgg3
  go_simp
theorem load_errno {w : World} {g : Nat} {v : Value} (h : Blk w g 33 #[v]) : (loadVar 33 ⟨g, 0, none⟩).run Tryd.prog w = .ok v w := by
  have b0 := h.cell 0
  have f0 := h.frozen 0
  simp at b0
  have a1 := Tryd.isAgg33
  go_simp
theorem door_ret {P : Program} {fn : Func} {R : Ending → World → Prop} {a : Act} {w : World} {v : Value} (hd : a.defers = []) (hr : (results fn a.tmps).run P w = .ok v w) (hR : R (.returned v) w) : bodyPostD P fn R .ret a w := by
  show Leaves P fn a.tmps R a.defers .returning w
  rw [hd]
  exact ⟨v, hr, hR⟩
theorem leaves_ret {P : Program} {fn : Func} {tmps : Array Value} {R : Ending → World → Prop} {u : FrameMode} {w : World} {v : Value} (hu : settle u = .returning) (hr : (results fn tmps).run P w = .ok v w) (hR : R (.returned v) w) : Leaves P fn tmps R [] (settle u) w := by
  rw [hu]
  exact ⟨v, hr, hR⟩
theorem three_blocks (w : World) (c0 c1 c2 : Array Value) (t0 t1 t2 : TypeId) : Blk (((w.alloc (.cells c0 t0)).alloc (.cells c1 t1)).alloc (.cells c2 t2)) w.heap.size t0 c0 ∧ Blk (((w.alloc (.cells c0 t0)).alloc (.cells c1 t1)).alloc (.cells c2 t2)) (w.heap.size + 1) t1 c1 ∧
    Blk (((w.alloc (.cells c0 t0)).alloc (.cells c1 t1)).alloc (.cells c2 t2)) (w.heap.size + 1 + 1) t2 c2 := by
  have h1 := Blk.new (w.alloc (.cells c0 t0)) t1 c1
  have h2 := Blk.new ((w.alloc (.cells c0 t0)).alloc (.cells c1 t1)) t2 c2
  simp at h1 h2
  exact ⟨((Blk.new w t0 c0).alloc _).alloc _, h1.alloc _, h2⟩
def ParsePost (w w' : World) (e : Ending) : Ans → Prop
  | .fault i er => e = .returned (.tuple #[.agg zero7, .int .i64 i, .int .i64 er]) ∧ Below w.heap.size w w'
  | .tree t => ∃ cs, e = .returned (.tuple #[.agg cs.toArray, .int .i64 0, .int .i64 0]) ∧ TreeAt (fun k => w.heap.size ≤ k) w' t cs ∧ Below w.heap.size w w'

set_option maxRecDepth 100000 in
set_option maxHeartbeats 16000000 in
theorem Parse_calls (s : ByteArray) (bytes : Bool) (w : World) (hG : Glob w) (hm : s.size ≤ 9000000000000000000) :
    Calls Tryd.prog 22 #[.string s, .bool bytes] w fun e w' => ParsePost w w' e (parseF s bytes) := by
  obtain ⟨O, hO⟩ : ∃ O, parseF s bytes = O := ⟨_, rfl⟩
  rw [hO]
  unfold parseF at hO
  have hmf : ∀ (fn : Fn) (first cap : Array Value) (w : World), (Instr.makeFunc fn first cap).run Tryd.prog w = .ok (.func fn first cap) w := fun _ _ _ _ => rfl
  by_cases hlong : 1024 < s.size
  · rw [if_pos hlong] at hO
    subst hO
    have l1 : decide ((1024 : Int) < s.size) = true := decide_eq_true (by omega)
    have l2 : decide ((s.size : Int) > 1024) = true := decide_eq_true (by omega)
    have l3 : decide (1024 < s.size) = true := decide_eq_true (by omega)
    clear hG
    go_enter_defers Tryd.func22, Tryd.ntmps22
    go_wp2_with fail
    obtain ⟨h0, h1, h2⟩ := three_blocks w zero7 #[.int .i64 0] #[.int .i64 3] 26 3 33
    exact door_ret rfl (results_cell3 rfl rfl rfl rfl (load7 h0) (load_int h1) (load_errno h2)) ⟨rfl, (by repeat (first | exact Below.refl _ _ | assumption | refine below_drewN ?_ _ | refine Below.drew ?_ | refine below_alloc' ?_ _))⟩
  rw [if_neg hlong] at hO
  have l1 : decide ((1024 : Int) < s.size) = false := decide_eq_false (by omega)
  have l2 : decide ((s.size : Int) > 1024) = false := decide_eq_false (by omega)
  have l3 : decide (1024 < s.size) = false := decide_eq_false (by omega)
  obtain ⟨r, hr, -⟩ := inner_ends (sized_all s bytes) (s.size + 1) 0 [] [] 0 (by omega) (by omega)
  rw [hr] at hO
  simp only at hO
  obtain ⟨hh0, hh1, hh2⟩ := three_blocks w zero7 #[.int .i64 0] #[.int .i64 0] 26 3 33
  have hpb : PAt ((((w.alloc (.cells zero7 26)).alloc (.cells #[.int .i64 0] 3)).alloc (.cells #[.int .i64 0] 33)).alloc (.cells #[.string s, .int .i64 0, .bool bytes, .int .i64 0] 80)) (w.heap.size + 1 + 1 + 1) s 0 bytes 0 := by
    have hb := Blk.new (((w.alloc (.cells zero7 26)).alloc (.cells #[.int .i64 0] 3)).alloc (.cells #[.int .i64 0] 33)) 80 #[.string s, .int .i64 0, .bool bytes, .int .i64 0]
    rw [World.size_alloc, World.size_alloc, World.size_alloc] at hb
    exact hb
  have hbel : Below w.heap.size w ((((w.alloc (.cells zero7 26)).alloc (.cells #[.int .i64 0] 3)).alloc (.cells #[.int .i64 0] 33)).alloc (.cells #[.string s, .int .i64 0, .bool bytes, .int .i64 0] 80)) := (by repeat (first | exact Below.refl _ _ | assumption | refine below_drewN ?_ _ | refine Below.drew ?_ | refine below_alloc' ?_ _))
  have halt := alt_calls (bp := w.heap.size + 1 + 1 + 1) (s := s) (bytes := bytes) (by omega) (s.size + 1) (by omega) 0 0 r _ hr (by omega) (by omega) (by omega) hpb (hG.below hbel)
  have hb0 := Blk.alloc hh0 (.cells #[.string s, .int .i64 0, .bool bytes, .int .i64 0] 80)
  have hb1 := Blk.alloc hh1 (.cells #[.string s, .int .i64 0, .bool bytes, .int .i64 0] 80)
  have hb2 := Blk.alloc hh2 (.cells #[.string s, .int .i64 0, .bool bytes, .int .i64 0] 80)
  have HALT := hide halt; have HBEL := hide hbel; have HB0 := hide hb0; have HB1 := hide hb1; have HB2 := hide hb2; have HO := hide hO
  clear halt hpb hO hr hG hh0 hh1 hh2 hb0 hb1 hb2 hbel
  go_enter_defers Tryd.func22, Tryd.ntmps22
  go_wp2_with fail
  refine (unhide HALT).mono ?_
  cases r with
  | fault j er =>
    obtain rfl : Ans.fault j er = O := unhide HO
    rintro e w1 ⟨rfl, hk1⟩
    refine leaves_cons (f := 33) (args := #[.pointer (some ⟨w.heap.size, 0, none⟩), .pointer (some ⟨w.heap.size + 1, 0, none⟩), .pointer (some ⟨w.heap.size + 1 + 1, 0, none⟩)]) (by simp) (by simp [go_sem]) ?_
    refine (parse1_panic w.heap.size j er _ _ _ _ _ _ _ _ _ w1 ((unhide HB0).keeps hk1 (by omega)) ((unhide HB1).keeps hk1 (by omega)) ((unhide HB2).keeps hk1 (by omega))).mono ?_
    rintro e u' w2 ⟨rfl, rfl, q0, q1, q2, hk2⟩
    have hfin : Below w.heap.size w w2 := (((Keeps.of_below (unhide HBEL) (fun k => w.heap.size ≤ k)).trans hk1 (fun k h1 h2 => by omega)).trans hk2 (fun k _ h => h)).below (Nat.le_refl _) (fun k hk => by omega)
    exact leaves_ret rfl (results_cell3 rfl rfl rfl rfl (load7 q0) (load_int q1) (load_errno q2)) ⟨rfl, hfin⟩
  | stop a c j =>
    have hO : (if 200 < weightF (shutF a c) then Ans.fault 0 91 else Ans.tree (shutF a c)) = O := unhide HO
    rintro e w1 ⟨cs, rfl, ht, hP1, hk1⟩
    obtain ⟨k1, k2, k3, As, ls, cs', k5, k6, A, lk, cc, rfl⟩ := ht.form
    have hB0 := (unhide HB0).keeps hk1 (by omega)
    have hB1 := (unhide HB1).keeps hk1 (by omega)
    have hB2 := (unhide HB2).keeps hk1 (by omega)
    have hk := (Keeps.of_below (unhide HBEL) (fun k => w.heap.size ≤ k)).trans hk1 (fun k h1 h2 => by omega)
    obtain ⟨⟨b0, b1, b2, b3, b4, b5, b6⟩, f0, f1, f2, f3, f4, f5, f6⟩ := hB0.seven
    have hz1 : w.heap.size < w1.heap.size := hB0.lt
    have ht1 : TreeAt (fun k => w.heap.size + 1 + 1 + 1 < k) w1 (shutF a c) _ := TreeAt.mono (fun k hk => by simp at hk; omega) _ _ ht
    have ht2 : TreeAt (fun k => w.heap.size + 1 + 1 + 1 < k) (put7 w1 w.heap.size (.int .i64 k1) (.int .i64 k2) (.bool k3) (.slice As ls cs') (.int .i64 k5) (.int .i64 k6) (.slice A lk cc)) (shutF a c) _ := TreeAt.step (W := w1) (fun k hk _ => heap_put7 _ _ _ _ _ _ _ _ _ k (by have : w.heap.size + 1 + 1 + 1 < k := hk; omega)) _ _ ht1
    have hwt := Weight_calls (shutF a c) _ _ ht2
    have hX0 : Blk (put7 w1 w.heap.size (.int .i64 k1) (.int .i64 k2) (.bool k3) (.slice As ls cs') (.int .i64 k5) (.int .i64 k6) (.slice A lk cc)) w.heap.size 26 #[.int .i64 k1, .int .i64 k2, .bool k3, .slice As ls cs', .int .i64 k5, .int .i64 k6, .slice A lk cc] := Blk.put7 hB0
    have hX1 : Blk (put7 w1 w.heap.size (.int .i64 k1) (.int .i64 k2) (.bool k3) (.slice As ls cs') (.int .i64 k5) (.int .i64 k6) (.slice A lk cc)) (w.heap.size + 1) 3 #[.int .i64 0] := (heap_put7 _ _ _ _ _ _ _ _ _ _ (by omega)).trans hB1
    have hX2 : Blk (put7 w1 w.heap.size (.int .i64 k1) (.int .i64 k2) (.bool k3) (.slice As ls cs') (.int .i64 k5) (.int .i64 k6) (.slice A lk cc)) (w.heap.size + 1 + 1) 33 #[.int .i64 0] := (heap_put7 _ _ _ _ _ _ _ _ _ _ (by omega)).trans hB2
    have hkX := hk.put7 (g := w.heap.size) (.inl (Nat.le_refl _)) (.int .i64 k1) (.int .i64 k2) (.bool k3) (.slice As ls cs') (.int .i64 k5) (.int .i64 k6) (.slice A lk cc)
    have HWT := hide hwt; have HX0 := hide hX0; have HX1 := hide hX1; have HX2 := hide hX2; have HKX := hide hkX; have HT2 := hide ht2; have HO2 := hide hO
    clear hB0 hB1 hB2 hk ht ht1 ht2 hwt hX0 hX1 hX2 hkX hP1 hk1 hO HO
    go_wp2_with fail
    refine (unhide HWT).mono ?_
    rintro e w3 ⟨rfl, hb3⟩
    have hY0 := (unhide HX0).below hb3 (unhide HX0).lt
    have hY1 := (unhide HX1).below hb3 (unhide HX1).lt
    have hY2 := (unhide HX2).below hb3 (unhide HX2).lt
    have hkY := (unhide HKX).then_below hb3
    have htY := (unhide HT2).below hb3
    obtain ⟨⟨d0, d1, d2, d3, d4, d5, d6⟩, g0, g1, g2, g3, g4, g5, g6⟩ := hY0.seven
    have r0 := hY1.cell 0
    have s0 := hY1.frozen 0
    have r1 := hY2.cell 0
    have s1 := hY2.frozen 0
    simp at r0 r1
    have hz3 : w.heap.size < w3.heap.size := hY0.lt
    have hz4 : w.heap.size + 1 < w3.heap.size := hY1.lt
    have hz5 : w.heap.size + 1 + 1 < w3.heap.size := hY2.lt
    have HY0 := hide hY0; have HY1 := hide hY1; have HY2 := hide hY2; have HKY := hide hkY; have HTY := hide htY
    clear hb3 hY0 hY1 hY2 hkY htY b0 b1 b2 b3 b4 b5 b6 f0 f1 f2 f3 f4 f5 f6
    by_cases hw : 200 < weightF (shutF a c)
    · have hw1 : decide (200 < weightF (shutF a c)) = true := decide_eq_true hw
      obtain rfl : Ans.fault 0 91 = O := by rw [← unhide HO2, if_pos hw]
      clear hw HO2
      go_wp2_with fail
      obtain ⟨q0, q1, q2, q3⟩ := three_set (unhide HY0) (unhide HY1) (unhide HY2) (.int .i64 0) (.int .i64 0) (.bool false) (.slice none 0 0) (.int .i64 0) (.int .i64 0) (.slice none 0 0) (.int .i64 0) (.int .i64 91)
      have hfin := ((unhide HKY).trans q3 (fun k _ h => h)).below (Nat.le_refl _) (fun k hk => by omega)
      refine leaves_cons (f := 33) (args := #[.pointer (some ⟨w.heap.size, 0, none⟩), .pointer (some ⟨w.heap.size + 1, 0, none⟩), .pointer (some ⟨w.heap.size + 1 + 1, 0, none⟩)]) (by simp) (by simp [go_sem]) ?_
      refine (parse1_idle ⟨w.heap.size, 0, none⟩ ⟨w.heap.size + 1, 0, none⟩ ⟨w.heap.size + 1 + 1, 0, none⟩ _).mono ?_
      rintro e u' w4 ⟨rfl, rfl, rfl⟩
      exact leaves_ret rfl (results_cell3 rfl rfl rfl rfl (load7 q0) (load_int q1) (load_errno q2)) ⟨rfl, hfin⟩
    · have hw1 : decide (200 < weightF (shutF a c)) = false := decide_eq_false hw
      obtain rfl : Ans.tree (shutF a c) = O := by rw [← unhide HO2, if_neg hw]
      clear hw HO2
      go_wp2_with fail
      have htz : TreeAt (fun k => w.heap.size + 1 + 1 + 1 < k) (((put7 w3 w.heap.size (.int .i64 k1) (.int .i64 k2) (.bool k3) (.slice As ls cs') (.int .i64 k5) (.int .i64 k6) (.slice A lk cc)).setCell ⟨w.heap.size + 1, 0, none⟩ (.int .i64 0)).setCell ⟨w.heap.size + 1 + 1, 0, none⟩ (.int .i64 0)) (shutF a c) _ :=
        TreeAt.step (W := w3) (fun k hk _ => by
          have : w.heap.size + 1 + 1 + 1 < k := hk
          exact (Below.heap_setCell _ _ _ k (by simp only; omega)).trans ((Below.heap_setCell _ _ _ k (by simp only; omega)).trans (heap_put7 _ _ _ _ _ _ _ _ _ k (by omega)))) _ _ (unhide HTY)
      obtain ⟨q0, q1, q2, q3⟩ := three_set (unhide HY0) (unhide HY1) (unhide HY2) (.int .i64 k1) (.int .i64 k2) (.bool k3) (.slice As ls cs') (.int .i64 k5) (.int .i64 k6) (.slice A lk cc) (.int .i64 0) (.int .i64 0)
      have hfin := ((unhide HKY).trans q3 (fun k _ h => h)).below (Nat.le_refl _) (fun k hk => by omega)
      refine leaves_cons (f := 33) (args := #[.pointer (some ⟨w.heap.size, 0, none⟩), .pointer (some ⟨w.heap.size + 1, 0, none⟩), .pointer (some ⟨w.heap.size + 1 + 1, 0, none⟩)]) (by simp) (by simp [go_sem]) ?_
      refine (parse1_idle ⟨w.heap.size, 0, none⟩ ⟨w.heap.size + 1, 0, none⟩ ⟨w.heap.size + 1 + 1, 0, none⟩ _).mono ?_
      rintro e u' w4 ⟨rfl, rfl, rfl⟩
      exact leaves_ret rfl (results_cell3 rfl rfl rfl rfl (load7 q0) (load_int q1) (load_errno q2)) ⟨_, rfl, TreeAt.mono (fun k hk => (by have : w.heap.size + 1 + 1 + 1 < k := hk; omega : w.heap.size ≤ k)) _ _ htz, hfin⟩
end Go.Proofs.YtanmlgliibgpcaaDoor
