/- The walk of Compile. -/
import Derived.Test.YtanmlgliibgpcaaDoorRxC
namespace Go.Proofs.YtanmlgliibgpcaaDoor
open Go.RowKit Thr
set_option linter.unusedVariables false
set_option linter.unusedSimpArgs false

theorem validTop_valids {t : Rx} (h : validTop t = true) : Valids t ∧ weightF t ≤ 200 := by
  simp only [validTop, Bool.and_eq_true, decide_eq_true_eq] at h
  exact ⟨within_valids t _ h.1, h.2⟩

/-- What is made: a program, where its block is changed at the last. -/
theorem MkP.ready {w : World} {base bp : Nat} {fold bytes : Bool} {I : List Inst} {vI : Value} (h : MkP w base bp fold bytes I vI) (hS : Sound I) (hn : I.length ≤ 1000) (hb : base ≤ w.heap.size) (start : Int) (hst : 0 ≤ start ∧ start < I.length) :
    ProgAt w.heap.size (w.setCell ⟨bp, 3, none⟩ (.int .i64 start)) bp fold bytes I start := by
  obtain ⟨xs, ho, hr⟩ := h.own
  have hne := h.ne
  refine ⟨⟨vI, h.row.set_ 3 _, ?_⟩, h.bp_lt, hS, hn, hst⟩
  rcases ho with ⟨hl, ⟨rfl, h0⟩ | ⟨g, cap, cur, rfl, hg, hh, hc1, hc2, hc3, hc4⟩⟩
  · omega
  have hgb : g ≠ bp := by rintro rfl; exact hne rfl
  have hgl : g < w.heap.size := (Array.getElem?_eq_some_iff.1 hh).1
  have hh2 : (w.setCell ⟨bp, 3, none⟩ (.int .i64 start)).heap[g]? = some (.cells cur 52 (0, 0)) := (Below.heap_setCell _ _ _ g hgb).trans hh
  refine ⟨g, 0, cap, rfl, hc1, by have : maxLen = 9223372036854775807 := rfl; omega, hgl, fun k q hq => ?_⟩
  have hk := (List.getElem?_eq_some_iff.1 hq).1
  obtain ⟨cs, ht, hc⟩ := hr.2 k q hq
  have hcell : ∀ (j : Nat) (u : Value), (instVals q cs)[j]? = some u → (w.setCell ⟨bp, 3, none⟩ (.int .i64 start)).cell? ⟨g, k * 10 + j, none⟩ = some u := by
    intro j u hu
    have hj := (List.getElem?_eq_some_iff.1 hu).1
    rw [instVals_len ht] at hj
    rw [cell_of_row _ g _ cur _ (0, 0) hh2, ← Array.getElem?_toList]
    have := hc j u hu
    rw [← hc4, List.getElem?_take, if_pos (by omega)] at this
    exact this
  have hln := ht.len
  refine ⟨cs, TreeAt.mono (fun k hk => by omega) _ _ (TreeAt.step (fun k hk hkl => Below.heap_setCell _ _ _ k (by have := h.lt; simp only; omega)) _ _ ht), ?_, ?_, ?_, ?_⟩
  · simpa using hcell 0 _ rfl
  · intro j u hu
    have hj := (List.getElem?_eq_some_iff.1 hu).1
    have := hcell (1 + j) u (by
      simp only [instVals]
      rw [List.getElem?_append_left (l₁ := [Value.int .i64 q.op] ++ cs) (by simp; omega), List.getElem?_append_right (by simp)]
      simpa using hu)
    rw [show 0 + k * 10 + 1 + j = k * 10 + (1 + j) by omega]
    exact this
  · have := hcell 8 (.int .i64 q.x) (by simp [instVals, List.getElem?_append, hln])
    simpa using this
  · have := hcell 9 (.int .i64 q.y) (by simp [instVals, List.getElem?_append, hln])
    simpa using this

set_option maxRecDepth 100000 in
set_option maxHeartbeats 8000000 in
theorem Compile_bad {ok : Nat → Prop} (t : Rx) (cs : List Value) (fold bytes : Bool) (w : World) (ht : TreeAt ok w t cs) (hv : validTop t = false) :
    Calls Tryd.prog 7 #[.agg cs.toArray, .agg #[.bool fold, .bool bytes]] w fun e w' => e = .returned (.tuple #[.pointer none, .int .i64 90]) ∧ Below w.heap.size w w' := by
  have hV := fun w1 hb => Valid_calls t cs w1 (ht.below hb)
  rw [hv] at hV
  obtain ⟨kind', code', neg', As', ls', cs'', mn', mx', A', lk', cc', rfl⟩ := ht.form
  have HV := hide hV
  clear hV ht hv
  go_enter Tryd.func7, Tryd.ntmps7
  go_wp2_with fail
  refine ((unhide HV) _ (by repeat (first | exact Below.refl _ _ | assumption | refine below_drewN ?_ _ | refine Below.drew ?_ | refine below_alloc' ?_ _))).mono ?_
  rintro e w1 ⟨rfl, hb1⟩
  go_wp2_with fail
  go_ret2
  exact ⟨rfl, below_then (by repeat (first | exact Below.refl _ _ | assumption | refine below_drewN ?_ _ | refine Below.drew ?_ | refine below_alloc' ?_ _)) hb1⟩

set_option maxRecDepth 100000 in
set_option maxHeartbeats 16000000 in
theorem Compile_good {ok : Nat → Prop} (t : Rx) (cs : List Value) (fold bytes : Bool) (w : World) (ht : TreeAt ok w t cs) (hv : validTop t = true) :
    Calls Tryd.prog 7 #[.agg cs.toArray, .agg #[.bool fold, .bool bytes]] w fun e w' => ∃ bp, e = .returned (.tuple #[.pointer (some ⟨bp, 0, none⟩), .int .i64 0]) ∧ Below w.heap.size w w' ∧ w.heap.size ≤ bp ∧ ProgAt w'.heap.size w' bp fold bytes (compiled t).2 (compiled t).1 := by
  have hV := fun w1 hb => Valid_calls t cs w1 (ht.below hb)
  rw [hv] at hV
  obtain ⟨hval, hwt⟩ := validTop_valids hv
  have hlen := compiled_len hval hwt
  have hmk := valids_makes t hval
  have hsd := compiled_sound hmk
  have hst := compiled_start hmk
  have hok := make_calls t hval
  have ht1 : TreeAt (fun k => k < w.heap.size) w t cs := TreeAt.mono (fun k hk => hk.2) _ _ (TreeAt.bound _ _ ht)
  obtain ⟨kind', code', neg', As', ls', cs'', mn', mx', A', lk', cc', rfl⟩ := ht.form
  obtain ⟨R, hR⟩ : ∃ R, compiled t = R := ⟨_, rfl⟩
  rw [hR] at hlen hsd hst ⊢
  unfold compiled at hR
  have HV := hide hV; have HOK := hide hok; have HT := hide ht1; have HR := hide hR; have HSD := hide hsd
  clear hV ht hv hval hwt hmk hok ht1 hR hsd
  go_enter Tryd.func7, Tryd.ntmps7
  go_wp2_with fail
  refine ((unhide HV) _ (by repeat (first | exact Below.refl _ _ | assumption | refine below_drewN ?_ _ | refine Below.drew ?_ | refine below_alloc' ?_ _))).mono ?_
  rintro e w1 ⟨rfl, hb1⟩
  have k0 := (bcell hb1).1 w.heap.size
  have s0 := (k0 0 (by simp; omega)).trans (show _ = some (.int .i64 kind') by go_simp)
  have s1 := (k0 1 (by simp; omega)).trans (show _ = some (.int .i64 code') by go_simp)
  have s2 := (k0 2 (by simp; omega)).trans (show _ = some (.bool neg') by go_simp)
  have s3 := (k0 3 (by simp; omega)).trans (show _ = some (.slice As' ls' cs'') by go_simp)
  have s4 := (k0 4 (by simp; omega)).trans (show _ = some (.int .i64 mn') by go_simp)
  have s5 := (k0 5 (by simp; omega)).trans (show _ = some (.int .i64 mx') by go_simp)
  have s6 := (k0 6 (by simp; omega)).trans (show _ = some (.slice A' lk' cc') by go_simp)
  have w0 := ((bcell hb1).1 (w.heap.size + 1) 0 (by simp)).trans (show _ = some (.bool fold) by go_simp)
  have w1' := ((bcell hb1).1 (w.heap.size + 1) 1 (by simp)).trans (show _ = some (.bool bytes) by go_simp)
  have HB1 := hide (below_then (w := w) (by repeat (first | exact Below.refl _ _ | assumption | refine below_drewN ?_ _ | refine Below.drew ?_ | refine below_alloc' ?_ _)) hb1)
  have hsz := hb1.size
  simp at hsz
  clear hb1 k0
  have hPm : ∀ (w2 : World), w2.heap = (w1.alloc (.cells #[.bool fold, .bool bytes, .slice none 0 0, .int .i64 0] 47)).heap → MkP w2 w.heap.size w1.heap.size fold bytes [] (.slice none 0 0) := by
    intro w2 e
    refine ⟨?_, ⟨[], World.ownsRow_nil _ _ _ _, RowOf.nil _ _⟩, by omega⟩
    unfold Blk
    rw [e]
    exact heap_alloc_new w1 _
  have hno : ∀ k, k < w1.heap.size → ¬ TurnP w1.heap.size (.slice none 0 0) k := by
    rintro k hk (rfl | h)
    · omega
    · simp [Value.ownBlock] at h
  have htr : ∀ w2 : World, Below w1.heap.size w1 w2 → TreeAt (fun k => k < w.heap.size) w2 t _ := fun w2 hb => (unhide HT).more fun k hk _ => ((unhide HB1).trans (hb.mono (by omega))).block k hk
  have hsz0 : w.heap.size < w1.heap.size := by omega
  have hmake : ∀ (w2 : World) (vI2 : Value), MkP w2 w.heap.size w1.heap.size fold bytes ([] ++ [⟨3, noNode, 0, 0⟩]) vI2 → Below w1.heap.size w1 w2 → Calls Tryd.prog 14 #[.pointer (some ⟨w1.heap.size, 0, none⟩), .agg #[.int .i64 kind', .int .i64 code', .bool neg', .slice As' ls' cs'', .int .i64 mn', .int .i64 mx', .slice A' lk' cc'], .int .i64 0] w2 fun e w' =>
      e = .returned (.int .i64 R.1) ∧ ∃ vI', MkP w' w.heap.size w1.heap.size fold bytes R.2 vI' ∧ Keeps (TurnP w1.heap.size vI2) w2 w' ∧ At w2 vI2 vI' := by
    intro w2 vI2 hP2 hb2
    have := (unhide HOK) 0 _ vI2 w2 w.heap.size w1.heap.size fold bytes _ hP2 (htr _ hb2) (by omega) (by simp) (by simp only [List.nil_append, unhide HR]; omega)
    simp only [List.nil_append, unhide HR] at this
    exact this
  have HMAKE := hide hmake
  clear hmake
  have HPM := hide hPm; have HNO := hide hno; have HTR := hide htr
  clear hPm hno htr HT
  go_wp2_with fail
  go_region_with (first
    | (go_at_call 15; refine (add_calls ⟨3, noNode, 0, 0⟩ _ _ (by exact (unhide HPM) _ rfl) (no_tree _ _) (by simp)).mono ?_; rintro e w2 ⟨rfl, vI2, hP2, hK2, hA2⟩
       have q0 := fun j => hK2.cell (o := j) (b := w.heap.size) (by simp; omega) ((unhide HNO) _ (by omega))
       have q1 := (q0 0).trans (show _ = some (.int .i64 kind') by go_simp)
       have q2 := (q0 1).trans (show _ = some (.int .i64 code') by go_simp)
       have q3 := (q0 2).trans (show _ = some (.bool neg') by go_simp)
       have q4 := (q0 3).trans (show _ = some (.slice As' ls' cs'') by go_simp)
       have q5 := (q0 4).trans (show _ = some (.int .i64 mn') by go_simp)
       have q6 := (q0 5).trans (show _ = some (.int .i64 mx') by go_simp)
       have q7 := (q0 6).trans (show _ = some (.slice A' lk' cc') by go_simp)
       have hsz2 : w.heap.size < w2.heap.size := by have := hK2.size; simp at this; omega
       have HB2 := hide ((Below.refl w1.heap.size w1).alloc (Nat.le_refl _) (.cells #[.bool fold, .bool bytes, .slice none 0 0, .int .i64 0] 47) |>.drew |>.trans (hK2.below (by simp) (fun k hk => (unhide HNO) k hk)))
       have HP2 := hide hP2; have HK2 := hide hK2; have HA2 := hide hA2
       clear q0 hP2 hK2 hA2)
    | (go_at_call 14; refine ((unhide HMAKE) _ _ (unhide HP2) (unhide HB2)).mono ?_
       rintro e w3 ⟨rfl, vI3, hP3, hK3, hA3⟩
       have z3 := hP3.row.cell 3
       have y3 := hP3.row.frozen 3
       have HP3 := hide hP3; have HK3 := hide hK3; have HA3 := hide hA3
       simp at z3
       clear hP3 hK3 hA3))
  all_goals
    have hb3 : Below w.heap.size w w3 := ((unhide HB1).trans ((unhide HB2).mono (by omega))).trans ((unhide HK3).below (by omega) (fun k hk => (unhide HP2).old_not hk))
    have hr := (unhide HP3).ready (unhide HSD) (by omega) hb3.size R.1 hst
    have HB3 := hide hb3; have HRD := hide hr
    clear hb3 hr
    go_wp2_with fail
    go_ret2
    refine ⟨w1.heap.size, rfl, (unhide HB3).setCell (p := ⟨w1.heap.size, 3, none⟩) (by simp only; omega) _, by omega, ?_⟩
    have hr := unhide HRD
    have hs : (w3.setCell ⟨w1.heap.size, 3, none⟩ (.int .i64 R.1)).heap.size = w3.heap.size := by simp
    rw [hs]
    exact hr
end Go.Proofs.YtanmlgliibgpcaaDoor
