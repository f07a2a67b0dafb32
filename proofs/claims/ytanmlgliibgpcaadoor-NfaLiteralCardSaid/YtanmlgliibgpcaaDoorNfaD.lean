/- The walk of fits: does a character fit a node? -/
import Derived.Test.YtanmlgliibgpcaaDoorNfaC
namespace Go.Proofs.YtanmlgliibgpcaaDoor
open Go.RowKit Thr
set_option linter.unusedVariables false

set_option maxHeartbeats 4000000 in
theorem fits_calls {ok : Nat → Prop} {bp : Nat} {fold bytes : Bool} {vI : Value} {start : Int} (t : Rx) (cs : List Value) (c : Int) (w : World) (hP : Blk w bp 47 #[.bool fold, .bool bytes, vI, .int .i64 start])
    (ht : TreeAt ok w t cs) (hc0 : -1000000000 ≤ c) (hc1 : c ≤ 1000000000) :
    Calls Tryd.prog 28 #[.pointer (some ⟨bp, 0, none⟩), .agg cs.toArray, .int .i64 c] w fun e w' => e = .returned (.bool (fitsF t c fold bytes)) ∧ Below w.heap.size w w' := by
  obtain ⟨kind, code, neg, set, mn, mx, kids⟩ := t
  simp only [TreeAt] at ht
  obtain ⟨vs, A, cc, rfl, hset, -⟩ := ht
  have p0 := hP.cell 0
  have p1 := hP.cell 1
  have hbp := hP.lt
  simp at p0 p1
  have e0 : fitsF (.mk kind code neg set mn mx kids) c fold bytes = if kind = 3 then true else if kind = 2 then decide (c = code) || (fold && decide (foldF c bytes = foldF code bytes)) else inF set c fold bytes != neg := rfl
  rw [e0]
  by_cases k3 : kind = 3
  · subst k3
    rw [if_pos rfl]
    clear e0 hset hP
    go_enter Tryd.func28, Tryd.ntmps28
    go_wp2_with fail
    go_ret
    exact ⟨rfl, (by repeat (first | exact Below.refl _ _ | assumption | refine below_drewN ?_ _ | refine Below.drew ?_ | refine below_alloc' ?_ _))⟩
  rw [if_neg k3]
  have k3' : (kind == 3) = false := by simpa using k3
  by_cases k2 : kind = 2
  · subst k2
    rw [if_pos rfl]
    clear e0 hset hP k3 k3'
    by_cases h1 : c = code
    · have h1' : (c == code) = true := by simpa using h1
      have e1 : (decide (c = code) || (fold && decide (foldF c bytes = foldF code bytes))) = true := by simp [h1]
      rw [e1]
      clear h1 e1
      go_enter Tryd.func28, Tryd.ntmps28
      go_wp2_with fail
      go_quiet (fail)
      go_wp2_with fail
      go_ret
      exact ⟨rfl, (by repeat (first | exact Below.refl _ _ | assumption | refine below_drewN ?_ _ | refine Below.drew ?_ | refine below_alloc' ?_ _))⟩
    · have h1' : (c == code) = false := by simpa using h1
      cases fold with
      | false =>
        have e1 : (decide (c = code) || (false && decide (foldF c bytes = foldF code bytes))) = false := by simp [h1]
        rw [e1]
        clear h1 e1
        go_enter Tryd.func28, Tryd.ntmps28
        go_wp2_with fail
        go_quiet (fail)
        go_wp2_with fail
        go_ret
        exact ⟨rfl, (by repeat (first | exact Below.refl _ _ | assumption | refine below_drewN ?_ _ | refine Below.drew ?_ | refine below_alloc' ?_ _))⟩
      | true =>
        have e1 : (decide (c = code) || (true && decide (foldF c bytes = foldF code bytes))) = decide (foldF c bytes = foldF code bytes) := by simp [h1]
        rw [e1]
        have f1 := fun w => Fold_calls c bytes w
        have f2 := fun w => Fold_calls code bytes w
        generalize foldF c bytes = x at *
        generalize foldF code bytes = y at *
        have F1 := hide f1; have F2 := hide f2
        clear h1 e1 f1 f2
        go_enter Tryd.func28, Tryd.ntmps28
        go_wp2_with fail
        go_quiet ((first | (go_at_call_of 43 (Value.int IntKind.i64 c); exact Calls.quiet_of_same (unhide F1 _)) | (go_at_call 43; exact Calls.quiet_of_same (unhide F2 _))))
        go_wp2_with fail
        go_ret
        refine ⟨ret_bool ?_, (by repeat (first | exact Below.refl _ _ | assumption | refine below_drewN ?_ _ | refine Below.drew ?_ | refine below_alloc' ?_ _))⟩
        rw [Bool.eq_iff_iff]; simp
  rw [if_neg k2]
  have k2' : (kind == 2) = false := by simpa using k2
  have hin := fun (w1 : World) (hb : Below w.heap.size w w1) => in_calls set c w1 (hP.below hb hP.lt) (hset.below hb) hc0 hc1
  obtain ⟨As, cs', rfl, -⟩ := hset
  generalize inF set c fold bytes = x at *
  have HIN := hide hin
  clear e0 k2 k3 hin hP
  go_enter Tryd.func28, Tryd.ntmps28
  go_wp2_with fail
  go_region_with (go_at_call 44; refine (unhide HIN _ (by repeat (first | exact Below.refl _ _ | assumption | refine below_drewN ?_ _ | refine Below.drew ?_ | refine below_alloc' ?_ _))).mono ?_; rintro e w1 ⟨rfl, hb1⟩; have g2 := (bcell hb1).1 w.heap.size 2 (by simp))
  all_goals
    go_wp2
    go_ret
    refine ⟨ret_bool ?_, ?_⟩
    · first | rfl | simp
    · exact below_then (by repeat (first | exact Below.refl _ _ | assumption | refine below_drewN ?_ _ | refine Below.drew ?_ | refine below_alloc' ?_ _)) hb1
end Go.Proofs.YtanmlgliibgpcaaDoor
