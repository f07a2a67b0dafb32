/- Walks: isWord, check. -/
import Derived.Test.YtanmlgliibgpcaaDoorBase
import Derived.Test.YtanmlgliibgpcaaDoorPureFit
namespace Go.Proofs.YtanmlgliibgpcaaDoor
open Go.RowKit Thr

set_option maxHeartbeats 400000 in
theorem isWord_calls (c : Int) (w : World) : Calls Tryd.prog 55 #[.int .i64 c] w fun e w' => e = .returned (.bool (isWordF c)) ∧ w' = w := by
  go_enter Tryd.func55, Tryd.ntmps55
  go_wp2
  all_goals
    go_ret
    refine ⟨ret_bool ?_, rfl⟩
    rw [Bool.eq_iff_iff]
    simp [isWordF]
    omega

set_option maxHeartbeats 1000000 in
theorem check_calls {ok : Nat → Prop} (t : Rx) (cs : List Value) (ahead behind : Int) (w : World) (ht : TreeAt ok w t cs) :
    Calls Tryd.prog 42 #[.agg cs.toArray, .agg #[.int .i64 ahead, .int .i64 behind]] w fun e w' => e = .returned (.bool (checkF t.kind ahead behind)) ∧ Below w.heap.size w w' := by
  obtain ⟨kind, code, neg, set, mn, mx, kids⟩ := t
  simp only [TreeAt] at ht
  obtain ⟨vs, A, c, rfl, ⟨_, _, rfl, -⟩, -⟩ := ht
  simp only [Rx.kind]
  obtain ⟨a, ha⟩ : ∃ a, isWordF ahead = a := ⟨_, rfl⟩
  obtain ⟨b, hb⟩ : ∃ b, isWordF behind = b := ⟨_, rfl⟩
  have ca := fun w => isWord_calls ahead w
  have cb := fun w => isWord_calls behind w
  rw [ha] at ca
  rw [hb] at cb
  obtain ⟨r, hr⟩ : ∃ r, checkF kind ahead behind = r := ⟨_, rfl⟩
  rw [hr]
  unfold checkF at hr
  rw [ha, hb] at hr
  have Hr := hide hr
  have Ca := hide ca
  have Cb := hide cb
  clear ca cb ha hb hr
  go_enter Tryd.func42, Tryd.ntmps42
  go_wp2_with fail
  go_quiet ((first | (go_at_call_of 55 (Value.int IntKind.i64 ahead); exact Calls.quiet_of_same (unhide Ca _)) | (go_at_call 55; exact Calls.quiet_of_same (unhide Cb _))))
  go_wp2
  all_goals
    go_ret
    refine ⟨ret_bool ?_, (by repeat (first | exact Below.refl _ _ | assumption | refine below_drewN ?_ _ | refine Below.drew ?_ | refine below_alloc' ?_ _))⟩
    rw [← unhide Hr]
    clear Hr Ca Cb
    first | (simp_all; done) | (cases a <;> cases b <;> simp_all)
end Go.Proofs.YtanmlgliibgpcaaDoor
