/- The walk of valid. -/
import Derived.Test.YtanmlgliibgpcaaDoorRxA
namespace Go.Proofs.YtanmlgliibgpcaaDoor
open Go.RowKit Thr
set_option linter.unusedVariables false
set_option linter.unusedSimpArgs false

theorem setOk_false {set : List (Int × Int)} {i : Nat} (hi : i < set.length) (h : badAt set i = true) : setOkF set = false := by
  rw [Bool.eq_false_iff]
  intro hs
  have := List.all_eq_true.1 hs i (List.mem_range.2 hi)
  rw [h] at this
  cases this
theorem setOk_true {set : List (Int × Int)} (h : ∀ i, i < set.length → badAt set i = false) : setOkF set = true :=
  List.all_eq_true.2 fun i hi => by rw [h i (List.mem_range.1 hi)]; rfl

set_option maxRecDepth 100000 in
set_option maxHeartbeats 16000000 in
theorem valid_calls {ok : Nat → Prop} (t : Rx) (cs : List Value) (w : World) (ht : TreeAt ok w t cs) :
    Calls Tryd.prog 39 #[.agg cs.toArray] w fun e w' => e = .returned (.bool (validF t)) ∧ Below w.heap.size w w' := by
  obtain ⟨kind, code, neg, set, mn, mx, kids⟩ := t
  simp only [TreeAt] at ht
  obtain ⟨vs, A, cc, rfl, hset, hc1, hc2, -⟩ := ht
  obtain ⟨F, hF⟩ : ∃ F, validF (.mk kind code neg set mn mx kids) = F := ⟨_, rfl⟩
  rw [hF]
  simp only [validF] at hF
  have HF := hide hF
  clear hF
  by_cases k5 : kind = 5
  · subst k5
    obtain ⟨As, cs', rfl, hl1, hl2, -⟩ := hset
    go_enter Tryd.func39, Tryd.ntmps39
    go_wp2_with fail
    go_ret
    refine ⟨ret_bool ?_, (by repeat (first | exact Below.refl _ _ | assumption | refine below_drewN ?_ _ | refine Below.drew ?_ | refine below_alloc' ?_ _))⟩
    rw [← unhide HF, if_pos (by simp), Bool.eq_iff_iff]; simp; omega
  have k5' : (kind == 5) = false := by simpa using k5
  by_cases k6 : kind = 6
  · subst k6
    obtain ⟨As, cs', rfl, hl1, hl2, -⟩ := hset
    go_enter Tryd.func39, Tryd.ntmps39
    go_wp2_with fail
    go_ret
    refine ⟨ret_bool ?_, (by repeat (first | exact Below.refl _ _ | assumption | refine below_drewN ?_ _ | refine Below.drew ?_ | refine below_alloc' ?_ _))⟩
    rw [← unhide HF, if_pos (by simp), Bool.eq_iff_iff]; simp; omega
  have k6' : (kind == 6) = false := by simpa using k6
  by_cases k7 : kind = 7
  · subst k7
    obtain ⟨As, cs', rfl, hl1, hl2, -⟩ := hset
    have hf := unhide HF
    rw [if_neg (by omega), if_pos rfl] at hf
    have HF2 := hide hf
    clear hf HF k5 k6 k5' k6'
    go_enter Tryd.func39, Tryd.ntmps39
    go_wp2_with fail
    all_goals
      go_ret
      refine ⟨ret_bool ?_, (by repeat (first | exact Below.refl _ _ | assumption | refine below_drewN ?_ _ | refine Below.drew ?_ | refine below_alloc' ?_ _))⟩
      rw [← unhide HF2]
      clear HF2
      rw [Bool.eq_iff_iff]
      simp_all <;> omega
  have k7' : (kind == 7) = false := by simpa using k7
  by_cases k4 : kind = 4
  · subst k4
    have hf := unhide HF
    rw [if_neg (by omega), if_neg (by omega), if_pos rfl] at hf
    have HF2 := hide hf
    have HS := hide hset
    obtain ⟨As, cs', rfl, hl1, hl2, hcs⟩ := hset
    have HCS := fun (k : Nat) (hk : k < set.length) => (show ∃ b o, As = some ⟨b, o, none⟩ ∧ w.cell? ⟨b, o + k * 2, none⟩ = some (.int .i64 set[k].1) ∧ w.cell? ⟨b, o + k * 2 + 1, none⟩ = some (.int .i64 set[k].2) by
      rcases hcs with rfl | ⟨b, o, hA, hb, h⟩
      · simp at hk
      · exact ⟨b, o, hA, h k set[k] (List.getElem?_eq_getElem hk)⟩)
    have HCS := hide HCS
    clear hf HF k5 k6 k5' k6' k7 k7' hcs
    go_enter Tryd.func39, Tryd.ntmps39
    go_wp2_with fail
    go_loopw [57] (fun i wr => ∃ m : Nat, m ≤ set.length ∧ i = .int .i64 m ∧ Hid (∀ i, i < m → badAt set i = false) ∧ Hid (Below w.heap.size w wr) ∧ wr.cell? ⟨w.heap.size, 0, none⟩ = some (.int .i64 4) ∧ wr.cell? ⟨w.heap.size, 3, none⟩ = some (.slice As set.length cs') ∧ wr.cell? ⟨w.heap.size, 6, none⟩ = some (.slice A kids.length cc) ∧ w.heap.size < wr.heap.size)
      (fun i _ => set.length - (intOf i).toNat)
    case atStart => exact ⟨0, by omega, rfl, hide (fun i hi => by omega), hide (by repeat (first | exact Below.refl _ _ | assumption | refine below_drewN ?_ _ | refine Below.drew ?_ | refine below_alloc' ?_ _)), by go_simp, by go_simp, by go_simp, by simp⟩
    case round =>
      obtain ⟨m, hm, rfl, HN, HB, f0, f3, f6, hsz⟩ := hrel
      by_cases hlt : m < set.length
      · obtain ⟨b, o, rfl, e0, e1⟩ := (unhide HCS) m hlt
        have hbl := World.block_lt_of_cell? w _ e0
        have e0' := ((bcell (unhide HB)).1 b _ hbl).trans e0
        have e1' := ((bcell (unhide HB)).1 b _ hbl).trans e1
        have hbw := World.block_lt_of_cell? wr _ e0'
        have hlt' : (m : Int) < set.length := by omega
        have hbad : badAt set m = (decide (set[m].1 < 0) || decide (set[m].1 > set[m].2) || decide (set[m].2 > 1114367) || (decide (0 < m) && nearF set[m].1 set[m - 1]?)) := by
          simp [badAt, List.getElem?_eq_getElem hlt]
        by_cases hm0 : m = 0
        · subst hm0
          simp only [show decide (0 < 0) = false from rfl, Bool.false_and, Bool.or_false] at hbad
          generalize set[0] = x at *
          obtain ⟨x1, x2⟩ := x
          simp only at hbad e0' e1'
          have HBAD := hide hbad
          clear hbad e0 e1
          simp at e0' e1'
          by_cases c0 : x1 < 0
          · have d0 : decide (x1 < 0) = true := by simpa using c0
            clear c0
            go_wp2_with fail
            go_quiet (fail)
            go_wp2_with fail
            go_ret
            refine ⟨ret_bool ?_, below_drewN ((unhide HB).alloc (by omega) _) _⟩
            rw [← unhide HF2, setOk_false hlt (by rw [unhide HBAD]; simp at d0; simp; omega), Bool.false_and]
          have d0 : decide (x1 < 0) = false := by simpa using c0
          clear c0
          by_cases c1 : x2 < x1
          · have d1 : decide (x2 < x1) = true := by simpa using c1
            clear c1
            go_wp2_with fail
            go_quiet (fail)
            go_wp2_with fail
            go_ret
            refine ⟨ret_bool ?_, below_drewN ((unhide HB).alloc (by omega) _) _⟩
            rw [← unhide HF2, setOk_false hlt (by rw [unhide HBAD]; simp at d1; simp; omega), Bool.false_and]
          have d1 : decide (x2 < x1) = false := by simpa using c1
          clear c1
          by_cases c2 : 1114367 < x2
          · have d2 : decide (1114367 < x2) = true := by simpa using c2
            clear c2
            go_wp2_with fail
            go_quiet (fail)
            go_wp2_with fail
            go_ret
            refine ⟨ret_bool ?_, below_drewN ((unhide HB).alloc (by omega) _) _⟩
            rw [← unhide HF2, setOk_false hlt (by rw [unhide HBAD]; simp at d2; simp; omega), Bool.false_and]
          have d2 : decide (1114367 < x2) = false := by simpa using c2
          clear c2
          go_wp2_with fail
          go_quiet (fail)
          go_wp2_with fail
          go_roundw
          case rel =>
            refine ⟨1, by omega, by go_num, hide ?_, hide (below_drewN ((unhide HB).alloc (by omega) _) _), by go_simp, by go_simp, by go_simp, by simp; omega⟩
            intro i hi
            rcases Nat.lt_or_ge i 0 with h | h
            · exact unhide HN i (by omega)
            · obtain rfl : i = 0 := by omega
              rw [unhide HBAD]
              simp_all
          case measure => simp [intOf]; omega
        · obtain ⟨k, rfl⟩ : ∃ k, m = k + 1 := ⟨m - 1, by omega⟩
          obtain ⟨b2, o2, hA, d0, d1⟩ := (unhide HCS) k (by omega)
          obtain ⟨rfl, rfl⟩ : b = b2 ∧ o = o2 := by cases hA; exact ⟨rfl, rfl⟩
          have d1' := ((bcell (unhide HB)).1 b _ hbl).trans d1
          rw [show k + 1 - 1 = k by omega, List.getElem?_eq_getElem (show k < set.length by omega), show decide (0 < k + 1) = true by simp] at hbad
          have hprev := unhide HN k (by omega)
          have hpb : set[k].2 ≤ 1114367 ∧ 0 ≤ set[k].1 ∧ set[k].1 ≤ set[k].2 := by
            simp only [badAt, List.getElem?_eq_getElem (show k < set.length by omega)] at hprev
            simp only [Bool.or_eq_false_iff, decide_eq_false_iff_not] at hprev
            omega
          generalize set[k + 1] = x at *
          generalize set[k] = y at *
          obtain ⟨x1, x2⟩ := x
          obtain ⟨y1, y2⟩ := y
          simp only [Bool.true_and, nearF] at hbad e0' e1' d1' hpb
          have HBAD := hide hbad
          clear hbad e0 e1 d0 d1 hprev
          by_cases c0 : x1 < 0
          · have d0 : decide (x1 < 0) = true := by simpa using c0
            clear c0
            go_wp2_with fail
            go_quiet (fail)
            go_wp2_with fail
            go_ret
            refine ⟨ret_bool ?_, below_drewN ((unhide HB).alloc (by omega) _) _⟩
            rw [← unhide HF2, setOk_false hlt (by rw [unhide HBAD]; simp at d0; simp; omega), Bool.false_and]
          have d0 : decide (x1 < 0) = false := by simpa using c0
          clear c0
          by_cases c1 : x2 < x1
          · have d1 : decide (x2 < x1) = true := by simpa using c1
            clear c1
            go_wp2_with fail
            go_quiet (fail)
            go_wp2_with fail
            go_ret
            refine ⟨ret_bool ?_, below_drewN ((unhide HB).alloc (by omega) _) _⟩
            rw [← unhide HF2, setOk_false hlt (by rw [unhide HBAD]; simp at d1; simp; omega), Bool.false_and]
          have d1 : decide (x2 < x1) = false := by simpa using c1
          clear c1
          by_cases c2 : 1114367 < x2
          · have d2 : decide (1114367 < x2) = true := by simpa using c2
            clear c2
            go_wp2_with fail
            go_quiet (fail)
            go_wp2_with fail
            go_ret
            refine ⟨ret_bool ?_, below_drewN ((unhide HB).alloc (by omega) _) _⟩
            rw [← unhide HF2, setOk_false hlt (by rw [unhide HBAD]; simp at d2; simp; omega), Bool.false_and]
          have d2 : decide (1114367 < x2) = false := by simpa using c2
          clear c2
          by_cases c3 : x1 ≤ y2 + 1
          · have d3 : decide (x1 ≤ y2 + 1) = true := by simpa using c3
            clear c3
            go_wp2_with fail
            go_quiet (fail)
            go_wp2_with fail
            go_ret
            refine ⟨ret_bool ?_, below_drewN ((unhide HB).alloc (by omega) _) _⟩
            rw [← unhide HF2, setOk_false hlt (by rw [unhide HBAD]; simp at d3; simp; omega), Bool.false_and]
          have d3 : decide (x1 ≤ y2 + 1) = false := by simpa using c3
          clear c3
          go_wp2_with fail
          go_quiet (fail)
          go_wp2_with fail
          go_roundw
          case rel =>
            refine ⟨(k + 2), by omega, by go_num, hide ?_, hide (below_drewN ((unhide HB).alloc (by omega) _) _), by go_simp, by go_simp, by go_simp, by simp; omega⟩
            intro i hi
            rcases Nat.lt_or_ge i (k + 1) with h | h
            · exact unhide HN i (by omega)
            · obtain rfl : i = (k + 1) := by omega
              rw [unhide HBAD]
              simp_all
          case measure => simp [intOf]; omega
      · obtain rfl : m = set.length := by omega
        go_wp2_with fail
        all_goals
          go_ret
          refine ⟨ret_bool ?_, unhide HB⟩
          rw [← unhide HF2, setOk_true (unhide HN)]
          rw [Bool.eq_iff_iff]
          simp_all
  · have k4' : (kind == 4) = false := by simpa using k4
    obtain ⟨As, cs', rfl, hl1, hl2, -⟩ := hset
    have hf := unhide HF
    rw [if_neg (by omega), if_neg (by omega), if_neg k4] at hf
    have HF2 := hide hf
    clear hf HF k5 k6 k7 k4
    go_enter Tryd.func39, Tryd.ntmps39
    go_wp2_with fail
    all_goals
      go_ret
      refine ⟨ret_bool ?_, (by repeat (first | exact Below.refl _ _ | assumption | refine below_drewN ?_ _ | refine Below.drew ?_ | refine below_alloc' ?_ _))⟩
      rw [← unhide HF2]
      clear HF2
      rw [Bool.eq_iff_iff]
      simp_all <;> omega
end Go.Proofs.YtanmlgliibgpcaaDoor
