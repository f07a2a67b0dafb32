/- The walk of merged: sorting. -/
import Derived.Test.YtanmlgliibgpcaaDoorRxJ
import Derived.Test.YtanmlgliibgpcaaDoorShelfS
import Derived.Shelf.SlSortFuncK.HeapSortK
namespace Go.Proofs.YtanmlgliibgpcaaDoor
open Go.RowKit Thr
open Go.Sort (flatK get_flatK HoldsK)
set_option linter.unusedVariables false
set_option linter.unusedSimpArgs false

def encR (r : Int × Int) : List Value := [.int .i64 r.1, .int .i64 r.2]
def cmpR (x y : Int × Int) : Int := Lib.compareInt x.1 y.1
theorem ltR (x y : Int × Int) : ltOf cmpR x y = decide (x.1 < y.1) := by
  unfold ltOf cmpR Lib.compareInt
  rw [Bool.eq_iff_iff]
  simp only [decide_eq_true_eq]
  split
  · simp_all
  · split <;> simp_all
theorem cmpR_swo : Go.Sort.SWO (ltOf cmpR) := by
  refine ⟨fun x => by rw [ltR]; simp, fun x y z h1 h2 => ?_, fun x y z h1 h2 => ?_⟩
  · rw [ltR] at *; simp at *; omega
  · rw [ltR] at *; simp at *; omega
theorem keeps_sorted (w : World) (g n : Nat) (d' : Array (Int × Int)) (os : Array Obj) : Keeps (fun k => k = g) w (sortWorldK encR 2 w g 0 n d' os) := by
  refine ⟨rfl, rfl, rfl, ?_, fun k hk hn => ?_⟩
  · unfold sortWorldK Sort.grow Sort.putRowK Sort.putRow Sort.mapBlock Sort.ahead
    simp
  · unfold sortWorldK Sort.grow Sort.putRowK Sort.putRow Sort.mapBlock Sort.ahead
    show (w.heap.modify g _ ++ os)[k]? = _
    rw [Array.getElem?_append_left (by simpa using hk), Array.getElem?_modify, if_neg (fun e => hn e.symm)]
theorem two_allocs (w : World) (a b : Obj) : (w.alloc a).alloc b = Sort.grow (w.drewN 0) #[a, b] := by
  have h : (w.heap.push a).push b = w.heap ++ #[a, b] := by
    apply Array.toList_inj.1
    simp
  unfold Sort.grow
  show ({ w with heap := (w.heap.push a).push b } : World) = { w with heap := w.heap ++ #[a, b] }
  rw [h]

set_option maxHeartbeats 4000000 in
theorem merged1_calls (x y : Int × Int) (w : World) : Calls Tryd.prog 82 #[.agg (encR x).toArray, .agg (encR y).toArray] w fun e w' => e = .returned (.int .i64 (cmpR x y)) ∧ ∃ os, w' = Sort.grow (w.drewN 0) os := by
  have hc := fun w => Tryd.cmp_Compare_int x.1 y.1 w
  have HC := hide hc
  unfold cmpR
  generalize Lib.compareInt x.1 y.1 = c at *
  simp only [encR]
  clear hc
  go_enter Tryd.func82, Tryd.ntmps82
  go_wp2_with fail
  refine (unhide HC _).mono ?_
  rintro e w' ⟨rfl, hw⟩
  obtain rfl := hw.symm
  go_wp2_with fail
  go_ret
  exact ⟨rfl, _, two_allocs _ _ _⟩

theorem rangeCells_flat (l : List (Int × Int)) (j : Nat) (hj : j < l.length * 2) : (rangeCells l)[j]? = some ((flatK encR 2 l.toArray)[j]!) := by
  rw [get_flatK _ _ _ _ (by simpa using hj)]
  have hq : j / 2 < l.length := by omega
  have hg := rangeCells_get l (j / 2) l[j / 2] (List.getElem?_eq_getElem hq)
  have hx : (l.toArray[j / 2]!) = l[j / 2] := by
    rw [getElem!_pos l.toArray (j / 2) (by simpa using hq)]
    simp
  rw [hx]
  rcases Nat.mod_two_eq_zero_or_one j with h | h
  · rw [h, show (rangeCells l)[j]? = (rangeCells l)[j / 2 * 2]? by congr 1; omega, hg.1]
    rfl
  · rw [h, show (rangeCells l)[j]? = (rangeCells l)[j / 2 * 2 + 1]? by congr 1; omega, hg.2]
    rfl

set_option maxHeartbeats 4000000 in
theorem sort_calls (l : List (Int × Int)) (g cap : Nat) (cur : Array Value) (w : World) (hh : w.heap[g]? = some (.cells cur 65 (0, 0))) (hc : cur.toList.take (l.length * 2) = rangeCells l) (hcur : l.length * 2 ≤ cur.size) (hcap : l.length ≤ cap) (hcap2 : cap ≤ 9223372036854775807) (hl : l.length ≤ 1000000) :
    Calls Tryd.prog 81 #[.slice (some ⟨g, 0, none⟩) l.length cap, .func (.func 82) #[] #[]] w fun e w' => e = .returned (.tuple #[]) ∧
      ∃ l', l'.Perm l ∧ l'.Pairwise (fun x y => x.1 ≤ y.1) ∧ SetAt (fun k => k = g) w' (.slice (some ⟨g, 0, none⟩) l.length cap) l' ∧ Keeps (fun k => k = g) w w' := by
  have hgl : g < w.heap.size := (Array.getElem?_eq_some_iff.1 hh).1
  have hH : HoldsK encR 2 w g 0 l.toArray := by
    intro j hj
    simp at hj
    refine ⟨?_, by simp [World.frozen?, hh]⟩
    rw [Nat.zero_add, cell_of_row w g j cur _ (0, 0) hh, ← Array.getElem?_toList]
    have := rangeCells_flat l j hj
    rw [← hc, List.getElem?_take, if_pos hj] at this
    exact this
  have h := AnyQ.slices_SortFunc (α := Int × Int) Tryd.sortL 2 Tryd.isAgg65 Tryd.sizeOf65 encR (fun x => rfl) (fun x v hv => by simp [encR] at hv; rcases hv with rfl | rfl <;> rfl) cmpR cmpR_swo 82 #[] g 0 cap l.toArray w
    (enters_of Tryd.func82 (by kernel_rfl) rfl) (fun m os dk hs x y => (merged1_calls x y _).mono fun e w' hw => ⟨hw.1, 0, hw.2⟩) hH hgl (by simp; omega)
  simp only [List.size_toArray] at h
  refine h.mono ?_
  rintro e w' ⟨he, d', n, os, hp, hs, rfl⟩
  obtain ⟨hp1, hp2, hp3⟩ := hp
  simp only [List.size_toArray] at hp1
  have hd : d'.toList.length = l.length := by rw [Array.length_toList]; exact hp1
  refine ⟨he, d'.toList, ?_, ?_, ?_, keeps_sorted w g n d' os⟩
  · have e1 : (d'.extract 0 l.length).toList = d'.toList := by
      rw [← hp1]; simp
    have e2 : (l.toArray.extract 0 l.length).toList = l := by simp
    rw [e1, e2] at hp3
    exact hp3
  · rw [List.pairwise_iff_getElem]
    intro i j hi hj hij
    have h1 := hs i j (by omega) hij (by omega)
    rw [getElem!_pos d' i (by rw [Array.length_toList] at hi; exact hi), getElem!_pos d' j (by rw [Array.length_toList] at hj; exact hj), ltR] at h1
    simp only [decide_eq_false_iff_not] at h1
    rw [Array.getElem_toList, Array.getElem_toList]
    omega
  · rw [← hd]
    refine ⟨some ⟨g, 0, none⟩, cap, rfl, by omega, hcap2, .inr ⟨g, 0, rfl, rfl, fun i x hx => ?_⟩⟩
    have hc := holdsK_sortWorldK encR 2 w g 0 n l.toArray d' os hgl hH (by simpa using hp1)
    obtain ⟨hi, hx'⟩ := List.getElem?_eq_some_iff.1 hx
    rw [Array.length_toList] at hi
    have e0 : d'[i]! = x := by
      rw [getElem!_pos d' i hi, ← hx', Array.getElem_toList]
    have h0 := (hc.cell (i := i) (c := 0) hi (by omega)).1
    have h1 := (hc.cell (i := i) (c := 1) hi (by omega)).1
    rw [e0] at h0 h1
    exact ⟨h0, h1⟩
end Go.Proofs.YtanmlgliibgpcaaDoor
