/- NfaChoice returns true of every two texts, every string and every place: no condition beyond the statement's own (a part of its proof). -/
import Derived.Test.YtanmlgliibgpcaaDoorKc06
import Derived.Test.YtanmlgliibgpcaaDoorShelfS
import Derived.Shelf.SlSortFuncK.HeapSortK
import Derived.Test.YtanmlgliibgpcaaDoorKc05

/- The walk of merged: sorting. -/
namespace Go.Proofs.YtanmlgliibgpcaaDoor
open Go.RowKit Thr
open Go.Sort (flatK get_flatK HoldsK)
set_option linter.unusedVariables false
set_option linter.unusedSimpArgs false

def encR (r : Int × Int) : List Value := [.int .i64 r.1, .int .i64 r.2]
def cmpR (x y : Int × Int) : Int := Lib.compareInt x.1 y.1
theorem ltR (x y : Int × Int) : ltOf cmpR x y = decide (x.1 < y.1) := by
  unfold ltOf cmpR Lib.compareInt
  rw [Bool.eq_iff_iff]
  simp only [decide_eq_true_eq]
  split
  · simp_all
  · split <;> simp_all
theorem cmpR_swo : Go.Sort.SWO (ltOf cmpR) := by
  refine ⟨fun x => by rw [ltR]; simp, fun x y z h1 h2 => ?_, fun x y z h1 h2 => ?_⟩
  · rw [ltR] at *; simp at *; omega
  · rw [ltR] at *; simp at *; omega
theorem keeps_sorted (w : World) (g n : Nat) (d' : Array (Int × Int)) (os : Array Obj) : Keeps (fun k => k = g) w (sortWorldK encR 2 w g 0 n d' os) := by
  refine ⟨rfl, rfl, rfl, ?_, fun k hk hn => ?_⟩
  · unfold sortWorldK Sort.grow Sort.putRowK Sort.putRow Sort.mapBlock Sort.ahead
    simp
  · unfold sortWorldK Sort.grow Sort.putRowK Sort.putRow Sort.mapBlock Sort.ahead
    show (w.heap.modify g _ ++ os)[k]? = _
    rw [Array.getElem?_append_left (by simpa using hk), Array.getElem?_modify, if_neg (fun e => hn e.symm)]
theorem two_allocs (w : World) (a b : Obj) : (w.alloc a).alloc b = Sort.grow (w.drewN 0) #[a, b] := by
  have h : (w.heap.push a).push b = w.heap ++ #[a, b] := by
    apply Array.toList_inj.1
    simp
  unfold Sort.grow
  show ({ w with heap := (w.heap.push a).push b } : World) = { w with heap := w.heap ++ #[a, b] }
  rw [h]

set_option maxHeartbeats 4000000 in
theorem merged1_calls (x y : Int × Int) (w : World) : Calls Tryd.prog 82 #[.agg (encR x).toArray, .agg (encR y).toArray] w fun e w' => e = .returned (.int .i64 (cmpR x y)) ∧ ∃ os, w' = Sort.grow (w.drewN 0) os := by
  have hc := fun w => Tryd.cmp_Compare_int x.1 y.1 w
  have HC := hide hc
  unfold cmpR
  generalize Lib.compareInt x.1 y.1 = c at *
  simp only [encR]
  clear hc
  go_enter Tryd.func82, Tryd.ntmps82
  go_wp2_with fail
  refine (unhide HC _).mono ?_
  rintro e w' ⟨rfl, hw⟩
  obtain rfl := hw.symm
  go_wp2_with fail
  go_ret
  exact ⟨rfl, _, two_allocs _ _ _⟩

theorem rangeCells_flat (l : List (Int × Int)) (j : Nat) (hj : j < l.length * 2) : (rangeCells l)[j]? = some ((flatK encR 2 l.toArray)[j]!) := by
  rw [get_flatK _ _ _ _ (by simpa using hj)]
  have hq : j / 2 < l.length := by omega
  have hg := rangeCells_get l (j / 2) l[j / 2] (List.getElem?_eq_getElem hq)
  have hx : (l.toArray[j / 2]!) = l[j / 2] := by
    rw [getElem!_pos l.toArray (j / 2) (by simpa using hq)]
    simp
  rw [hx]
  rcases Nat.mod_two_eq_zero_or_one j with h | h
  · rw [h, show (rangeCells l)[j]? = (rangeCells l)[j / 2 * 2]? by congr 1; omega, hg.1]
    rfl
  · rw [h, show (rangeCells l)[j]? = (rangeCells l)[j / 2 * 2 + 1]? by congr 1; omega, hg.2]
    rfl

set_option maxHeartbeats 4000000 in
theorem sort_calls (l : List (Int × Int)) (g cap : Nat) (cur : Array Value) (w : World) (hh : w.heap[g]? = some (.cells cur 65 (0, 0))) (hc : cur.toList.take (l.length * 2) = rangeCells l) (hcur : l.length * 2 ≤ cur.size) (hcap : l.length ≤ cap) (hcap2 : cap ≤ 9223372036854775807) (hl : l.length ≤ 1000000) :
    Calls Tryd.prog 81 #[.slice (some ⟨g, 0, none⟩) l.length cap, .func (.func 82) #[] #[]] w fun e w' => e = .returned (.tuple #[]) ∧
      ∃ l', l'.Perm l ∧ l'.Pairwise (fun x y => x.1 ≤ y.1) ∧ SetAt (fun k => k = g) w' (.slice (some ⟨g, 0, none⟩) l.length cap) l' ∧ Keeps (fun k => k = g) w w' := by
  have hgl : g < w.heap.size := (Array.getElem?_eq_some_iff.1 hh).1
  have hH : HoldsK encR 2 w g 0 l.toArray := by
    intro j hj
    simp at hj
    refine ⟨?_, by simp [World.frozen?, hh]⟩
    rw [Nat.zero_add, cell_of_row w g j cur _ (0, 0) hh, ← Array.getElem?_toList]
    have := rangeCells_flat l j hj
    rw [← hc, List.getElem?_take, if_pos hj] at this
    exact this
  have h := AnyQ.slices_SortFunc (α := Int × Int) Tryd.sortL 2 Tryd.isAgg65 Tryd.sizeOf65 encR (fun x => rfl) (fun x v hv => by simp [encR] at hv; rcases hv with rfl | rfl <;> rfl) cmpR cmpR_swo 82 #[] g 0 cap l.toArray w
    (enters_of Tryd.func82 (by kernel_rfl) rfl) (fun m os dk hs x y => (merged1_calls x y _).mono fun e w' hw => ⟨hw.1, 0, hw.2⟩) hH hgl (by simp; omega)
  simp only [List.size_toArray] at h
  refine h.mono ?_
  rintro e w' ⟨he, d', n, os, hp, hs, rfl⟩
  obtain ⟨hp1, hp2, hp3⟩ := hp
  simp only [List.size_toArray] at hp1
  have hd : d'.toList.length = l.length := by rw [Array.length_toList]; exact hp1
  refine ⟨he, d'.toList, ?_, ?_, ?_, keeps_sorted w g n d' os⟩
  · have e1 : (d'.extract 0 l.length).toList = d'.toList := by
      rw [← hp1]; simp
    have e2 : (l.toArray.extract 0 l.length).toList = l := by simp
    rw [e1, e2] at hp3
    exact hp3
  · rw [List.pairwise_iff_getElem]
    intro i j hi hj hij
    have h1 := hs i j (by omega) hij (by omega)
    rw [getElem!_pos d' i (by rw [Array.length_toList] at hi; exact hi), getElem!_pos d' j (by rw [Array.length_toList] at hj; exact hj), ltR] at h1
    simp only [decide_eq_false_iff_not] at h1
    rw [Array.getElem_toList, Array.getElem_toList]
    omega
  · rw [← hd]
    refine ⟨some ⟨g, 0, none⟩, cap, rfl, by omega, hcap2, .inr ⟨g, 0, rfl, rfl, fun i x hx => ?_⟩⟩
    have hc := holdsK_sortWorldK encR 2 w g 0 n l.toArray d' os hgl hH (by simpa using hp1)
    obtain ⟨hi, hx'⟩ := List.getElem?_eq_some_iff.1 hx
    rw [Array.length_toList] at hi
    have e0 : d'[i]! = x := by
      rw [getElem!_pos d' i hi, ← hx', Array.getElem_toList]
    have h0 := (hc.cell (i := i) (c := 0) hi (by omega)).1
    have h1 := (hc.cell (i := i) (c := 1) hi (by omega)).1
    rw [e0] at h0 h1
    exact ⟨h0, h1⟩
end Go.Proofs.YtanmlgliibgpcaaDoor

/- The walk of merged. -/
namespace Go.Proofs.YtanmlgliibgpcaaDoor
open Go.RowKit Thr
set_option linter.unusedVariables false
set_option linter.unusedSimpArgs false

/-! ### Plain: one range more -/
def stepM (d : List Rng) (r : Rng) : List Rng :=
  match d.getLast? with
  | none => [r]
  | some q => if r.1 ≤ q.2 + 1 then d.dropLast ++ [(q.1, max q.2 r.2)] else d ++ [r]
theorem stepM_nil (r : Rng) : stepM [] r = [r] := rfl
theorem stepM_snoc (pre : List Rng) (q r : Rng) : stepM (pre ++ [q]) r = if r.1 ≤ q.2 + 1 then pre ++ [(q.1, max q.2 r.2)] else pre ++ [q] ++ [r] := by simp [stepM]
theorem fold_merge : ∀ (l pre : List Rng) (cur : Rng), l.foldl stepM (pre ++ [cur]) = pre ++ mergeGo cur l
  | [], pre, cur => by simp [mergeGo]
  | r :: l, pre, cur => by
    simp only [List.foldl_cons, mergeGo, stepM_snoc]
    split
    · rw [fold_merge l pre]
    · rw [fold_merge l (pre ++ [cur])]
      simp
theorem fold_all (l : List Rng) : l.foldl stepM [] = mergeAll l := by
  cases l with
  | nil => rfl
  | cons r l =>
    simp only [List.foldl_cons, stepM_nil, mergeAll]
    exact fold_merge l [] r
def inB (r : Rng) : Prop := 0 ≤ r.1 ∧ r.1 ≤ 2000000 ∧ 0 ≤ r.2 ∧ r.2 ≤ 2000000
theorem stepM_in {d : List Rng} {r : Rng} (hd : ∀ x ∈ d, inB x) (hr : inB r) : ∀ x ∈ stepM d r, inB x := by
  intro x hx
  rcases List.eq_nil_or_concat d with rfl | ⟨pre, q, rfl⟩
  · rw [stepM_nil] at hx
    obtain rfl := List.mem_singleton.1 hx
    exact hr
  · rw [List.concat_eq_append] at hx hd
    rw [stepM_snoc] at hx
    have hq := hd q (by simp)
    split at hx
    · rcases List.mem_append.1 hx with h | h
      · exact hd x (by simp [h])
      · obtain rfl := List.mem_singleton.1 h
        unfold inB at *
        simp only
        omega
    · rcases List.mem_append.1 hx with h | h
      · exact hd x h
      · obtain rfl := List.mem_singleton.1 h
        exact hr
theorem stepM_len (d : List Rng) (r : Rng) : (stepM d r).length ≤ d.length + 1 := by
  rcases List.eq_nil_or_concat d with rfl | ⟨pre, q, rfl⟩
  · simp [stepM_nil]
  · rw [List.concat_eq_append, stepM_snoc]
    split <;> simp

/-! ### Rows of ranges -/
theorem rangeCells_append : ∀ (a b : List Rng), rangeCells (a ++ b) = rangeCells a ++ rangeCells b
  | [], b => rfl
  | r :: a, b => by simp [rangeCells, rangeCells_append a b]
theorem rangeCells_len : ∀ (a : List Rng), (rangeCells a).length = a.length * 2
  | [] => rfl
  | r :: a => by simp [rangeCells, rangeCells_len a]; omega
theorem rangeCells_hi (pre : List Rng) (q : Rng) (u : Int) : (rangeCells (pre ++ [q])).set (pre.length * 2 + 1) (.int .i64 u) = rangeCells (pre ++ [(q.1, u)]) := by
  rw [rangeCells_append, rangeCells_append, List.set_append_right _ _ (by rw [rangeCells_len]; omega), rangeCells_len]
  rw [show pre.length * 2 + 1 - pre.length * 2 = 1 by omega]
  rfl
theorem own_cell {w : World} {base n size g cap : Nat} {e : TypeId} {xs : List Value} (h : w.ownsRow base e size (.slice (some ⟨g, 0, none⟩) n cap) n xs) {j : Nat} {u : Value} (hj : xs[j]? = some u) : w.cell? ⟨g, j, none⟩ = some u ∧ w.frozen? ⟨g, j, none⟩ = false := by
  obtain ⟨hl, h | ⟨g', cap', cur, hv, hg, hh, h1, h2, h3, h4⟩⟩ := h
  · cases h.1
  · injection hv with hA
    injection hA with hA
    injection hA with hA
    subst hA
    refine ⟨?_, by simp [World.frozen?, hh]⟩
    rw [cell_of_row w g j cur _ (0, 0) hh, ← Array.getElem?_toList]
    rw [← h4] at hj
    have hlt : j < n * size := by
      rcases Nat.lt_or_ge j (n * size) with h | h
      · exact h
      · rw [List.getElem?_take, if_neg (by omega)] at hj
        cases hj
    rw [List.getElem?_take, if_pos hlt] at hj
    exact hj
theorem own_set {w : World} {base n size g cap : Nat} {e : TypeId} {xs : List Value} (h : w.ownsRow base e size (.slice (some ⟨g, 0, none⟩) n cap) n xs) (i : Nat) (u : Value) (hi : i < xs.length) : (w.setCell ⟨g, i, none⟩ u).ownsRow base e size (.slice (some ⟨g, 0, none⟩) n cap) n (xs.set i u) := by
  obtain ⟨hl, h | ⟨g', cap', cur, hv, hg, hh, h1, h2, h3, h4⟩⟩ := h
  · cases h.1
  · injection hv with hA hn hcap
    injection hA with hA
    injection hA with hA
    subst hA
    subst hcap
    refine ⟨by simpa using hl, .inr ⟨g, cap, cur.setIfInBounds i u, rfl, hg, by simp [World.setCell, Array.getElem?_modify, hh], h1, h2, by simpa using h3, ?_⟩⟩
    rw [Array.toList_setIfInBounds, List.take_set, h4]
theorem set_of_own {ok : Nat → Prop} {w : World} {base : Nat} {v : Value} {d : List Rng} (h : w.ownsRow base 65 2 v d.length (rangeCells d)) (hok : ∀ k, base ≤ k → ok k) : SetAt ok w v d := by
  obtain ⟨hl, ⟨rfl, h0⟩ | ⟨g, cap, cur, rfl, hg, hh, h1, h2, h3, h4⟩⟩ := h
  · obtain rfl := List.eq_nil_of_length_eq_zero h0
    exact SetAt.nil _ _
  · unfold maxLen at h2
    refine ⟨_, _, rfl, h1, by omega, .inr ⟨g, 0, rfl, hok g hg, fun i x hx => ?_⟩⟩
    obtain ⟨c0, c1⟩ := rangeCells_get d i x hx
    have hi := (List.getElem?_eq_some_iff.1 hx).1
    have ho : w.ownsRow base 65 2 (.slice (some ⟨g, 0, none⟩) d.length cap) d.length (rangeCells d) := ⟨hl, .inr ⟨g, cap, cur, rfl, hg, hh, h1, by unfold maxLen; omega, h3, h4⟩⟩
    rw [Nat.zero_add]
    exact ⟨(own_cell ho c0).1, (own_cell ho c1).1⟩
theorem Tryd.infoRange : (Tryd.prog.info? 65).map (fun i => (i.zero, i.size, i.bytes)) = some (some (.agg #[.int .i64 0, .int .i64 0]), 2, 16) := by kernel_rfl

theorem below_grown {w W w' : World} {row : Option Nat} (h : Below w.heap.size w W) (hg : W.grownBy w' row) (hr : ∀ k, row = some k → w.heap.size ≤ k) : Below w.heap.size w w' :=
  ((Keeps.of_below h (fun _ => False)).grown hg (fun k hk => .inr (hr k hk))).none_below
theorem new_second_n (w : World) (o1 o2 : Obj) (n : Nat) : (((w.alloc o1).drewN n).alloc o2).heap[w.heap.size + 1]? = some o2 := by
  have h : ((w.alloc o1).drewN n).heap.size = w.heap.size + 1 := by simp
  have := heap_alloc_new ((w.alloc o1).drewN n) o2
  rw [h] at this
  exact this
set_option maxRecDepth 100000 in
set_option maxHeartbeats 16000000 in
theorem merged_calls {base : Nat} (l : List (Int × Int)) (v : Value) (w : World) (ho : w.ownsRow base 65 2 v l.length (rangeCells l)) (hne : l ≠ []) (hfin : ∀ r ∈ l, r.1 ≤ r.2) (hrg : ∀ r ∈ l, inB r) (hl : l.length ≤ 1000000) :
    Calls Tryd.prog 75 #[v] w fun e w' => ∃ v', e = .returned v' ∧ SetAt (fun k => w.heap.size ≤ k) w' v' (l.foldl withR []) ∧ Keeps (fun k => v.ownBlock = some k) w w' := by
  obtain ⟨hlen, ⟨_, h0⟩ | ⟨g, cap, cur, rfl, hg, hh, hc1, hc2, hc3, hc4⟩⟩ := ho
  · exact absurd (List.eq_nil_of_length_eq_zero h0) hne
  have hc2 : cap ≤ 9223372036854775807 := hc2
  have hgl : g < w.heap.size := (Array.getElem?_eq_some_iff.1 hh).1
  have hs := fun (w1 : World) (e : w1.heap = w.heap) => sort_calls l g cap cur w1 (by rw [e]; exact hh) hc4 (by omega) hc1 (by omega) hl
  obtain ⟨i0, hi0, hz0, hz1, hz2⟩ := info_parts Tryd.infoRange
  have HS := hide hs; have HFIN := hide hfin; have HRG := hide hrg; have HNE := hide hne
  clear hs hh hc3 hc4 hlen hfin hrg hne
  go_enter Tryd.func75, Tryd.ntmps75
  go_wp2_with fail
  refine (unhide HS _ rfl).mono ?_
  rintro e w1 ⟨rfl, l', hp, hsr, hset, hk⟩
  have hmg := sets_same hp hsr (unhide HFIN)
  rw [← fold_all] at hmg
  have hl' : l'.length = l.length := hp.length_eq
  have hcell : ∀ (i : Nat) (x : Rng), l'[i]? = some x → w1.cell? ⟨g, i * 2, none⟩ = some (.int .i64 x.1) ∧ w1.cell? ⟨g, i * 2 + 1, none⟩ = some (.int .i64 x.2) := by
    obtain ⟨A, c, hA, _, _, h⟩ := hset
    injection hA with hA
    subst hA
    rintro i x hx
    rcases h with rfl | ⟨b, o, hb, _, h⟩
    · simp at hx
    · injection hb with hb
      injection hb with hb ho
      subst hb; subst ho
      have := h i x hx
      simpa using this
  have hrg' : ∀ r ∈ l', inB r := fun r hr => unhide HRG r (hp.mem_iff.1 hr)
  have hK1 : Keeps (fun k => (Value.slice (some ⟨g, 0, none⟩) l.length cap).ownBlock = some k) w w1 := ((Keeps.refl _ w).trans hk (fun k _ hk => by simp [Value.ownBlock, hk]))
  have hg1 : g < w1.heap.size := Nat.lt_of_lt_of_le hgl hk.size
  have hsz1 : w.heap.size ≤ w1.heap.size := hk.size
  have HMG := hide hmg; have HC := hide hcell; have HRG' := hide hrg'; have HK1 := hide hK1; have HL := hide hl'
  clear hp hsr hset hk hmg hl' hcell hrg' hK1 HS HFIN HRG
  go_wp2_with fail
  go_loopw [3, 11] (fun out_ i_ wr => ∃ (k : Nat) (d : List Rng), k ≤ l.length ∧ i_ = .int .i64 k ∧ Hid ((l'.take k).foldl stepM [] = d) ∧ d.length ≤ k ∧ Hid (∀ x ∈ d, inB x) ∧ Hid (wr.ownsRow w1.heap.size 65 2 out_ d.length (rangeCells d)) ∧ Hid (Below w1.heap.size w1 wr))
    (fun _ i_ _ => l.length - (intOf i_).toNat)
  case atStart => exact ⟨0, [], by omega, rfl, rfl, by simp, hide (by intro x hx; cases hx), World.ownsRow_nil _ _ _ _, hide (by repeat (first | exact Below.refl _ _ | assumption | refine below_drewN ?_ _ | refine Below.drew ?_ | refine below_alloc' ?_ _))⟩
  case round =>
    obtain ⟨k, d, hk, rfl, HD, hdk, HB, HO, HBW⟩ := hrel
    by_cases hlt : k < l.length
    · obtain ⟨x, hx⟩ : ∃ x, l'[k]? = some x := ⟨_, List.getElem?_eq_getElem (by rw [unhide HL]; exact hlt)⟩
      obtain ⟨c0, c1⟩ := unhide HC k x hx
      have c0' := ((bcell (unhide HBW)).1 g _ hg1).trans c0
      have c1' := ((bcell (unhide HBW)).1 g _ hg1).trans c1
      have hwz := (unhide HBW).size
      have hgw : g < wr.heap.size := by omega
      have hxb := unhide HRG' x (List.mem_of_getElem? hx)
      have hstep : (l'.take (k + 1)).foldl stepM [] = stepM d x := by
        rw [List.take_add_one, hx]
        simp only [Option.toList_some, List.foldl_append, List.foldl_cons, List.foldl_nil]
        rw [unhide HD]
      have hin := stepM_in (unhide HB) hxb
      have hln := stepM_len d x
      obtain ⟨x1, x2⟩ := x
      unfold inB at hxb
      simp only at hxb c0' c1'
      have hlt' : decide ((k : Int) < l.length) = true := by simp; exact hlt
      clear c0 c1 hx
      rcases List.eq_nil_or_concat d with rfl | ⟨pre, q, hd⟩
      · rw [stepM_nil] at hstep hin
        have HST := hide hstep; have HIN := hide hin
        clear hstep hin hln HB
        obtain ⟨Ao, co, rfl⟩ := own_form (unhide HO)
        simp only [List.length_nil] at HO
        go_wp2_with fail
        go_quiet (fail)
        go_wp2_with
         ((at_builtin; refine wpList_append_lies _ (by rfl) _ _ _ (by rfl) w1.heap.size 65 i0 _ 2 16 Tryd.underlying23 hi0 hz0 hz1 hz2 rfl (by omega) (.slice Ao 0 co) 0 [] (by rfl)
            (by first | exact (((unhide HO).alloc _).drewN _).alloc _ | exact (((unhide HO).alloc _).alloc _).drew | exact (((unhide HO).alloc _).drew).alloc _ | exact ((unhide HO).alloc _).alloc _) ⟨wr.heap.size + 1, 0, none⟩ 1 1 [.int .i64 x1, .int .i64 x2]
            (by rfl) (by rfl) (by exact World.news_of_block (cs := #[.int .i64 x1, .int .i64 x2]) (new_second_n wr _ _ _))
            (by simp [Value.oneCell']) (by omega) (by simp only [maxLen]; omega) (by omega) (by simp; omega) (wr.heap.size + 2) (by simp) ?_; intro go cap1 w2 hown2 hgrow hat hlt2))
        have hb2 : Below w1.heap.size w1 w2 := below_grown (below_alloc' (below_drewN (below_alloc' (unhide HBW) _) _) _) hgrow (fun j hj => (own_lt (unhide HO) j hj).1)
        have HB2 := hide hb2; have HO2 := hide hown2
        clear hb2 hown2 hgrow hat
        go_roundw
        case rel => exact ⟨k + 1, [(x1, x2)], by omega, by rfl, HST, by simp, HIN, HO2, HB2⟩
        case measure => simp [intOf]; omega
      · rw [List.concat_eq_append] at hd
        subst hd
        obtain ⟨q1, q2⟩ := q
        rw [stepM_snoc] at hstep hin hln
        have hlen2 : (pre ++ [(q1, q2)]).length = pre.length + 1 := by simp
        rw [hlen2] at hdk hln
        have ho := unhide HO
        rw [hlen2] at ho
        obtain ⟨gO, co, rfl, hgO1, hgO2⟩ := ho.form (by omega)
        have hqb := unhide HB (q1, q2) (by simp)
        have hqc : (rangeCells (pre ++ [(q1, q2)]))[pre.length * 2 + 1]? = some (.int .i64 q2) := (rangeCells_get _ pre.length (q1, q2) (by simp)).2
        obtain ⟨e2, e2f⟩ := own_cell ho hqc
        have hgg : gO ≠ g := by omega
        have HO2 := hide ho
        have n1 : decide ((pre.length : Int) + 1 > 0) = true := decide_eq_true (by omega)
        have n2 : decide (0 < (pre.length : Int) + 1) = true := decide_eq_true (by omega)
        have n3 : (0 : Int) ≤ pre.length := by omega
        have n4 : (pre.length : Int) < pre.length + 1 := by omega
        unfold inB at hqb
        simp only at hqb
        clear ho HO hqc
        by_cases hm : x1 ≤ q2 + 1
        · rw [if_pos hm] at hstep hin
          have hm' : decide (x1 ≤ q2 + 1) = true := by simpa using hm
          have HST := hide hstep; have HIN := hide hin
          clear hstep hin hm hln HB hlen2
          go_wp2_with fail
          go_quiet (fail)
          go_wp2_with fail
          go_region
          all_goals
            go_wp2_with fail
            have ho3 := fun (W : World) (h : W.ownsRow w1.heap.size 65 2 (.slice (some ⟨gO, 0, none⟩) (pre.length + 1) co) (pre.length + 1) (rangeCells (pre ++ [(q1, q2)]))) => own_set h (pre.length * 2 + 1) (.int .i64 (max q2 x2)) (by rw [rangeCells_len, List.length_append]; simp only [List.length_cons, List.length_nil]; omega)
            simp only [rangeCells_hi] at ho3
            have hb2 : ∀ W : World, Below w1.heap.size w1 W → Below w1.heap.size w1 (W.setCell ⟨gO, pre.length * 2 + 1, none⟩ (.int .i64 (max q2 x2))) := fun W h => h.setCell (p := ⟨gO, pre.length * 2 + 1, none⟩) (by simpa using hgO1) _
            go_roundw
            case rel => exact ⟨k + 1, _, by omega, by rfl, HST, by simp; omega, HIN, hide (by simp only [List.length_append, List.length_cons, List.length_nil]; first | exact ho3 _ ((unhide HO2).alloc _) | exact ho3 ((wr.alloc _).drewN _) ((unhide HO2).alloc _) | exact ho3 (wr.alloc _) ((unhide HO2).alloc _)), hide (by first | exact hb2 _ (below_drewN (below_alloc' (unhide HBW) _) _) | exact below_drewN (hb2 _ (below_drewN (below_alloc' (unhide HBW) _) _)) _ | exact (hb2 _ (below_drewN (below_alloc' (unhide HBW) _) _)).drew)⟩
            case measure => simp [intOf]; omega
        · rw [if_neg hm] at hstep hin
          have hm' : decide (x1 ≤ q2 + 1) = false := by simpa using hm
          have HST := hide hstep; have HIN := hide hin
          clear hstep hin hm hln HB hlen2
          go_wp2_with fail
          go_quiet (fail)
          go_wp2_with
           ((at_builtin; refine wpList_append_lies _ (by rfl) _ _ _ (by rfl) w1.heap.size 65 i0 _ 2 16 Tryd.underlying23 hi0 hz0 hz1 hz2 rfl (by omega) (.slice (some ⟨gO, 0, none⟩) (pre.length + 1) co) (pre.length + 1) (rangeCells (pre ++ [(q1, q2)])) (by rfl)
              (by first | exact (((unhide HO2).alloc _).drewN _).alloc _ | exact (((unhide HO2).alloc _).alloc _).drew | exact (((unhide HO2).alloc _).drew).alloc _ | exact ((unhide HO2).alloc _).alloc _) ⟨wr.heap.size + 1, 0, none⟩ 1 1 [.int .i64 x1, .int .i64 x2]
              (by rfl) (by rfl) (by exact World.news_of_block (cs := #[.int .i64 x1, .int .i64 x2]) (new_second_n wr _ _ _))
              (by simp [Value.oneCell']) (by omega) (by simp only [maxLen]; omega) (by omega) (by simp; omega) (wr.heap.size + 2) (by simp) ?_; intro go cap1 w2 hown2 hgrow hat hlt2))
          have hb2 : Below w1.heap.size w1 w2 := below_grown (below_alloc' (below_drewN (below_alloc' (unhide HBW) _) _) _) hgrow (fun j hj => (own_lt (unhide HO2) j hj).1)
          have hown3 : w2.ownsRow w1.heap.size 65 2 (.slice (some ⟨go, 0, none⟩) (pre.length + 1 + 1) cap1) (pre ++ [(q1, q2)] ++ [(x1, x2)]).length (rangeCells (pre ++ [(q1, q2)] ++ [(x1, x2)])) := by
            rw [rangeCells_append (pre ++ [(q1, q2)])]
            simp only [List.length_append, List.length_cons, List.length_nil]
            exact hown2
          have HB2 := hide hb2; have HO3 := hide hown3
          clear hb2 hown2 hown3 hgrow hat
          go_roundw
          case rel => exact ⟨k + 1, _, by omega, by rfl, HST, by simp; omega, HIN, HO3, HB2⟩
          case measure => simp [intOf]; omega
    · have hge : decide ((k : Int) < l.length) = false := by simp; omega
      obtain rfl : k = l.length := by omega
      have hd : d = l.foldl withR [] := by
        rw [← unhide HMG, ← unhide HD, List.take_of_length_le (by rw [unhide HL]; omega)]
      have hset := set_of_own (ok := fun j => w.heap.size ≤ j) (unhide HO) (fun j hj => by omega)
      rw [hd] at hset
      have HSET := hide hset
      clear hset hlt
      go_wp2_with fail
      go_ret
      exact ⟨_, rfl, unhide HSET, (unhide HK1).then_below (unhide HBW)⟩
end Go.Proofs.YtanmlgliibgpcaaDoor

/- The walk of escape. -/
namespace Go.Proofs.YtanmlgliibgpcaaDoor
open Go.RowKit Thr
set_option linter.unusedVariables false
set_option linter.unusedSimpArgs false

set_option maxHeartbeats 4000000 in
theorem see_quiet {bp : Nat} {s : ByteArray} {i : Nat} {bytes : Bool} {nest : Nat} (t : ByteArray) (w : World) (hP : PAt w bp s i bytes nest) (hi : i ≤ s.size) (hm : s.size ≤ 1024) :
    Calls Tryd.prog 51 #[.pointer (some ⟨bp, 0, none⟩), .string t] w fun e w' => e = .returned (.bool (seeF s i t)) ∧ ∃ m, w' = w.drewN m := by
  have c0 := hP.cell 0
  have c1 := hP.cell 1
  have hbp := hP.lt
  simp at c0 c1
  have hpre := fun w => Tryd.strings_HasPrefix (s.extract i s.size) t w
  unfold seeF
  obtain ⟨F, hF⟩ : ∃ F, Lib.hasPrefix (s.extract i s.size).data.toList t.data.toList = F := ⟨_, rfl⟩
  rw [hF]
  rw [hF] at hpre
  have HPRE := hide hpre
  clear hP hpre hF
  go_enter Tryd.func51, Tryd.ntmps51
  go_wp2_with fail
  go_quiet ((go_at_call 63; exact Calls.quiet_of_same (unhide HPRE _)))
  go_wp2_with fail
  go_ret
  exact ⟨rfl, _, rfl⟩

/-- How a part of the parser ends that reads one node. -/
def NodePost (bp : Nat) (s : ByteArray) (bytes : Bool) (nest : Nat) (from_ : Int) (w w' : World) (e : Ending) : Option (Rx × Nat) → Prop
  | none => Gives bp from_ 90 w w' e
  | some (x, k) => ∃ cs, e = .returned (.agg cs.toArray) ∧ TreeAt (fun k => w.heap.size ≤ k) w' x cs ∧ PAt w' bp s k bytes nest ∧ Keeps (fun k => k = bp) w w'
theorem Blk.seven {w : World} {g : Nat} {t : TypeId} {a b c d e f k : Value} (h : Blk w g t #[a, b, c, d, e, f, k]) :
    (w.cell? ⟨g, 0, none⟩ = some a ∧ w.cell? ⟨g, 1, none⟩ = some b ∧ w.cell? ⟨g, 2, none⟩ = some c ∧ w.cell? ⟨g, 3, none⟩ = some d ∧ w.cell? ⟨g, 4, none⟩ = some e ∧ w.cell? ⟨g, 5, none⟩ = some f ∧ w.cell? ⟨g, 6, none⟩ = some k) ∧
    (w.frozen? ⟨g, 0, none⟩ = false ∧ w.frozen? ⟨g, 1, none⟩ = false ∧ w.frozen? ⟨g, 2, none⟩ = false ∧ w.frozen? ⟨g, 3, none⟩ = false ∧ w.frozen? ⟨g, 4, none⟩ = false ∧ w.frozen? ⟨g, 5, none⟩ = false ∧ w.frozen? ⟨g, 6, none⟩ = false) :=
  ⟨⟨h.cell 0, h.cell 1, h.cell 2, h.cell 3, h.cell 4, h.cell 5, h.cell 6⟩, h.frozen 0, h.frozen 1, h.frozen 2, h.frozen 3, h.frozen 4, h.frozen 5, h.frozen 6⟩
def zero7 : Array Value := #[.int .i64 0, .int .i64 0, .bool false, .slice none 0 0, .int .i64 0, .int .i64 0, .slice none 0 0]
theorem tree_plain {ok : Nat → Prop} {W : World} (kind code : Int) : TreeAt ok W (.mk kind code false [] 0 0 []) [.int .i64 kind, .int .i64 code, .bool false, .slice none 0 0, .int .i64 0, .int .i64 0, .slice none 0 0] := by
  simp only [TreeAt]
  exact ⟨_, _, _, rfl, SetAt.nil _ _, Nat.le_refl _, by omega, .inl trivial⟩
theorem tree_set {ok : Nat → Prop} {W : World} (neg : Bool) (l : List (Int × Int)) (v : Value) (h : SetAt ok W v l) : TreeAt ok W (setN neg l) [.int .i64 4, .int .i64 0, .bool neg, v, .int .i64 0, .int .i64 0, .slice none 0 0] := by
  simp only [setN, TreeAt]
  exact ⟨_, _, _, rfl, h, Nat.le_refl _, by omega, .inl trivial⟩

theorem results_cell {fn : Func} {p : Tmp} {ty : TypeId} {P : Program} {w : World} {g : Nat} {v : Value} {tmps : Array Value} (h : fn.results = #[.cell p ty]) (hp : tmps.getD p undef = .pointer (some ⟨g, 0, none⟩)) (hl : (loadVar ty ⟨g, 0, none⟩).run P w = .ok v w) : (results fn tmps).run P w = .ok v w := by
  have hp' : tmps[p]?.getD undef = .pointer (some ⟨g, 0, none⟩) := by rw [← hp]; simp
  simp only [results, h]
  simp [Sem.run_bind, Result.andThen, hp', asAddr, hl]
theorem load7 {w : World} {g : Nat} {a b c d e f k : Value} (h : Blk w g 26 #[a, b, c, d, e, f, k]) : (loadVar 26 ⟨g, 0, none⟩).run Tryd.prog w = .ok (.agg #[a, b, c, d, e, f, k]) w := by
  obtain ⟨⟨b0, b1, b2, b3, b4, b5, b6⟩, f0, f1, f2, f3, f4, f5, f6⟩ := h.seven
  have a1 := Tryd.isAgg26
  have a2 := Tryd.sizeOf26
  go_simp
/-- A node's seven cells stored one by one. -/
def put7 (w : World) (g : Nat) (a b c d e f k : Value) : World :=
  ((((((w.setCell ⟨g, 0, none⟩ a).setCell ⟨g, 1, none⟩ b).setCell ⟨g, 2, none⟩ c).setCell ⟨g, 3, none⟩ d).setCell ⟨g, 4, none⟩ e).setCell ⟨g, 5, none⟩ f).setCell ⟨g, 6, none⟩ k
theorem Blk.put7 {w : World} {g : Nat} {t : TypeId} {a b c d e f k a' b' c' d' e' f' k' : Value} (h : Blk w g t #[a, b, c, d, e, f, k]) : Blk (put7 w g a' b' c' d' e' f' k') g t #[a', b', c', d', e', f', k'] := by
  unfold Go.Proofs.YtanmlgliibgpcaaDoor.put7
  have := (((((((h.set_ 0 a').set_ 1 b').set_ 2 c').set_ 3 d').set_ 4 e').set_ 5 f').set_ 6 k')
  simpa using this
theorem Keeps.put7 {S : Nat → Prop} {a w : World} (h : Keeps S a w) {g : Nat} (hg : S g ∨ a.heap.size ≤ g) (x0 x1 x2 x3 x4 x5 x6 : Value) : Keeps S a (put7 w g x0 x1 x2 x3 x4 x5 x6) :=
  ((((((h.setCell (p := ⟨g, 0, none⟩) hg x0).setCell (p := ⟨g, 1, none⟩) hg x1).setCell (p := ⟨g, 2, none⟩) hg x2).setCell (p := ⟨g, 3, none⟩) hg x3).setCell (p := ⟨g, 4, none⟩) hg x4).setCell (p := ⟨g, 5, none⟩) hg x5).setCell (p := ⟨g, 6, none⟩) hg x6
theorem heap_put7 (w : World) (g : Nat) (x0 x1 x2 x3 x4 x5 x6 : Value) (j : Nat) (hj : j ≠ g) : (put7 w g x0 x1 x2 x3 x4 x5 x6).heap[j]? = w.heap[j]? := by
  unfold put7
  repeat rw [Below.heap_setCell _ _ _ j (by simpa using hj)]
theorem PAt.put7 {w : World} {bp : Nat} {s : ByteArray} {i : Nat} {bytes : Bool} {nest : Nat} (h : PAt w bp s i bytes nest) {g : Nat} (hg : bp ≠ g) (x0 x1 x2 x3 x4 x5 x6 : Value) : PAt (Go.Proofs.YtanmlgliibgpcaaDoor.put7 w g x0 x1 x2 x3 x4 x5 x6) bp s i bytes nest := (heap_put7 w g x0 x1 x2 x3 x4 x5 x6 bp hg).trans h
set_option maxRecDepth 100000 in
set_option maxHeartbeats 16000000 in
theorem escape_calls {bp : Nat} {s : ByteArray} {i : Nat} {bytes : Bool} {nest : Nat} (from_ : Int) (w : World) (hP : PAt w bp s (i + 1) bytes nest) (hT : Tabs w) (hi : i + 1 ≤ s.size) (hm : s.size ≤ 1024) :
    Calls Tryd.prog 70 #[.pointer (some ⟨bp, 0, none⟩), .int .i64 from_] w fun e w' => NodePost bp s bytes nest from_ w w' e (escF s i bytes) := by
  obtain ⟨O, hO⟩ : ∃ O, escF s i bytes = O := ⟨_, rfl⟩
  rw [hO]
  unfold escF at hO
  have c0 := hP.cell 0
  have c1 := hP.cell 1
  have hbp := hP.lt
  simp at c0 c1
  by_cases hge : s.size ≤ i + 1
  · have hz := (next_le (i := i + 1) (sized_all s bytes)).2.2 hge
    rw [show ((i + 1 : Nat) : Int) = (i : Int) + 1 by omega] at hz
    rw [if_pos hz] at hO
    subst hO
    have hle : decide ((s.size : Int) ≤ (i : Int) + 1) = true := decide_eq_true (by omega)
    clear hP hT hz
    go_enter Tryd.func70, Tryd.ntmps70
    go_wp2_with fail
    go_quiet (fail)
    go_wp2_with fail
    refine (fail_calls _ _ _ _).mono ?_
    rintro e w' ⟨rfl, hw⟩
    obtain rfl := hw.symm
    exact ⟨rfl, rfl, ((Keeps.refl _ _).alloc _).drewN _⟩
  have hlt : i + 1 < s.size := by omega
  have hle : decide ((s.size : Int) ≤ (i : Int) + 1) = false := decide_eq_false (by omega)
  have hn := (next_le (i := i + 1) (sized_all s bytes)).2.1 hlt
  have hcb := code_bound (bytes := bytes) hlt
  have hch := fun w1 hP1 hT1 => char_calls (bp := bp) (s := s) (i := i + 1) (bytes := bytes) (nest := nest) w1 hP1 hT1 (by omega) hm
  rw [show ((i + 1 : Nat) : Int) = (i : Int) + 1 by omega] at hn hcb hch
  rw [if_neg (by omega)] at hO
  simp only at hO
  generalize nextF s ((i : Int) + 1) bytes = z at *
  obtain ⟨c, n⟩ := z
  simp only at hn hch hO hcb
  have HP := hide hP; have HT := hide hT; have HC := hide hch
  clear hP hT hch
  have hrest : ∀ (w0 w1 : World), Keeps (fun k => k = bp) w0 w1 → w0.heap = (w.alloc (.cells zero7 26)).heap → Blk w1 w.heap.size 26 zero7 := by
    intro w0 w1 hk h0
    have hb : Blk w0 w.heap.size 26 zero7 := by
      unfold Blk
      rw [h0]
      exact heap_alloc_new w _
    exact hb.keeps hk (by omega)
  by_cases e121 : c = 121
  · subst e121
    rw [if_pos rfl] at hO
    subst hO
    go_enter Tryd.func70, Tryd.ntmps70
    go_wp2_with fail
    go_quiet (fail)
    go_wp2_with fail
    refine (unhide HC _ ((unhide HP).below (by repeat (first | exact Below.refl _ _ | assumption | refine below_drewN ?_ _ | refine Below.drew ?_ | refine below_alloc' ?_ _))) ((unhide HT).below (by repeat (first | exact Below.refl _ _ | assumption | refine below_drewN ?_ _ | refine Below.drew ?_ | refine below_alloc' ?_ _)))).mono ?_
    rintro e w1 ⟨rfl, hP1, hK1⟩
    have hB := hrest _ _ hK1 rfl
    obtain ⟨⟨b0, b1, b2, b3, b4, b5, b6⟩, f0, f1, f2, f3, f4, f5, f6⟩ := hB.seven
    have HB := hide hB; have HP1 := hide hP1; have HK1 := hide ((((Keeps.refl (fun k => k = bp) w).alloc _).drewN _).trans hK1 (fun _ _ h => h))
    have hz1 : w.heap.size < w1.heap.size := by have := hK1.size; simp at this; omega
    clear hP1 hK1 hB hrest
    go_wp2_with fail
    refine bodyPost_ret (results_cell rfl rfl (load7 (Blk.put7 (unhide HB)))) rfl ?_
    exact ⟨_, rfl, tree_plain 10 0, (unhide HP1).put7 (by omega) _ _ _ _ _ _ _, (unhide HK1).put7 (.inr (Nat.le_refl _)) _ _ _ _ _ _ _⟩
  by_cases e66 : c = 66
  · subst e66
    rw [if_neg (by omega), if_pos rfl] at hO
    subst hO
    go_enter Tryd.func70, Tryd.ntmps70
    go_wp2_with fail
    go_quiet (fail)
    go_wp2_with fail
    refine (unhide HC _ ((unhide HP).below (by repeat (first | exact Below.refl _ _ | assumption | refine below_drewN ?_ _ | refine Below.drew ?_ | refine below_alloc' ?_ _))) ((unhide HT).below (by repeat (first | exact Below.refl _ _ | assumption | refine below_drewN ?_ _ | refine Below.drew ?_ | refine below_alloc' ?_ _)))).mono ?_
    rintro e w1 ⟨rfl, hP1, hK1⟩
    have hB := hrest _ _ hK1 rfl
    obtain ⟨⟨b0, b1, b2, b3, b4, b5, b6⟩, f0, f1, f2, f3, f4, f5, f6⟩ := hB.seven
    have HB := hide hB; have HP1 := hide hP1; have HK1 := hide ((((Keeps.refl (fun k => k = bp) w).alloc _).drewN _).trans hK1 (fun _ _ h => h))
    have hz1 : w.heap.size < w1.heap.size := by have := hK1.size; simp at this; omega
    clear hP1 hK1 hB hrest
    go_wp2_with fail
    refine bodyPost_ret (results_cell rfl rfl (load7 (Blk.put7 (unhide HB)))) rfl ?_
    exact ⟨_, rfl, tree_plain 11 0, (unhide HP1).put7 (by omega) _ _ _ _ _ _ _, (unhide HK1).put7 (.inr (Nat.le_refl _)) _ _ _ _ _ _ _⟩
  by_cases e60 : c = 60
  · subst e60
    rw [if_neg (by omega), if_neg (by omega), if_pos rfl] at hO
    subst hO
    go_enter Tryd.func70, Tryd.ntmps70
    go_wp2_with fail
    go_quiet (fail)
    go_wp2_with fail
    refine (unhide HC _ ((unhide HP).below (by repeat (first | exact Below.refl _ _ | assumption | refine below_drewN ?_ _ | refine Below.drew ?_ | refine below_alloc' ?_ _))) ((unhide HT).below (by repeat (first | exact Below.refl _ _ | assumption | refine below_drewN ?_ _ | refine Below.drew ?_ | refine below_alloc' ?_ _)))).mono ?_
    rintro e w1 ⟨rfl, hP1, hK1⟩
    have hB := hrest _ _ hK1 rfl
    obtain ⟨⟨b0, b1, b2, b3, b4, b5, b6⟩, f0, f1, f2, f3, f4, f5, f6⟩ := hB.seven
    have HB := hide hB; have HP1 := hide hP1; have HK1 := hide ((((Keeps.refl (fun k => k = bp) w).alloc _).drewN _).trans hK1 (fun _ _ h => h))
    have hz1 : w.heap.size < w1.heap.size := by have := hK1.size; simp at this; omega
    clear hP1 hK1 hB hrest
    go_wp2_with fail
    refine bodyPost_ret (results_cell rfl rfl (load7 (Blk.put7 (unhide HB)))) rfl ?_
    exact ⟨_, rfl, tree_plain 12 0, (unhide HP1).put7 (by omega) _ _ _ _ _ _ _, (unhide HK1).put7 (.inr (Nat.le_refl _)) _ _ _ _ _ _ _⟩
  by_cases e62 : c = 62
  · subst e62
    rw [if_neg (by omega), if_neg (by omega), if_neg (by omega), if_pos rfl] at hO
    subst hO
    go_enter Tryd.func70, Tryd.ntmps70
    go_wp2_with fail
    go_quiet (fail)
    go_wp2_with fail
    refine (unhide HC _ ((unhide HP).below (by repeat (first | exact Below.refl _ _ | assumption | refine below_drewN ?_ _ | refine Below.drew ?_ | refine below_alloc' ?_ _))) ((unhide HT).below (by repeat (first | exact Below.refl _ _ | assumption | refine below_drewN ?_ _ | refine Below.drew ?_ | refine below_alloc' ?_ _)))).mono ?_
    rintro e w1 ⟨rfl, hP1, hK1⟩
    have hB := hrest _ _ hK1 rfl
    obtain ⟨⟨b0, b1, b2, b3, b4, b5, b6⟩, f0, f1, f2, f3, f4, f5, f6⟩ := hB.seven
    have HB := hide hB; have HP1 := hide hP1; have HK1 := hide ((((Keeps.refl (fun k => k = bp) w).alloc _).drewN _).trans hK1 (fun _ _ h => h))
    have hz1 : w.heap.size < w1.heap.size := by have := hK1.size; simp at this; omega
    clear hP1 hK1 hB hrest
    go_wp2_with fail
    refine bodyPost_ret (results_cell rfl rfl (load7 (Blk.put7 (unhide HB)))) rfl ?_
    exact ⟨_, rfl, tree_plain 13 0, (unhide HP1).put7 (by omega) _ _ _ _ _ _ _, (unhide HK1).put7 (.inr (Nat.le_refl _)) _ _ _ _ _ _ _⟩
  by_cases e96 : c = 96
  · subst e96
    rw [if_neg (by omega), if_neg (by omega), if_neg (by omega), if_neg (by omega), if_pos rfl] at hO
    subst hO
    go_enter Tryd.func70, Tryd.ntmps70
    go_wp2_with fail
    go_quiet (fail)
    go_wp2_with fail
    refine (unhide HC _ ((unhide HP).below (by repeat (first | exact Below.refl _ _ | assumption | refine below_drewN ?_ _ | refine Below.drew ?_ | refine below_alloc' ?_ _))) ((unhide HT).below (by repeat (first | exact Below.refl _ _ | assumption | refine below_drewN ?_ _ | refine Below.drew ?_ | refine below_alloc' ?_ _)))).mono ?_
    rintro e w1 ⟨rfl, hP1, hK1⟩
    have hB := hrest _ _ hK1 rfl
    obtain ⟨⟨b0, b1, b2, b3, b4, b5, b6⟩, f0, f1, f2, f3, f4, f5, f6⟩ := hB.seven
    have HB := hide hB; have HP1 := hide hP1; have HK1 := hide ((((Keeps.refl (fun k => k = bp) w).alloc _).drewN _).trans hK1 (fun _ _ h => h))
    have hz1 : w.heap.size < w1.heap.size := by have := hK1.size; simp at this; omega
    clear hP1 hK1 hB hrest
    go_wp2_with fail
    refine bodyPost_ret (results_cell rfl rfl (load7 (Blk.put7 (unhide HB)))) rfl ?_
    exact ⟨_, rfl, tree_plain 8 0, (unhide HP1).put7 (by omega) _ _ _ _ _ _ _, (unhide HK1).put7 (.inr (Nat.le_refl _)) _ _ _ _ _ _ _⟩
  by_cases e39 : c = 39
  · subst e39
    rw [if_neg (by omega), if_neg (by omega), if_neg (by omega), if_neg (by omega), if_neg (by omega), if_pos rfl] at hO
    subst hO
    go_enter Tryd.func70, Tryd.ntmps70
    go_wp2_with fail
    go_quiet (fail)
    go_wp2_with fail
    refine (unhide HC _ ((unhide HP).below (by repeat (first | exact Below.refl _ _ | assumption | refine below_drewN ?_ _ | refine Below.drew ?_ | refine below_alloc' ?_ _))) ((unhide HT).below (by repeat (first | exact Below.refl _ _ | assumption | refine below_drewN ?_ _ | refine Below.drew ?_ | refine below_alloc' ?_ _)))).mono ?_
    rintro e w1 ⟨rfl, hP1, hK1⟩
    have hB := hrest _ _ hK1 rfl
    obtain ⟨⟨b0, b1, b2, b3, b4, b5, b6⟩, f0, f1, f2, f3, f4, f5, f6⟩ := hB.seven
    have HB := hide hB; have HP1 := hide hP1; have HK1 := hide ((((Keeps.refl (fun k => k = bp) w).alloc _).drewN _).trans hK1 (fun _ _ h => h))
    have hz1 : w.heap.size < w1.heap.size := by have := hK1.size; simp at this; omega
    clear hP1 hK1 hB hrest
    go_wp2_with fail
    refine bodyPost_ret (results_cell rfl rfl (load7 (Blk.put7 (unhide HB)))) rfl ?_
    exact ⟨_, rfl, tree_plain 9 0, (unhide HP1).put7 (by omega) _ _ _ _ _ _ _, (unhide HK1).put7 (.inr (Nat.le_refl _)) _ _ _ _ _ _ _⟩
  by_cases e119 : c = 119
  · subst e119
    rw [if_neg (by omega), if_neg (by omega), if_neg (by omega), if_neg (by omega), if_neg (by omega), if_neg (by omega), if_pos (by omega)] at hO
    subst hO
    have HW := hide word_calls
    go_enter Tryd.func70, Tryd.ntmps70
    go_wp2_with fail
    go_quiet (fail)
    go_wp2_with fail
    refine (unhide HC _ ((unhide HP).below (by repeat (first | exact Below.refl _ _ | assumption | refine below_drewN ?_ _ | refine Below.drew ?_ | refine below_alloc' ?_ _))) ((unhide HT).below (by repeat (first | exact Below.refl _ _ | assumption | refine below_drewN ?_ _ | refine Below.drew ?_ | refine below_alloc' ?_ _)))).mono ?_
    rintro e w1 ⟨rfl, hP1, hK1⟩
    have hB := hrest _ _ hK1 rfl
    obtain ⟨⟨b0, b1, b2, b3, b4, b5, b6⟩, f0, f1, f2, f3, f4, f5, f6⟩ := hB.seven
    have HB := hide hB; have HP1 := hide hP1; have HK1 := hide ((((Keeps.refl (fun k => k = bp) w).alloc _).drewN _).trans hK1 (fun _ _ h => h))
    have hz1 : w.heap.size < w1.heap.size := by have := hK1.size; simp at this; omega
    clear hP1 hK1 hB hrest
    go_wp2_with fail
    refine (unhide HW _).mono ?_
    rintro e w2 ⟨b, rfl, hb0, hst, hb2⟩
    have hB2 := (unhide HB).below hb2 hz1
    obtain ⟨⟨d0, d1, d2, d3, d4, d5, d6⟩, g0, g1, g2, g3, g4, g5, g6⟩ := hB2.seven
    have HB2 := hide hB2; have HS := hide hst; have HBW := hide hb2
    have hz2 : w1.heap.size ≤ w2.heap.size := hb2.size
    clear hB2 hst hb2 b0 b1 b2 b3 b4 b5 b6 f0 f1 f2 f3 f4 f5 f6
    go_wp2_with fail
    refine bodyPost_ret (results_cell rfl rfl (load7 (Blk.put7 (unhide HB2)))) rfl ?_
    refine ⟨_, rfl, tree_set _ _ _ ?_, ((unhide HP1).below (unhide HBW)).put7 (by omega) _ _ _ _ _ _ _, ((unhide HK1).then_below (unhide HBW)).put7 (.inr (Nat.le_refl _)) _ _ _ _ _ _ _⟩
    exact SetAt.mono (SetAt.step (W := w2) (unhide HS) (fun k hk _ => heap_put7 _ _ _ _ _ _ _ _ _ k (by have : w1.heap.size ≤ k := hk; omega))) (fun k hk => by have : w1.heap.size ≤ k := hk; show w.heap.size ≤ k; omega)
  by_cases e87 : c = 87
  · subst e87
    rw [if_neg (by omega), if_neg (by omega), if_neg (by omega), if_neg (by omega), if_neg (by omega), if_neg (by omega), if_pos (by omega)] at hO
    subst hO
    have HW := hide word_calls
    go_enter Tryd.func70, Tryd.ntmps70
    go_wp2_with fail
    go_quiet (fail)
    go_wp2_with fail
    refine (unhide HC _ ((unhide HP).below (by repeat (first | exact Below.refl _ _ | assumption | refine below_drewN ?_ _ | refine Below.drew ?_ | refine below_alloc' ?_ _))) ((unhide HT).below (by repeat (first | exact Below.refl _ _ | assumption | refine below_drewN ?_ _ | refine Below.drew ?_ | refine below_alloc' ?_ _)))).mono ?_
    rintro e w1 ⟨rfl, hP1, hK1⟩
    have hB := hrest _ _ hK1 rfl
    obtain ⟨⟨b0, b1, b2, b3, b4, b5, b6⟩, f0, f1, f2, f3, f4, f5, f6⟩ := hB.seven
    have HB := hide hB; have HP1 := hide hP1; have HK1 := hide ((((Keeps.refl (fun k => k = bp) w).alloc _).drewN _).trans hK1 (fun _ _ h => h))
    have hz1 : w.heap.size < w1.heap.size := by have := hK1.size; simp at this; omega
    clear hP1 hK1 hB hrest
    go_wp2_with fail
    refine (unhide HW _).mono ?_
    rintro e w2 ⟨b, rfl, hb0, hst, hb2⟩
    have hB2 := (unhide HB).below hb2 hz1
    obtain ⟨⟨d0, d1, d2, d3, d4, d5, d6⟩, g0, g1, g2, g3, g4, g5, g6⟩ := hB2.seven
    have HB2 := hide hB2; have HS := hide hst; have HBW := hide hb2
    have hz2 : w1.heap.size ≤ w2.heap.size := hb2.size
    clear hB2 hst hb2 b0 b1 b2 b3 b4 b5 b6 f0 f1 f2 f3 f4 f5 f6
    go_wp2_with fail
    refine bodyPost_ret (results_cell rfl rfl (load7 (Blk.put7 (unhide HB2)))) rfl ?_
    refine ⟨_, rfl, tree_set _ _ _ ?_, ((unhide HP1).below (unhide HBW)).put7 (by omega) _ _ _ _ _ _ _, ((unhide HK1).then_below (unhide HBW)).put7 (.inr (Nat.le_refl _)) _ _ _ _ _ _ _⟩
    exact SetAt.mono (SetAt.step (W := w2) (unhide HS) (fun k hk _ => heap_put7 _ _ _ _ _ _ _ _ _ k (by have : w1.heap.size ≤ k := hk; omega))) (fun k hk => by have : w1.heap.size ≤ k := hk; show w.heap.size ≤ k; omega)
  by_cases e115 : c = 115
  · subst e115
    rw [if_neg (by omega), if_neg (by omega), if_neg (by omega), if_neg (by omega), if_neg (by omega), if_neg (by omega), if_neg (by omega), if_pos (by omega)] at hO
    subst hO
    have HW := hide space_calls
    go_enter Tryd.func70, Tryd.ntmps70
    go_wp2_with fail
    go_quiet (fail)
    go_wp2_with fail
    refine (unhide HC _ ((unhide HP).below (by repeat (first | exact Below.refl _ _ | assumption | refine below_drewN ?_ _ | refine Below.drew ?_ | refine below_alloc' ?_ _))) ((unhide HT).below (by repeat (first | exact Below.refl _ _ | assumption | refine below_drewN ?_ _ | refine Below.drew ?_ | refine below_alloc' ?_ _)))).mono ?_
    rintro e w1 ⟨rfl, hP1, hK1⟩
    have hB := hrest _ _ hK1 rfl
    obtain ⟨⟨b0, b1, b2, b3, b4, b5, b6⟩, f0, f1, f2, f3, f4, f5, f6⟩ := hB.seven
    have HB := hide hB; have HP1 := hide hP1; have HK1 := hide ((((Keeps.refl (fun k => k = bp) w).alloc _).drewN _).trans hK1 (fun _ _ h => h))
    have hz1 : w.heap.size < w1.heap.size := by have := hK1.size; simp at this; omega
    clear hP1 hK1 hB hrest
    go_wp2_with fail
    refine (unhide HW _).mono ?_
    rintro e w2 ⟨b, rfl, hb0, hst, hb2⟩
    have hB2 := (unhide HB).below hb2 hz1
    obtain ⟨⟨d0, d1, d2, d3, d4, d5, d6⟩, g0, g1, g2, g3, g4, g5, g6⟩ := hB2.seven
    have HB2 := hide hB2; have HS := hide hst; have HBW := hide hb2
    have hz2 : w1.heap.size ≤ w2.heap.size := hb2.size
    clear hB2 hst hb2 b0 b1 b2 b3 b4 b5 b6 f0 f1 f2 f3 f4 f5 f6
    go_wp2_with fail
    refine bodyPost_ret (results_cell rfl rfl (load7 (Blk.put7 (unhide HB2)))) rfl ?_
    refine ⟨_, rfl, tree_set _ _ _ ?_, ((unhide HP1).below (unhide HBW)).put7 (by omega) _ _ _ _ _ _ _, ((unhide HK1).then_below (unhide HBW)).put7 (.inr (Nat.le_refl _)) _ _ _ _ _ _ _⟩
    exact SetAt.mono (SetAt.step (W := w2) (unhide HS) (fun k hk _ => heap_put7 _ _ _ _ _ _ _ _ _ k (by have : w1.heap.size ≤ k := hk; omega))) (fun k hk => by have : w1.heap.size ≤ k := hk; show w.heap.size ≤ k; omega)
  by_cases e83 : c = 83
  · subst e83
    rw [if_neg (by omega), if_neg (by omega), if_neg (by omega), if_neg (by omega), if_neg (by omega), if_neg (by omega), if_neg (by omega), if_pos (by omega)] at hO
    subst hO
    have HW := hide space_calls
    go_enter Tryd.func70, Tryd.ntmps70
    go_wp2_with fail
    go_quiet (fail)
    go_wp2_with fail
    refine (unhide HC _ ((unhide HP).below (by repeat (first | exact Below.refl _ _ | assumption | refine below_drewN ?_ _ | refine Below.drew ?_ | refine below_alloc' ?_ _))) ((unhide HT).below (by repeat (first | exact Below.refl _ _ | assumption | refine below_drewN ?_ _ | refine Below.drew ?_ | refine below_alloc' ?_ _)))).mono ?_
    rintro e w1 ⟨rfl, hP1, hK1⟩
    have hB := hrest _ _ hK1 rfl
    obtain ⟨⟨b0, b1, b2, b3, b4, b5, b6⟩, f0, f1, f2, f3, f4, f5, f6⟩ := hB.seven
    have HB := hide hB; have HP1 := hide hP1; have HK1 := hide ((((Keeps.refl (fun k => k = bp) w).alloc _).drewN _).trans hK1 (fun _ _ h => h))
    have hz1 : w.heap.size < w1.heap.size := by have := hK1.size; simp at this; omega
    clear hP1 hK1 hB hrest
    go_wp2_with fail
    refine (unhide HW _).mono ?_
    rintro e w2 ⟨b, rfl, hb0, hst, hb2⟩
    have hB2 := (unhide HB).below hb2 hz1
    obtain ⟨⟨d0, d1, d2, d3, d4, d5, d6⟩, g0, g1, g2, g3, g4, g5, g6⟩ := hB2.seven
    have HB2 := hide hB2; have HS := hide hst; have HBW := hide hb2
    have hz2 : w1.heap.size ≤ w2.heap.size := hb2.size
    clear hB2 hst hb2 b0 b1 b2 b3 b4 b5 b6 f0 f1 f2 f3 f4 f5 f6
    go_wp2_with fail
    refine bodyPost_ret (results_cell rfl rfl (load7 (Blk.put7 (unhide HB2)))) rfl ?_
    refine ⟨_, rfl, tree_set _ _ _ ?_, ((unhide HP1).below (unhide HBW)).put7 (by omega) _ _ _ _ _ _ _, ((unhide HK1).then_below (unhide HBW)).put7 (.inr (Nat.le_refl _)) _ _ _ _ _ _ _⟩
    exact SetAt.mono (SetAt.step (W := w2) (unhide HS) (fun k hk _ => heap_put7 _ _ _ _ _ _ _ _ _ k (by have : w1.heap.size ≤ k := hk; omega))) (fun k hk => by have : w1.heap.size ≤ k := hk; show w.heap.size ≤ k; omega)
  have n121 : (c == 121) = false := by simpa using e121
  have n66 : (c == 66) = false := by simpa using e66
  have n60 : (c == 60) = false := by simpa using e60
  have n62 : (c == 62) = false := by simpa using e62
  have n96 : (c == 96) = false := by simpa using e96
  have n39 : (c == 39) = false := by simpa using e39
  have n119 : (c == 119) = false := by simpa using e119
  have n87 : (c == 87) = false := by simpa using e87
  have n115 : (c == 115) = false := by simpa using e115
  have n83 : (c == 83) = false := by simpa using e83
  rw [if_neg (by omega), if_neg (by omega), if_neg (by omega), if_neg (by omega), if_neg (by omega), if_neg (by omega), if_neg (by omega), if_neg (by omega)] at hO
  have hsg := fun w => single_calls c w hcb.1 hcb.2
  clear e121 e66 e60 e62 e96 e39 e119 e87 e115 e83
  cases hsc : singleF c with
  | none =>
    rw [hsc] at hO
    subst hO
    simp only [singleV, hsc] at hsg
    have HS := hide hsg
    clear hsg hsc
    go_enter Tryd.func70, Tryd.ntmps70
    go_wp2_with fail
    go_quiet (fail)
    go_wp2_with fail
    refine (unhide HC _ ((unhide HP).below (by repeat (first | exact Below.refl _ _ | assumption | refine below_drewN ?_ _ | refine Below.drew ?_ | refine below_alloc' ?_ _))) ((unhide HT).below (by repeat (first | exact Below.refl _ _ | assumption | refine below_drewN ?_ _ | refine Below.drew ?_ | refine below_alloc' ?_ _)))).mono ?_
    rintro e w1 ⟨rfl, hP1, hK1⟩
    have hB := hrest _ _ hK1 rfl
    obtain ⟨⟨b0, b1, b2, b3, b4, b5, b6⟩, f0, f1, f2, f3, f4, f5, f6⟩ := hB.seven
    have HB := hide hB; have HP1 := hide hP1; have HK1 := hide ((((Keeps.refl (fun k => k = bp) w).alloc _).drewN _).trans hK1 (fun _ _ h => h))
    have hz1 : w.heap.size < w1.heap.size := by have := hK1.size; simp at this; omega
    clear hP1 hK1 hB hrest
    go_wp2_with fail
    refine (unhide HS _).mono ?_
    rintro e w2 ⟨rfl, hw⟩
    obtain rfl := hw.symm
    go_wp2_with fail
    refine (fail_calls _ _ _ _).mono ?_
    rintro e w3 ⟨rfl, hw⟩
    obtain rfl := hw.symm
    exact ⟨rfl, rfl, unhide HK1⟩
  | some x =>
    rw [hsc] at hO
    simp only at hO
    subst hO
    simp only [singleV, hsc] at hsg
    have HS := hide hsg
    clear hsg hsc
    go_enter Tryd.func70, Tryd.ntmps70
    go_wp2_with fail
    go_quiet (fail)
    go_wp2_with fail
    refine (unhide HC _ ((unhide HP).below (by repeat (first | exact Below.refl _ _ | assumption | refine below_drewN ?_ _ | refine Below.drew ?_ | refine below_alloc' ?_ _))) ((unhide HT).below (by repeat (first | exact Below.refl _ _ | assumption | refine below_drewN ?_ _ | refine Below.drew ?_ | refine below_alloc' ?_ _)))).mono ?_
    rintro e w1 ⟨rfl, hP1, hK1⟩
    have hB := hrest _ _ hK1 rfl
    obtain ⟨⟨b0, b1, b2, b3, b4, b5, b6⟩, f0, f1, f2, f3, f4, f5, f6⟩ := hB.seven
    have HB := hide hB; have HP1 := hide hP1; have HK1 := hide ((((Keeps.refl (fun k => k = bp) w).alloc _).drewN _).trans hK1 (fun _ _ h => h))
    have hz1 : w.heap.size < w1.heap.size := by have := hK1.size; simp at this; omega
    clear hP1 hK1 hB hrest
    go_wp2_with fail
    refine (unhide HS _).mono ?_
    rintro e w2 ⟨rfl, hw⟩
    obtain rfl := hw.symm
    go_wp2_with fail
    refine bodyPost_ret (results_cell rfl rfl (load7 (Blk.put7 (unhide HB)))) rfl ?_
    exact ⟨_, rfl, tree_plain 2 x, (unhide HP1).put7 (by omega) _ _ _ _ _ _ _, (unhide HK1).put7 (.inr (Nat.le_refl _)) _ _ _ _ _ _ _⟩
end Go.Proofs.YtanmlgliibgpcaaDoor

/- Plain Lean: what a pattern writes may be. -/
namespace Thr

mutual
theorem within_mono : ∀ (t : Rx) (d d' : Nat), withinF t d = true → d ≤ d' → withinF t d' = true
  | .mk kind code neg set mn mx kids, 0, d', h, hd => by simp [withinF] at h
  | .mk kind code neg set mn mx kids, d + 1, 0, h, hd => by omega
  | .mk kind code neg set mn mx kids, d + 1, d' + 1, h, hd => by
    simp only [withinF, Bool.and_eq_true] at h ⊢
    exact ⟨h.1, withinAll_mono kids d d' h.2 (by omega)⟩
theorem withinAll_mono : ∀ (ks : List Rx) (d d' : Nat), withinAll ks d = true → d ≤ d' → withinAll ks d' = true
  | [], d, d', h, hd => by simp [withinAll]
  | k :: ks, d, d', h, hd => by
    simp only [withinAll, Bool.and_eq_true] at h ⊢
    exact ⟨within_mono k d d' h.1 hd, withinAll_mono ks d d' h.2 hd⟩
end
theorem withinAll_of : ∀ (ks : List Rx) (d : Nat), (∀ k ∈ ks, withinF k d = true) → withinAll ks d = true
  | [], d, h => by simp [withinAll]
  | k :: ks, d, h => by
    simp only [withinAll, Bool.and_eq_true]
    exact ⟨h k (by simp), withinAll_of ks d (fun x hx => h x (by simp [hx]))⟩
theorem w_leaf (k : Int) (d : Nat) (h1 : 1 ≤ k) (h2 : k ≤ 13) (h4 : k ≠ 4) (h5 : k ≠ 5) (h6 : k ≠ 6) (h7 : k ≠ 7) (hd : 1 ≤ d) : withinF (leaf k) d = true := by
  obtain ⟨d, rfl⟩ : ∃ e, d = e + 1 := ⟨d - 1, by omega⟩
  simp only [leaf, withinF, withinAll, validF]
  rw [if_neg (by omega), if_neg h7, if_neg h4]
  simp [h1, h2]
theorem w_chr (c : Int) (d : Nat) (hd : 1 ≤ d) : withinF (chrN c) d = true := by
  obtain ⟨d, rfl⟩ : ∃ e, d = e + 1 := ⟨d - 1, by omega⟩
  simp [chrN, withinF, withinAll, validF]
theorem w_set (neg : Bool) (l : List (Int × Int)) (d : Nat) (hd : 1 ≤ d) (h : setOkF l = true) : withinF (setN neg l) d = true := by
  obtain ⟨d, rfl⟩ : ∃ e, d = e + 1 := ⟨d - 1, by omega⟩
  simp [setN, withinF, withinAll, validF, h]
theorem w_cat (ks : List Rx) (d : Nat) (h1 : 1 < ks.length) (h : ∀ k ∈ ks, withinF k d = true) : withinF (catN ks) (d + 1) = true := by
  simp only [catN, withinF, Bool.and_eq_true]
  exact ⟨by simp [validF, h1], withinAll_of ks d h⟩
theorem w_alt (ks : List Rx) (d : Nat) (h1 : 1 < ks.length) (h : ∀ k ∈ ks, withinF k d = true) : withinF (altN ks) (d + 1) = true := by
  simp only [altN, withinF, Bool.and_eq_true]
  exact ⟨by simp [validF, h1], withinAll_of ks d h⟩
theorem w_rep (lo hi : Int) (k : Rx) (d : Nat) (h1 : 0 ≤ lo) (h2 : lo ≤ 30) (h3 : -1 ≤ hi) (h4 : hi ≤ 30) (h5 : hi < 0 ∨ lo ≤ hi) (h : withinF k d = true) : withinF (repN lo hi k) (d + 1) = true := by
  simp only [repN, withinF, Bool.and_eq_true, withinAll, and_true]
  refine ⟨?_, h⟩
  simp [validF, h1, h2, h3, h4]
  omega

/-! ### Sets -/
theorem NS.near : ∀ {l : List Rng} {a : Int}, NS a l → ∀ (i : Nat) (r q : Rng), l[i + 1]? = some r → l[i]? = some q → q.2 + 2 ≤ r.1
  | [], a, _, i, r, q, h, _ => by simp at h
  | x :: l, a, hn, 0, r, q, h, h' => by
    simp at h h'
    subst h'
    cases l with
    | nil => simp at h
    | cons y l =>
      simp at h; subst h
      exact hn.2.2.1
  | x :: l, a, hn, i + 1, r, q, h, h' => NS.near hn.2.2 i r q (by simpa using h) (by simpa using h')
theorem setOk_of {l : List Rng} {a : Int} (h : NS a l) (h0 : ∀ r ∈ l, 0 ≤ r.1 ∧ r.2 ≤ 1114367) : setOkF l = true := by
  unfold setOkF
  rw [List.all_eq_true]
  intro i hi
  have hi' : i < l.length := by simpa using hi
  have hg := List.getElem?_eq_getElem hi'
  obtain ⟨r, hr⟩ : ∃ r, l[i] = r := ⟨_, rfl⟩
  rw [hr] at hg
  have hm : r ∈ l := by rw [← hr]; exact List.getElem_mem _
  have hb := h0 r hm
  have he := h.each r hm
  unfold badAt
  rw [hg]
  simp only [Bool.not_eq_true']
  have h1 : decide (r.1 < 0) = false := by simp; omega
  have h2 : decide (r.1 > r.2) = false := by simp; omega
  have h3 : decide (r.2 > 1114367) = false := by simp; omega
  rw [h1, h2, h3]
  simp only [Bool.false_or]
  cases i with
  | zero => simp
  | succ i =>
    rw [show i + 1 - 1 = i from rfl, List.getElem?_eq_getElem (show i < l.length by omega)]
    have := h.near i r _ hg (List.getElem?_eq_getElem (show i < l.length by omega))
    simp [nearF]
    omega
theorem setOk_fold {l : List Rng} (h : ∀ r ∈ l, 0 ≤ r.1 ∧ r.1 ≤ r.2 ∧ r.2 ≤ 1114367) : setOkF (l.foldl withR []) = true := by
  obtain ⟨⟨b, hb⟩, hm⟩ := foldl_with_ns l [] 0 trivial (fun r hr => (h r hr).2.1)
  refine setOk_of hb fun r hr => ?_
  have he := hb.each r hr
  obtain ⟨x, hx, hx1, hx2⟩ | ⟨x, hx, hx1, hx2⟩ := (hm r.1).1 ⟨r, hr, by omega, by omega⟩
  · cases hx
  · obtain ⟨y, hy, hy1, hy2⟩ | ⟨y, hy, hy1, hy2⟩ := (hm r.2).1 ⟨r, hr, by omega, by omega⟩
    · cases hy
    · have := h x hx
      have := h y hy
      omega
theorem look_in : ∀ (n : ByteArray) (tab : List (ByteArray × List (Int × Int))) (l : List (Int × Int)), lookF n tab = some l → ∃ x ∈ tab, x.2 = l
  | n, [], l, h => by simp [lookF] at h
  | n, x :: tab, l, h => by
    simp only [lookF] at h
    split at h
    · exact ⟨x, by simp, by simpa using h⟩
    · obtain ⟨y, hy, he⟩ := look_in n tab l h
      exact ⟨y, by simp [hy], he⟩
def fineR (r : Int × Int) : Prop := 0 ≤ r.1 ∧ r.1 ≤ r.2 ∧ r.2 ≤ 1114367
instance (r : Int × Int) : Decidable (fineR r) := by unfold fineR; infer_instance
theorem tab_fine : ∀ x ∈ classTab, ∀ r ∈ x.2, fineR r := by decide
theorem class_fine {n : ByteArray} {l : List (Int × Int)} (h : classF n = some l) : ∀ r ∈ l, fineR r := by
  obtain ⟨x, hx, rfl⟩ := look_in _ _ _ h
  exact tab_fine x hx
theorem single_range {c x : Int} (h : singleF c = some x) (h0 : 0 ≤ c) (h1 : c ≤ 1114367) : 0 ≤ x ∧ x ≤ 1114367 := by
  unfold singleF at h
  repeat' split at h
  all_goals first | (simp only [Option.some.injEq] at h; omega) | cases h | (have := h; simp at this)
theorem next_range {s : ByteArray} {bytes : Bool} (hs : Sized s bytes) (i : Nat) (h : (nextF s i bytes).2 ≠ 0) : 0 ≤ (nextF s i bytes).1 ∧ (nextF s i bytes).1 ≤ 1114367 := by
  rcases Nat.lt_or_ge i s.size with hi | hi
  · exact (hs.at_ i hi).2.2
  · exact absurd ((next_le hs).2.2 hi) h
theorem member_range {s : ByteArray} {bytes : Bool} (hs : Sized s bytes) {i k : Nat} {x : Int} (h : memberF s i bytes = some (x, k)) : 0 ≤ x ∧ x ≤ 1114367 := by
  unfold memberF at h
  split at h
  · cases h
  · rename_i h0
    have hr := next_range hs i h0
    split at h
    · simp only [Option.some.injEq, Prod.mk.injEq] at h
      omega
    · split at h
      · cases h
      · rename_i h1
        rw [show (i : Int) + 1 = ((i + 1 : Nat) : Int) by omega] at h h1
        have hr2 := next_range hs (i + 1) h1
        split at h
        · cases h
        · rename_i hsg
          have := single_range hsg hr2.1 hr2.2
          simp only [Option.some.injEq, Prod.mk.injEq] at h
          omega
theorem sets_fine {s : ByteArray} {bytes : Bool} (hs : Sized s bytes) : ∀ (f i : Nat) (first : Bool) (acc l : List (Int × Int)) (k : Nat), (∀ r ∈ acc, fineR r) → setsF s bytes f i first acc = some (l, k) → ∀ r ∈ l, fineR r
  | 0, i, first, acc, l, k, ha, h => by simp [setsF] at h
  | f + 1, i, first, acc, l, k, ha, h => by
    have app : ∀ (m : List (Int × Int)), (∀ r ∈ m, fineR r) → ∀ r ∈ acc ++ m, fineR r := by
      intro m hm r hr
      rcases List.mem_append.1 hr with hr | hr
      · exact ha r hr
      · exact hm r hr
    simp only [setsF] at h
    split at h
    · simp only [Option.some.injEq, Prod.mk.injEq] at h
      rw [← h.1]; exact ha
    · split at h
      · split at h
        · cases h
        · rename_i hn
          refine sets_fine hs f _ _ _ _ _ (app _ ?_) h
          unfold namedF at hn
          split at hn
          · cases hn
          · split at hn
            · cases hn
            · rename_i hc
              simp only [Option.some.injEq, Prod.mk.injEq] at hn
              rw [← hn.1]
              exact class_fine hc
      · split at h
        · cases h
        · rename_i hm
          have h1 := member_range hs hm
          split at h
          · split at h
            · cases h
            · split at h
              · cases h
              · rename_i hm2
                have h2 := member_range hs hm2
                split at h
                · cases h
                · refine sets_fine hs f _ _ _ _ _ (app _ ?_) h
                  intro r hr
                  obtain rfl := List.mem_singleton.1 hr
                  exact ⟨h1.1, by simp only; omega, h2.2⟩
          · refine sets_fine hs f _ _ _ _ _ (app _ ?_) h
            intro r hr
            obtain rfl := List.mem_singleton.1 hr
            exact ⟨h1.1, by simp only; omega, h1.2⟩
theorem set_good {s : ByteArray} {bytes : Bool} (hs : Sized s bytes) {i k : Nat} {x : Rx} (h : setF s i bytes = some (x, k)) (d : Nat) (hd : 1 ≤ d) : withinF x d = true := by
  unfold setF at h
  split at h
  · cases h
  · rename_i hk
    simp only [Option.some.injEq, Prod.mk.injEq] at h
    rw [← h.1]
    exact w_set _ _ _ hd (setOk_fold (sets_fine hs _ _ _ _ _ _ (by simp) hk))
theorem esc_good {s : ByteArray} {bytes : Bool} {i k : Nat} {x : Rx} (h : escF s i bytes = some (x, k)) (d : Nat) (hd : 1 ≤ d) : withinF x d = true := by
  unfold escF at h
  split at h
  · cases h
  · simp only at h
    repeat' split at h
    all_goals first
      | (simp only [Option.some.injEq, Prod.mk.injEq] at h; rw [← h.1]; first | exact w_leaf _ _ (by omega) (by omega) (by omega) (by omega) (by omega) (by omega) hd | exact w_chr _ _ hd | exact w_set _ _ _ hd (by decide))
      | cases h
theorem plain_good (c : Int) (d : Nat) (hd : 1 ≤ d) : withinF (plainF c) d = true := by
  unfold plainF
  split
  · exact w_leaf _ _ (by omega) (by omega) (by omega) (by omega) (by omega) (by omega) hd
  split
  · exact w_leaf _ _ (by omega) (by omega) (by omega) (by omega) (by omega) (by omega) hd
  split
  · exact w_leaf _ _ (by omega) (by omega) (by omega) (by omega) (by omega) (by omega) hd
  · exact w_chr _ _ hd

/-! ### Groups -/
theorem init_last : ∀ {l : List Rx}, l ≠ [] → l = initL l ++ [lastL l]
  | [], h => absurd rfl h
  | [x], _ => rfl
  | x :: y :: l, _ => by
    have := init_last (l := y :: l) (by simp)
    simp only [initL, lastL, List.cons_append]
    rw [← this]
/-- So many bytes are gone (T), so many since the last bar (U). -/
structure Inv (T : Nat) (alts cat : List Rx) (U : Nat) : Prop where
  a : ∀ x ∈ alts, withinF x (max 1 (T - 1)) = true
  c : ∀ x ∈ cat, withinF x (U + 1 - cat.length) = true
  l : cat.length ≤ U
  u : U ≤ T
  t : alts ≠ [] → U + 1 ≤ T
theorem Inv.join {T U : Nat} {alts cat : List Rx} (h : Inv T alts cat U) : withinF (joinF cat) (max 1 U) = true := by
  have hc := h.c
  have hl := h.l
  match cat, hc, hl with
  | [], _, _ => exact w_leaf 1 _ (by omega) (by omega) (by omega) (by omega) (by omega) (by omega) (by omega)
  | [x], hc, _ => exact within_mono _ _ _ (hc x (by simp)) (by simp only [List.length_cons, List.length_nil]; omega)
  | x :: y :: l, hc, hl =>
    simp only [List.length_cons] at hl hc
    obtain ⟨d, hd⟩ : ∃ d, max 1 U = d + 1 := ⟨max 1 U - 1, by omega⟩
    rw [hd]
    exact w_cat _ d (by simp) (fun k hk => within_mono _ _ _ (hc k hk) (by omega))
theorem Inv.shut {T U : Nat} {alts cat : List Rx} (h : Inv T alts cat U) : withinF (shutF alts cat) (max 2 T) = true := by
  have hj := h.join
  have hu := h.u
  by_cases ha : alts = []
  · subst ha
    exact within_mono _ _ _ hj (by omega)
  · have ht := h.t ha
    have e : shutF alts cat = altN (alts ++ [joinF cat]) := by
      unfold shutF
      match alts, ha with
      | x :: l, _ =>
        cases l with
        | nil => rfl
        | cons y l => rfl
    rw [e]
    obtain ⟨d, hd⟩ : ∃ d, max 2 T = d + 1 := ⟨max 2 T - 1, by omega⟩
    rw [hd]
    refine w_alt _ d ?_ fun k hk => ?_
    · have : 0 < alts.length := List.length_pos_iff.2 ha
      simp; omega
    · rcases List.mem_append.1 hk with hk | hk
      · exact within_mono _ _ _ (h.a k hk) (by omega)
      · obtain rfl := List.mem_singleton.1 hk
        exact within_mono _ _ _ hj (by omega)
theorem Inv.add {T U : Nat} {alts cat : List Rx} (h : Inv T alts cat U) {x : Rx} {k : Nat} (hx : withinF x k = true) (hk : 1 ≤ k) : Inv (T + k) alts (cat ++ [x]) (U + k) := by
  have h1 := h.l; have h2 := h.u
  refine ⟨fun y hy => within_mono _ _ _ (h.a y hy) (by omega), fun y hy => ?_, by simp; omega, by omega, fun ha => by have := h.t ha; omega⟩
  simp only [List.length_append, List.length_cons, List.length_nil]
  rcases List.mem_append.1 hy with hy | hy
  · exact within_mono _ _ _ (h.c y hy) (by omega)
  · obtain rfl := List.mem_singleton.1 hy
    exact within_mono _ _ _ hx (by omega)
theorem Inv.bar {T U : Nat} {alts cat : List Rx} (h : Inv T alts cat U) : Inv (T + 1) (alts ++ [joinF cat]) [] 0 := by
  have h2 := h.u
  refine ⟨fun y hy => ?_, by simp, by simp, by omega, fun _ => by omega⟩
  rcases List.mem_append.1 hy with hy | hy
  · exact within_mono _ _ _ (h.a y hy) (by omega)
  · obtain rfl := List.mem_singleton.1 hy
    exact within_mono _ _ _ h.join (by omega)
theorem Inv.rep {T U : Nat} {alts cat : List Rx} (h : Inv T alts cat U) (hc : cat ≠ []) {lo hi : Int} {k : Nat} (hk : 1 ≤ k) (h1 : 0 ≤ lo) (h2 : lo ≤ 30) (h3 : -1 ≤ hi) (h4 : hi ≤ 30) (h5 : hi < 0 ∨ lo ≤ hi) :
    Inv (T + k) alts (initL cat ++ [repN lo hi (lastL cat)]) (U + k) := by
  have e := init_last hc
  have hlen : (initL cat ++ [repN lo hi (lastL cat)]).length = cat.length := by
    have := congrArg List.length e
    simp at this ⊢
    omega
  have hm : ∀ l, l = initL cat ++ [lastL cat] → lastL cat ∈ l := by rintro _ rfl; simp
  have g1 := h.l; have g2 := h.u
  refine ⟨fun y hy => within_mono _ _ _ (h.a y hy) (by omega), fun y hy => ?_, by rw [hlen]; omega, by omega, fun ha => by have := h.t ha; omega⟩
  rw [hlen]
  rcases List.mem_append.1 hy with hy | hy
  · exact within_mono _ _ _ (h.c y (by rw [e]; simp [hy])) (by omega)
  · obtain rfl := List.mem_singleton.1 hy
    exact within_mono _ _ _ (w_rep _ _ _ _ h1 h2 h3 h4 h5 (h.c (lastL cat) (hm cat e))) (by omega)
theorem dig_bounds (s : ByteArray) : ∀ (f i : Nat) (v : Int), 0 ≤ v → 0 ≤ (digF s f i v).1
  | 0, i, v, h => by simpa [digF] using h
  | f + 1, i, v, h => by
    simp only [digF]
    split
    · rename_i hc
      have : 48 ≤ byt s i := by have := hc.2; simp [isDig] at this; exact this.1
      exact dig_bounds s f (i + 1) _ (by omega)
    · exact h
theorem again_good {s : ByteArray} {i : Nat} {lo hi : Int} {k : Nat} (h : againF s i = .yes lo hi k) : 0 ≤ lo ∧ lo ≤ 30 ∧ -1 ≤ hi ∧ hi ≤ 30 ∧ (hi < 0 ∨ lo ≤ hi) := by
  unfold againF at h
  split at h
  · injection h; omega
  split at h
  · injection h; omega
  split at h
  · injection h; omega
  split at h
  · split at h
    · cases h
    · rename_i a b c hit
      have hb : 0 ≤ a ∧ -1 ≤ b := by
        have d1 := dig_bounds s s.size (i + 1) 0 (by omega)
        have d2 := dig_bounds s s.size ((digF s s.size (i + 1) 0).2 + 1) 0 (by omega)
        unfold itvF at hit
        split at hit
        · cases hit
        · split at hit
          · split at hit
            · simp only [Option.some.injEq, Prod.mk.injEq] at hit
              obtain ⟨rfl, rfl, _⟩ := hit
              refine ⟨d1, ?_⟩
              split <;> omega
            · cases hit
          · split at hit
            · simp only [Option.some.injEq, Prod.mk.injEq] at hit
              obtain ⟨rfl, rfl, _⟩ := hit
              omega
            · cases hit
      split at h
      · cases h
      · split at h
        · cases h
        · injection h
          subst_vars
          omega
  · cases h
theorem inner_good {s : ByteArray} {bytes : Bool} (hs : Sized s bytes) : ∀ (f nest : Nat) (alts cat : List Rx) (i : Nat) (a c : List Rx) (j T U : Nat), innerF s bytes f nest alts cat i = some (.stop a c j) → i ≤ s.size → Inv T alts cat U → i ≤ j ∧ j ≤ s.size ∧ ∃ U', Inv (T + (j - i)) a c U'
  | 0, nest, alts, cat, i, a, c, j, T, U, h, hi, hI => by simp [innerF] at h
  | f + 1, nest, alts, cat, i, a, c, j, T, U, h, hi, hI => by
    have go : ∀ (nest' : Nat) (alts' cat' : List Rx) (k : Nat) (U' : Nat), i < k → k ≤ s.size → Inv (T + (k - i)) alts' cat' U' → innerF s bytes f nest' alts' cat' k = some (.stop a c j) → i ≤ j ∧ j ≤ s.size ∧ ∃ U', Inv (T + (j - i)) a c U' := by
      intro nest' alts' cat' k U' h1 h2 h3 h4
      obtain ⟨g1, g2, U2, g3⟩ := inner_good hs f nest' alts' cat' k a c j _ _ h4 h2 h3
      exact ⟨by omega, g2, U2, by rw [show T + (k - i) + (j - k) = T + (j - i) by omega] at g3; exact g3⟩
    simp only [innerF] at h
    by_cases hge : s.size ≤ i
    · rw [if_pos hge] at h
      injection h with h
      injection h with e1 e2 e3
      subst e1; subst e2; subst e3
      exact ⟨Nat.le_refl _, hi, U, by simpa using hI⟩
    rw [if_neg hge] at h
    have hlt : i < s.size := by omega
    have hn := (next_le (i := i) hs).2.1 hlt
    have put : ∀ (x : Rx) (k : Nat), i < k → k ≤ s.size → withinF x (k - i) = true → innerF s bytes f nest alts (cat ++ [x]) k = some (.stop a c j) → i ≤ j ∧ j ≤ s.size ∧ ∃ U', Inv (T + (j - i)) a c U' :=
      fun x k h1 h2 hx h3 => go _ _ _ k _ h1 h2 (hI.add hx (by omega)) h3
    generalize hag : (if cat = [] then Again.no else againF s i) = ag at h
    cases ag with
    | fault e => cases h
    | yes lo hi' k =>
      have hcat : cat ≠ [] := by
        intro e
        rw [if_pos e] at hag
        cases hag
      rw [if_neg hcat] at hag
      have hk := again_le hlt hag
      have hb := again_good hag
      exact go _ _ _ k _ hk.1 hk.2 (hI.rep hcat (by omega) hb.1 hb.2.1 hb.2.2.1 hb.2.2.2.1 hb.2.2.2.2) h
    | no =>
      simp only at h
      split at h
      · refine go _ _ _ (i + 1) 0 (by omega) (by omega) ?_ h
        rw [show i + 1 - i = 1 by omega]
        exact hI.bar
      split at h
      · split at h
        · cases h
        · cases hin : innerF s bytes f (nest + 1) [] [] (i + 1) with
          | none => rw [hin] at h; cases h
          | some r =>
            rw [hin] at h
            cases r with
            | fault j' e => cases h
            | stop a' c' j' =>
              simp only at h
              obtain ⟨g1, g2, U2, g3⟩ := inner_good hs f (nest + 1) [] [] (i + 1) a' c' j' 0 0 hin (by omega) ⟨by simp, by simp, by simp, by omega, by simp⟩
              split at h
              · refine put _ (j' + 1) (by omega) (by omega) (within_mono _ _ _ g3.shut (by omega)) h
              · cases h
      split at h
      · split at h
        · cases h
        · injection h with h
          injection h with e1 e2 e3
          subst e1; subst e2; subst e3
          exact ⟨Nat.le_refl _, hi, U, by simpa using hI⟩
      split at h
      · split at h
        · cases h
        · rename_i hx
          have := set_le hs hx
          exact put _ _ this.1 this.2 (set_good hs hx _ (by omega)) h
      split at h
      · split at h
        · cases h
        · rename_i hx
          have := esc_le hs hx
          exact put _ _ this.1 this.2 (esc_good hx _ (by omega)) h
      · exact put _ _ (by omega) (by omega) (plain_good _ _ (by omega)) h
theorem parse_good {s : ByteArray} {bytes : Bool} (hs : Sized s bytes) {t : Rx} (h : parseF s bytes = .tree t) : withinF t 1024 = true ∧ weightF t ≤ 200 := by
  unfold parseF at h
  split at h
  · cases h
  · rename_i hsz
    split at h
    · cases h
    · rename_i r hr
      cases r with
      | fault i e => cases h
      | stop a c j =>
        simp only [topF] at h
        split at h
        · cases h
        · rename_i hw
          injection h with h
          subst h
          obtain ⟨g1, g2, U, g3⟩ := inner_good hs _ _ _ _ _ _ _ _ 0 0 hr (by omega) ⟨by simp, by simp, by simp, by omega, by simp⟩
          exact ⟨within_mono _ _ _ g3.shut (by omega), by omega⟩
end Thr
