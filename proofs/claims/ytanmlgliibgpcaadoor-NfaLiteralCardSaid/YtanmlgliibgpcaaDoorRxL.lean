/- The walk of merged. -/
import Derived.Test.YtanmlgliibgpcaaDoorRxK
namespace Go.Proofs.YtanmlgliibgpcaaDoor
open Go.RowKit Thr
set_option linter.unusedVariables false
set_option linter.unusedSimpArgs false

/-! ### Plain: one range more -/
def stepM (d : List Rng) (r : Rng) : List Rng :=
  match d.getLast? with
  | none => [r]
  | some q => if r.1 ≤ q.2 + 1 then d.dropLast ++ [(q.1, max q.2 r.2)] else d ++ [r]
theorem stepM_nil (r : Rng) : stepM [] r = [r] := rfl
theorem stepM_snoc (pre : List Rng) (q r : Rng) : stepM (pre ++ [q]) r = if r.1 ≤ q.2 + 1 then pre ++ [(q.1, max q.2 r.2)] else pre ++ [q] ++ [r] := by simp [stepM]
theorem fold_merge : ∀ (l pre : List Rng) (cur : Rng), l.foldl stepM (pre ++ [cur]) = pre ++ mergeGo cur l
  | [], pre, cur => by simp [mergeGo]
  | r :: l, pre, cur => by
    simp only [List.foldl_cons, mergeGo, stepM_snoc]
    split
    · rw [fold_merge l pre]
    · rw [fold_merge l (pre ++ [cur])]
      simp
theorem fold_all (l : List Rng) : l.foldl stepM [] = mergeAll l := by
  cases l with
  | nil => rfl
  | cons r l =>
    simp only [List.foldl_cons, stepM_nil, mergeAll]
    exact fold_merge l [] r
def inB (r : Rng) : Prop := 0 ≤ r.1 ∧ r.1 ≤ 2000000 ∧ 0 ≤ r.2 ∧ r.2 ≤ 2000000
theorem stepM_in {d : List Rng} {r : Rng} (hd : ∀ x ∈ d, inB x) (hr : inB r) : ∀ x ∈ stepM d r, inB x := by
  intro x hx
  rcases List.eq_nil_or_concat d with rfl | ⟨pre, q, rfl⟩
  · rw [stepM_nil] at hx
    obtain rfl := List.mem_singleton.1 hx
    exact hr
  · rw [List.concat_eq_append] at hx hd
    rw [stepM_snoc] at hx
    have hq := hd q (by simp)
    split at hx
    · rcases List.mem_append.1 hx with h | h
      · exact hd x (by simp [h])
      · obtain rfl := List.mem_singleton.1 h
        unfold inB at *
        simp only
        omega
    · rcases List.mem_append.1 hx with h | h
      · exact hd x h
      · obtain rfl := List.mem_singleton.1 h
        exact hr
theorem stepM_len (d : List Rng) (r : Rng) : (stepM d r).length ≤ d.length + 1 := by
  rcases List.eq_nil_or_concat d with rfl | ⟨pre, q, rfl⟩
  · simp [stepM_nil]
  · rw [List.concat_eq_append, stepM_snoc]
    split <;> simp

/-! ### Rows of ranges -/
theorem rangeCells_append : ∀ (a b : List Rng), rangeCells (a ++ b) = rangeCells a ++ rangeCells b
  | [], b => rfl
  | r :: a, b => by simp [rangeCells, rangeCells_append a b]
theorem rangeCells_len : ∀ (a : List Rng), (rangeCells a).length = a.length * 2
  | [] => rfl
  | r :: a => by simp [rangeCells, rangeCells_len a]; omega
theorem rangeCells_hi (pre : List Rng) (q : Rng) (u : Int) : (rangeCells (pre ++ [q])).set (pre.length * 2 + 1) (.int .i64 u) = rangeCells (pre ++ [(q.1, u)]) := by
  rw [rangeCells_append, rangeCells_append, List.set_append_right _ _ (by rw [rangeCells_len]; omega), rangeCells_len]
  rw [show pre.length * 2 + 1 - pre.length * 2 = 1 by omega]
  rfl
theorem own_cell {w : World} {base n size g cap : Nat} {e : TypeId} {xs : List Value} (h : w.ownsRow base e size (.slice (some ⟨g, 0, none⟩) n cap) n xs) {j : Nat} {u : Value} (hj : xs[j]? = some u) : w.cell? ⟨g, j, none⟩ = some u ∧ w.frozen? ⟨g, j, none⟩ = false := by
  obtain ⟨hl, h | ⟨g', cap', cur, hv, hg, hh, h1, h2, h3, h4⟩⟩ := h
  · cases h.1
  · injection hv with hA
    injection hA with hA
    injection hA with hA
    subst hA
    refine ⟨?_, by simp [World.frozen?, hh]⟩
    rw [cell_of_row w g j cur _ (0, 0) hh, ← Array.getElem?_toList]
    rw [← h4] at hj
    have hlt : j < n * size := by
      rcases Nat.lt_or_ge j (n * size) with h | h
      · exact h
      · rw [List.getElem?_take, if_neg (by omega)] at hj
        cases hj
    rw [List.getElem?_take, if_pos hlt] at hj
    exact hj
theorem own_set {w : World} {base n size g cap : Nat} {e : TypeId} {xs : List Value} (h : w.ownsRow base e size (.slice (some ⟨g, 0, none⟩) n cap) n xs) (i : Nat) (u : Value) (hi : i < xs.length) : (w.setCell ⟨g, i, none⟩ u).ownsRow base e size (.slice (some ⟨g, 0, none⟩) n cap) n (xs.set i u) := by
  obtain ⟨hl, h | ⟨g', cap', cur, hv, hg, hh, h1, h2, h3, h4⟩⟩ := h
  · cases h.1
  · injection hv with hA hn hcap
    injection hA with hA
    injection hA with hA
    subst hA
    subst hcap
    refine ⟨by simpa using hl, .inr ⟨g, cap, cur.setIfInBounds i u, rfl, hg, by simp [World.setCell, Array.getElem?_modify, hh], h1, h2, by simpa using h3, ?_⟩⟩
    rw [Array.toList_setIfInBounds, List.take_set, h4]
theorem set_of_own {ok : Nat → Prop} {w : World} {base : Nat} {v : Value} {d : List Rng} (h : w.ownsRow base 65 2 v d.length (rangeCells d)) (hok : ∀ k, base ≤ k → ok k) : SetAt ok w v d := by
  obtain ⟨hl, ⟨rfl, h0⟩ | ⟨g, cap, cur, rfl, hg, hh, h1, h2, h3, h4⟩⟩ := h
  · obtain rfl := List.eq_nil_of_length_eq_zero h0
    exact SetAt.nil _ _
  · unfold maxLen at h2
    refine ⟨_, _, rfl, h1, by omega, .inr ⟨g, 0, rfl, hok g hg, fun i x hx => ?_⟩⟩
    obtain ⟨c0, c1⟩ := rangeCells_get d i x hx
    have hi := (List.getElem?_eq_some_iff.1 hx).1
    have ho : w.ownsRow base 65 2 (.slice (some ⟨g, 0, none⟩) d.length cap) d.length (rangeCells d) := ⟨hl, .inr ⟨g, cap, cur, rfl, hg, hh, h1, by unfold maxLen; omega, h3, h4⟩⟩
    rw [Nat.zero_add]
    exact ⟨(own_cell ho c0).1, (own_cell ho c1).1⟩
theorem Tryd.infoRange : (Tryd.prog.info? 65).map (fun i => (i.zero, i.size, i.bytes)) = some (some (.agg #[.int .i64 0, .int .i64 0]), 2, 16) := by kernel_rfl

theorem below_grown {w W w' : World} {row : Option Nat} (h : Below w.heap.size w W) (hg : W.grownBy w' row) (hr : ∀ k, row = some k → w.heap.size ≤ k) : Below w.heap.size w w' :=
  ((Keeps.of_below h (fun _ => False)).grown hg (fun k hk => .inr (hr k hk))).none_below
theorem new_second_n (w : World) (o1 o2 : Obj) (n : Nat) : (((w.alloc o1).drewN n).alloc o2).heap[w.heap.size + 1]? = some o2 := by
  have h : ((w.alloc o1).drewN n).heap.size = w.heap.size + 1 := by simp
  have := heap_alloc_new ((w.alloc o1).drewN n) o2
  rw [h] at this
  exact this
set_option maxRecDepth 100000 in
set_option maxHeartbeats 16000000 in
theorem merged_calls {base : Nat} (l : List (Int × Int)) (v : Value) (w : World) (ho : w.ownsRow base 65 2 v l.length (rangeCells l)) (hne : l ≠ []) (hfin : ∀ r ∈ l, r.1 ≤ r.2) (hrg : ∀ r ∈ l, inB r) (hl : l.length ≤ 1000000) :
    Calls Tryd.prog 75 #[v] w fun e w' => ∃ v', e = .returned v' ∧ SetAt (fun k => w.heap.size ≤ k) w' v' (l.foldl withR []) ∧ Keeps (fun k => v.ownBlock = some k) w w' := by
  obtain ⟨hlen, ⟨_, h0⟩ | ⟨g, cap, cur, rfl, hg, hh, hc1, hc2, hc3, hc4⟩⟩ := ho
  · exact absurd (List.eq_nil_of_length_eq_zero h0) hne
  have hc2 : cap ≤ 9223372036854775807 := hc2
  have hgl : g < w.heap.size := (Array.getElem?_eq_some_iff.1 hh).1
  have hs := fun (w1 : World) (e : w1.heap = w.heap) => sort_calls l g cap cur w1 (by rw [e]; exact hh) hc4 (by omega) hc1 (by omega) hl
  obtain ⟨i0, hi0, hz0, hz1, hz2⟩ := info_parts Tryd.infoRange
  have HS := hide hs; have HFIN := hide hfin; have HRG := hide hrg; have HNE := hide hne
  clear hs hh hc3 hc4 hlen hfin hrg hne
  go_enter Tryd.func75, Tryd.ntmps75
  go_wp2_with fail
  refine (unhide HS _ rfl).mono ?_
  rintro e w1 ⟨rfl, l', hp, hsr, hset, hk⟩
  have hmg := sets_same hp hsr (unhide HFIN)
  rw [← fold_all] at hmg
  have hl' : l'.length = l.length := hp.length_eq
  have hcell : ∀ (i : Nat) (x : Rng), l'[i]? = some x → w1.cell? ⟨g, i * 2, none⟩ = some (.int .i64 x.1) ∧ w1.cell? ⟨g, i * 2 + 1, none⟩ = some (.int .i64 x.2) := by
    obtain ⟨A, c, hA, _, _, h⟩ := hset
    injection hA with hA
    subst hA
    rintro i x hx
    rcases h with rfl | ⟨b, o, hb, _, h⟩
    · simp at hx
    · injection hb with hb
      injection hb with hb ho
      subst hb; subst ho
      have := h i x hx
      simpa using this
  have hrg' : ∀ r ∈ l', inB r := fun r hr => unhide HRG r (hp.mem_iff.1 hr)
  have hK1 : Keeps (fun k => (Value.slice (some ⟨g, 0, none⟩) l.length cap).ownBlock = some k) w w1 := ((Keeps.refl _ w).trans hk (fun k _ hk => by simp [Value.ownBlock, hk]))
  have hg1 : g < w1.heap.size := Nat.lt_of_lt_of_le hgl hk.size
  have hsz1 : w.heap.size ≤ w1.heap.size := hk.size
  have HMG := hide hmg; have HC := hide hcell; have HRG' := hide hrg'; have HK1 := hide hK1; have HL := hide hl'
  clear hp hsr hset hk hmg hl' hcell hrg' hK1 HS HFIN HRG
  go_wp2_with fail
  go_loopw [3, 11] (fun out_ i_ wr => ∃ (k : Nat) (d : List Rng), k ≤ l.length ∧ i_ = .int .i64 k ∧ Hid ((l'.take k).foldl stepM [] = d) ∧ d.length ≤ k ∧ Hid (∀ x ∈ d, inB x) ∧ Hid (wr.ownsRow w1.heap.size 65 2 out_ d.length (rangeCells d)) ∧ Hid (Below w1.heap.size w1 wr))
    (fun _ i_ _ => l.length - (intOf i_).toNat)
  case atStart => exact ⟨0, [], by omega, rfl, rfl, by simp, hide (by intro x hx; cases hx), World.ownsRow_nil _ _ _ _, hide (by repeat (first | exact Below.refl _ _ | assumption | refine below_drewN ?_ _ | refine Below.drew ?_ | refine below_alloc' ?_ _))⟩
  case round =>
    obtain ⟨k, d, hk, rfl, HD, hdk, HB, HO, HBW⟩ := hrel
    by_cases hlt : k < l.length
    · obtain ⟨x, hx⟩ : ∃ x, l'[k]? = some x := ⟨_, List.getElem?_eq_getElem (by rw [unhide HL]; exact hlt)⟩
      obtain ⟨c0, c1⟩ := unhide HC k x hx
      have c0' := ((bcell (unhide HBW)).1 g _ hg1).trans c0
      have c1' := ((bcell (unhide HBW)).1 g _ hg1).trans c1
      have hwz := (unhide HBW).size
      have hgw : g < wr.heap.size := by omega
      have hxb := unhide HRG' x (List.mem_of_getElem? hx)
      have hstep : (l'.take (k + 1)).foldl stepM [] = stepM d x := by
        rw [List.take_add_one, hx]
        simp only [Option.toList_some, List.foldl_append, List.foldl_cons, List.foldl_nil]
        rw [unhide HD]
      have hin := stepM_in (unhide HB) hxb
      have hln := stepM_len d x
      obtain ⟨x1, x2⟩ := x
      unfold inB at hxb
      simp only at hxb c0' c1'
      have hlt' : decide ((k : Int) < l.length) = true := by simp; exact hlt
      clear c0 c1 hx
      rcases List.eq_nil_or_concat d with rfl | ⟨pre, q, hd⟩
      · rw [stepM_nil] at hstep hin
        have HST := hide hstep; have HIN := hide hin
        clear hstep hin hln HB
        obtain ⟨Ao, co, rfl⟩ := own_form (unhide HO)
        simp only [List.length_nil] at HO
        go_wp2_with fail
        go_quiet (fail)
        go_wp2_with
         ((at_builtin; refine wpList_append_lies _ (by rfl) _ _ _ (by rfl) w1.heap.size 65 i0 _ 2 16 Tryd.underlying23 hi0 hz0 hz1 hz2 rfl (by omega) (.slice Ao 0 co) 0 [] (by rfl)
            (by first | exact (((unhide HO).alloc _).drewN _).alloc _ | exact (((unhide HO).alloc _).alloc _).drew | exact (((unhide HO).alloc _).drew).alloc _ | exact ((unhide HO).alloc _).alloc _) ⟨wr.heap.size + 1, 0, none⟩ 1 1 [.int .i64 x1, .int .i64 x2]
            (by rfl) (by rfl) (by exact World.news_of_block (cs := #[.int .i64 x1, .int .i64 x2]) (new_second_n wr _ _ _))
            (by simp [Value.oneCell']) (by omega) (by simp only [maxLen]; omega) (by omega) (by simp; omega) (wr.heap.size + 2) (by simp) ?_; intro go cap1 w2 hown2 hgrow hat hlt2))
        have hb2 : Below w1.heap.size w1 w2 := below_grown (below_alloc' (below_drewN (below_alloc' (unhide HBW) _) _) _) hgrow (fun j hj => (own_lt (unhide HO) j hj).1)
        have HB2 := hide hb2; have HO2 := hide hown2
        clear hb2 hown2 hgrow hat
        go_roundw
        case rel => exact ⟨k + 1, [(x1, x2)], by omega, by rfl, HST, by simp, HIN, HO2, HB2⟩
        case measure => simp [intOf]; omega
      · rw [List.concat_eq_append] at hd
        subst hd
        obtain ⟨q1, q2⟩ := q
        rw [stepM_snoc] at hstep hin hln
        have hlen2 : (pre ++ [(q1, q2)]).length = pre.length + 1 := by simp
        rw [hlen2] at hdk hln
        have ho := unhide HO
        rw [hlen2] at ho
        obtain ⟨gO, co, rfl, hgO1, hgO2⟩ := ho.form (by omega)
        have hqb := unhide HB (q1, q2) (by simp)
        have hqc : (rangeCells (pre ++ [(q1, q2)]))[pre.length * 2 + 1]? = some (.int .i64 q2) := (rangeCells_get _ pre.length (q1, q2) (by simp)).2
        obtain ⟨e2, e2f⟩ := own_cell ho hqc
        have hgg : gO ≠ g := by omega
        have HO2 := hide ho
        have n1 : decide ((pre.length : Int) + 1 > 0) = true := decide_eq_true (by omega)
        have n2 : decide (0 < (pre.length : Int) + 1) = true := decide_eq_true (by omega)
        have n3 : (0 : Int) ≤ pre.length := by omega
        have n4 : (pre.length : Int) < pre.length + 1 := by omega
        unfold inB at hqb
        simp only at hqb
        clear ho HO hqc
        by_cases hm : x1 ≤ q2 + 1
        · rw [if_pos hm] at hstep hin
          have hm' : decide (x1 ≤ q2 + 1) = true := by simpa using hm
          have HST := hide hstep; have HIN := hide hin
          clear hstep hin hm hln HB hlen2
          go_wp2_with fail
          go_quiet (fail)
          go_wp2_with fail
          go_region
          all_goals
            go_wp2_with fail
            have ho3 := fun (W : World) (h : W.ownsRow w1.heap.size 65 2 (.slice (some ⟨gO, 0, none⟩) (pre.length + 1) co) (pre.length + 1) (rangeCells (pre ++ [(q1, q2)]))) => own_set h (pre.length * 2 + 1) (.int .i64 (max q2 x2)) (by rw [rangeCells_len, List.length_append]; simp only [List.length_cons, List.length_nil]; omega)
            simp only [rangeCells_hi] at ho3
            have hb2 : ∀ W : World, Below w1.heap.size w1 W → Below w1.heap.size w1 (W.setCell ⟨gO, pre.length * 2 + 1, none⟩ (.int .i64 (max q2 x2))) := fun W h => h.setCell (p := ⟨gO, pre.length * 2 + 1, none⟩) (by simpa using hgO1) _
            go_roundw
            case rel => exact ⟨k + 1, _, by omega, by rfl, HST, by simp; omega, HIN, hide (by simp only [List.length_append, List.length_cons, List.length_nil]; first | exact ho3 _ ((unhide HO2).alloc _) | exact ho3 ((wr.alloc _).drewN _) ((unhide HO2).alloc _) | exact ho3 (wr.alloc _) ((unhide HO2).alloc _)), hide (by first | exact hb2 _ (below_drewN (below_alloc' (unhide HBW) _) _) | exact below_drewN (hb2 _ (below_drewN (below_alloc' (unhide HBW) _) _)) _ | exact (hb2 _ (below_drewN (below_alloc' (unhide HBW) _) _)).drew)⟩
            case measure => simp [intOf]; omega
        · rw [if_neg hm] at hstep hin
          have hm' : decide (x1 ≤ q2 + 1) = false := by simpa using hm
          have HST := hide hstep; have HIN := hide hin
          clear hstep hin hm hln HB hlen2
          go_wp2_with fail
          go_quiet (fail)
          go_wp2_with
           ((at_builtin; refine wpList_append_lies _ (by rfl) _ _ _ (by rfl) w1.heap.size 65 i0 _ 2 16 Tryd.underlying23 hi0 hz0 hz1 hz2 rfl (by omega) (.slice (some ⟨gO, 0, none⟩) (pre.length + 1) co) (pre.length + 1) (rangeCells (pre ++ [(q1, q2)])) (by rfl)
              (by first | exact (((unhide HO2).alloc _).drewN _).alloc _ | exact (((unhide HO2).alloc _).alloc _).drew | exact (((unhide HO2).alloc _).drew).alloc _ | exact ((unhide HO2).alloc _).alloc _) ⟨wr.heap.size + 1, 0, none⟩ 1 1 [.int .i64 x1, .int .i64 x2]
              (by rfl) (by rfl) (by exact World.news_of_block (cs := #[.int .i64 x1, .int .i64 x2]) (new_second_n wr _ _ _))
              (by simp [Value.oneCell']) (by omega) (by simp only [maxLen]; omega) (by omega) (by simp; omega) (wr.heap.size + 2) (by simp) ?_; intro go cap1 w2 hown2 hgrow hat hlt2))
          have hb2 : Below w1.heap.size w1 w2 := below_grown (below_alloc' (below_drewN (below_alloc' (unhide HBW) _) _) _) hgrow (fun j hj => (own_lt (unhide HO2) j hj).1)
          have hown3 : w2.ownsRow w1.heap.size 65 2 (.slice (some ⟨go, 0, none⟩) (pre.length + 1 + 1) cap1) (pre ++ [(q1, q2)] ++ [(x1, x2)]).length (rangeCells (pre ++ [(q1, q2)] ++ [(x1, x2)])) := by
            rw [rangeCells_append (pre ++ [(q1, q2)])]
            simp only [List.length_append, List.length_cons, List.length_nil]
            exact hown2
          have HB2 := hide hb2; have HO3 := hide hown3
          clear hb2 hown2 hown3 hgrow hat
          go_roundw
          case rel => exact ⟨k + 1, _, by omega, by rfl, HST, by simp; omega, HIN, HO3, HB2⟩
          case measure => simp [intOf]; omega
    · have hge : decide ((k : Int) < l.length) = false := by simp; omega
      obtain rfl : k = l.length := by omega
      have hd : d = l.foldl withR [] := by
        rw [← unhide HMG, ← unhide HD, List.take_of_length_le (by rw [unhide HL]; omega)]
      have hset := set_of_own (ok := fun j => w.heap.size ≤ j) (unhide HO) (fun j hj => by omega)
      rw [hd] at hset
      have HSET := hide hset
      clear hset hlt
      go_wp2_with fail
      go_ret
      exact ⟨_, rfl, unhide HSET, (unhide HK1).then_below (unhide HBW)⟩
end Go.Proofs.YtanmlgliibgpcaaDoor
