/- NfaChoice returns true of every two texts, every string and every place: no condition beyond the statement's own (a part of its proof). -/
import Derived.Test.YtanmlgliibgpcaaDoorKc05
import Derived.Test.YtanmlgliibgpcaaDoorKc03
import Derived.Lib.IndexMore
import Derived.Test.YtanmlgliibgpcaaDoorKc04
import Derived.Test.YtanmlgliibgpcaaDoorKc10

/- Plain Lean: a text of letters and digits as a pattern. -/
namespace Thr

def litByte (b : Int) : Prop := 97 ≤ b ∧ b ≤ 122 ∨ 48 ≤ b ∧ b ≤ 57
theorem next_bytes {s : ByteArray} {i : Nat} (hi : i < s.size) : nextF s i true = (byt s i, 1) := by
  unfold nextF
  rw [if_neg (by omega), if_pos rfl, Int.toNat_natCast]
theorem plain_inner {s : ByteArray} (h : ∀ i, i < s.size → litByte (byt s i)) : ∀ (f i : Nat) (cat : List Rx), i ≤ s.size → s.size - i < f →
    innerF s true f 0 [] cat i = some (.stop [] (cat ++ ((List.range' i (s.size - i)).map fun k => chrN (byt s k))) s.size)
  | 0, i, cat, hi, hf => by omega
  | f + 1, i, cat, hi, hf => by
    simp only [innerF]
    by_cases hge : s.size ≤ i
    · rw [if_pos hge]
      obtain rfl : i = s.size := by omega
      simp
    · rw [if_neg hge]
      have hb := h i (by omega)
      unfold litByte at hb
      have ha : againF s i = .no := by
        unfold againF
        rw [if_neg (by omega), if_neg (by omega), if_neg (by omega), if_neg (by omega)]
      have hag : (if cat = [] then Again.no else againF s i) = .no := by rw [ha, ite_self]
      rw [hag]
      simp only
      rw [if_neg (by omega), if_neg (by omega), if_neg (by omega), if_neg (by omega), if_neg (by omega), next_bytes (by omega)]
      have hp : plainF (byt s i) = chrN (byt s i) := by unfold plainF; rw [if_neg (by omega), if_neg (by omega), if_neg (by omega)]
      simp only [hp]
      rw [show i + (1 : Int).toNat = i + 1 from rfl, plain_inner h f (i + 1) _ (by omega) (by omega), show s.size - i = (s.size - (i + 1)) + 1 by omega, List.range'_succ]
      simp
def litCat (s : ByteArray) : List Rx := (List.range s.size).map fun k => chrN (byt s k)
theorem weights_lit (s : ByteArray) : ∀ (l : List Nat) (n : Int), 0 ≤ n → n + l.length ≤ 1000000 → weightsF (l.map fun k => chrN (byt s k)) n = n + l.length
  | [], n, h, _ => by simp [weightsF]
  | k :: l, n, h, h1 => by
    have hw : weightF (chrN (byt s k)) = 1 := by simp [chrN, weightF, weightsF, bigW]; omega
    have hb : bigW = 1048576 := rfl
    simp only [List.length_cons] at h1 ⊢
    simp only [List.map_cons, weightsF, hw]
    rw [show min (n + 1) bigW = n + 1 by omega, weights_lit s l (n + 1) (by omega) (by omega)]
    omega
theorem lit_weight (s : ByteArray) (h : s.size ≤ 150) : weightF (joinF (litCat s)) ≤ 200 := by
  have hb : bigW = 1048576 := rfl
  have hl : (litCat s).length = s.size := by simp [litCat]
  have hw := weights_lit s (List.range s.size) 0 (by omega) (by simp; omega)
  have e : weightsF (litCat s) 0 = 0 + s.size := by simpa [litCat] using hw
  cases hc : litCat s with
  | nil => simp [joinF, leaf, weightF, weightsF, bigW]; omega
  | cons x l =>
    cases l with
    | nil =>
      rw [hc] at e hl
      simp only [joinF]
      have : x ∈ litCat s := by rw [hc]; simp
      simp only [litCat, List.mem_map] at this
      obtain ⟨k, _, rfl⟩ := this
      simp [chrN, weightF, weightsF, bigW]; omega
    | cons y l =>
      rw [hc] at e
      simp only [joinF, catN, weightF]
      rw [if_pos trivial, e]
      omega
theorem parse_lit {s : ByteArray} (h : ∀ i, i < s.size → litByte (byt s i)) (hs : s.size ≤ 150) : parseF s true = .tree (joinF (litCat s)) := by
  unfold parseF
  rw [if_neg (by omega), plain_inner h (s.size + 1) 0 [] (by omega) (by omega)]
  have e : shutF [] ([] ++ ((List.range' 0 (s.size - 0)).map fun k => chrN (byt s k))) = joinF (litCat s) := by
    simp [shutF, oneF, litCat, List.range_eq_range']
  simp only [topF, e]
  have := lit_weight s hs
  rw [if_neg (by omega)]

/-! ### Where it is found -/
theorem den_chr (T : Txt) (c : Int) (i j : Nat) : den T (chrN c) i j ↔ j = T.nxt i ∧ T.has i = true ∧ T.fit (chrN c) i = true := by
  simp [chrN, den]
theorem den_join (T : Txt) (l : List Rx) (i j : Nat) : den T (joinF l) i j ↔ denCat T l i j := by
  cases l with
  | nil => simp [joinF, leaf, den, denCat]
  | cons x l =>
    cases l with
    | nil => simp [joinF, denCat]
    | cons y l => simp [joinF, catN, den]
theorem seg_bytes (s : ByteArray) : ∀ (f i : Nat), i ≤ s.size → s.size - i ≤ f → seg s true f i = (List.range' i (s.size - i)).map fun k => (k, byt s k)
  | 0, i, hi, hf => by
    obtain rfl : i = s.size := by omega
    simp [seg]
  | f + 1, i, hi, hf => by
    simp only [seg]
    by_cases h : i < s.size
    · rw [if_pos h, next_bytes h, show i + ((byt s i, (1 : Int)).2).toNat = i + 1 from rfl, seg_bytes s f (i + 1) (by omega) (by omega), show s.size - i = (s.size - (i + 1)) + 1 by omega, List.range'_succ]
      simp
    · rw [if_neg h, show s.size - i = 0 by omega]
      simp
theorem nCh_bytes (s : ByteArray) : nCh s true = s.size := by
  unfold nCh chs
  rw [seg_bytes s s.size 0 (by omega) (by omega)]
  simp
theorem place_bytes (s : ByteArray) {k : Nat} (hk : k ≤ s.size) : place s true k = k := by
  unfold place plOf chs
  rw [seg_bytes s s.size 0 (by omega) (by omega)]
  by_cases h : k < s.size
  · rw [List.getElem?_map, List.getElem?_range' (by omega)]
    simp
  · obtain rfl : k = s.size := by omega
    rw [List.getElem?_eq_none (by simp)]
theorem code_bytes (s : ByteArray) {k : Nat} (hk : k < s.size) : codeK s true k = byt s k := by
  unfold codeK cdOf chs
  rw [seg_bytes s s.size 0 (by omega) (by omega), List.getElem?_map, List.getElem?_range' (by omega)]
  simp
/-- A text stands at a place. -/
def Occurs (S t : ByteArray) (k : Nat) : Prop := k + t.size ≤ S.size ∧ ∀ m, m < t.size → byt S (k + m) = byt t m
theorem den_lits (S t : ByteArray) : ∀ (n a i j : Nat), denCat (txt S false true) ((List.range' a n).map fun k => chrN (byt t k)) i j ↔ j = i + n ∧ ∀ m, m < n → i + m < S.size ∧ byt S (i + m) = byt t (a + m)
  | 0, a, i, j => by simp [denCat]; exact ⟨fun h => h.symm, fun h => h.symm⟩
  | n + 1, a, i, j => by
    rw [List.range'_succ]
    simp only [List.map_cons, denCat]
    have hfit : ∀ c, (txt S false true).has i = true ∧ (txt S false true).fit (chrN c) i = true ↔ i < S.size ∧ byt S i = c := by
      intro c
      simp only [txt, nCh_bytes, decide_eq_true_eq]
      constructor
      · rintro ⟨h1, h2⟩
        rw [code_bytes S h1] at h2
        exact ⟨h1, by simp [fitsF, chrN, Rx.kind, Rx.code] at h2; exact of_decide_eq_true h2⟩
      · rintro ⟨h1, h2⟩
        rw [code_bytes S h1]
        refine ⟨h1, ?_⟩
        simp [fitsF, chrN, Rx.kind, Rx.code]
        exact decide_eq_true h2
    constructor
    · rintro ⟨l, h1, h2⟩
      rw [den_chr] at h1
      obtain ⟨rfl, h1⟩ := h1
      rw [hfit] at h1
      obtain ⟨rfl, h3⟩ := (den_lits S t n (a + 1) _ _).1 h2
      refine ⟨by simp only [txt]; omega, fun m hm => ?_⟩
      cases m with
      | zero => exact h1
      | succ m =>
        have := h3 m (by omega)
        simp only [txt] at this
        rw [show i + (m + 1) = i + 1 + m by omega, show a + (m + 1) = a + 1 + m by omega]
        exact this
    · rintro ⟨rfl, h⟩
      refine ⟨i + 1, ?_, ?_⟩
      · rw [den_chr, hfit]
        exact ⟨rfl, h 0 (by omega)⟩
      · rw [den_lits S t n (a + 1)]
        refine ⟨by omega, fun m hm => ?_⟩
        have := h (m + 1) (by omega)
        rw [show i + 1 + m = i + (m + 1) by omega, show a + 1 + m = a + (m + 1) by omega]
        exact this
theorem den_lit (S t : ByteArray) (i j : Nat) (hi : i ≤ S.size) : den (txt S false true) (joinF (litCat t)) i j ↔ j = i + t.size ∧ Occurs S t i := by
  rw [den_join]
  have e : litCat t = (List.range' 0 t.size).map fun k => chrN (byt t k) := by simp [litCat, List.range_eq_range']
  rw [e, den_lits]
  unfold Occurs
  constructor
  · rintro ⟨rfl, h⟩
    refine ⟨rfl, ?_, fun m hm => ?_⟩
    · rcases Nat.eq_zero_or_pos t.size with h0 | h0
      · omega
      · have := (h (t.size - 1) (by omega)).1
        omega
    · simpa using (h m hm).2
  · rintro ⟨rfl, h1, h2⟩
    exact ⟨rfl, fun m hm => ⟨by omega, by simpa using h2 m hm⟩⟩

theorem byt_get (s : ByteArray) (i : Nat) (hi : i < s.size) : s.data.toList[i]? = some (s[i]'hi) := by
  rw [Array.getElem?_toList]
  exact Array.getElem?_eq_getElem hi
theorem occurs_at (S t : ByteArray) (a j : Nat) (ha : a ≤ S.size) : Go.Lib.occAt (S.extract a S.size).data.toList t.data.toList j = true ↔ (a + j + t.size ≤ S.size ∨ t.size = 0) ∧ ∀ m, m < t.size → byt S (a + j + m) = byt t m := by
  have hl : (S.extract a S.size).data.toList = S.data.toList.drop a := by
    simp [ByteArray.data_extract, Array.toList_extract, List.extract]
    rw [List.take_of_length_le]
    rw [List.length_drop, Array.length_toList]
    exact Nat.le_refl _
  unfold Go.Lib.occAt
  rw [hl, List.drop_drop, List.isPrefixOf_iff_prefix]
  have hsz : ∀ x : ByteArray, x.data.toList.length = x.size := fun x => by rw [Array.length_toList]; rfl
  constructor
  · intro h
    have hle := h.length_le
    rw [List.length_drop, hsz, hsz] at hle
    refine ⟨by omega, fun m hm => ?_⟩
    have h1 := List.IsPrefix.getElem h (i := m) (by rw [hsz]; exact hm)
    rw [List.getElem_drop] at h1
    have hb : a + j + m < S.size := by omega
    unfold byt
    rw [dif_pos hb, dif_pos hm]
    have e1 : t.data.toList[m]'(by rw [hsz]; exact hm) = t[m]'hm := by rw [Array.getElem_toList]; rfl
    have e2 : S.data.toList[a + j + m]'(by rw [hsz]; exact hb) = S[a + j + m]'hb := by rw [Array.getElem_toList]; rfl
    rw [← e1, ← e2, h1]
  · rintro ⟨h1, h2⟩
    refine List.prefix_iff_eq_take.2 ?_
    apply List.ext_getElem?
    intro m
    rw [List.getElem?_take, hsz]
    by_cases hm : m < t.size
    · rw [if_pos hm, List.getElem?_drop, byt_get t m hm, byt_get S (a + j + m) (by omega)]
      have := h2 m hm
      unfold byt at this
      rw [dif_pos (by omega), dif_pos hm] at this
      congr 1
      apply UInt8.toNat_inj.1
      omega
    · rw [if_neg hm, List.getElem?_eq_none (by rw [hsz]; omega)]
end Thr

/- Plain Lean: where a text of letters and digits is found. -/
namespace Go.Proofs.YtanmlgliibgpcaaDoor
open Go.RowKit Thr

def litEnd (S t : ByteArray) (from_ : Nat) : Option (Nat × Nat) :=
  if Lib.index (S.extract from_ S.size).data.toList t.data.toList < 0 then none
  else some (from_ + (Lib.index (S.extract from_ S.size).data.toList t.data.toList).toNat, from_ + (Lib.index (S.extract from_ S.size).data.toList t.data.toList).toNat + t.size)
theorem occurs_iff (S t : ByteArray) (a j : Nat) (ha : a + j ≤ S.size) : Lib.occAt (S.extract a S.size).data.toList t.data.toList j = true ↔ Occurs S t (a + j) := by
  rw [occurs_at S t a j (by omega)]
  unfold Occurs
  constructor
  · rintro ⟨h1, h2⟩; exact ⟨by omega, h2⟩
  · rintro ⟨h1, h2⟩; exact ⟨.inl h1, h2⟩
theorem found_lit (S t : ByteArray) (from_ : Nat) (h1 : from_ ≤ S.size) : Found (txt S false true) (nCh S true) (place S true) (joinF (litCat t)) from_ (litEnd S t from_) := by
  have hsz : (S.extract from_ S.size).data.toList.length = S.size - from_ := by
    rw [Array.length_toList]
    show (S.extract from_ S.size).size = _
    simp [ByteArray.size_extract]
  unfold litEnd
  rw [nCh_bytes]
  rcases Lib.index_spec (S.extract from_ S.size).data.toList t.data.toList with ⟨i1, i2⟩ | ⟨i, i1, i2, i3, i4⟩
  · rw [i1, if_pos (by omega)]
    intro k hk hf j hd
    rw [place_bytes S hk] at hf
    rw [den_lit S t k j hk] at hd
    have := i2 (k - from_) (by omega)
    rw [← Bool.not_eq_true, occurs_iff S t from_ (k - from_) (by omega), show from_ + (k - from_) = k by omega] at this
    exact this hd.2
  · rw [i1, if_neg (by omega), Int.toNat_natCast]
    rw [occurs_iff S t from_ i (by omega)] at i3
    have i3' := i3.1
    refine ⟨by omega, by omega, by omega, by rw [place_bytes S (by omega)]; omega, (den_lit S t _ _ (by omega)).2 ⟨rfl, i3⟩, fun j hd => ?_, fun k hk hf j hd => ?_⟩
    · rw [den_lit S t _ j (by omega)] at hd
      omega
    · rw [place_bytes S (by omega)] at hf
      rw [den_lit S t k j (by omega)] at hd
      have := i4 (k - from_) (by omega)
      rw [← Bool.not_eq_true, occurs_iff S t from_ (k - from_) (by omega), show from_ + (k - from_) = k by omega] at this
      exact this hd.2
theorem found_past (S : ByteArray) (t : Rx) (bytes fold : Bool) (from_ : Int) (h : (S.size : Int) < from_) : Found (txt S fold bytes) (nCh S bytes) (place S bytes) t from_ none := by
  intro k hk hf
  have := place_le (sized_all S bytes) k
  omega
end Go.Proofs.YtanmlgliibgpcaaDoor

/- The walk of Compile. -/
namespace Go.Proofs.YtanmlgliibgpcaaDoor
open Go.RowKit Thr
set_option linter.unusedVariables false
set_option linter.unusedSimpArgs false

theorem validTop_valids {t : Rx} (h : validTop t = true) : Valids t ∧ weightF t ≤ 200 := by
  simp only [validTop, Bool.and_eq_true, decide_eq_true_eq] at h
  exact ⟨within_valids t _ h.1, h.2⟩

/-- What is made: a program, where its block is changed at the last. -/
theorem MkP.ready {w : World} {base bp : Nat} {fold bytes : Bool} {I : List Inst} {vI : Value} (h : MkP w base bp fold bytes I vI) (hS : Sound I) (hn : I.length ≤ 1000) (hb : base ≤ w.heap.size) (start : Int) (hst : 0 ≤ start ∧ start < I.length) :
    ProgAt w.heap.size (w.setCell ⟨bp, 3, none⟩ (.int .i64 start)) bp fold bytes I start := by
  obtain ⟨xs, ho, hr⟩ := h.own
  have hne := h.ne
  refine ⟨⟨vI, h.row.set_ 3 _, ?_⟩, h.bp_lt, hS, hn, hst⟩
  rcases ho with ⟨hl, ⟨rfl, h0⟩ | ⟨g, cap, cur, rfl, hg, hh, hc1, hc2, hc3, hc4⟩⟩
  · omega
  have hgb : g ≠ bp := by rintro rfl; exact hne rfl
  have hgl : g < w.heap.size := (Array.getElem?_eq_some_iff.1 hh).1
  have hh2 : (w.setCell ⟨bp, 3, none⟩ (.int .i64 start)).heap[g]? = some (.cells cur 52 (0, 0)) := (Below.heap_setCell _ _ _ g hgb).trans hh
  refine ⟨g, 0, cap, rfl, hc1, by have : maxLen = 9223372036854775807 := rfl; omega, hgl, fun k q hq => ?_⟩
  have hk := (List.getElem?_eq_some_iff.1 hq).1
  obtain ⟨cs, ht, hc⟩ := hr.2 k q hq
  have hcell : ∀ (j : Nat) (u : Value), (instVals q cs)[j]? = some u → (w.setCell ⟨bp, 3, none⟩ (.int .i64 start)).cell? ⟨g, k * 10 + j, none⟩ = some u := by
    intro j u hu
    have hj := (List.getElem?_eq_some_iff.1 hu).1
    rw [instVals_len ht] at hj
    rw [cell_of_row _ g _ cur _ (0, 0) hh2, ← Array.getElem?_toList]
    have := hc j u hu
    rw [← hc4, List.getElem?_take, if_pos (by omega)] at this
    exact this
  have hln := ht.len
  refine ⟨cs, TreeAt.mono (fun k hk => by omega) _ _ (TreeAt.step (fun k hk hkl => Below.heap_setCell _ _ _ k (by have := h.lt; simp only; omega)) _ _ ht), ?_, ?_, ?_, ?_⟩
  · simpa using hcell 0 _ rfl
  · intro j u hu
    have hj := (List.getElem?_eq_some_iff.1 hu).1
    have := hcell (1 + j) u (by
      simp only [instVals]
      rw [List.getElem?_append_left (l₁ := [Value.int .i64 q.op] ++ cs) (by simp; omega), List.getElem?_append_right (by simp)]
      simpa using hu)
    rw [show 0 + k * 10 + 1 + j = k * 10 + (1 + j) by omega]
    exact this
  · have := hcell 8 (.int .i64 q.x) (by simp [instVals, List.getElem?_append, hln])
    simpa using this
  · have := hcell 9 (.int .i64 q.y) (by simp [instVals, List.getElem?_append, hln])
    simpa using this

set_option maxRecDepth 100000 in
set_option maxHeartbeats 8000000 in
theorem Compile_bad {ok : Nat → Prop} (t : Rx) (cs : List Value) (fold bytes : Bool) (w : World) (ht : TreeAt ok w t cs) (hv : validTop t = false) :
    Calls Tryd.prog 7 #[.agg cs.toArray, .agg #[.bool fold, .bool bytes]] w fun e w' => e = .returned (.tuple #[.pointer none, .int .i64 90]) ∧ Below w.heap.size w w' := by
  have hV := fun w1 hb => Valid_calls t cs w1 (ht.below hb)
  rw [hv] at hV
  obtain ⟨kind', code', neg', As', ls', cs'', mn', mx', A', lk', cc', rfl⟩ := ht.form
  have HV := hide hV
  clear hV ht hv
  go_enter Tryd.func7, Tryd.ntmps7
  go_wp2_with fail
  refine ((unhide HV) _ (by repeat (first | exact Below.refl _ _ | assumption | refine below_drewN ?_ _ | refine Below.drew ?_ | refine below_alloc' ?_ _))).mono ?_
  rintro e w1 ⟨rfl, hb1⟩
  go_wp2_with fail
  go_ret2
  exact ⟨rfl, below_then (by repeat (first | exact Below.refl _ _ | assumption | refine below_drewN ?_ _ | refine Below.drew ?_ | refine below_alloc' ?_ _)) hb1⟩

set_option maxRecDepth 100000 in
set_option maxHeartbeats 16000000 in
theorem Compile_good {ok : Nat → Prop} (t : Rx) (cs : List Value) (fold bytes : Bool) (w : World) (ht : TreeAt ok w t cs) (hv : validTop t = true) :
    Calls Tryd.prog 7 #[.agg cs.toArray, .agg #[.bool fold, .bool bytes]] w fun e w' => ∃ bp, e = .returned (.tuple #[.pointer (some ⟨bp, 0, none⟩), .int .i64 0]) ∧ Below w.heap.size w w' ∧ w.heap.size ≤ bp ∧ ProgAt w'.heap.size w' bp fold bytes (compiled t).2 (compiled t).1 := by
  have hV := fun w1 hb => Valid_calls t cs w1 (ht.below hb)
  rw [hv] at hV
  obtain ⟨hval, hwt⟩ := validTop_valids hv
  have hlen := compiled_len hval hwt
  have hmk := valids_makes t hval
  have hsd := compiled_sound hmk
  have hst := compiled_start hmk
  have hok := make_calls t hval
  have ht1 : TreeAt (fun k => k < w.heap.size) w t cs := TreeAt.mono (fun k hk => hk.2) _ _ (TreeAt.bound _ _ ht)
  obtain ⟨kind', code', neg', As', ls', cs'', mn', mx', A', lk', cc', rfl⟩ := ht.form
  obtain ⟨R, hR⟩ : ∃ R, compiled t = R := ⟨_, rfl⟩
  rw [hR] at hlen hsd hst ⊢
  unfold compiled at hR
  have HV := hide hV; have HOK := hide hok; have HT := hide ht1; have HR := hide hR; have HSD := hide hsd
  clear hV ht hv hval hwt hmk hok ht1 hR hsd
  go_enter Tryd.func7, Tryd.ntmps7
  go_wp2_with fail
  refine ((unhide HV) _ (by repeat (first | exact Below.refl _ _ | assumption | refine below_drewN ?_ _ | refine Below.drew ?_ | refine below_alloc' ?_ _))).mono ?_
  rintro e w1 ⟨rfl, hb1⟩
  have k0 := (bcell hb1).1 w.heap.size
  have s0 := (k0 0 (by simp; omega)).trans (show _ = some (.int .i64 kind') by go_simp)
  have s1 := (k0 1 (by simp; omega)).trans (show _ = some (.int .i64 code') by go_simp)
  have s2 := (k0 2 (by simp; omega)).trans (show _ = some (.bool neg') by go_simp)
  have s3 := (k0 3 (by simp; omega)).trans (show _ = some (.slice As' ls' cs'') by go_simp)
  have s4 := (k0 4 (by simp; omega)).trans (show _ = some (.int .i64 mn') by go_simp)
  have s5 := (k0 5 (by simp; omega)).trans (show _ = some (.int .i64 mx') by go_simp)
  have s6 := (k0 6 (by simp; omega)).trans (show _ = some (.slice A' lk' cc') by go_simp)
  have w0 := ((bcell hb1).1 (w.heap.size + 1) 0 (by simp)).trans (show _ = some (.bool fold) by go_simp)
  have w1' := ((bcell hb1).1 (w.heap.size + 1) 1 (by simp)).trans (show _ = some (.bool bytes) by go_simp)
  have HB1 := hide (below_then (w := w) (by repeat (first | exact Below.refl _ _ | assumption | refine below_drewN ?_ _ | refine Below.drew ?_ | refine below_alloc' ?_ _)) hb1)
  have hsz := hb1.size
  simp at hsz
  clear hb1 k0
  have hPm : ∀ (w2 : World), w2.heap = (w1.alloc (.cells #[.bool fold, .bool bytes, .slice none 0 0, .int .i64 0] 47)).heap → MkP w2 w.heap.size w1.heap.size fold bytes [] (.slice none 0 0) := by
    intro w2 e
    refine ⟨?_, ⟨[], World.ownsRow_nil _ _ _ _, RowOf.nil _ _⟩, by omega⟩
    unfold Blk
    rw [e]
    exact heap_alloc_new w1 _
  have hno : ∀ k, k < w1.heap.size → ¬ TurnP w1.heap.size (.slice none 0 0) k := by
    rintro k hk (rfl | h)
    · omega
    · simp [Value.ownBlock] at h
  have htr : ∀ w2 : World, Below w1.heap.size w1 w2 → TreeAt (fun k => k < w.heap.size) w2 t _ := fun w2 hb => (unhide HT).more fun k hk _ => ((unhide HB1).trans (hb.mono (by omega))).block k hk
  have hsz0 : w.heap.size < w1.heap.size := by omega
  have hmake : ∀ (w2 : World) (vI2 : Value), MkP w2 w.heap.size w1.heap.size fold bytes ([] ++ [⟨3, noNode, 0, 0⟩]) vI2 → Below w1.heap.size w1 w2 → Calls Tryd.prog 14 #[.pointer (some ⟨w1.heap.size, 0, none⟩), .agg #[.int .i64 kind', .int .i64 code', .bool neg', .slice As' ls' cs'', .int .i64 mn', .int .i64 mx', .slice A' lk' cc'], .int .i64 0] w2 fun e w' =>
      e = .returned (.int .i64 R.1) ∧ ∃ vI', MkP w' w.heap.size w1.heap.size fold bytes R.2 vI' ∧ Keeps (TurnP w1.heap.size vI2) w2 w' ∧ At w2 vI2 vI' := by
    intro w2 vI2 hP2 hb2
    have := (unhide HOK) 0 _ vI2 w2 w.heap.size w1.heap.size fold bytes _ hP2 (htr _ hb2) (by omega) (by simp) (by simp only [List.nil_append, unhide HR]; omega)
    simp only [List.nil_append, unhide HR] at this
    exact this
  have HMAKE := hide hmake
  clear hmake
  have HPM := hide hPm; have HNO := hide hno; have HTR := hide htr
  clear hPm hno htr HT
  go_wp2_with fail
  go_region_with (first
    | (go_at_call 15; refine (add_calls ⟨3, noNode, 0, 0⟩ _ _ (by exact (unhide HPM) _ rfl) (no_tree _ _) (by simp)).mono ?_; rintro e w2 ⟨rfl, vI2, hP2, hK2, hA2⟩
       have q0 := fun j => hK2.cell (o := j) (b := w.heap.size) (by simp; omega) ((unhide HNO) _ (by omega))
       have q1 := (q0 0).trans (show _ = some (.int .i64 kind') by go_simp)
       have q2 := (q0 1).trans (show _ = some (.int .i64 code') by go_simp)
       have q3 := (q0 2).trans (show _ = some (.bool neg') by go_simp)
       have q4 := (q0 3).trans (show _ = some (.slice As' ls' cs'') by go_simp)
       have q5 := (q0 4).trans (show _ = some (.int .i64 mn') by go_simp)
       have q6 := (q0 5).trans (show _ = some (.int .i64 mx') by go_simp)
       have q7 := (q0 6).trans (show _ = some (.slice A' lk' cc') by go_simp)
       have hsz2 : w.heap.size < w2.heap.size := by have := hK2.size; simp at this; omega
       have HB2 := hide ((Below.refl w1.heap.size w1).alloc (Nat.le_refl _) (.cells #[.bool fold, .bool bytes, .slice none 0 0, .int .i64 0] 47) |>.drew |>.trans (hK2.below (by simp) (fun k hk => (unhide HNO) k hk)))
       have HP2 := hide hP2; have HK2 := hide hK2; have HA2 := hide hA2
       clear q0 hP2 hK2 hA2)
    | (go_at_call 14; refine ((unhide HMAKE) _ _ (unhide HP2) (unhide HB2)).mono ?_
       rintro e w3 ⟨rfl, vI3, hP3, hK3, hA3⟩
       have z3 := hP3.row.cell 3
       have y3 := hP3.row.frozen 3
       have HP3 := hide hP3; have HK3 := hide hK3; have HA3 := hide hA3
       simp at z3
       clear hP3 hK3 hA3))
  all_goals
    have hb3 : Below w.heap.size w w3 := ((unhide HB1).trans ((unhide HB2).mono (by omega))).trans ((unhide HK3).below (by omega) (fun k hk => (unhide HP2).old_not hk))
    have hr := (unhide HP3).ready (unhide HSD) (by omega) hb3.size R.1 hst
    have HB3 := hide hb3; have HRD := hide hr
    clear hb3 hr
    go_wp2_with fail
    go_ret2
    refine ⟨w1.heap.size, rfl, (unhide HB3).setCell (p := ⟨w1.heap.size, 3, none⟩) (by simp only; omega) _, by omega, ?_⟩
    have hr := unhide HRD
    have hs : (w3.setCell ⟨w1.heap.size, 3, none⟩ (.int .i64 R.1)).heap.size = w3.heap.size := by simp
    rw [hs]
    exact hr
end Go.Proofs.YtanmlgliibgpcaaDoor

/- Plain Lean: the document's example. -/
namespace Go.Proofs.YtanmlgliibgpcaaDoor
open Go.RowKit Thr

def fixedP : ByteArray := lit [97, 124, 97, 98, 124, 40, 98, 124, 99, 41, 43]
def fixedS : ByteArray := lit [120, 97, 98, 99, 98]
def fixedT : Rx := altN [chrN 97, catN [chrN 97, chrN 98], repN 1 (-1) (altN [chrN 98, chrN 99])]
theorem fixed_parse : parseF fixedP false = .tree fixedT := by kernel_rfl
theorem fixed_valid : validTop fixedT = true := by kernel_rfl
theorem fixed_makes : Makes fixedT := valids_makes _ (validTop_valids fixed_valid).1
theorem fixed_count : nCh fixedS false = 5 := by kernel_rfl
theorem fixed_place : ∀ k, k ≤ 5 → place fixedS false k = k := by
  intro k hk
  have : k = 0 ∨ k = 1 ∨ k = 2 ∨ k = 3 ∨ k = 4 ∨ k = 5 := by omega
  rcases this with rfl | rfl | rfl | rfl | rfl | rfl
  · exact (by kernel_rfl : place fixedS false 0 = 0)
  · exact (by kernel_rfl : place fixedS false 1 = 1)
  · exact (by kernel_rfl : place fixedS false 2 = 2)
  · exact (by kernel_rfl : place fixedS false 3 = 3)
  · exact (by kernel_rfl : place fixedS false 4 = 4)
  · exact (by kernel_rfl : place fixedS false 5 = 5)
def fixedC (k : Nat) (c : Int) : Prop := (txt fixedS false false).has k = true ∧ (txt fixedS false false).fit (chrN c) k = true
theorem den_chr' (c : Int) (i j : Nat) : den (txt fixedS false false) (chrN c) i j ↔ j = i + 1 ∧ fixedC i c := den_chr _ c i j
theorem fixed_no (k : Nat) (c : Int) (h : codeK fixedS false k ≠ c) : ¬ fixedC k c := by
  rintro ⟨_, h2⟩
  apply h
  simp [txt, fitsF, chrN, Rx.kind, Rx.code] at h2
  exact of_decide_eq_true h2
theorem den_pair (i j : Nat) : den (txt fixedS false false) (altN [chrN 98, chrN 99]) i j ↔ j = i + 1 ∧ (fixedC i 98 ∨ fixedC i 99) := by
  have e : den (txt fixedS false false) (altN [chrN 98, chrN 99]) i j ↔ den (txt fixedS false false) (chrN 98) i j ∨ den (txt fixedS false false) (chrN 99) i j := by
    simp [altN, den, denAlt]
  rw [e, den_chr', den_chr']
  constructor
  · rintro (⟨h, k⟩ | ⟨h, k⟩)
    · exact ⟨h, .inl k⟩
    · exact ⟨h, .inr k⟩
  · rintro ⟨h, k | k⟩
    · exact .inl ⟨h, k⟩
    · exact .inr ⟨h, k⟩
theorem den_fixed (i j : Nat) : den (txt fixedS false false) fixedT i j ↔ (j = i + 1 ∧ fixedC i 97) ∨ (j = i + 2 ∧ fixedC i 97 ∧ fixedC (i + 1) 98) ∨ ∃ m : Nat, 1 ≤ m ∧ iter (den (txt fixedS false false) (altN [chrN 98, chrN 99])) m i j := by
  have e : den (txt fixedS false false) fixedT i j ↔ den (txt fixedS false false) (chrN 97) i j ∨ den (txt fixedS false false) (catN [chrN 97, chrN 98]) i j ∨ den (txt fixedS false false) (repN 1 (-1) (altN [chrN 98, chrN 99])) i j := by
    simp [fixedT, altN, den, denAlt]
  rw [e, den_chr']
  have e2 : den (txt fixedS false false) (catN [chrN 97, chrN 98]) i j ↔ j = i + 2 ∧ fixedC i 97 ∧ fixedC (i + 1) 98 := by
    simp only [catN, den, denCat]
    rw [if_neg (by omega), if_pos trivial]
    constructor
    · rintro ⟨l, h1, l', h2, rfl⟩
      rw [den_chr'] at h1 h2
      obtain ⟨rfl, h1⟩ := h1
      exact ⟨h2.1, h1, h2.2⟩
    · rintro ⟨rfl, h1, h2⟩
      exact ⟨i + 1, (den_chr' _ _ _).2 ⟨rfl, h1⟩, i + 2, (den_chr' _ _ _).2 ⟨rfl, h2⟩, rfl⟩
  have e3 : den (txt fixedS false false) (repN 1 (-1) (altN [chrN 98, chrN 99])) i j ↔ ∃ m : Nat, 1 ≤ m ∧ iter (den (txt fixedS false false) (altN [chrN 98, chrN 99])) m i j := by
    simp only [repN, den, denHd]
    rw [if_neg (by omega), if_neg (by omega), if_neg (by omega), if_pos trivial]
    constructor
    · rintro ⟨m, h1, _, h2⟩; exact ⟨m, by omega, h2⟩
    · rintro ⟨m, h1, h2⟩; exact ⟨m, by omega, .inl (by omega), h2⟩
  rw [e2, e3]
theorem fixed_first {i j : Nat} (h : ∃ m : Nat, 1 ≤ m ∧ iter (den (txt fixedS false false) (altN [chrN 98, chrN 99])) m i j) : fixedC i 98 ∨ fixedC i 99 := by
  obtain ⟨m, h1, h2⟩ := h
  cases m with
  | zero => omega
  | succ m =>
    obtain ⟨k, h3, _⟩ := h2
    exact ((den_pair i k).1 h3).2
theorem code0 : codeK fixedS false 0 = 120 := by kernel_rfl
theorem code1 : codeK fixedS false 1 = 97 := by kernel_rfl
theorem code2 : codeK fixedS false 2 = 98 := by kernel_rfl
theorem yes1 : fixedC 1 97 := ⟨by kernel_rfl, by kernel_rfl⟩
theorem yes2 : fixedC 2 98 := ⟨by kernel_rfl, by kernel_rfl⟩
theorem yes3 : fixedC 3 99 := ⟨by kernel_rfl, by kernel_rfl⟩
theorem yes4 : fixedC 4 98 := ⟨by kernel_rfl, by kernel_rfl⟩
theorem fixed_a : Found (txt fixedS false false) (nCh fixedS false) (place fixedS false) fixedT 0 (some (1, 3)) := by
  rw [fixed_count]
  refine ⟨by omega, by omega, by omega, by rw [fixed_place 1 (by omega)]; omega, (den_fixed _ _).2 (.inr (.inl ⟨rfl, yes1, yes2⟩)), fun j hd => ?_, fun k hk hf j hd => ?_⟩
  · rcases (den_fixed _ _).1 hd with ⟨rfl, _⟩ | ⟨rfl, _⟩ | h
    · omega
    · omega
    · rcases fixed_first h with h | h
      · exact absurd h (fixed_no _ _ (by rw [code1]; omega))
      · exact absurd h (fixed_no _ _ (by rw [code1]; omega))
  · obtain rfl : k = 0 := by omega
    have hn : ∀ c, c ≠ 120 → ¬ fixedC 0 c := fun c hc => fixed_no _ _ (by rw [code0]; omega)
    rcases (den_fixed _ _).1 hd with ⟨_, h⟩ | ⟨_, h, _⟩ | h
    · exact hn _ (by omega) h
    · exact hn _ (by omega) h
    · rcases fixed_first h with h | h
      · exact hn _ (by omega) h
      · exact hn _ (by omega) h
theorem fixed_b : Found (txt fixedS false false) (nCh fixedS false) (place fixedS false) fixedT 2 (some (2, 5)) := by
  have hle := den_le (txt_fine fixedS false false) fixedT 2
  rw [fixed_count] at hle ⊢
  refine ⟨by omega, by omega, by omega, by rw [fixed_place 2 (by omega)]; omega, (den_fixed _ _).2 (.inr (.inr ⟨3, by omega, 3, (den_pair _ _).2 ⟨rfl, .inl yes2⟩, 4, (den_pair _ _).2 ⟨rfl, .inr yes3⟩, 5, (den_pair _ _).2 ⟨rfl, .inl yes4⟩, rfl⟩)), fun j hd => (hle j (by omega) hd).2, fun k hk hf j hd => ?_⟩
  rw [fixed_place k (by omega)] at hf
  omega
end Go.Proofs.YtanmlgliibgpcaaDoor

/- The walks of ready and fixed (for a seat without strings.Index; XLawLit holds them too). -/
namespace Go.Proofs.YtanmlgliibgpcaaDoor
open Go.RowKit Thr
set_option linter.unusedVariables false
set_option linter.unusedSimpArgs false

set_option maxRecDepth 100000 in
set_option maxHeartbeats 16000000 in
theorem ready_good (s : ByteArray) (fold bytes : Bool) (t : Rx) (w : World) (hp : parseF s bytes = .tree t) (hG : Glob w) (hm : s.size ≤ 9000000000000000000) :
    Calls Tryd.prog 11 #[.string s, .agg #[.bool fold, .bool bytes]] w fun e w' => ∃ bp, e = .returned (.pointer (some ⟨bp, 0, none⟩)) ∧ Below w.heap.size w w' ∧ ProgAt w'.heap.size w' bp fold bytes (compiled t).2 (compiled t).1 := by
  have hgood := parse_good (sized_all s bytes) hp
  have hv : validTop t = true := by unfold validTop; simp [hgood.1, hgood.2]
  have hpc := fun W (h : Below w.heap.size w W) => Parse_calls s bytes W (hG.below h) hm
  simp only [hp, ParsePost] at hpc
  have hcm := fun (cs : List Value) (W : World) (ok : Nat → Prop) (h : TreeAt ok W t cs) => Compile_good t cs fold bytes W h hv
  have HPC := hide hpc; have HCM := hide hcm
  clear hpc hcm hp hG hgood hv
  go_enter Tryd.func11, Tryd.ntmps11
  go_wp2_with fail
  refine (unhide HPC _ (by repeat (first | exact Below.refl _ _ | assumption | refine below_drewN ?_ _ | refine Below.drew ?_ | refine below_alloc' ?_ _))).mono ?_
  rintro e w1 ⟨cs, rfl, ht, hb1⟩
  obtain ⟨k1, k2, k3, As, ls, cs', k5, k6, A, lk, cc, rfl⟩ := ht.form
  have d0 := ((bcell hb1).1 w.heap.size 0 (by simp)).trans (show _ = some (.bool fold) by go_simp)
  have d1 := ((bcell hb1).1 w.heap.size 1 (by simp)).trans (show _ = some (.bool bytes) by go_simp)
  have hz1 : w.heap.size < w1.heap.size := by have := hb1.size; simp at this; omega
  have HB1 := hide (below_then (w := w) (by repeat (first | exact Below.refl _ _ | assumption | refine below_drewN ?_ _ | refine Below.drew ?_ | refine below_alloc' ?_ _)) hb1)
  have HT := hide (ht.below ((Below.refl w1.heap.size w1).alloc (Nat.le_refl _) (.cells #[.int .i64 k1, .int .i64 k2, .bool k3, .slice As ls cs', .int .i64 k5, .int .i64 k6, .slice A lk cc] 26)))
  clear ht hb1
  go_wp2_with fail
  refine (unhide HCM _ _ _ (unhide HT)).mono ?_
  rintro e w2 ⟨bp, rfl, hb2, hbp, hpr⟩
  go_wp2_with fail
  go_ret
  exact ⟨bp, rfl, below_then (unhide HB1) (below_then ((Below.refl w1.heap.size w1).alloc (Nat.le_refl _) _) hb2), hpr⟩

theorem fixed_first_val : foundVal (place fixedS false) (some (1, 3)) = .tuple #[.int .i64 1, .int .i64 3, .bool true] := by
  simp [foundVal, fixed_place]
theorem fixed_second_val : foundVal (place fixedS false) (some (2, 5)) = .tuple #[.int .i64 2, .int .i64 5, .bool true] := by
  simp [foundVal, fixed_place]
set_option maxRecDepth 100000 in
set_option maxHeartbeats 16000000 in
theorem fixed_calls (w : World) (hG : Glob w) : Calls Tryd.prog 6 #[] w fun e w' => e = .returned (.bool true) ∧ Below w.heap.size w w' := by
  have hr := ready_good fixedP false false fixedT w fixed_parse hG (by decide)
  have hf := fun (W : World) (bp N : Nat) (hP : ProgAt N W bp false false (compiled fixedT).2 (compiled fixedT).1) (hN : N ≤ W.heap.size) (hb : Below w.heap.size w W) => Find_calls fixed_makes fixedS 0 (some (1, 3)) W hP hN (hG.below hb).tabs (by decide) (by omega) fixed_a
  have hf2 := fun (W : World) (bp N : Nat) (hP : ProgAt N W bp false false (compiled fixedT).2 (compiled fixedT).1) (hN : N ≤ W.heap.size) (hb : Below w.heap.size w W) => Find_calls fixed_makes fixedS 2 (some (2, 5)) W hP hN (hG.below hb).tabs (by decide) (by omega) fixed_b
  simp only [fixed_first_val] at hf
  simp only [fixed_second_val] at hf2
  have HR := hide hr; have HF := hide hf; have HF2 := hide hf2
  clear hr hf hf2 hG
  go_enter Tryd.func6, Tryd.ntmps6
  go_wp2_with fail
  refine (unhide HR).mono ?_
  rintro e w1 ⟨bp, rfl, hb1, hpr⟩
  have HB1 := hide hb1; have HPR := hide hpr
  clear hb1 hpr
  go_wp2_with fail
  refine (unhide HF w1 bp _ (unhide HPR) (Nat.le_refl _) (unhide HB1)).mono ?_
  rintro e w2 ⟨rfl, hb2⟩
  have HB2 := hide (below_then (unhide HB1) hb2); have HPR2 := hide ((unhide HPR).below hb2); have hz2 : w1.heap.size ≤ w2.heap.size := hb2.size
  clear hb2
  go_wp2_with fail
  refine (unhide HF2 w2 bp _ (unhide HPR2) hz2 (unhide HB2)).mono ?_
  rintro e w3 ⟨rfl, hb3⟩
  go_wp2_with fail
  go_ret
  exact ⟨rfl, below_then (unhide HB2) hb3⟩
end Go.Proofs.YtanmlgliibgpcaaDoor

/- Plain Lean: a pattern that stands within brackets in another one means there what it means alone. -/
namespace Thr
set_option linter.unusedVariables false

theorem byt_sub {s : ByteArray} {a b i : Nat} (hb : b ≤ s.size) (hi : a + i < b) : byt (s.extract a b) i = byt s (a + i) := by
  unfold byt
  have h : a + i < s.size := by omega
  have h' : i < (s.extract a b).size := by simp [ByteArray.size_extract]; omega
  rw [dif_pos h, dif_pos h']
  simp [ByteArray.getElem_extract]

/-- a stands in s from o on, a ')' behind it. -/
structure Ext (s a : ByteArray) (o : Nat) : Prop where
  lt : o + a.size < s.size
  sub : a = s.extract o (o + a.size)
  end_ : byt s (o + a.size) = 41

section
variable {s a : ByteArray} {o : Nat}
theorem Ext.at_ (h : Ext s a o) {i : Nat} (hi : i < a.size) : byt s (o + i) = byt a i := by
  have hs := h.sub
  have hlt := h.lt
  generalize hn : a.size = n at *
  rw [hs, byt_sub (by omega) (by omega)]

theorem tail_eq {s s' : ByteArray} : ∀ (k i i' : Nat) (r : Int), (∀ j, j < k → byt s (i + j) = byt s' (i' + j)) → tailF s k i r = tailF s' k i' r
  | 0, _, _, _, _ => rfl
  | k + 1, i, i', r, h => by
    simp only [tailF]
    have h0 := h 0 (by omega)
    simp only [Nat.add_zero] at h0
    rw [h0]
    split
    · rfl
    · exact tail_eq k (i + 1) (i' + 1) _ fun j hj => by
        have := h (j + 1) (by omega)
        rw [show i + 1 + j = i + (j + 1) by omega, show i' + 1 + j = i' + (j + 1) by omega]
        exact this
theorem tail_odd {s : ByteArray} : ∀ (k i m : Nat) (r : Int), i ≤ m → m < i + k → byt s m = 41 → tailF s k i r = none
  | 0, i, m, r, h1, h2, _ => by omega
  | k + 1, i, m, r, h1, h2, h => by
    simp only [tailF]
    by_cases e : i = m
    · subst e
      rw [if_pos (by omega)]
    · split
      · rfl
      · exact tail_odd k (i + 1) m _ (by omega) (by omega) h
theorem size_ext (h : Ext s a o) {i : Nat} (hi : i < a.size) : sizeF (s.extract (o + i) s.size) = sizeF (a.extract i a.size) := by
  have hlt := h.lt
  have h0 : byt (s.extract (o + i) s.size) 0 = byt (a.extract i a.size) 0 := by
    rw [byt_extract, byt_extract, Nat.add_zero, Nat.add_zero]
    exact h.at_ hi
  have hz1 : (s.extract (o + i) s.size).size = s.size - (o + i) := by simp [ByteArray.size_extract]
  have hz2 : (a.extract i a.size).size = a.size - i := by simp [ByteArray.size_extract]
  unfold sizeF
  rw [h0]
  by_cases c : byt (a.extract i a.size) 0 < 128
  · rw [if_pos c, if_pos c]
  rw [if_neg c, if_neg c, hz1, hz2]
  generalize leadF (byt (a.extract i a.size) 0) = L
  obtain ⟨n, r, least⟩ := L
  simp only
  by_cases hn : n = 0
  · rw [if_pos (.inl hn), if_pos (.inl hn)]
  by_cases hm : a.size - i < n
  · have g1 : n = 0 ∨ a.size - i < n := .inr hm
    rw [if_pos g1]
    by_cases hm2 : s.size - (o + i) < n
    · have g2 : n = 0 ∨ s.size - (o + i) < n := .inr hm2
      rw [if_pos g2]
    · have g2 : ¬ (n = 0 ∨ s.size - (o + i) < n) := by omega
      rw [if_neg g2, tail_odd (s := s.extract (o + i) s.size) (n - 1) 1 (a.size - i) r (by omega) (by omega) (by rw [byt_extract, show o + i + (a.size - i) = o + a.size by omega]; exact h.end_)]
      rfl
  · have g1 : ¬ (n = 0 ∨ a.size - i < n) := by omega
    have g2 : ¬ (n = 0 ∨ s.size - (o + i) < n) := by omega
    rw [if_neg g1, if_neg g2]
    congr 1
    refine tail_eq (n - 1) 1 1 r fun j hj => ?_
    rw [byt_extract, byt_extract, Nat.add_assoc]
    exact h.at_ (by omega)
theorem next_false {s : ByteArray} {i : Nat} (hi : i < s.size) : nextF s (i : Int) false = if (sizeF (s.extract i s.size)).1 = 0 then (1114112 + byt s i, 1) else ((sizeF (s.extract i s.size)).2, (sizeF (s.extract i s.size)).1) := by
  unfold nextF
  have g : ¬ ((i : Int) < 0 ∨ (s.size : Int) ≤ i) := by omega
  rw [if_neg g, if_neg (by simp), Int.toNat_natCast]
theorem next_ext (h : Ext s a o) {i : Nat} (hi : i < a.size) : nextF s ((o + i : Nat) : Int) false = nextF a (i : Int) false := by
  have hlt := h.lt
  rw [next_false (by omega), next_false hi, size_ext h hi, h.at_ hi]
theorem next_end {i : Nat} (hi : a.size ≤ i) : nextF a (i : Int) false = (0, 0) := by
  unfold nextF
  rw [if_pos (by omega)]
theorem dig_ext (h : Ext s a o) : ∀ (f f' i : Nat) (v : Int), i ≤ a.size → a.size - i ≤ f → s.size - (o + i) ≤ f' → digF s f' (o + i) v = ((digF a f i v).1, o + (digF a f i v).2)
  | f, 0, i, v, hi, hf, hf' => by have := h.lt; omega
  | 0, f' + 1, i, v, hi, hf, hf' => by
    obtain rfl : i = a.size := by omega
    simp only [digF]
    rw [if_neg (by rw [h.end_]; simp [isDig])]
  | f + 1, f' + 1, i, v, hi, hf, hf' => by
    have hlt := h.lt
    simp only [digF]
    by_cases hia : i < a.size
    · rw [h.at_ hia]
      by_cases hd : isDig (byt a i) = true
      · rw [if_pos ⟨by omega, hd⟩, if_pos ⟨hia, hd⟩]
        exact dig_ext h f f' (i + 1) _ (by omega) (by omega) (by omega)
      · rw [if_neg (fun x => hd x.2), if_neg (fun x => hd x.2)]
    · obtain rfl : i = a.size := by omega
      rw [if_neg (by rw [h.end_]; simp [isDig]), if_neg (fun x => hia x.1)]
theorem itv_ext (h : Ext s a o) {i : Nat} (hi : i < a.size) : itvF s (o + i) = (itvF a i).map fun r => (r.1, r.2.1, o + r.2.2) := by
  have hlt := h.lt
  have hd := dig_ext h a.size s.size (i + 1) 0 (by omega) (by omega) (by omega)
  have hl := dig_le a a.size (i + 1) 0
  unfold itvF
  rw [show o + i + 1 = o + (i + 1) by omega, hd]
  generalize digF a a.size (i + 1) 0 = D at *
  obtain ⟨v, d⟩ := D
  simp only at hl ⊢
  by_cases hc : d = i + 1 ∨ a.size ≤ d
  · rw [if_pos hc]
    by_cases hc1 : d = i + 1
    · rw [if_pos (.inl (by omega))]; rfl
    · obtain rfl : d = a.size := by omega
      rw [if_neg (by omega), h.end_, if_neg (by omega), if_neg (by omega)]
      rfl
  · rw [if_neg hc, if_neg (by omega), h.at_ (by omega)]
    have hd2 := dig_ext h a.size s.size (d + 1) 0 (by omega) (by omega) (by omega)
    have hl2 := dig_le a a.size (d + 1) 0
    rw [show o + d + 1 = o + (d + 1) by omega, hd2]
    generalize digF a a.size (d + 1) 0 = D2 at *
    obtain ⟨v2, d2⟩ := D2
    simp only at hl2 ⊢
    by_cases h44 : byt a d = 44
    · rw [if_pos h44, if_pos h44]
      by_cases hx : d2 < a.size
      · rw [h.at_ hx]
        by_cases h125 : byt a d2 = 125
        · have g1 : o + d2 < s.size ∧ byt a d2 = 125 := ⟨by omega, h125⟩
          have g2 : d2 < a.size ∧ byt a d2 = 125 := ⟨hx, h125⟩
          rw [if_pos g1, if_pos g2]
          simp only [Option.map_some]
          by_cases e : d2 = d + 1
          · have g3 : o + d2 = o + (d + 1) := by omega
            rw [if_pos e, if_pos g3]; rfl
          · have g3 : ¬ o + d2 = o + (d + 1) := by omega
            rw [if_neg e, if_neg g3]; rfl
        · have g1 : ¬ (o + d2 < s.size ∧ byt a d2 = 125) := fun x => h125 x.2
          have g2 : ¬ (d2 < a.size ∧ byt a d2 = 125) := fun x => h125 x.2
          rw [if_neg g1, if_neg g2]; rfl
      · obtain rfl : d2 = a.size := by omega
        have g1 : ¬ (o + a.size < s.size ∧ (41 : Int) = 125) := by omega
        have g2 : ¬ (a.size < a.size ∧ byt a a.size = 125) := by omega
        rw [h.end_, if_neg g1, if_neg g2]; rfl
    · rw [if_neg h44, if_neg h44]
      by_cases h125 : byt a d = 125
      · rw [if_pos h125, if_pos h125]; rfl
      · rw [if_neg h125, if_neg h125]; rfl

def moved (o : Nat) : Again → Again
  | .no => .no
  | .fault e => .fault e
  | .yes lo hi k => .yes lo hi (o + k)
theorem again_ext (h : Ext s a o) {i : Nat} (hi : i < a.size) : againF s (o + i) = moved o (againF a i) := by
  unfold againF
  rw [h.at_ hi, itv_ext h hi]
  by_cases e1 : byt a i = 42
  · rw [if_pos e1, if_pos e1]; rfl
  rw [if_neg e1, if_neg e1]
  by_cases e2 : byt a i = 43
  · rw [if_pos e2, if_pos e2]; rfl
  rw [if_neg e2, if_neg e2]
  by_cases e3 : byt a i = 63
  · rw [if_pos e3, if_pos e3]; rfl
  rw [if_neg e3, if_neg e3]
  by_cases e4 : byt a i = 123
  · rw [if_pos e4, if_pos e4]
    cases itvF a i with
    | none => rfl
    | some r =>
      obtain ⟨lo, hi', k⟩ := r
      simp only [Option.map_some]
      split
      · rfl
      · split <;> rfl
  rw [if_neg e4, if_neg e4]
  rfl
theorem cast_succ (i : Nat) : ((i : Int) + 1) = ((i + 1 : Nat) : Int) := by omega
def escG (c : Int) : Option Rx :=
  if c = 121 then some (leaf 10) else if c = 66 then some (leaf 11) else if c = 60 then some (leaf 12) else if c = 62 then some (leaf 13) else if c = 96 then some (leaf 8) else if c = 39 then some (leaf 9)
  else if c = 119 ∨ c = 87 then some (setN (c = 87) wordS) else if c = 115 ∨ c = 83 then some (setN (c = 83) spaceS)
  else (singleF c).map chrN
theorem esc_map (s : ByteArray) (i : Nat) (bytes : Bool) : escF s i bytes = if (nextF s ((i + 1 : Nat) : Int) bytes).2 = 0 then none else (escG (nextF s ((i + 1 : Nat) : Int) bytes).1).map fun x => (x, i + 1 + (nextF s ((i + 1 : Nat) : Int) bytes).2.toNat) := by
  unfold escF
  rw [cast_succ]
  generalize nextF s ((i + 1 : Nat) : Int) bytes = z
  obtain ⟨c, n⟩ := z
  simp only
  by_cases hn : n = 0
  · rw [if_pos hn, if_pos hn]
  rw [if_neg hn, if_neg hn]
  unfold escG
  cases hs : singleF c with
  | none => repeat' split
            all_goals first | rfl | (simp_all; done)
  | some x => repeat' split
              all_goals first | rfl | (simp_all; done)
theorem esc_ext (h : Ext s a o) {i k : Nat} {x : Rx} (he : escF a i false = some (x, k)) : escF s (o + i) false = some (x, o + k) := by
  rw [esc_map] at he ⊢
  by_cases hi : i + 1 < a.size
  · rw [show o + i + 1 = o + (i + 1) by omega, next_ext h hi]
    generalize nextF a ((i + 1 : Nat) : Int) false = z at *
    obtain ⟨c, n⟩ := z
    simp only at he ⊢
    by_cases hn : n = 0
    · rw [if_pos hn] at he; cases he
    rw [if_neg hn] at he ⊢
    cases hg : escG c with
    | none => rw [hg] at he; cases he
    | some y =>
      rw [hg] at he
      simp only [Option.map_some, Option.some.injEq, Prod.mk.injEq] at he ⊢
      exact ⟨he.1, by omega⟩
  · rw [next_end (by omega)] at he
    simp at he
theorem shut_ext (h : Ext s a o) : ∀ (f f' k m : Nat), shutAt a f k = some m → s.size ≤ o + k + f' → shutAt s f' (o + k) = some (o + m)
  | 0, f', k, m, hm, hf => by simp [shutAt] at hm
  | f + 1, 0, k, m, hm, hf => by
    have := shutAt_le _ _ _ hm
    have := h.lt
    omega
  | f + 1, f' + 1, k, m, hm, hf => by
    have hlt := h.lt
    simp only [shutAt] at hm ⊢
    split at hm
    · cases hm
    · rename_i h1
      rw [if_neg (by omega), h.at_ (by omega), show o + k + 1 = o + (k + 1) by omega, h.at_ (by omega)]
      split at hm
      · rename_i h2
        rw [if_pos h2]
        injection hm with hm
        rw [hm]
      · rename_i h2
        rw [if_neg h2]
        exact shut_ext h f f' (k + 1) m hm (by omega)
theorem named_ext (h : Ext s a o) {i k : Nat} {l : List (Int × Int)} (he : namedF a i = some (l, k)) : namedF s (o + i) = some (l, o + k) := by
  have hlt := h.lt
  unfold namedF at he ⊢
  cases hm : shutAt a a.size (i + 2) with
  | none => rw [hm] at he; cases he
  | some m =>
    have hle := shutAt_le _ _ _ hm
    rw [hm] at he
    rw [show o + i + 2 = o + (i + 2) by omega, shut_ext h _ s.size _ _ hm (by omega)]
    simp only at he ⊢
    have hx : s.extract (o + (i + 2)) (o + m) = a.extract (i + 2) m := by
      have hs := h.sub
      generalize a.size = n at *
      rw [hs]
      apply ByteArray.ext
      simp [ByteArray.data_extract, Array.extract_extract]
      congr 1
      omega
    rw [hx]
    cases hc : classF (a.extract (i + 2) m) with
    | none => rw [hc] at he; cases he
    | some l' =>
      rw [hc] at he
      simp only [Option.some.injEq, Prod.mk.injEq] at he ⊢
      exact ⟨he.1, by omega⟩
theorem member_ext (h : Ext s a o) {i k : Nat} {x : Int} (he : memberF a i false = some (x, k)) : memberF s (o + i) false = some (x, o + k) := by
  unfold memberF at he ⊢
  by_cases hi : i < a.size
  · rw [next_ext h hi]
    by_cases h0 : (nextF a (i : Int) false).2 = 0
    · rw [if_pos h0] at he; cases he
    rw [if_neg h0] at he ⊢
    by_cases h92 : (nextF a (i : Int) false).1 ≠ 92
    · rw [if_pos h92] at he ⊢
      simp only [Option.some.injEq, Prod.mk.injEq] at he ⊢
      exact ⟨he.1, by omega⟩
    rw [if_neg h92] at he ⊢
    rw [cast_succ] at he ⊢
    by_cases hi1 : i + 1 < a.size
    · rw [show o + i + 1 = o + (i + 1) by omega, next_ext h hi1]
      by_cases h1 : (nextF a ((i + 1 : Nat) : Int) false).2 = 0
      · rw [if_pos h1] at he; cases he
      rw [if_neg h1] at he ⊢
      cases hsg : singleF (nextF a ((i + 1 : Nat) : Int) false).1 with
      | none => rw [hsg] at he; cases he
      | some y =>
        rw [hsg] at he
        simp only [Option.some.injEq, Prod.mk.injEq] at he ⊢
        exact ⟨he.1, by omega⟩
    · rw [next_end (by omega)] at he
      simp at he
  · rw [next_end (by omega)] at he
    simp at he
theorem one_ext (h : Ext s a o) {i : Nat} (hi : i ≤ a.size) {c : Int} (hc : c ≠ 41) : one s (o + i) c = one a i c := by
  have hlt := h.lt
  unfold one
  rcases Nat.lt_or_ge i a.size with h1 | h1
  · rw [h.at_ h1]
    simp [h1]
    omega
  · obtain rfl : i = a.size := by omega
    rw [h.end_]
    simp
    omega
theorem two_ext (h : Ext s a o) {i : Nat} (hi : i ≤ a.size) {c d : Int} (hc : c ≠ 41) (hd : d ≠ 41) : two s (o + i) c d = two a i c d := by
  have hlt := h.lt
  unfold two
  rcases Nat.lt_or_ge (i + 1) a.size with h1 | h1
  · rw [h.at_ (by omega), show o + i + 1 = o + (i + 1) by omega, h.at_ h1]
    simp [h1]
    omega
  · rw [Bool.eq_iff_iff, decide_eq_true_eq, decide_eq_true_eq]
    refine ⟨fun x => ?_, fun x => by omega⟩
    rcases Nat.lt_or_ge i a.size with h2 | h2
    · have : o + i + 1 = o + a.size := by omega
      rw [this, h.end_] at x
      omega
    · have : o + i = o + a.size := by omega
      rw [this, h.end_] at x
      omega
/-- A '-' at the end ends no set. -/
theorem dash_end (hs : Sized a false) {f k : Nat} {acc : List (Int × Int)} (hk : one a k 45 = true) (hk1 : a.size ≤ k + 1) : setsF a false f k false acc = none := by
  have hk2 : k < a.size ∧ byt a k = 45 := by simpa [one] using hk
  cases f with
  | zero => rfl
  | succ f =>
    have h93 : one a k 93 = false := by simp [one]; omega
    have h91 : two a k 91 58 = false := by simp [two]; omega
    simp only [setsF, h93, h91]
    have hn := hs.at_ k hk2.1
    have hn2 : nextF a (k : Int) false = (45, 1) := by
      have hz : (a.extract k a.size).size = 1 := by simp [ByteArray.size_extract]; omega
      have hb : byt (a.extract k a.size) 0 = 45 := by rw [byt_extract, Nat.add_zero]; exact hk2.2
      unfold nextF sizeF
      rw [if_neg (by omega), if_neg (by simp), Int.toNat_natCast, hb]
      rfl
    have hm : memberF a k false = some (45, k + 1) := by
      unfold memberF
      rw [hn2]
      rfl
    rw [hm]
    have h45 : one a (k + 1) 45 = false := by simp [one]; omega
    simp only [h45]
    cases f with
    | zero => simp [setsF]
    | succ f =>
      have g93 : one a (k + 1) 93 = false := by simp [one]; omega
      have g91 : two a (k + 1) 91 58 = false := by simp [two]; omega
      have hm2 : memberF a (k + 1) false = none := by
        unfold memberF
        rw [next_end (i := k + 1) hk1]
        rfl
      simp [setsF, g93, g91, hm2]
theorem sets_ext (h : Ext s a o) (hs : Sized a false) : ∀ (f f' i : Nat) (first : Bool) (acc l : List (Int × Int)) (k : Nat), i ≤ a.size → s.size - (o + i) < f' → setsF a false f i first acc = some (l, k) → setsF s false f' (o + i) first acc = some (l, o + k)
  | 0, f', i, first, acc, l, k, hi, hf, he => by simp [setsF] at he
  | f + 1, 0, i, first, acc, l, k, hi, hf, he => by omega
  | f + 1, f' + 1, i, first, acc, l, k, hi, hf, he => by
    have hlt := h.lt
    simp only [setsF] at he ⊢
    rw [one_ext h hi (by omega), two_ext h hi (by omega) (by omega)]
    by_cases c1 : first = false ∧ one a i 93 = true
    · rw [if_pos c1] at he ⊢
      simp only [Option.some.injEq, Prod.mk.injEq] at he ⊢
      exact ⟨he.1, by omega⟩
    rw [if_neg c1] at he ⊢
    by_cases c2 : two a i 91 58 = true
    · rw [if_pos c2] at he ⊢
      cases hn : namedF a i with
      | none => rw [hn] at he; cases he
      | some p =>
        obtain ⟨l1, k1⟩ := p
        have hle := named_le hn
        rw [hn] at he
        rw [named_ext h hn]
        simp only at he ⊢
        exact sets_ext h hs f f' k1 false (acc ++ l1) l k hle.2 (by omega) he
    rw [if_neg c2] at he ⊢
    cases hm : memberF a i false with
    | none => rw [hm] at he; cases he
    | some p =>
      obtain ⟨lo, k1⟩ := p
      have hle := member_le hs hm
      rw [hm] at he
      rw [member_ext h hm]
      simp only at he ⊢
      rw [one_ext h hle.2 (by omega)]
      by_cases c3 : one a k1 45 = true
      · have hk1 : k1 < a.size ∧ byt a k1 = 45 := by simpa [one] using c3
        by_cases c4 : k1 + 1 < a.size
        · rw [show o + k1 + 1 = o + (k1 + 1) by omega, h.at_ c4, two_ext h (by omega) (by omega) (by omega)]
          by_cases c5 : byt a (k1 + 1) ≠ 93
          · rw [if_pos ⟨c3, c4, c5⟩] at he
            rw [if_pos ⟨c3, by omega, c5⟩]
            by_cases c6 : two a (k1 + 1) 91 58 = true
            · rw [if_pos c6] at he; cases he
            rw [if_neg c6] at he ⊢
            cases hm2 : memberF a (k1 + 1) false with
            | none => rw [hm2] at he; cases he
            | some p2 =>
              obtain ⟨hi2, k2⟩ := p2
              have hle2 := member_le hs hm2
              rw [hm2] at he
              rw [member_ext h hm2]
              simp only at he ⊢
              by_cases c7 : hi2 < lo
              · rw [if_pos c7] at he; cases he
              rw [if_neg c7] at he ⊢
              exact sets_ext h hs f f' k2 false _ l k hle2.2 (by omega) he
          · rw [if_neg (fun x => c5 x.2.2)] at he
            rw [if_neg (fun x => c5 x.2.2)]
            exact sets_ext h hs f f' k1 false _ l k hle.2 (by omega) he
        · rw [if_neg (fun x => c4 x.2.1), dash_end hs c3 (by omega)] at he
          cases he
      · rw [if_neg (fun x => c3 x.1)] at he ⊢
        exact sets_ext h hs f f' k1 false _ l k hle.2 (by omega) he
theorem set_ext (h : Ext s a o) (hs : Sized a false) {i k : Nat} {x : Rx} (hi : i < a.size) (he : setF a i false = some (x, k)) : setF s (o + i) false = some (x, o + k) := by
  have hlt := h.lt
  unfold setF at he ⊢
  rw [show o + i + 1 = o + (i + 1) by omega, one_ext h (by omega) (by omega)]
  have hst : (if one a (i + 1) 94 = true then o + i + 2 else o + (i + 1)) = o + (if one a (i + 1) 94 = true then i + 2 else i + 1) := by split <;> omega
  rw [hst]
  have hle : (if one a (i + 1) 94 = true then i + 2 else i + 1) ≤ a.size := by
    split
    · rename_i h1
      have : i + 1 < a.size := by simp [one] at h1; exact h1.1
      omega
    · omega
  generalize (if one a (i + 1) 94 = true then i + 2 else i + 1) = st at *
  cases hq : setsF a false (a.size + 1) st true [] with
  | none => rw [hq] at he; cases he
  | some p =>
    obtain ⟨l, k1⟩ := p
    rw [hq] at he
    rw [sets_ext h hs (a.size + 1) (s.size + 1) st true [] l k1 hle (by omega) hq]
    simp only [Option.some.injEq, Prod.mk.injEq] at he ⊢
    exact ⟨he.1, by omega⟩
/-- A group that stops alone stops there too, or is too deep. -/
theorem inner_ext (h : Ext s a o) (hs : Sized a false) (hS : Sized s false) : ∀ (f f' n : Nat) (alts cat : List Rx) (i : Nat) (A C : List Rx) (j : Nat), i ≤ a.size → a.size - i < f → s.size - (o + i) < f' → innerF a false f n alts cat i = some (.stop A C j) →
    innerF s false f' (n + 1) alts cat (o + i) = some (.stop A C (o + j)) ∨ ∃ p e, innerF s false f' (n + 1) alts cat (o + i) = some (.fault p e)
  | 0, f', n, alts, cat, i, A, C, j, hi, hf, hf', he => by omega
  | f + 1, 0, n, alts, cat, i, A, C, j, hi, hf, hf', he => by omega
  | f + 1, f' + 1, n, alts, cat, i, A, C, j, hi, hf, hf', he => by
    have hlt := h.lt
    simp only [innerF] at he ⊢
    rw [if_neg (by omega)]
    by_cases hge : a.size ≤ i
    · obtain rfl : i = a.size := by omega
      rw [if_pos hge] at he
      injection he with he
      injection he with h1 h2 h3
      subst h1; subst h2; subst h3
      have hag : (if alts.length = alts.length ∧ cat = [] then Again.no else againF s (o + a.size)) = .no := by
        split
        · rfl
        · unfold againF
          rw [h.end_]
          rfl
      simp only [true_and] at hag
      rw [hag]
      simp only
      rw [h.end_, if_neg (by omega), if_neg (by omega), if_pos rfl, if_neg (by omega)]
      exact .inl rfl
    rw [if_neg hge] at he
    have hil : i < a.size := by omega
    have hn := next_le (i := i) hs
    have hag : (if cat = [] then Again.no else againF s (o + i)) = moved o (if cat = [] then Again.no else againF a i) := by
      split
      · rfl
      · exact again_ext h hil
    rw [hag]
    generalize hag2 : (if cat = [] then Again.no else againF a i) = ag at *
    cases ag with
    | fault e => cases he
    | yes lo hi' k =>
      have hk : i < k ∧ k ≤ a.size := by
        split at hag2
        · cases hag2
        · exact again_le hil hag2
      simp only [moved] at he ⊢
      exact inner_ext h hs hS f f' n _ _ k A C j hk.2 (by omega) (by omega) he
    | no =>
      simp only [moved] at he ⊢
      rw [h.at_ hil]
      by_cases e124 : byt a i = 124
      · rw [if_pos e124] at he ⊢
        exact inner_ext h hs hS f f' n _ _ (i + 1) A C j (by omega) (by omega) (by omega) he
      rw [if_neg e124] at he ⊢
      by_cases e40 : byt a i = 40
      · rw [if_pos e40] at he ⊢
        by_cases h40 : n = 40
        · rw [if_pos h40] at he; cases he
        rw [if_neg h40] at he
        by_cases h41 : n + 1 = 40
        · rw [if_pos h41]
          exact .inr ⟨_, _, rfl⟩
        rw [if_neg h41]
        cases hq : innerF a false f (n + 1) [] [] (i + 1) with
        | none => rw [hq] at he; cases he
        | some q =>
          rw [hq] at he
          cases q with
          | fault p e => cases he
          | stop A1 C1 j1 =>
            simp only at he
            by_cases hj1 : j1 < a.size
            · rw [if_pos hj1] at he
              have hij : i + 1 ≤ j1 := by
                obtain ⟨r, hr, hp⟩ := inner_ends hs f (n + 1) [] [] (i + 1) (by omega) (by omega)
                rw [hq] at hr
                obtain rfl := Option.some.inj hr
                exact (hp _ _ _ rfl).1
              rcases inner_ext h hs hS f f' (n + 1) [] [] (i + 1) A1 C1 j1 (by omega) (by omega) (by omega) hq with hh | ⟨p, e, hh⟩
              · rw [show o + i + 1 = o + (i + 1) by omega, hh]
                simp only
                rw [if_pos (by omega)]
                exact inner_ext h hs hS f f' n _ _ (j1 + 1) A C j (by omega) (by omega) (by omega) he
              · rw [show o + i + 1 = o + (i + 1) by omega, hh]
                exact .inr ⟨_, _, rfl⟩
            · rw [if_neg hj1] at he; cases he
      rw [if_neg e40] at he ⊢
      by_cases e41 : byt a i = 41
      · rw [if_pos e41] at he ⊢
        by_cases hn0 : n = 0
        · rw [if_pos hn0] at he; cases he
        rw [if_neg hn0] at he
        rw [if_neg (by omega)]
        injection he with he
        injection he with h1 h2 h3
        subst h1; subst h2; subst h3
        exact .inl rfl
      rw [if_neg e41] at he ⊢
      by_cases e91 : byt a i = 91
      · rw [if_pos e91] at he ⊢
        cases hx : setF a i false with
        | none => rw [hx] at he; cases he
        | some p =>
          obtain ⟨x, k⟩ := p
          have hk := set_le hs hx
          rw [hx] at he
          rw [set_ext h hs hil hx]
          exact inner_ext h hs hS f f' n _ _ k A C j hk.2 (by omega) (by omega) he
      rw [if_neg e91] at he ⊢
      by_cases e92 : byt a i = 92
      · rw [if_pos e92] at he ⊢
        cases hx : escF a i false with
        | none => rw [hx] at he; cases he
        | some p =>
          obtain ⟨x, k⟩ := p
          have hk := esc_le hs hx
          rw [hx] at he
          rw [esc_ext h hx]
          exact inner_ext h hs hS f f' n _ _ k A C j hk.2 (by omega) (by omega) he
      rw [if_neg e92] at he ⊢
      have hk := hn.2.1 hil
      rw [next_ext h hil, show o + i + (nextF a (i : Int) false).2.toNat = o + (i + (nextF a (i : Int) false).2.toNat) by omega]
      exact inner_ext h hs hS f f' n _ _ _ A C j (by omega) (by omega) (by omega) he
end

/-- "(a)|(b)" means a or b, where it may be written. -/
theorem parse_choice {a b c : ByteArray} {ta tb tc : Rx} (hs : ∀ s : ByteArray, Sized s false) (ha : parseF a false = .tree ta) (hb : parseF b false = .tree tb) (hc : parseF c false = .tree tc)
    (h0 : byt c 0 = 40) (hea : Ext c a 1) (h2 : byt c (a.size + 2) = 124) (h3 : byt c (a.size + 3) = 40) (heb : Ext c b (a.size + 4)) (hz : c.size = a.size + b.size + 5) : tc = altN [ta, tb] := by
  have part : ∀ (x : ByteArray) (tx : Rx), parseF x false = .tree tx → ∃ A C, innerF x false (x.size + 1) 0 [] [] 0 = some (.stop A C x.size) ∧ tx = shutF A C := by
    intro x tx hx
    unfold parseF at hx
    split at hx
    · cases hx
    · obtain ⟨r, hr, hp⟩ := inner_ends (hs x) (x.size + 1) 0 [] [] 0 (by omega) (by omega)
      rw [hr] at hx
      cases r with
      | fault j e => simp only [topF] at hx; cases hx
      | stop A C j =>
        have hj := hp A C j rfl
        have : j = x.size := by
          rcases Nat.lt_or_ge j x.size with h | h
          · have := (hj.2.2 h).2; omega
          · omega
        subst this
        simp only [topF] at hx
        split at hx
        · cases hx
        · injection hx with hx
          exact ⟨A, C, hr, hx.symm⟩
  obtain ⟨A, C, hA, rfl⟩ := part a ta ha
  obtain ⟨B, D, hB, rfl⟩ := part b tb hb
  obtain ⟨U, V, hU, rfl⟩ := part c tc hc
  have hl1 := hea.lt
  have hl2 := heb.lt
  have top : ∀ (f : Nat) (alts : List Rx) (i : Nat) (x : ByteArray) (X Y : List Rx), i + 1 + x.size < c.size → byt c i = 40 → Ext c x (i + 1) → innerF x false (x.size + 1) 0 [] [] 0 = some (.stop X Y x.size) → c.size - i < f + 1 →
      innerF c false (f + 1) 0 alts [] i = innerF c false f 0 alts [shutF X Y] (i + 1 + x.size + 1) ∨ ∃ p e, innerF c false (f + 1) 0 alts [] i = some (.fault p e) := by
    intro f alts i x X Y h1 h2 hx hin hf
    have hext := inner_ext hx (hs x) (hs c) (x.size + 1) f 0 [] [] 0 X Y x.size (by omega) (by omega) (by omega) hin
    simp only [Nat.add_zero, Nat.zero_add] at hext
    simp only [innerF]
    rw [if_neg (by omega)]
    simp only [if_true]
    rw [if_neg (by omega), if_pos h2, if_neg (by omega)]
    rcases hext with hh | ⟨p, e, hh⟩
    · rw [hh]
      simp only [List.nil_append]
      rw [if_pos (by omega)]
      exact .inl rfl
    · rw [hh]
      exact .inr ⟨p, e, rfl⟩
  rcases top c.size [] 0 a A C (by omega) h0 (by simpa using hea) hA (by omega) with h | ⟨p, e, h⟩
  · rw [h] at hU
    rw [show 0 + 1 + a.size + 1 = a.size + 2 by omega] at hU
    obtain ⟨f, hf⟩ : ∃ f, c.size = f + 1 + 1 + 1 := ⟨c.size - 3, by omega⟩
    rw [hf] at hU
    rw [innerF] at hU
    rw [if_neg (by omega)] at hU
    have hag : againF c (a.size + 2) = .no := by
      unfold againF
      rw [h2]; rfl
    rw [hag] at hU
    simp only [ite_self] at hU
    rw [if_pos h2, List.nil_append] at hU
    rcases top (f + 1) [joinF [shutF A C]] (a.size + 2 + 1) b B D (by omega) h3 heb hB (by omega) with h | ⟨p, e, h⟩
    · rw [h] at hU
      rw [innerF] at hU
      rw [if_pos (by omega)] at hU
      injection hU with hU
      injection hU with h1 h2 h3
      subst h1; subst h2
      rfl
    · rw [h] at hU; cases hU
  · rw [h] at hU; cases hU
end Thr

/- Plain Lean: a fault has a number; the match of a choice. -/
namespace Thr
set_option linter.unusedVariables false

theorem again_code {s : ByteArray} {i : Nat} {e : Int} (h : againF s i = .fault e) : e = 90 ∨ e = 91 := by
  unfold againF at h
  split at h
  · cases h
  split at h
  · cases h
  split at h
  · cases h
  split at h
  · split at h
    · cases h
    · split at h
      · injection h; omega
      · split at h
        · injection h; omega
        · cases h
  · cases h
theorem inner_code {s : ByteArray} {bytes : Bool} : ∀ (f n : Nat) (alts cat : List Rx) (i j : Nat) (e : Int), innerF s bytes f n alts cat i = some (.fault j e) → e = 90 ∨ e = 91
  | 0, n, alts, cat, i, j, e, h => by simp [innerF] at h
  | f + 1, n, alts, cat, i, j, e, h => by
    simp only [innerF] at h
    split at h
    · cases h
    generalize hag : (if cat = [] then Again.no else againF s i) = ag at h
    cases ag with
    | fault e' =>
      simp only [Option.some.injEq, Res.fault.injEq] at h
      have : againF s i = .fault e' := by
        split at hag
        · cases hag
        · exact hag
      have := again_code this
      omega
    | yes lo hi k => exact inner_code f n _ _ _ _ _ h
    | no =>
      simp only at h
      split at h
      · exact inner_code f n _ _ _ _ _ h
      split at h
      · split at h
        · simp only [Option.some.injEq, Res.fault.injEq] at h; omega
        · cases hq : innerF s bytes f (n + 1) [] [] (i + 1) with
          | none => rw [hq] at h; cases h
          | some q =>
            rw [hq] at h
            cases q with
            | fault j' e' =>
              simp only [Option.some.injEq, Res.fault.injEq] at h
              have := inner_code f (n + 1) _ _ _ _ _ hq
              omega
            | stop a c j' =>
              simp only at h
              split at h
              · exact inner_code f n _ _ _ _ _ h
              · simp only [Option.some.injEq, Res.fault.injEq] at h; omega
      split at h
      · split at h
        · simp only [Option.some.injEq, Res.fault.injEq] at h; omega
        · cases h
      split at h
      · split at h
        · simp only [Option.some.injEq, Res.fault.injEq] at h; omega
        · exact inner_code f n _ _ _ _ _ h
      split at h
      · split at h
        · simp only [Option.some.injEq, Res.fault.injEq] at h; omega
        · exact inner_code f n _ _ _ _ _ h
      · exact inner_code f n _ _ _ _ _ h
/-- A fault's number. -/
theorem parse_code {s : ByteArray} {bytes : Bool} (hs : Sized s bytes) {i : Nat} {e : Int} (h : parseF s bytes = .fault i e) : e = 3 ∨ e = 90 ∨ e = 91 := by
  unfold parseF at h
  split at h
  · injection h; omega
  · obtain ⟨r, hr, -⟩ := inner_ends hs (s.size + 1) 0 [] [] 0 (by omega) (by omega)
    rw [hr] at h
    cases r with
    | fault j e' =>
      simp only [topF, Ans.fault.injEq] at h
      have := inner_code _ _ _ _ _ _ _ hr
      omega
    | stop a c j =>
      simp only [topF] at h
      split at h
      · injection h; omega
      · cases h

theorem den_or (T : Txt) (ta tb : Rx) (i j : Nat) : den T (altN [ta, tb]) i j ↔ den T ta i j ∨ den T tb i j := by
  simp [altN, den, denAlt]
end Thr

/- The walk of ready at a text that is no pattern; what a match looks like as a value. -/
namespace Go.Proofs.YtanmlgliibgpcaaDoor
open Go.RowKit Thr
set_option linter.unusedVariables false
set_option linter.unusedSimpArgs false

set_option maxRecDepth 100000 in
set_option maxHeartbeats 16000000 in
theorem ready_bad (s : ByteArray) (fold bytes : Bool) (i : Nat) (er : Int) (w : World) (hp : parseF s bytes = .fault i er) (hG : Glob w) (hm : s.size ≤ 9000000000000000000) :
    Calls Tryd.prog 11 #[.string s, .agg #[.bool fold, .bool bytes]] w fun e w' => e = .returned (.pointer none) ∧ Below w.heap.size w w' := by
  have hcode := parse_code (sized_all s bytes) hp
  have hpc := fun W (h : Below w.heap.size w W) => Parse_calls s bytes W (hG.below h) hm
  simp only [hp, ParsePost] at hpc
  have HPC := hide hpc
  clear hpc hp hG
  rcases hcode with rfl | rfl | rfl
  all_goals
    go_enter Tryd.func11, Tryd.ntmps11
    go_wp2_with fail
    refine (unhide HPC _ (by repeat (first | exact Below.refl _ _ | assumption | refine below_drewN ?_ _ | refine Below.drew ?_ | refine below_alloc' ?_ _))).mono ?_
    rintro e w1 ⟨rfl, hb1⟩
    have HB1 := hide (below_then (w := w) (by repeat (first | exact Below.refl _ _ | assumption | refine below_drewN ?_ _ | refine Below.drew ?_ | refine below_alloc' ?_ _)) hb1)
    clear hb1
    unfold zero7
    go_wp2_with fail
    go_ret
    exact ⟨rfl, below_alloc' (unhide HB1) _⟩
/-- ready, of whatever text. -/
theorem ready_any (s : ByteArray) (fold bytes : Bool) (w : World) (hG : Glob w) (hm : s.size ≤ 9000000000000000000) :
    Calls Tryd.prog 11 #[.string s, .agg #[.bool fold, .bool bytes]] w fun e w' => ∃ po, e = .returned (.pointer po) ∧ Below w.heap.size w w' ∧
      (po = none ∨ ∃ bp t, po = some ⟨bp, 0, none⟩ ∧ parseF s bytes = .tree t ∧ ProgAt w'.heap.size w' bp fold bytes (compiled t).2 (compiled t).1) := by
  cases hp : parseF s bytes with
  | fault i er =>
    refine (ready_bad s fold bytes i er w hp hG hm).mono ?_
    rintro e w' ⟨rfl, hb⟩
    exact ⟨none, rfl, hb, .inl rfl⟩
  | tree t =>
    refine (ready_good s fold bytes t w hp hG hm).mono ?_
    rintro e w' ⟨bp, rfl, hb, hpr⟩
    exact ⟨_, rfl, hb, .inr ⟨bp, t, rfl, rfl, hpr⟩⟩
/-- A match, told by its places. -/
def okB : Option (Nat × Nat) → Bool | some _ => true | none => false
def fstP (pl : Nat → Nat) : Option (Nat × Nat) → Nat | some p => pl p.1 | none => 0
def sndP (pl : Nat → Nat) : Option (Nat × Nat) → Nat | some p => pl p.2 | none => 0
theorem foundVal_eq (pl : Nat → Nat) (o : Option (Nat × Nat)) : foundVal pl o = .tuple #[.int .i64 (fstP pl o), .int .i64 (sndP pl o), .bool (okB o)] := by
  cases o <;> rfl
/-- Find, at whatever place. -/
theorem find_any {N bp : Nat} {fold bytes : Bool} {t : Rx} (ht : Makes t) (s : ByteArray) (from_ : Int) (w : World) (hP : ProgAt N w bp fold bytes (compiled t).2 (compiled t).1) (hN : N ≤ w.heap.size) (hT : Tabs w) (hm : s.size ≤ 300) :
    ∃ o, (0 ≤ from_ → Found (txt s fold bytes) (nCh s bytes) (place s bytes) t from_ o) ∧ (from_ < 0 → o = none) ∧
      Calls Tryd.prog 9 #[.pointer (some ⟨bp, 0, none⟩), .string s, .int .i64 from_] w fun e w' => e = .returned (.tuple #[.int .i64 (fstP (place s bytes) o), .int .i64 (sndP (place s bytes) o), .bool (okB o)]) ∧ Below w.heap.size w w' := by
  by_cases h0 : from_ < 0
  · refine ⟨none, fun h => by omega, fun _ => rfl, ?_⟩
    refine (Find_less bp s from_ w h0).mono ?_
    rintro e w' ⟨rfl, rfl⟩
    exact ⟨rfl, Below.refl _ _⟩
  · obtain ⟨o, ho⟩ := found_ends (txt_fine s fold bytes) (place s bytes) ht from_
    refine ⟨o, fun _ => ho, fun h => by omega, ?_⟩
    rw [← foundVal_eq]
    obtain ⟨n, rfl⟩ : ∃ n : Nat, from_ = n := ⟨from_.toNat, by omega⟩
    exact Find_calls ht s n o w hP hN hT (by omega) (by omega) ho
theorem place_top (s : ByteArray) (bytes : Bool) (k : Nat) : place s bytes k ≤ s.size := place_le (sized_all s bytes) k
theorem fst_le (s : ByteArray) (bytes : Bool) (o : Option (Nat × Nat)) : fstP (place s bytes) o ≤ s.size := by
  cases o with
  | none => exact Nat.zero_le _
  | some p => exact place_top s bytes p.1
theorem snd_le (s : ByteArray) (bytes : Bool) (o : Option (Nat × Nat)) : sndP (place s bytes) o ≤ s.size := by
  cases o with
  | none => exact Nat.zero_le _
  | some p => exact place_top s bytes p.2
end Go.Proofs.YtanmlgliibgpcaaDoor

/- The walk of NfaChoice. -/
namespace Go.Proofs.YtanmlgliibgpcaaDoor
open Go.RowKit Thr
set_option linter.unusedVariables false
set_option linter.unusedSimpArgs false

def choiceT (a b : ByteArray) : ByteArray := { data := #[40] } ++ a ++ { data := #[41, 124, 40] } ++ b ++ { data := #[41] }
theorem choice_list (a b : ByteArray) : (choiceT a b).data.toList = [40] ++ a.data.toList ++ [41, 124, 40] ++ b.data.toList ++ [41] := by
  simp [choiceT]
theorem choice_size (a b : ByteArray) : (choiceT a b).size = a.size + b.size + 5 := by
  have h : (choiceT a b).data.toList.length = (choiceT a b).size := Array.length_toList
  have h1 : a.data.toList.length = a.size := Array.length_toList
  have h2 : b.data.toList.length = b.size := Array.length_toList
  rw [← h, choice_list]
  simp only [List.length_append, List.length_cons, List.length_nil]
  omega
theorem choice_byt (a b : ByteArray) (i : Nat) (c : UInt8) (h : ([40] ++ a.data.toList ++ [41, 124, 40] ++ b.data.toList ++ [41])[i]? = some c) : byt (choiceT a b) i = c.toNat := by
  rw [← choice_list] at h
  exact ((byt_list _ _ _).1 h).2
theorem ext_of_list {s a : ByteArray} {o : Nat} {l r : List UInt8} (h : s.data.toList = l ++ a.data.toList ++ (41 :: r)) (hl : l.length = o) : Ext s a o := by
  have h0 : s.data.toList.length = s.size := Array.length_toList
  have h1 : a.data.toList.length = a.size := Array.length_toList
  have hz : s.size = o + a.size + (r.length + 1) := by
    rw [← h0, h]
    simp only [List.length_append, List.length_cons]
    omega
  refine ⟨by omega, ?_, ?_⟩
  · apply ByteArray.ext
    apply Array.toList_inj.1
    rw [ByteArray.data_extract, Array.toList_extract, h, List.extract]
    rw [List.append_assoc, List.drop_append_of_le_length (by omega), List.drop_of_length_le (l := l) (by omega), List.nil_append]
    rw [List.take_append_of_le_length (by omega), List.take_of_length_le (by omega)]
  · have : s.data.toList[o + a.size]? = some 41 := by
      rw [h, List.getElem?_append_right (by simp only [List.length_append]; omega)]
      simp only [List.length_append]
      rw [show o + a.size - (l.length + a.data.toList.length) = 0 by omega]
      rfl
    exact ((byt_list _ _ _).1 this).2
theorem choice_tree {a b : ByteArray} {ta tb tc : Rx} (ha : parseF a false = .tree ta) (hb : parseF b false = .tree tb) (hc : parseF (choiceT a b) false = .tree tc) : tc = altN [ta, tb] := by
  have h1 : a.data.toList.length = a.size := Array.length_toList
  refine parse_choice (fun s => sized_all s false) ha hb hc ?_ ?_ ?_ ?_ ?_ (choice_size a b)
  · exact choice_byt a b 0 40 (by simp)
  · exact ext_of_list (l := [40]) (r := [124, 40] ++ b.data.toList ++ [41]) (by rw [choice_list]; simp) rfl
  · refine choice_byt a b (a.size + 2) 124 ?_
    rw [List.append_assoc, List.append_assoc, List.getElem?_append_right (by simp <;> omega)]
    simp only [List.length_append, List.length_cons, List.length_nil]
    rw [show a.size + 2 - (0 + 1 + a.data.toList.length) = 1 by omega]
    rfl
  · refine choice_byt a b (a.size + 3) 40 ?_
    rw [List.append_assoc, List.append_assoc, List.getElem?_append_right (by simp <;> omega)]
    simp only [List.length_append, List.length_cons, List.length_nil]
    rw [show a.size + 3 - (0 + 1 + a.data.toList.length) = 2 by omega]
    rfl
  · exact ext_of_list (l := [40] ++ a.data.toList ++ [41, 124, 40]) (r := []) (by rw [choice_list]) (by simp <;> omega)

def pick : Option (Nat × Nat) → Option (Nat × Nat) → Option (Nat × Nat)
  | none, o => o
  | o, none => o
  | some (x, y), some (z, v) => if z < x ∨ z = x ∧ y < v then some (z, v) else some (x, y)
theorem found_pick {T : Txt} {n : Nat} {pl : Nat → Nat} {ta tb : Rx} {f : Int} {oa ob : Option (Nat × Nat)} (ha : Found T n pl ta f oa) (hb : Found T n pl tb f ob) : Found T n pl (altN [ta, tb]) f (pick oa ob) := by
  cases oa with
  | none =>
    cases ob with
    | none =>
      intro k hk hf j hd
      rcases (den_or T ta tb k j).1 hd with h | h
      · exact ha k hk hf j h
      · exact hb k hk hf j h
    | some q =>
      obtain ⟨z, v⟩ := q
      obtain ⟨b1, b2, b3, b4, b5, b6, b7⟩ := hb
      refine ⟨b1, b2, b3, b4, (den_or T ta tb z v).2 (.inr b5), fun j hd => ?_, fun k hk hf j hd => ?_⟩
      · rcases (den_or T ta tb z j).1 hd with h | h
        · exact absurd h (ha z b1 b4 j)
        · exact b6 j h
      · rcases (den_or T ta tb k j).1 hd with h | h
        · exact ha k (by omega) hf j h
        · exact b7 k hk hf j h
  | some p =>
    obtain ⟨x, y⟩ := p
    obtain ⟨a1, a2, a3, a4, a5, a6, a7⟩ := ha
    cases ob with
    | none =>
      refine ⟨a1, a2, a3, a4, (den_or T ta tb x y).2 (.inl a5), fun j hd => ?_, fun k hk hf j hd => ?_⟩
      · rcases (den_or T ta tb x j).1 hd with h | h
        · exact a6 j h
        · exact absurd h (hb x a1 a4 j)
      · rcases (den_or T ta tb k j).1 hd with h | h
        · exact a7 k hk hf j h
        · exact hb k (by omega) hf j h
    | some q =>
      obtain ⟨z, v⟩ := q
      obtain ⟨b1, b2, b3, b4, b5, b6, b7⟩ := hb
      simp only [pick]
      by_cases hc : z < x ∨ z = x ∧ y < v
      · rw [if_pos hc]
        refine ⟨b1, b2, b3, b4, (den_or T ta tb z v).2 (.inr b5), fun j hd => ?_, fun k hk hf j hd => ?_⟩
        · rcases (den_or T ta tb z j).1 hd with h | h
          · rcases hc with hc | ⟨rfl, hc⟩
            · exact absurd h (a7 z hc b4 j)
            · have := a6 j h; omega
          · exact b6 j h
        · rcases (den_or T ta tb k j).1 hd with h | h
          · exact a7 k (by omega) hf j h
          · exact b7 k hk hf j h
      · rw [if_neg hc]
        refine ⟨a1, a2, a3, a4, (den_or T ta tb x y).2 (.inl a5), fun j hd => ?_, fun k hk hf j hd => ?_⟩
        · rcases (den_or T ta tb x j).1 hd with h | h
          · exact a6 j h
          · by_cases e : z = x
            · subst e
              have := b6 j h; omega
            · exact absurd h (b7 x (by omega) a4 j)
        · rcases (den_or T ta tb k j).1 hd with h | h
          · exact a7 k hk hf j h
          · exact b7 k (by omega) hf j h

set_option maxRecDepth 100000 in
set_option maxHeartbeats 64000000 in
theorem choice_calls (a b S : ByteArray) (from_ : Int) (w : World) (hG : Glob w) (hf0 : -9223372036854775808 ≤ from_) (hf1 : from_ ≤ 9223372036854775807) (ha : a.size ≤ 140737488351232) (hb : b.size ≤ 140737488351232) (hS : S.size ≤ 9223372036854775807) :
    Calls Tryd.prog 4 #[.string a, .string b, .agg #[.string S, .int .i64 from_]] w fun e w' => e = .returned (.bool true) ∧ Below w.heap.size w w' := by
  have hfx := fun W (h : Below w.heap.size w W) => fixed_calls W (hG.below h)
  have HFX := hide hfx; have HG := hide hG
  clear hfx hG
  by_cases h300 : 300 < S.size
  · have c1 : decide ((300 : Int) < S.size) = true := decide_eq_true (by omega)
    have c2 : decide ((S.size : Int) > 300) = true := decide_eq_true (by omega)
    have c3 : decide (300 < S.size) = true := decide_eq_true (by omega)
    go_enter Tryd.func4, Tryd.ntmps4
    go_wp2_with fail
    refine (unhide HFX _ (by repeat (first | exact Below.refl _ _ | assumption | refine below_drewN ?_ _ | refine Below.drew ?_ | refine below_alloc' ?_ _))).mono ?_
    rintro e w1 ⟨rfl, hb1⟩
    have d0 := ((bcell hb1).1 w.heap.size 0 (by simp)).trans (show _ = some (.string S) by go_simp)
    have HB1 := hide (below_then (w := w) (by repeat (first | exact Below.refl _ _ | assumption | refine below_drewN ?_ _ | refine Below.drew ?_ | refine below_alloc' ?_ _)) hb1)
    clear hb1
    go_wp2_with fail
    go_ret
    exact ⟨rfl, unhide HB1⟩
  have c1 : decide ((300 : Int) < S.size) = false := decide_eq_false (by omega)
  have c2 : decide ((S.size : Int) > 300) = false := decide_eq_false (by omega)
  have c3 : decide (300 < S.size) = false := decide_eq_false (by omega)
  have hS3 : S.size ≤ 300 := by omega
  by_cases h500 : 500 < a.size + b.size
  · have e1 : decide ((500 : Int) < (a.size : Int) + b.size) = true := decide_eq_true (by omega)
    have e2 : decide ((a.size : Int) + b.size > 500) = true := decide_eq_true (by omega)
    have e3 : decide (500 < a.size + b.size) = true := decide_eq_true (by omega)
    have e4 : (500 : Int) < (a.size : Int) + b.size := by omega
    clear h300 hS
    go_enter Tryd.func4, Tryd.ntmps4
    go_wp2_with fail
    refine (unhide HFX _ (by repeat (first | exact Below.refl _ _ | assumption | refine below_drewN ?_ _ | refine Below.drew ?_ | refine below_alloc' ?_ _))).mono ?_
    rintro e w1 ⟨rfl, hb1⟩
    have d0 := ((bcell hb1).1 w.heap.size 0 (by simp)).trans (show _ = some (.string S) by go_simp)
    have HB1 := hide (below_then (w := w) (by repeat (first | exact Below.refl _ _ | assumption | refine below_drewN ?_ _ | refine Below.drew ?_ | refine below_alloc' ?_ _)) hb1)
    clear hb1
    go_wp2_with fail
    go_ret
    exact ⟨rfl, unhide HB1⟩
  have e1 : decide ((500 : Int) < (a.size : Int) + b.size) = false := decide_eq_false (by omega)
  have e2 : decide ((a.size : Int) + b.size > 500) = false := decide_eq_false (by omega)
  have e3 : decide (500 < a.size + b.size) = false := decide_eq_false (by omega)
  have e4 : ¬ (500 : Int) < (a.size : Int) + b.size := by omega
  have ha5 : a.size ≤ 500 := by omega
  have hb5 : b.size ≤ 500 := by omega
  clear h300 hS h500 ha hb
  go_enter Tryd.func4, Tryd.ntmps4
  go_wp2_with fail
  refine (unhide HFX _ (by repeat (first | exact Below.refl _ _ | assumption | refine below_drewN ?_ _ | refine Below.drew ?_ | refine below_alloc' ?_ _))).mono ?_
  rintro e w1 ⟨rfl, hb1⟩
  have d0 := ((bcell hb1).1 w.heap.size 0 (by simp)).trans (show _ = some (.string S) by go_simp)
  have d1 := ((bcell hb1).1 w.heap.size 1 (by simp)).trans (show _ = some (.int .i64 from_) by go_simp)
  have hz1 : w.heap.size < w1.heap.size := by have := hb1.size; simp at this; omega
  have HB1 := hide (below_then (w := w) (by repeat (first | exact Below.refl _ _ | assumption | refine below_drewN ?_ _ | refine Below.drew ?_ | refine below_alloc' ?_ _)) hb1)
  clear hb1
  have hr1 := ready_any a false false w1 ((unhide HG).below (unhide HB1)) (by omega)
  have HR1 := hide hr1
  clear hr1
  go_wp2_with fail
  refine (unhide HR1).mono ?_
  rintro e w2 ⟨po1, rfl, hb2, hp1⟩
  have HB2 := hide (below_then (unhide HB1) hb2); have HP1 := hide hp1
  have d0' := ((bcell hb2).1 w.heap.size 0 hz1).trans d0
  have d1' := ((bcell hb2).1 w.heap.size 1 hz1).trans d1
  have hz2 : w.heap.size < w2.heap.size := by have := hb2.size; omega
  have hr2 := ready_any b false false w2 ((unhide HG).below (unhide HB2)) (by omega)
  have HR2 := hide hr2; have HBB2 := hide hb2
  clear hb2 hp1 hr2
  go_wp2_with fail
  refine (unhide HR2).mono ?_
  rintro e w3 ⟨po2, rfl, hb3, hp2⟩
  have HB3 := hide (below_then (unhide HB2) hb3); have HP2 := hide hp2
  have d0'' := ((bcell hb3).1 w.heap.size 0 hz2).trans d0'
  have d1'' := ((bcell hb3).1 w.heap.size 1 hz2).trans d1'
  have hz3 : w.heap.size < w3.heap.size := by have := hb3.size; omega
  have HBB3 := hide hb3
  clear hb3 hp2 d0 d1 d0' d1'
  have hcz := choice_size a b
  have hr3 := ready_any (choiceT a b) false false w3 ((unhide HG).below (unhide HB3)) (by omega)
  have HR3 := hide hr3
  clear hr3 hcz
  go_wp2_with fail
  refine (unhide HR3).mono ?_
  rintro e w4 ⟨po3, rfl, hb4, hp3⟩
  have HB4 := hide (below_then (unhide HB3) hb4); have HP3 := hide hp3
  have d0 := ((bcell hb4).1 w.heap.size 0 hz3).trans d0''
  have d1 := ((bcell hb4).1 w.heap.size 1 hz3).trans d1''
  have hz4 : w.heap.size < w4.heap.size := by have := hb4.size; omega
  have HBB4 := hide hb4
  clear hb4 hp3 d0'' d1''
  rcases unhide HP1 with rfl | ⟨bp1, ta, rfl, hta, hpr1⟩
  · clear HP1
    go_wp2_with fail
    go_ret
    exact ⟨rfl, unhide HB4⟩
  rcases unhide HP2 with rfl | ⟨bp2, tb, rfl, htb, hpr2⟩
  · clear HP2 HP1 hpr1
    go_wp2_with fail
    go_ret
    exact ⟨rfl, unhide HB4⟩
  rcases unhide HP3 with rfl | ⟨bp3, tc, rfl, htc, hpr3⟩
  · clear HP3 HP2 HP1 hpr1 hpr2
    go_wp2_with fail
    go_ret
    exact ⟨rfl, unhide HB4⟩
  clear HP1 HP2 HP3
  have hmk : ∀ (x : ByteArray) (tx : Rx), parseF x false = .tree tx → Makes tx := fun x tx h => by
    have hgood := parse_good (sized_all x false) h
    exact valids_makes _ (validTop_valids (by unfold validTop; simp [hgood.1, hgood.2])).1
  obtain rfl := choice_tree hta htb htc
  have hmka := hmk a ta hta
  have hmkb := hmk b tb htb
  have hmkc := hmk _ _ htc
  have hpr1' := ((hpr1.below (unhide HBB3)).below ((unhide HBB4).mono (unhide HBB3).size))
  have hpr2' := hpr2.below (unhide HBB4)
  have hsz3 := (unhide HBB3).size
  have hsz4 := (unhide HBB4).size
  by_cases hneg : from_ < 0
  · have f1 := fun W => Find_less bp1 S from_ W hneg
    have f2 := fun W => Find_less bp2 S from_ W hneg
    have f3 := fun W => Find_less bp3 S from_ W hneg
    rw [show foundVal (place S true) none = .tuple #[.int .i64 0, .int .i64 0, .bool false] from rfl] at f1 f2 f3
    have F1 := hide f1; have F2 := hide f2; have F3 := hide f3
    clear f1 f2 f3 hpr1 hpr2 hpr3 hpr1' hpr2' hmk hmka hmkb hmkc
    go_wp2_with fail
    refine (unhide F1 _).mono ?_
    rintro e w5 ⟨rfl, hw⟩
    obtain rfl := hw.symm
    go_wp2_with fail
    refine (unhide F2 _).mono ?_
    rintro e w5 ⟨rfl, hw⟩
    obtain rfl := hw.symm
    go_wp2_with fail
    refine (unhide F3 _).mono ?_
    rintro e w5 ⟨rfl, hw⟩
    obtain rfl := hw.symm
    go_wp2_with fail
    go_ret
    exact ⟨rfl, unhide HB4⟩
  obtain ⟨n, rfl⟩ : ∃ n : Nat, from_ = n := ⟨from_.toNat, by omega⟩
  obtain ⟨oa, hoa⟩ := found_ends (txt_fine S false false) (place S false) hmka n
  obtain ⟨ob, hob⟩ := found_ends (txt_fine S false false) (place S false) hmkb n
  have hoc := found_pick hoa hob
  have f1 := fun (W : World) (hb : Below w4.heap.size w4 W) => Find_calls hmka S n oa W (hpr1'.below (hb.mono (by omega))) (by have := hb.size; omega) ((unhide HG).below (below_then (unhide HB4) hb)).tabs (by omega) (by omega) hoa
  have f2 := fun (W : World) (hb : Below w4.heap.size w4 W) => Find_calls hmkb S n ob W (hpr2'.below (hb.mono (by omega))) (by have := hb.size; omega) ((unhide HG).below (below_then (unhide HB4) hb)).tabs (by omega) (by omega) hob
  have f3 := fun (W : World) (hb : Below w4.heap.size w4 W) => Find_calls hmkc S n (pick oa ob) W (hpr3.below hb) hb.size ((unhide HG).below (below_then (unhide HB4) hb)).tabs (by omega) (by omega) hoc
  simp only [foundVal_eq] at f1 f2 f3
  have hpa := fst_le S false oa
  have hqa := snd_le S false oa
  have hpb := fst_le S false ob
  have hqb := snd_le S false ob
  have hval : (oa = none ∧ ob = none) ∨ (∃ pb, oa = none ∧ ob = some pb) ∨ (∃ pa, oa = some pa ∧ ob = none) ∨ (∃ pa pb, oa = some pa ∧ ob = some pb) := by
    cases oa <;> cases ob <;> simp
  have F1 := hide f1; have F2 := hide f2; have F3 := hide f3; have HOA := hide hoa; have HOB := hide hob
  clear f1 f2 f3 hpr1 hpr2 hpr3 hpr1' hpr2' hmk hmka hmkb hmkc hoc hneg hoa hob
  go_wp2_with fail
  refine (unhide F1 _ (Below.refl _ _)).mono ?_
  rintro e w5 ⟨rfl, hb5⟩
  have x0 := ((bcell hb5).1 w.heap.size 0 hz4).trans d0
  have x1 := ((bcell hb5).1 w.heap.size 1 hz4).trans d1
  have hz5 : w.heap.size < w5.heap.size := by have := hb5.size; omega
  have HB5 := hide hb5
  clear hb5 d0 d1
  go_wp2_with fail
  refine (unhide F2 _ (unhide HB5)).mono ?_
  rintro e w6 ⟨rfl, hb6⟩
  have y0 := ((bcell hb6).1 w.heap.size 0 hz5).trans x0
  have y1 := ((bcell hb6).1 w.heap.size 1 hz5).trans x1
  have hz6 : w.heap.size < w6.heap.size := by have := hb6.size; omega
  have HB6 := hide (below_then (unhide HB5) hb6)
  clear hb6 x0 x1
  go_wp2_with fail
  refine (unhide F3 _ (unhide HB6)).mono ?_
  rintro e w7 ⟨rfl, hb7⟩
  have HB7 := hide (below_then (unhide HB4) (below_then (unhide HB6) hb7))
  clear hb7 y0 y1
  rcases hval with ⟨rfl, rfl⟩ | ⟨pb, rfl, rfl⟩ | ⟨pa, rfl, rfl⟩ | ⟨pa, pb, rfl, rfl⟩
  · simp only [okB, fstP, sndP, pick]
    go_wp2_with fail
    go_ret
    exact ⟨rfl, unhide HB7⟩
  · simp only [okB, fstP, sndP, pick]
    go_wp2_with fail
    go_ret
    exact ⟨rfl, unhide HB7⟩
  · simp only [okB, fstP, sndP, pick]
    go_wp2_with fail
    go_ret
    exact ⟨rfl, unhide HB7⟩
  · obtain ⟨x, y⟩ := pa
    obtain ⟨z, v⟩ := pb
    obtain ⟨a1, a2, a3, -⟩ := unhide HOA
    obtain ⟨b1, b2, b3, -⟩ := unhide HOB
    have hZ := sized_all S false
    clear hpa hqa hpb hqb F1 F2 F3 HOA HOB
    rcases Nat.lt_trichotomy z x with hc | hc | hc
    · have h1 := place_mono hZ hc a1
      have hp : pick (some (x, y)) (some (z, v)) = some (z, v) := by simp only [pick]; rw [if_pos (.inl hc)]
      rw [hp]
      simp only [okB, fstP, sndP]
      generalize place S false x = px at *
      generalize place S false y = py at *
      generalize place S false z = pz at *
      generalize place S false v = pv at *
      have g1 : (pz : Int) < (px : Int) := by omega
      clear hc hp hZ
      go_wp2_with fail
      go_ret
      exact ⟨rfl, unhide HB7⟩
    · subst hc
      by_cases hv : y < v
      · have h1 := place_mono hZ hv b2
        have hp : pick (some (z, y)) (some (z, v)) = some (z, v) := by simp only [pick]; rw [if_pos (by simp [hv])]
        rw [hp]
        simp only [okB, fstP, sndP]
        generalize place S false y = py at *
        generalize place S false z = pz at *
        generalize place S false v = pv at *
        have g1 : (py : Int) < (pv : Int) := by omega
        clear hv hp hZ
        go_wp2_with fail
        go_ret
        exact ⟨rfl, unhide HB7⟩
      · have h1 : place S false v ≤ place S false y := by
          by_cases e : v = y
          · subst e; exact Nat.le_refl _
          · exact Nat.le_of_lt (place_mono hZ (by omega) a2)
        have hp : pick (some (z, y)) (some (z, v)) = some (z, y) := by simp only [pick]; rw [if_neg (by omega)]
        rw [hp]
        simp only [okB, fstP, sndP]
        generalize place S false y = py at *
        generalize place S false z = pz at *
        generalize place S false v = pv at *
        have g1 : (pv : Int) ≤ (py : Int) := by omega
        clear hv hp hZ
        go_wp2_with fail
        go_ret
        exact ⟨rfl, unhide HB7⟩
    · have h1 := place_mono hZ hc b1
      have hp : pick (some (x, y)) (some (z, v)) = some (x, y) := by simp only [pick]; rw [if_neg (by omega)]
      rw [hp]
      simp only [okB, fstP, sndP]
      generalize place S false x = px at *
      generalize place S false y = py at *
      generalize place S false z = pz at *
      generalize place S false v = pv at *
      have g1 : (px : Int) < (pz : Int) := by omega
      have g2 : ((pz : Int) == (px : Int)) = false := by simp; omega
      clear hc hp hZ
      go_wp2_with fail
      go_ret
      exact ⟨rfl, unhide HB7⟩
end Go.Proofs.YtanmlgliibgpcaaDoor
