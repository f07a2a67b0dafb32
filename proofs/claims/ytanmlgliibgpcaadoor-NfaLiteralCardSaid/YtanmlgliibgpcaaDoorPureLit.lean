/- Plain Lean: a text of letters and digits as a pattern. -/
import Derived.Test.YtanmlgliibgpcaaDoorPureParse
import Derived.Test.YtanmlgliibgpcaaDoorPureSeg
import Derived.Lib.IndexMore
namespace Thr

def litByte (b : Int) : Prop := 97 ≤ b ∧ b ≤ 122 ∨ 48 ≤ b ∧ b ≤ 57
theorem next_bytes {s : ByteArray} {i : Nat} (hi : i < s.size) : nextF s i true = (byt s i, 1) := by
  unfold nextF
  rw [if_neg (by omega), if_pos rfl, Int.toNat_natCast]
theorem plain_inner {s : ByteArray} (h : ∀ i, i < s.size → litByte (byt s i)) : ∀ (f i : Nat) (cat : List Rx), i ≤ s.size → s.size - i < f →
    innerF s true f 0 [] cat i = some (.stop [] (cat ++ ((List.range' i (s.size - i)).map fun k => chrN (byt s k))) s.size)
  | 0, i, cat, hi, hf => by omega
  | f + 1, i, cat, hi, hf => by
    simp only [innerF]
    by_cases hge : s.size ≤ i
    · rw [if_pos hge]
      obtain rfl : i = s.size := by omega
      simp
    · rw [if_neg hge]
      have hb := h i (by omega)
      unfold litByte at hb
      have ha : againF s i = .no := by
        unfold againF
        rw [if_neg (by omega), if_neg (by omega), if_neg (by omega), if_neg (by omega)]
      have hag : (if cat = [] then Again.no else againF s i) = .no := by rw [ha, ite_self]
      rw [hag]
      simp only
      rw [if_neg (by omega), if_neg (by omega), if_neg (by omega), if_neg (by omega), if_neg (by omega), next_bytes (by omega)]
      have hp : plainF (byt s i) = chrN (byt s i) := by unfold plainF; rw [if_neg (by omega), if_neg (by omega), if_neg (by omega)]
      simp only [hp]
      rw [show i + (1 : Int).toNat = i + 1 from rfl, plain_inner h f (i + 1) _ (by omega) (by omega), show s.size - i = (s.size - (i + 1)) + 1 by omega, List.range'_succ]
      simp
def litCat (s : ByteArray) : List Rx := (List.range s.size).map fun k => chrN (byt s k)
theorem weights_lit (s : ByteArray) : ∀ (l : List Nat) (n : Int), 0 ≤ n → n + l.length ≤ 1000000 → weightsF (l.map fun k => chrN (byt s k)) n = n + l.length
  | [], n, h, _ => by simp [weightsF]
  | k :: l, n, h, h1 => by
    have hw : weightF (chrN (byt s k)) = 1 := by simp [chrN, weightF, weightsF, bigW]; omega
    have hb : bigW = 1048576 := rfl
    simp only [List.length_cons] at h1 ⊢
    simp only [List.map_cons, weightsF, hw]
    rw [show min (n + 1) bigW = n + 1 by omega, weights_lit s l (n + 1) (by omega) (by omega)]
    omega
theorem lit_weight (s : ByteArray) (h : s.size ≤ 150) : weightF (joinF (litCat s)) ≤ 200 := by
  have hb : bigW = 1048576 := rfl
  have hl : (litCat s).length = s.size := by simp [litCat]
  have hw := weights_lit s (List.range s.size) 0 (by omega) (by simp; omega)
  have e : weightsF (litCat s) 0 = 0 + s.size := by simpa [litCat] using hw
  cases hc : litCat s with
  | nil => simp [joinF, leaf, weightF, weightsF, bigW]; omega
  | cons x l =>
    cases l with
    | nil =>
      rw [hc] at e hl
      simp only [joinF]
      have : x ∈ litCat s := by rw [hc]; simp
      simp only [litCat, List.mem_map] at this
      obtain ⟨k, _, rfl⟩ := this
      simp [chrN, weightF, weightsF, bigW]; omega
    | cons y l =>
      rw [hc] at e
      simp only [joinF, catN, weightF]
      rw [if_pos trivial, e]
      omega
theorem parse_lit {s : ByteArray} (h : ∀ i, i < s.size → litByte (byt s i)) (hs : s.size ≤ 150) : parseF s true = .tree (joinF (litCat s)) := by
  unfold parseF
  rw [if_neg (by omega), plain_inner h (s.size + 1) 0 [] (by omega) (by omega)]
  have e : shutF [] ([] ++ ((List.range' 0 (s.size - 0)).map fun k => chrN (byt s k))) = joinF (litCat s) := by
    simp [shutF, oneF, litCat, List.range_eq_range']
  simp only [topF, e]
  have := lit_weight s hs
  rw [if_neg (by omega)]

/-! ### Where it is found -/
theorem den_chr (T : Txt) (c : Int) (i j : Nat) : den T (chrN c) i j ↔ j = T.nxt i ∧ T.has i = true ∧ T.fit (chrN c) i = true := by
  simp [chrN, den]
theorem den_join (T : Txt) (l : List Rx) (i j : Nat) : den T (joinF l) i j ↔ denCat T l i j := by
  cases l with
  | nil => simp [joinF, leaf, den, denCat]
  | cons x l =>
    cases l with
    | nil => simp [joinF, denCat]
    | cons y l => simp [joinF, catN, den]
theorem seg_bytes (s : ByteArray) : ∀ (f i : Nat), i ≤ s.size → s.size - i ≤ f → seg s true f i = (List.range' i (s.size - i)).map fun k => (k, byt s k)
  | 0, i, hi, hf => by
    obtain rfl : i = s.size := by omega
    simp [seg]
  | f + 1, i, hi, hf => by
    simp only [seg]
    by_cases h : i < s.size
    · rw [if_pos h, next_bytes h, show i + ((byt s i, (1 : Int)).2).toNat = i + 1 from rfl, seg_bytes s f (i + 1) (by omega) (by omega), show s.size - i = (s.size - (i + 1)) + 1 by omega, List.range'_succ]
      simp
    · rw [if_neg h, show s.size - i = 0 by omega]
      simp
theorem nCh_bytes (s : ByteArray) : nCh s true = s.size := by
  unfold nCh chs
  rw [seg_bytes s s.size 0 (by omega) (by omega)]
  simp
theorem place_bytes (s : ByteArray) {k : Nat} (hk : k ≤ s.size) : place s true k = k := by
  unfold place plOf chs
  rw [seg_bytes s s.size 0 (by omega) (by omega)]
  by_cases h : k < s.size
  · rw [List.getElem?_map, List.getElem?_range' (by omega)]
    simp
  · obtain rfl : k = s.size := by omega
    rw [List.getElem?_eq_none (by simp)]
theorem code_bytes (s : ByteArray) {k : Nat} (hk : k < s.size) : codeK s true k = byt s k := by
  unfold codeK cdOf chs
  rw [seg_bytes s s.size 0 (by omega) (by omega), List.getElem?_map, List.getElem?_range' (by omega)]
  simp
/-- A text stands at a place. -/
def Occurs (S t : ByteArray) (k : Nat) : Prop := k + t.size ≤ S.size ∧ ∀ m, m < t.size → byt S (k + m) = byt t m
theorem den_lits (S t : ByteArray) : ∀ (n a i j : Nat), denCat (txt S false true) ((List.range' a n).map fun k => chrN (byt t k)) i j ↔ j = i + n ∧ ∀ m, m < n → i + m < S.size ∧ byt S (i + m) = byt t (a + m)
  | 0, a, i, j => by simp [denCat]; exact ⟨fun h => h.symm, fun h => h.symm⟩
  | n + 1, a, i, j => by
    rw [List.range'_succ]
    simp only [List.map_cons, denCat]
    have hfit : ∀ c, (txt S false true).has i = true ∧ (txt S false true).fit (chrN c) i = true ↔ i < S.size ∧ byt S i = c := by
      intro c
      simp only [txt, nCh_bytes, decide_eq_true_eq]
      constructor
      · rintro ⟨h1, h2⟩
        rw [code_bytes S h1] at h2
        exact ⟨h1, by simp [fitsF, chrN, Rx.kind, Rx.code] at h2; exact of_decide_eq_true h2⟩
      · rintro ⟨h1, h2⟩
        rw [code_bytes S h1]
        refine ⟨h1, ?_⟩
        simp [fitsF, chrN, Rx.kind, Rx.code]
        exact decide_eq_true h2
    constructor
    · rintro ⟨l, h1, h2⟩
      rw [den_chr] at h1
      obtain ⟨rfl, h1⟩ := h1
      rw [hfit] at h1
      obtain ⟨rfl, h3⟩ := (den_lits S t n (a + 1) _ _).1 h2
      refine ⟨by simp only [txt]; omega, fun m hm => ?_⟩
      cases m with
      | zero => exact h1
      | succ m =>
        have := h3 m (by omega)
        simp only [txt] at this
        rw [show i + (m + 1) = i + 1 + m by omega, show a + (m + 1) = a + 1 + m by omega]
        exact this
    · rintro ⟨rfl, h⟩
      refine ⟨i + 1, ?_, ?_⟩
      · rw [den_chr, hfit]
        exact ⟨rfl, h 0 (by omega)⟩
      · rw [den_lits S t n (a + 1)]
        refine ⟨by omega, fun m hm => ?_⟩
        have := h (m + 1) (by omega)
        rw [show i + 1 + m = i + (m + 1) by omega, show a + 1 + m = a + (m + 1) by omega]
        exact this
theorem den_lit (S t : ByteArray) (i j : Nat) (hi : i ≤ S.size) : den (txt S false true) (joinF (litCat t)) i j ↔ j = i + t.size ∧ Occurs S t i := by
  rw [den_join]
  have e : litCat t = (List.range' 0 t.size).map fun k => chrN (byt t k) := by simp [litCat, List.range_eq_range']
  rw [e, den_lits]
  unfold Occurs
  constructor
  · rintro ⟨rfl, h⟩
    refine ⟨rfl, ?_, fun m hm => ?_⟩
    · rcases Nat.eq_zero_or_pos t.size with h0 | h0
      · omega
      · have := (h (t.size - 1) (by omega)).1
        omega
    · simpa using (h m hm).2
  · rintro ⟨rfl, h1, h2⟩
    exact ⟨rfl, fun m hm => ⟨by omega, by simpa using h2 m hm⟩⟩

theorem byt_get (s : ByteArray) (i : Nat) (hi : i < s.size) : s.data.toList[i]? = some (s[i]'hi) := by
  rw [Array.getElem?_toList]
  exact Array.getElem?_eq_getElem hi
theorem occurs_at (S t : ByteArray) (a j : Nat) (ha : a ≤ S.size) : Go.Lib.occAt (S.extract a S.size).data.toList t.data.toList j = true ↔ (a + j + t.size ≤ S.size ∨ t.size = 0) ∧ ∀ m, m < t.size → byt S (a + j + m) = byt t m := by
  have hl : (S.extract a S.size).data.toList = S.data.toList.drop a := by
    simp [ByteArray.data_extract, Array.toList_extract, List.extract]
    rw [List.take_of_length_le]
    rw [List.length_drop, Array.length_toList]
    exact Nat.le_refl _
  unfold Go.Lib.occAt
  rw [hl, List.drop_drop, List.isPrefixOf_iff_prefix]
  have hsz : ∀ x : ByteArray, x.data.toList.length = x.size := fun x => by rw [Array.length_toList]; rfl
  constructor
  · intro h
    have hle := h.length_le
    rw [List.length_drop, hsz, hsz] at hle
    refine ⟨by omega, fun m hm => ?_⟩
    have h1 := List.IsPrefix.getElem h (i := m) (by rw [hsz]; exact hm)
    rw [List.getElem_drop] at h1
    have hb : a + j + m < S.size := by omega
    unfold byt
    rw [dif_pos hb, dif_pos hm]
    have e1 : t.data.toList[m]'(by rw [hsz]; exact hm) = t[m]'hm := by rw [Array.getElem_toList]; rfl
    have e2 : S.data.toList[a + j + m]'(by rw [hsz]; exact hb) = S[a + j + m]'hb := by rw [Array.getElem_toList]; rfl
    rw [← e1, ← e2, h1]
  · rintro ⟨h1, h2⟩
    refine List.prefix_iff_eq_take.2 ?_
    apply List.ext_getElem?
    intro m
    rw [List.getElem?_take, hsz]
    by_cases hm : m < t.size
    · rw [if_pos hm, List.getElem?_drop, byt_get t m hm, byt_get S (a + j + m) (by omega)]
      have := h2 m hm
      unfold byt at this
      rw [dif_pos (by omega), dif_pos hm] at this
      congr 1
      apply UInt8.toNat_inj.1
      omega
    · rw [if_neg hm, List.getElem?_eq_none (by rw [hsz]; omega)]
end Thr
