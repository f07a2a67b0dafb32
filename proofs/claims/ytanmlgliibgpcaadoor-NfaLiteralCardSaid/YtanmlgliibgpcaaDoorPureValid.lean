/- Plain Lean: which trees may be, how heavy they are, how many instructions are made of them. -/
import Derived.Test.YtanmlgliibgpcaaDoorPureNfa
namespace Thr

def nearF (x : Int) : Option (Int × Int) → Bool
  | none => false
  | some q => decide (x ≤ q.2 + 1)
/-- A range of a set that may not stand at its place. -/
def badAt (set : List (Int × Int)) (i : Nat) : Bool :=
  match set[i]? with
  | none => false
  | some r => decide (r.1 < 0) || decide (r.1 > r.2) || decide (r.2 > 1114367) || (decide (0 < i) && nearF r.1 set[i - 1]?)
def setOkF (set : List (Int × Int)) : Bool := (List.range set.length).all fun i => !badAt set i
def validF : Rx → Bool
  | .mk kind _ _ set mn mx kids =>
    if kind = 5 ∨ kind = 6 then decide (1 < kids.length)
    else if kind = 7 then decide (kids.length = 1) && decide (0 ≤ mn) && decide (mn ≤ 30) && decide (-1 ≤ mx) && decide (mx ≤ 30) && (decide (mx < 0) || decide (mn ≤ mx))
    else if kind = 4 then setOkF set && decide (kids.length = 0)
    else decide (kids.length = 0) && decide (1 ≤ kind) && decide (kind ≤ 13)
mutual
def withinF : Rx → Nat → Bool
  | .mk kind code neg set mn mx kids => fun d => match d with
    | 0 => false
    | d + 1 => validF (.mk kind code neg set mn mx kids) && withinAll kids d
def withinAll : List Rx → Nat → Bool
  | [] => fun _ => true
  | k :: ks => fun d => withinF k d && withinAll ks d
end
def bigW : Int := 1048576
mutual
def weightF : Rx → Int
  | .mk kind _ _ _ mn mx kids =>
    if kind = 5 then weightsF kids 0
    else if kind = 7 then min (weightsF kids 0 * (if mx < 0 then min (max mn 0) bigW + 1 else min (max mx 0) bigW) + 1) bigW
    else min (weightsF kids 0 + 1) bigW
def weightsF : List Rx → Int → Int
  | [], n => n
  | k :: ks, n => weightsF ks (min (n + weightF k) bigW)
end
-- Each node is valid.
mutual
def Valids : Rx → Prop
  | .mk kind code neg set mn mx kids => validF (.mk kind code neg set mn mx kids) = true ∧ ValidsAll kids
def ValidsAll : List Rx → Prop
  | [] => True
  | k :: ks => Valids k ∧ ValidsAll ks
end
mutual
theorem within_valids : ∀ (t : Rx) (d : Nat), withinF t d = true → Valids t
  | .mk kind code neg set mn mx kids, 0, h => by simp [withinF] at h
  | .mk kind code neg set mn mx kids, d + 1, h => by
    simp only [withinF, Bool.and_eq_true] at h
    exact ⟨h.1, withinAll_valids kids d h.2⟩
theorem withinAll_valids : ∀ (ks : List Rx) (d : Nat), withinAll ks d = true → ValidsAll ks
  | [], d, h => by simp [ValidsAll]
  | k :: ks, d, h => by
    simp only [withinAll, Bool.and_eq_true] at h
    exact ⟨within_valids k d h.1, withinAll_valids ks d h.2⟩
end
theorem ValidsAll.get : ∀ {ks : List Rx}, ValidsAll ks → ∀ k ∈ ks, Valids k
  | [], _, k, hk => by simp at hk
  | k' :: ks, h, k, hk => by
    rcases List.mem_cons.1 hk with rfl | hk
    · exact h.1
    · exact ValidsAll.get h.2 k hk

/-- What validity says of each kind. -/
theorem valid_many {kind code : Int} {neg : Bool} {set : List (Int × Int)} {mn mx : Int} {kids : List Rx} (h : validF (.mk kind code neg set mn mx kids) = true) (hk : kind = 5 ∨ kind = 6) : 1 < kids.length := by
  simpa [validF, if_pos hk] using h
theorem valid_rep {code : Int} {neg : Bool} {set : List (Int × Int)} {mn mx : Int} {kids : List Rx} (h : validF (.mk 7 code neg set mn mx kids) = true) : (∃ k, kids = [k]) ∧ 0 ≤ mn ∧ mn ≤ 30 ∧ -1 ≤ mx ∧ mx ≤ 30 ∧ (0 ≤ mx → mn ≤ mx) := by
  simp [validF] at h
  obtain ⟨⟨⟨⟨⟨h1, h2⟩, h3⟩, h4⟩, h5⟩, h6⟩ := h
  refine ⟨?_, h2, h3, h4, h5, by omega⟩
  match kids, h1 with
  | [k], _ => exact ⟨k, rfl⟩
theorem valid_leaf {kind code : Int} {neg : Bool} {set : List (Int × Int)} {mn mx : Int} {kids : List Rx} (h : validF (.mk kind code neg set mn mx kids) = true) (h5 : kind ≠ 5) (h6 : kind ≠ 6) (h7 : kind ≠ 7) : kids = [] ∧ 1 ≤ kind ∧ kind ≤ 13 := by
  simp only [validF] at h
  rw [if_neg (by simp [h5, h6]), if_neg h7] at h
  by_cases h4 : kind = 4
  · rw [if_pos h4] at h
    simp at h
    exact ⟨h.2, by omega, by omega⟩
  · rw [if_neg h4] at h
    simp at h
    exact ⟨h.1.1, h.1.2, h.2⟩

mutual
theorem valids_makes : ∀ t : Rx, Valids t → Makes t
  | .mk kind code neg set mn mx kids, h => by
    refine ⟨fun hk => ?_, fun hk => ?_, validsAll_makes kids h.2⟩
    · have := valid_many h.1 (.inr hk)
      intro e; rw [e] at this; simp at this
    · subst hk
      obtain ⟨⟨k, hk⟩, h1, h2, h3, h4, h5⟩ := valid_rep h.1
      exact ⟨by rw [hk]; simp, h1, h5⟩
theorem validsAll_makes : ∀ ks : List Rx, ValidsAll ks → MakesAll ks
  | [], _ => by simp [MakesAll]
  | k :: ks, h => ⟨valids_makes k h.1, validsAll_makes ks h.2⟩
end

/-! ### How many instructions -/
mutual
theorem weight_pos : ∀ t : Rx, Valids t → 1 ≤ weightF t
  | .mk kind code neg set mn mx kids, h => by
    have hs := weights_le kids 0 (by omega) (by unfold bigW; omega) h.2
    simp only [weightF]
    have hb : bigW = 1048576 := rfl
    by_cases h5 : kind = 5
    · rw [if_pos h5]
      have := valid_many h.1 (.inl h5)
      omega
    · rw [if_neg h5]
      by_cases h7 : kind = 7
      · rw [if_pos h7]
        subst h7
        obtain ⟨⟨k, hk⟩, h1, h2, h3, h4, h5⟩ := valid_rep h.1
        have h0 : 0 ≤ weightsF kids 0 * (if mx < 0 then min (max mn 0) bigW + 1 else min (max mx 0) bigW) := by
          refine Int.mul_nonneg (by omega) ?_
          split <;> omega
        omega
      · rw [if_neg h7]; omega
theorem weights_le : ∀ (ks : List Rx) (n : Int), 0 ≤ n → n ≤ bigW → ValidsAll ks → n ≤ weightsF ks n ∧ weightsF ks n ≤ bigW ∧ (ks = [] ∨ 1 ≤ weightsF ks n) ∧ (ks.length > 0 → n < bigW → n < weightsF ks n)
  | [], n, h0, hn, h => by simp [weightsF]; exact hn
  | k :: ks, n, h0, hn, h => by
    have h1 := weight_pos k h.1
    have h2 := weights_le ks (min (n + weightF k) bigW) (by have : bigW = 1048576 := rfl; omega) (by omega) h.2
    have hb : bigW = 1048576 := rfl
    simp only [weightsF]
    refine ⟨by omega, h2.2.1, .inr (by omega), fun _ _ => by omega⟩
end
/-- The weights one behind the other, of those that are not too heavy. -/
theorem weights_cons {k : Rx} {ks : List Rx} {n : Int} (hn : 0 ≤ n) (h : ValidsAll (k :: ks)) (hw : weightsF (k :: ks) n < bigW) : n + weightF k ≤ weightsF (k :: ks) n ∧ weightsF (k :: ks) n = weightsF ks (n + weightF k) := by
  have h1 := weight_pos k h.1
  have hb : bigW = 1048576 := rfl
  simp only [weightsF] at hw ⊢
  by_cases hm : n + weightF k ≤ bigW
  · rw [show min (n + weightF k) bigW = n + weightF k by omega] at hw ⊢
    have := weights_le ks (n + weightF k) (by omega) hm h.2
    exact ⟨this.1, rfl⟩
  · rw [show min (n + weightF k) bigW = bigW by omega] at hw
    have := weights_le ks bigW (by omega) (Int.le_refl _) h.2
    omega
theorem times_len {F : Int → List Inst → Int × List Inst} {c : Nat} (hF : ∀ n I, (F n I).2.length ≤ I.length + c) : ∀ (m : Nat) (n : Int) (I : List Inst), (timesF F m n I).2.length ≤ I.length + m * c
  | 0, n, I => by simp [timesF]
  | m + 1, n, I => by
    simp only [timesF]
    have := times_len hF m (F n I).1 (F n I).2
    have := hF n I
    rw [Nat.add_mul]; omega
theorem opt_len {F : Int → List Inst → Int × List Inst} {c : Nat} (hF : ∀ n I, (F n I).2.length ≤ I.length + c) : ∀ (m : Nat) (n : Int) (I : List Inst), (optF F m n I).2.length ≤ I.length + m * (c + 1)
  | 0, n, I => by simp [optF]
  | m + 1, n, I => by
    simp only [optF]
    have a := opt_len hF m (F n I).2.length ((F n I).2 ++ [⟨2, noNode, (F n I).1, n⟩])
    have b := hF n I
    rw [List.length_append, List.length_singleton] at a
    rw [Nat.add_mul]; omega
theorem setX_len (I : List Inst) (n : Nat) (c : Int) : (setX I n c).length = I.length := by
  unfold setX
  split <;> simp
mutual
theorem make_len : ∀ (t : Rx), Valids t → weightF t < bigW → ∀ (next : Int) (I : List Inst), ((make t next I).2.length : Int) ≤ I.length + (2 * weightF t - 1)
  | .mk kind code neg set mn mx kids, h, hw, next, I => by
    have hb : bigW = 1048576 := rfl
    have hp := weight_pos _ h
    by_cases h1 : kind = 1
    · simp only [make, if_pos h1]; omega
    rw [make]
    simp only [if_neg h1]
    by_cases h2 : kind = 2 ∨ kind = 3 ∨ kind = 4
    · simp only [if_pos h2, List.length_append, List.length_singleton]; omega
    simp only [if_neg h2]
    by_cases h5 : kind = 5
    · simp only [if_pos h5]
      simp only [weightF, if_pos h5] at hw hp ⊢
      have hm := valid_many h.1 (.inl h5)
      have := makeCat_len kids 0 (by omega) h.2 hw next I
      omega
    simp only [if_neg h5]
    by_cases h6 : kind = 6
    · simp only [if_pos h6]
      simp only [weightF, if_neg h5, if_neg (show ¬ kind = 7 by omega)] at hw hp ⊢
      have hm := valid_many h.1 (.inr h6)
      have := makeAlt_len kids 0 (by omega) (by intro e; rw [e] at hm; simp at hm) h.2 (by omega) next I
      omega
    simp only [if_neg h6]
    by_cases h7 : kind = 7
    · subst h7
      simp only [if_true]
      obtain ⟨⟨k, rfl⟩, r1, r2, r3, r4, r5⟩ := valid_rep h.1
      have hk := h.2.1
      have hkp := weight_pos k hk
      simp only [weightF, weightsF] at hw hp ⊢
      simp only [if_neg (show ¬ (7 : Int) = 5 by omega), if_true] at hw hp ⊢
      by_cases hmx : mx < 0
      · simp only [if_pos hmx] at hw hp ⊢
        have e1 : min (max mn 0) bigW = mn := by omega
        rw [e1] at hw hp ⊢
        have hkw : weightF k < bigW := by
          rcases Int.lt_or_le (weightF k) bigW with h | h
          · exact h
          · rw [show min (0 + weightF k) bigW = bigW by omega] at hw
            have := Int.mul_le_mul_of_nonneg_left (show 1 ≤ mn + 1 by omega) (show 0 ≤ bigW by omega)
            omega
        rw [show min (0 + weightF k) bigW = weightF k by omega] at hw ⊢
        obtain ⟨c, hc⟩ : ∃ c : Nat, (c : Int) = 2 * weightF k - 1 := ⟨(2 * weightF k - 1).toNat, by omega⟩
        have hF : ∀ n I, (makeHd [k] n I).2.length ≤ I.length + c := fun n I => by
          have := make_len k hk hkw n I
          simp only [makeHd]; omega
        have hF' : ∀ F : Int → List Inst → Int × List Inst, F = (fun n J => makeHd [k] n J) → ∀ n I, (F n I).2.length ≤ I.length + c := by
          rintro F rfl n I; exact hF n I
        generalize hFF : (fun n J => makeHd [k] n J) = F
        have hF := hF' F hFF.symm
        have e0 : (mx - mn).toNat = 0 := by omega
        rw [e0]
        simp only [optF]
        have t1 := times_len hF mn.toNat (starF F next I).1 (starF F next I).2
        have t2 : (starF F next I).2.length ≤ I.length + 1 + c := by
          simp only [starF, setX_len]
          have := hF I.length (I ++ [⟨2, noNode, 0, next⟩])
          simp at this ⊢; omega
        obtain ⟨m, rfl⟩ := Int.eq_ofNat_of_zero_le r1
        simp only [Int.toNat_natCast] at t1 ⊢
        have hprod : ((m * c : Nat) : Int) = m * (2 * weightF k - 1) := by rw [Int.natCast_mul, hc]
        have e2 : (m : Int) * (2 * weightF k - 1) = 2 * (weightF k * m) - m := by rw [Int.mul_sub, Int.mul_one, Int.mul_comm (m : Int) (2 * weightF k), Int.mul_assoc]
        have e3 : weightF k * ((m : Int) + 1) = weightF k * m + weightF k := by rw [Int.mul_add, Int.mul_one]
        rw [e3] at hw ⊢
        omega
      · simp only [if_neg hmx] at hw hp ⊢
        have e1 : min (max mx 0) bigW = mx := by omega
        rw [e1] at hw hp ⊢
        have r5' := r5 (by omega)
        by_cases hz : mx = 0
        · subst hz
          have : mn = 0 := by omega
          subst this
          simp only [show ((0 : Int) - 0).toNat = 0 from rfl, show (0 : Int).toNat = 0 from rfl, optF, timesF]
          omega
        have hkw : weightF k < bigW := by
          rcases Int.lt_or_le (weightF k) bigW with h | h
          · exact h
          · rw [show min (0 + weightF k) bigW = bigW by omega] at hw
            have := Int.mul_le_mul_of_nonneg_left (show 1 ≤ mx by omega) (show 0 ≤ bigW by omega)
            omega
        rw [show min (0 + weightF k) bigW = weightF k by omega] at hw ⊢
        obtain ⟨c, hc⟩ : ∃ c : Nat, (c : Int) = 2 * weightF k - 1 := ⟨(2 * weightF k - 1).toNat, by omega⟩
        have hF : ∀ n I, (makeHd [k] n I).2.length ≤ I.length + c := fun n I => by
          have := make_len k hk hkw n I
          simp only [makeHd]; omega
        have hF' : ∀ F : Int → List Inst → Int × List Inst, F = (fun n J => makeHd [k] n J) → ∀ n I, (F n I).2.length ≤ I.length + c := by
          rintro F rfl n I; exact hF n I
        generalize hFF : (fun n J => makeHd [k] n J) = F
        have hF := hF' F hFF.symm
        have t1 := opt_len hF (mx - mn).toNat next I
        have t2 := times_len hF mn.toNat (optF F (mx - mn).toNat next I).1 (optF F (mx - mn).toNat next I).2
        obtain ⟨m, rfl⟩ := Int.eq_ofNat_of_zero_le r1
        obtain ⟨d, hd⟩ : ∃ d : Nat, mx = m + d := ⟨(mx - m).toNat, by omega⟩
        subst hd
        rw [show ((m : Int) + d - m).toNat = d by omega] at t1 t2 ⊢
        simp only [Int.toNat_natCast] at t2 ⊢
        have p1 : ((d * (c + 1) : Nat) : Int) = 2 * (weightF k * d) := by
          rw [Int.natCast_mul, Int.natCast_add, hc]
          rw [show (2 * weightF k - 1 + ((1 : Nat) : Int)) = 2 * weightF k by omega, Int.mul_comm (d : Int), Int.mul_assoc]
        have p2 : ((m * c : Nat) : Int) = 2 * (weightF k * m) - m := by
          rw [Int.natCast_mul, hc, Int.mul_sub, Int.mul_one, Int.mul_comm (m : Int) (2 * weightF k), Int.mul_assoc]
        rw [Int.mul_add] at hw ⊢
        omega
    · simp only [if_neg h7, List.length_append, List.length_singleton]; omega
theorem makeCat_len : ∀ (ks : List Rx) (n : Int), 0 ≤ n → ValidsAll ks → weightsF ks n < bigW → ∀ (next : Int) (I : List Inst), ((makeCat ks next I).2.length : Int) ≤ I.length + 2 * (weightsF ks n - n) - ks.length
  | [], n, h0, h, hw, next, I => by simp [makeCat, weightsF]
  | k :: ks, n, h0, h, hw, next, I => by
    have h1 := weight_pos k h.1
    obtain ⟨w1, w2⟩ := weights_cons h0 h hw
    rw [w2] at hw w1 ⊢
    have hb : bigW = 1048576 := rfl
    have a := makeCat_len ks (n + weightF k) (by omega) h.2 hw next I
    have b := make_len k h.1 (by omega) (makeCat ks next I).1 (makeCat ks next I).2
    simp only [makeCat, List.length_cons]
    omega
theorem makeAlt_len : ∀ (ks : List Rx) (n : Int), 0 ≤ n → ks ≠ [] → ValidsAll ks → weightsF ks n < bigW → ∀ (next : Int) (I : List Inst), ((makeAlt ks next I).2.length : Int) ≤ I.length + 2 * (weightsF ks n - n) - 1
  | [], n, h0, hne, h, hw, next, I => absurd rfl hne
  | k :: ks, n, h0, hne, h, hw, next, I => by
    have h1 := weight_pos k h.1
    obtain ⟨w1, w2⟩ := weights_cons h0 h hw
    rw [w2] at hw w1 ⊢
    have hb : bigW = 1048576 := rfl
    simp only [makeAlt]
    by_cases he : ks = []
    · rw [if_pos he]
      subst he
      simp only [weightsF] at hw ⊢
      have b := make_len k h.1 (by omega) next I
      omega
    · rw [if_neg he]
      have a := makeAlt_len ks (n + weightF k) (by omega) he h.2 hw next I
      have b := make_len k h.1 (by omega) next (makeAlt ks next I).2
      simp only [List.length_append, List.length_singleton]
      omega
end
theorem compiled_len {t : Rx} (h : Valids t) (hw : weightF t ≤ 200) : (compiled t).2.length ≤ 400 := by
  have := make_len t h (by have : bigW = 1048576 := rfl; omega) 0 [⟨3, noNode, 0, 0⟩]
  unfold compiled
  simp at this; omega
end Thr
