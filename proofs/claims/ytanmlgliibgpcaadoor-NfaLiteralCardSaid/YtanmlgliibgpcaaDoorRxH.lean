/- What see tells, in bytes; where a class is closed. -/
import Derived.Test.YtanmlgliibgpcaaDoorRxG
namespace Go.Proofs.YtanmlgliibgpcaaDoor
open Go.RowKit Thr
set_option linter.unusedVariables false
set_option linter.unusedSimpArgs false

theorem tail_list (s : ByteArray) (i : Nat) : (s.extract i s.size).data.toList = s.data.toList.drop i := by
  simp [ByteArray.data_extract, Array.toList_extract, List.extract]
  rw [List.take_of_length_le]
  rw [List.length_drop, Array.length_toList]
  exact Nat.le_refl _
theorem byt_list (s : ByteArray) (i : Nat) (a : UInt8) : s.data.toList[i]? = some a ↔ i < s.size ∧ byt s i = a.toNat := by
  rw [Array.getElem?_toList]
  constructor
  · intro h
    obtain ⟨h1, h2⟩ := Array.getElem?_eq_some_iff.1 h
    have h1' : i < s.size := h1
    refine ⟨h1', ?_⟩
    rw [← byt_at h1']
    have : s[i] = a := h2
    rw [this]
  · rintro ⟨h1, h2⟩
    rw [← byt_at h1] at h2
    have h3 : s[i] = a := by
      apply UInt8.toNat_inj.1
      omega
    exact Array.getElem?_eq_some_iff.2 ⟨h1, h3⟩
theorem pre_one (l : List UInt8) (i : Nat) (a : UInt8) : [a].isPrefixOf (l.drop i) = true ↔ l[i]? = some a := by
  rw [List.isPrefixOf_iff_prefix]
  constructor
  · rintro ⟨t, h⟩
    have := congrArg (fun x => x[0]?) h
    simp at this
    exact this.symm
  · intro h
    obtain ⟨hi, he⟩ := List.getElem?_eq_some_iff.1 h
    rw [List.drop_eq_getElem_cons hi, he]
    exact ⟨_, rfl⟩
theorem pre_two (l : List UInt8) (i : Nat) (a b : UInt8) : [a, b].isPrefixOf (l.drop i) = true ↔ l[i]? = some a ∧ l[i + 1]? = some b := by
  rw [List.isPrefixOf_iff_prefix]
  constructor
  · rintro ⟨t, h⟩
    have h0 := congrArg (fun x => x[0]?) h
    have h1 := congrArg (fun x => x[1]?) h
    simp at h0 h1
    exact ⟨h0.symm, h1.symm⟩
  · rintro ⟨h0, h1⟩
    obtain ⟨hi, he⟩ := List.getElem?_eq_some_iff.1 h0
    obtain ⟨hi1, he1⟩ := List.getElem?_eq_some_iff.1 h1
    rw [List.drop_eq_getElem_cons hi, List.drop_eq_getElem_cons hi1, he, he1]
    exact ⟨_, rfl⟩
theorem see_one (s : ByteArray) (i : Nat) (a : UInt8) : seeF s i (lit [a]) = one s i a.toNat := by
  unfold seeF one Lib.hasPrefix
  rw [Bool.eq_iff_iff, tail_list, decide_eq_true_eq]
  exact (pre_one _ _ _).trans (byt_list _ _ _)
theorem see_two (s : ByteArray) (i : Nat) (a b : UInt8) : seeF s i (lit [a, b]) = two s i a.toNat b.toNat := by
  unfold seeF two Lib.hasPrefix
  rw [Bool.eq_iff_iff, tail_list, decide_eq_true_eq]
  refine (pre_two _ _ _ _).trans ?_
  rw [byt_list, byt_list]
  constructor
  · rintro ⟨⟨_, h1⟩, h2, h3⟩; exact ⟨h2, h1, h3⟩
  · rintro ⟨h2, h1, h3⟩; exact ⟨⟨by omega, h1⟩, h2, h3⟩
end Go.Proofs.YtanmlgliibgpcaaDoor
