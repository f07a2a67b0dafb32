/- Where a class is closed: strings.Cut. -/
import Derived.Test.YtanmlgliibgpcaaDoorRxH
namespace Go.Proofs.YtanmlgliibgpcaaDoor
open Go.RowKit Thr
set_option linter.unusedVariables false
set_option linter.unusedSimpArgs false

theorem shutAt_none {s : ByteArray} : ∀ (f k : Nat), s.size ≤ k + f → shutAt s f k = none → ∀ j, k ≤ j → two s j 58 93 = false
  | 0, k, hf, h, j, hj => by simp [two]; omega
  | f + 1, k, hf, h, j, hj => by
    simp only [shutAt] at h
    split at h
    · simp [two]; omega
    · split at h
      · cases h
      · rename_i h1 h2
        rcases Nat.lt_or_ge k j with h3 | h3
        · exact shutAt_none f (k + 1) (by omega) h j h3
        · obtain rfl : j = k := by omega
          simp [two]
          intro _ e1 e2
          exact h2 ⟨e1, e2⟩
theorem shutAt_some {s : ByteArray} : ∀ (f k m : Nat), shutAt s f k = some m → k ≤ m ∧ two s m 58 93 = true ∧ ∀ j, k ≤ j → j < m → two s j 58 93 = false
  | 0, k, m, h => by simp [shutAt] at h
  | f + 1, k, m, h => by
    simp only [shutAt] at h
    split at h
    · cases h
    · rename_i h1
      split at h
      · rename_i h2
        injection h with h
        subst h
        exact ⟨Nat.le_refl _, by simp [two]; exact ⟨by omega, h2⟩, fun j h3 h4 => by omega⟩
      · rename_i h2
        obtain ⟨a, b, c⟩ := shutAt_some f (k + 1) m h
        refine ⟨by omega, b, fun j h3 h4 => ?_⟩
        rcases Nat.lt_or_ge k j with h5 | h5
        · exact c j h5 h4
        · obtain rfl : j = k := by omega
          simp [two]
          intro _ e1 e2
          exact h2 ⟨e1, e2⟩

theorem occ_two (s : ByteArray) (a j : Nat) : Lib.occAt (s.extract a s.size).data.toList [58, 93] j = two s (a + j) 58 93 := by
  unfold Lib.occAt two
  rw [Bool.eq_iff_iff, tail_list, List.drop_drop, decide_eq_true_eq]
  refine (pre_two _ _ _ _).trans ?_
  rw [byt_list, byt_list]
  constructor
  · rintro ⟨⟨_, h1⟩, h2, h3⟩; exact ⟨h2, h1, h3⟩
  · rintro ⟨h2, h1, h3⟩; exact ⟨⟨by omega, h1⟩, h2, h3⟩

theorem cut_none {s : ByteArray} {a : Nat} (h : shutAt s s.size a = none) : (Lib.cut (s.extract a s.size).data.toList [58, 93]).2.2 = false := by
  have hn := shutAt_none _ _ (by omega) h
  rcases Lib.index_spec (s.extract a s.size).data.toList [58, 93] with ⟨h1, _⟩ | ⟨i, h1, h2, h3, h4⟩
  · unfold Lib.cut
    rw [h1]; rfl
  · rw [occ_two, hn _ (by omega)] at h3
    cases h3
theorem cut_some {s : ByteArray} {a k : Nat} (h : shutAt s s.size a = some k) : (Lib.cut (s.extract a s.size).data.toList [58, 93]).2.2 = true ∧ (⟨(Lib.cut (s.extract a s.size).data.toList [58, 93]).1.toArray⟩ : ByteArray) = s.extract a k := by
  obtain ⟨h1, h2, h3⟩ := shutAt_some _ _ _ h
  have hk := (shutAt_le _ _ _ h).2
  have hidx : Lib.index (s.extract a s.size).data.toList [58, 93] = ((k - a : Nat) : Int) := by
    rcases Lib.index_spec (s.extract a s.size).data.toList [58, 93] with ⟨i1, i2⟩ | ⟨i, i1, i2, i3, i4⟩
    · have := i2 (k - a) (by rw [tail_list, List.length_drop, Array.length_toList]; have : s.data.size = s.size := rfl; omega)
      rw [occ_two, show a + (k - a) = k by omega, h2] at this
      cases this
    · rw [i1]
      rw [occ_two] at i3
      rcases Nat.lt_trichotomy (a + i) k with h5 | h5 | h5
      · rw [h3 _ (by omega) h5] at i3; cases i3
      · congr 1; omega
      · have := i4 (k - a) (by omega)
        rw [occ_two, show a + (k - a) = k by omega, h2] at this
        cases this
  unfold Lib.cut
  rw [hidx, if_pos (by omega)]
  refine ⟨rfl, ?_⟩
  apply ByteArray.ext
  apply Array.toList_inj.1
  simp only [Int.toNat_natCast]
  rw [tail_list]
  simp [ByteArray.data_extract, Array.toList_extract, List.extract]
end Go.Proofs.YtanmlgliibgpcaaDoor
