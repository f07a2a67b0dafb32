/- Plain Lean: where a text of letters and digits is found. -/
import Derived.Test.YtanmlgliibgpcaaDoorPureLit
import Derived.Test.YtanmlgliibgpcaaDoorNfaF
namespace Go.Proofs.YtanmlgliibgpcaaDoor
open Go.RowKit Thr

def litEnd (S t : ByteArray) (from_ : Nat) : Option (Nat × Nat) :=
  if Lib.index (S.extract from_ S.size).data.toList t.data.toList < 0 then none
  else some (from_ + (Lib.index (S.extract from_ S.size).data.toList t.data.toList).toNat, from_ + (Lib.index (S.extract from_ S.size).data.toList t.data.toList).toNat + t.size)
theorem occurs_iff (S t : ByteArray) (a j : Nat) (ha : a + j ≤ S.size) : Lib.occAt (S.extract a S.size).data.toList t.data.toList j = true ↔ Occurs S t (a + j) := by
  rw [occurs_at S t a j (by omega)]
  unfold Occurs
  constructor
  · rintro ⟨h1, h2⟩; exact ⟨by omega, h2⟩
  · rintro ⟨h1, h2⟩; exact ⟨.inl h1, h2⟩
theorem found_lit (S t : ByteArray) (from_ : Nat) (h1 : from_ ≤ S.size) : Found (txt S false true) (nCh S true) (place S true) (joinF (litCat t)) from_ (litEnd S t from_) := by
  have hsz : (S.extract from_ S.size).data.toList.length = S.size - from_ := by
    rw [Array.length_toList]
    show (S.extract from_ S.size).size = _
    simp [ByteArray.size_extract]
  unfold litEnd
  rw [nCh_bytes]
  rcases Lib.index_spec (S.extract from_ S.size).data.toList t.data.toList with ⟨i1, i2⟩ | ⟨i, i1, i2, i3, i4⟩
  · rw [i1, if_pos (by omega)]
    intro k hk hf j hd
    rw [place_bytes S hk] at hf
    rw [den_lit S t k j hk] at hd
    have := i2 (k - from_) (by omega)
    rw [← Bool.not_eq_true, occurs_iff S t from_ (k - from_) (by omega), show from_ + (k - from_) = k by omega] at this
    exact this hd.2
  · rw [i1, if_neg (by omega), Int.toNat_natCast]
    rw [occurs_iff S t from_ i (by omega)] at i3
    have i3' := i3.1
    refine ⟨by omega, by omega, by omega, by rw [place_bytes S (by omega)]; omega, (den_lit S t _ _ (by omega)).2 ⟨rfl, i3⟩, fun j hd => ?_, fun k hk hf j hd => ?_⟩
    · rw [den_lit S t _ j (by omega)] at hd
      omega
    · rw [place_bytes S (by omega)] at hf
      rw [den_lit S t k j (by omega)] at hd
      have := i4 (k - from_) (by omega)
      rw [← Bool.not_eq_true, occurs_iff S t from_ (k - from_) (by omega), show from_ + (k - from_) = k by omega] at this
      exact this hd.2
theorem found_past (S : ByteArray) (t : Rx) (bytes fold : Bool) (from_ : Int) (h : (S.size : Int) < from_) : Found (txt S fold bytes) (nCh S bytes) (place S bytes) t from_ none := by
  intro k hk hf
  have := place_le (sized_all S bytes) k
  omega
end Go.Proofs.YtanmlgliibgpcaaDoor
