/- Plain Lean: the document's example. -/
import Derived.Test.YtanmlgliibgpcaaDoorPureLitB
import Derived.Test.YtanmlgliibgpcaaDoorNfaL
namespace Go.Proofs.YtanmlgliibgpcaaDoor
open Go.RowKit Thr

def fixedP : ByteArray := lit [97, 124, 97, 98, 124, 40, 98, 124, 99, 41, 43]
def fixedS : ByteArray := lit [120, 97, 98, 99, 98]
def fixedT : Rx := altN [chrN 97, catN [chrN 97, chrN 98], repN 1 (-1) (altN [chrN 98, chrN 99])]
theorem fixed_parse : parseF fixedP false = .tree fixedT := by kernel_rfl
theorem fixed_valid : validTop fixedT = true := by kernel_rfl
theorem fixed_makes : Makes fixedT := valids_makes _ (validTop_valids fixed_valid).1
theorem fixed_count : nCh fixedS false = 5 := by kernel_rfl
theorem fixed_place : ∀ k, k ≤ 5 → place fixedS false k = k := by
  intro k hk
  have : k = 0 ∨ k = 1 ∨ k = 2 ∨ k = 3 ∨ k = 4 ∨ k = 5 := by omega
  rcases this with rfl | rfl | rfl | rfl | rfl | rfl
  · exact (by kernel_rfl : place fixedS false 0 = 0)
  · exact (by kernel_rfl : place fixedS false 1 = 1)
  · exact (by kernel_rfl : place fixedS false 2 = 2)
  · exact (by kernel_rfl : place fixedS false 3 = 3)
  · exact (by kernel_rfl : place fixedS false 4 = 4)
  · exact (by kernel_rfl : place fixedS false 5 = 5)
def fixedC (k : Nat) (c : Int) : Prop := (txt fixedS false false).has k = true ∧ (txt fixedS false false).fit (chrN c) k = true
theorem den_chr' (c : Int) (i j : Nat) : den (txt fixedS false false) (chrN c) i j ↔ j = i + 1 ∧ fixedC i c := den_chr _ c i j
theorem fixed_no (k : Nat) (c : Int) (h : codeK fixedS false k ≠ c) : ¬ fixedC k c := by
  rintro ⟨_, h2⟩
  apply h
  simp [txt, fitsF, chrN, Rx.kind, Rx.code] at h2
  exact of_decide_eq_true h2
theorem den_pair (i j : Nat) : den (txt fixedS false false) (altN [chrN 98, chrN 99]) i j ↔ j = i + 1 ∧ (fixedC i 98 ∨ fixedC i 99) := by
  have e : den (txt fixedS false false) (altN [chrN 98, chrN 99]) i j ↔ den (txt fixedS false false) (chrN 98) i j ∨ den (txt fixedS false false) (chrN 99) i j := by
    simp [altN, den, denAlt]
  rw [e, den_chr', den_chr']
  constructor
  · rintro (⟨h, k⟩ | ⟨h, k⟩)
    · exact ⟨h, .inl k⟩
    · exact ⟨h, .inr k⟩
  · rintro ⟨h, k | k⟩
    · exact .inl ⟨h, k⟩
    · exact .inr ⟨h, k⟩
theorem den_fixed (i j : Nat) : den (txt fixedS false false) fixedT i j ↔ (j = i + 1 ∧ fixedC i 97) ∨ (j = i + 2 ∧ fixedC i 97 ∧ fixedC (i + 1) 98) ∨ ∃ m : Nat, 1 ≤ m ∧ iter (den (txt fixedS false false) (altN [chrN 98, chrN 99])) m i j := by
  have e : den (txt fixedS false false) fixedT i j ↔ den (txt fixedS false false) (chrN 97) i j ∨ den (txt fixedS false false) (catN [chrN 97, chrN 98]) i j ∨ den (txt fixedS false false) (repN 1 (-1) (altN [chrN 98, chrN 99])) i j := by
    simp [fixedT, altN, den, denAlt]
  rw [e, den_chr']
  have e2 : den (txt fixedS false false) (catN [chrN 97, chrN 98]) i j ↔ j = i + 2 ∧ fixedC i 97 ∧ fixedC (i + 1) 98 := by
    simp only [catN, den, denCat]
    rw [if_neg (by omega), if_pos trivial]
    constructor
    · rintro ⟨l, h1, l', h2, rfl⟩
      rw [den_chr'] at h1 h2
      obtain ⟨rfl, h1⟩ := h1
      exact ⟨h2.1, h1, h2.2⟩
    · rintro ⟨rfl, h1, h2⟩
      exact ⟨i + 1, (den_chr' _ _ _).2 ⟨rfl, h1⟩, i + 2, (den_chr' _ _ _).2 ⟨rfl, h2⟩, rfl⟩
  have e3 : den (txt fixedS false false) (repN 1 (-1) (altN [chrN 98, chrN 99])) i j ↔ ∃ m : Nat, 1 ≤ m ∧ iter (den (txt fixedS false false) (altN [chrN 98, chrN 99])) m i j := by
    simp only [repN, den, denHd]
    rw [if_neg (by omega), if_neg (by omega), if_neg (by omega), if_pos trivial]
    constructor
    · rintro ⟨m, h1, _, h2⟩; exact ⟨m, by omega, h2⟩
    · rintro ⟨m, h1, h2⟩; exact ⟨m, by omega, .inl (by omega), h2⟩
  rw [e2, e3]
theorem fixed_first {i j : Nat} (h : ∃ m : Nat, 1 ≤ m ∧ iter (den (txt fixedS false false) (altN [chrN 98, chrN 99])) m i j) : fixedC i 98 ∨ fixedC i 99 := by
  obtain ⟨m, h1, h2⟩ := h
  cases m with
  | zero => omega
  | succ m =>
    obtain ⟨k, h3, _⟩ := h2
    exact ((den_pair i k).1 h3).2
theorem code0 : codeK fixedS false 0 = 120 := by kernel_rfl
theorem code1 : codeK fixedS false 1 = 97 := by kernel_rfl
theorem code2 : codeK fixedS false 2 = 98 := by kernel_rfl
theorem yes1 : fixedC 1 97 := ⟨by kernel_rfl, by kernel_rfl⟩
theorem yes2 : fixedC 2 98 := ⟨by kernel_rfl, by kernel_rfl⟩
theorem yes3 : fixedC 3 99 := ⟨by kernel_rfl, by kernel_rfl⟩
theorem yes4 : fixedC 4 98 := ⟨by kernel_rfl, by kernel_rfl⟩
theorem fixed_a : Found (txt fixedS false false) (nCh fixedS false) (place fixedS false) fixedT 0 (some (1, 3)) := by
  rw [fixed_count]
  refine ⟨by omega, by omega, by omega, by rw [fixed_place 1 (by omega)]; omega, (den_fixed _ _).2 (.inr (.inl ⟨rfl, yes1, yes2⟩)), fun j hd => ?_, fun k hk hf j hd => ?_⟩
  · rcases (den_fixed _ _).1 hd with ⟨rfl, _⟩ | ⟨rfl, _⟩ | h
    · omega
    · omega
    · rcases fixed_first h with h | h
      · exact absurd h (fixed_no _ _ (by rw [code1]; omega))
      · exact absurd h (fixed_no _ _ (by rw [code1]; omega))
  · obtain rfl : k = 0 := by omega
    have hn : ∀ c, c ≠ 120 → ¬ fixedC 0 c := fun c hc => fixed_no _ _ (by rw [code0]; omega)
    rcases (den_fixed _ _).1 hd with ⟨_, h⟩ | ⟨_, h, _⟩ | h
    · exact hn _ (by omega) h
    · exact hn _ (by omega) h
    · rcases fixed_first h with h | h
      · exact hn _ (by omega) h
      · exact hn _ (by omega) h
theorem fixed_b : Found (txt fixedS false false) (nCh fixedS false) (place fixedS false) fixedT 2 (some (2, 5)) := by
  have hle := den_le (txt_fine fixedS false false) fixedT 2
  rw [fixed_count] at hle ⊢
  refine ⟨by omega, by omega, by omega, by rw [fixed_place 2 (by omega)]; omega, (den_fixed _ _).2 (.inr (.inr ⟨3, by omega, 3, (den_pair _ _).2 ⟨rfl, .inl yes2⟩, 4, (den_pair _ _).2 ⟨rfl, .inr yes3⟩, 5, (den_pair _ _).2 ⟨rfl, .inl yes4⟩, rfl⟩)), fun j hd => (hle j (by omega) hd).2, fun k hk hf j hd => ?_⟩
  rw [fixed_place k (by omega)] at hf
  omega
end Go.Proofs.YtanmlgliibgpcaaDoor
