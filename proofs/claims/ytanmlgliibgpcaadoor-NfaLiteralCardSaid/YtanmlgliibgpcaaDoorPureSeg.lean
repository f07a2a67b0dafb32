/- Plain Lean: a string as its characters; the text that a pattern is looked for in. -/
import Derived.Test.YtanmlgliibgpcaaDoorPureFit
namespace Thr

/-- What is known of a size and a code: from the walk's side. -/
structure Sized (s : ByteArray) (bytes : Bool) : Prop where
  at_ : ∀ i : Nat, i < s.size → 1 ≤ (nextF s i bytes).2 ∧ (nextF s i bytes).2 ≤ s.size - i ∧ 0 ≤ (nextF s i bytes).1 ∧ (nextF s i bytes).1 ≤ 1114367

def seg (s : ByteArray) (bytes : Bool) : Nat → Nat → List (Nat × Int)
  | 0, _ => []
  | f + 1, i => if i < s.size then (i, (nextF s i bytes).1) :: seg s bytes f (i + (nextF s i bytes).2.toNat) else []

def plOf (s : ByteArray) (l : List (Nat × Int)) (k : Nat) : Nat := match l[k]? with | some c => c.1 | none => s.size
def cdOf (l : List (Nat × Int)) (k : Nat) : Int := match l[k]? with | some c => c.2 | none => -1

theorem plOf_cons_succ (s : ByteArray) (c : Nat × Int) (l : List (Nat × Int)) (k : Nat) : plOf s (c :: l) (k + 1) = plOf s l k := by simp [plOf]
theorem cdOf_cons_succ (c : Nat × Int) (l : List (Nat × Int)) (k : Nat) : cdOf (c :: l) (k + 1) = cdOf l k := by simp [cdOf]

theorem seg_known {s : ByteArray} {bytes : Bool} (hs : Sized s bytes) : ∀ (f i : Nat), i ≤ s.size → s.size - i ≤ f →
    plOf s (seg s bytes f i) 0 = i ∧ ∀ k, k < (seg s bytes f i).length → plOf s (seg s bytes f i) k < plOf s (seg s bytes f i) (k + 1) ∧ plOf s (seg s bytes f i) (k + 1) ≤ s.size ∧
      nextF s (plOf s (seg s bytes f i) k) bytes = (cdOf (seg s bytes f i) k, (plOf s (seg s bytes f i) (k + 1) : Int) - plOf s (seg s bytes f i) k)
  | 0, i, hi, hf => by
    refine ⟨?_, fun k hk => ?_⟩
    · simp [seg, plOf]; omega
    · simp [seg] at hk
  | f + 1, i, hi, hf => by
    by_cases hlt : i < s.size
    · obtain ⟨a1, a2, a3, a4⟩ := hs.at_ i hlt
      obtain ⟨ih1, ih2⟩ := seg_known hs f (i + (nextF s i bytes).2.toNat) (by omega) (by omega)
      simp only [seg, if_pos hlt]
      refine ⟨by simp [plOf], fun k hk => ?_⟩
      cases k with
      | zero =>
        rw [plOf_cons_succ, ih1]
        refine ⟨by simp [plOf]; omega, by omega, ?_⟩
        have e1 : plOf s ((i, (nextF s i bytes).1) :: seg s bytes f (i + (nextF s i bytes).2.toNat)) 0 = i := by simp [plOf]
        have e2 : cdOf ((i, (nextF s i bytes).1) :: seg s bytes f (i + (nextF s i bytes).2.toNat)) 0 = (nextF s i bytes).1 := by simp [cdOf]
        rw [e1, e2]
        refine Prod.ext rfl ?_
        simp only; omega
      | succ k =>
        rw [plOf_cons_succ, plOf_cons_succ, cdOf_cons_succ]
        exact ih2 k (by simpa using hk)
    · simp only [seg, if_neg hlt]
      exact ⟨by simp [plOf]; omega, fun k hk => by simp at hk⟩

def chs (s : ByteArray) (bytes : Bool) : List (Nat × Int) := seg s bytes s.size 0
def nCh (s : ByteArray) (bytes : Bool) : Nat := (chs s bytes).length
/-- The place of a character's number (from 0 on); the end behind the last. -/
def place (s : ByteArray) (bytes : Bool) (k : Nat) : Nat := plOf s (chs s bytes) k
/-- Its code; -1: there is none. -/
def codeK (s : ByteArray) (bytes : Bool) (k : Nat) : Int := cdOf (chs s bytes) k
def aheadK (s : ByteArray) (bytes : Bool) : Nat → Int
  | 0 => -1
  | k + 1 => codeK s bytes k

section
variable {s : ByteArray} {bytes : Bool}
theorem place_zero (hs : Sized s bytes) : place s bytes 0 = 0 := (seg_known hs s.size 0 (by omega) (by omega)).1
theorem place_end {k : Nat} (hk : nCh s bytes ≤ k) : place s bytes k = s.size := by
  unfold place plOf
  rw [List.getElem?_eq_none (by unfold nCh at hk; exact hk)]
theorem code_end {k : Nat} (hk : nCh s bytes ≤ k) : codeK s bytes k = -1 := by
  unfold codeK cdOf
  rw [List.getElem?_eq_none (by unfold nCh at hk; exact hk)]
theorem place_step (hs : Sized s bytes) {k : Nat} (hk : k < nCh s bytes) : place s bytes k < place s bytes (k + 1) ∧ place s bytes (k + 1) ≤ s.size ∧
    nextF s (place s bytes k) bytes = (codeK s bytes k, (place s bytes (k + 1) : Int) - place s bytes k) := (seg_known hs s.size 0 (by omega) (by omega)).2 k hk
theorem place_le (hs : Sized s bytes) (k : Nat) : place s bytes k ≤ s.size := by
  by_cases hk : k < nCh s bytes
  · have := place_step hs hk; omega
  · rw [place_end (by omega)]; omega
theorem place_mono (hs : Sized s bytes) : ∀ {i j : Nat}, i < j → j ≤ nCh s bytes → place s bytes i < place s bytes j
  | i, j + 1, hij, hj => by
    have h1 := (place_step hs (k := j) (by omega)).1
    by_cases h : i = j
    · subst h; exact h1
    · have := place_mono hs (i := i) (j := j) (by omega) (by omega); omega
theorem place_inj (hs : Sized s bytes) {i j : Nat} (hi : i ≤ nCh s bytes) (hj : j ≤ nCh s bytes) (h : place s bytes i = place s bytes j) : i = j := by
  rcases Nat.lt_trichotomy i j with h1 | h1 | h1
  · have := place_mono hs h1 hj; omega
  · exact h1
  · have := place_mono hs h1 hi; omega
theorem code_range (hs : Sized s bytes) {k : Nat} (hk : k < nCh s bytes) : 0 ≤ codeK s bytes k ∧ codeK s bytes k ≤ 1114367 := by
  obtain ⟨h1, h2, h3⟩ := place_step hs hk
  have := hs.at_ (place s bytes k) (by omega)
  rw [h3] at this
  exact ⟨this.2.2.1, this.2.2.2⟩
theorem nCh_le (hs : Sized s bytes) : nCh s bytes ≤ s.size := by
  have : ∀ k, k ≤ nCh s bytes → k ≤ place s bytes k := by
    intro k
    induction k with
    | zero => intro _; omega
    | succ k ih => intro hk; have := ih (by omega); have := (place_step hs (k := k) (by omega)).1; omega
  have h := this _ (Nat.le_refl _)
  rw [place_end (Nat.le_refl _)] at h
  exact h
/-- The program's look at a place. -/
theorem codeAt_place (hs : Sized s bytes) (k : Nat) : codeAt s (place s bytes k) bytes = (codeK s bytes k, (place s bytes (k + 1) : Int) - place s bytes k) := by
  unfold codeAt
  by_cases hk : k < nCh s bytes
  · obtain ⟨h1, h2, h3⟩ := place_step hs hk
    rw [h3]
    rw [if_neg (by simp only; omega)]
  · have e1 : place s bytes k = s.size := place_end (by omega)
    have e2 : place s bytes (k + 1) = s.size := place_end (by omega)
    have e3 : codeK s bytes k = -1 := code_end (by omega)
    have e4 : nextF s (place s bytes k) bytes = (0, 0) := by unfold nextF; rw [if_pos (by omega)]
    rw [e4, if_pos rfl, e1, e2, e3]
    simp
end

/-- The text that a pattern is looked for in: by the numbers of its characters. -/
def txt (s : ByteArray) (fold bytes : Bool) : Txt :=
  { has := fun k => decide (k < nCh s bytes), nxt := fun k => k + 1, fit := fun t k => fitsF t (codeK s bytes k) fold bytes,
    hold := fun t k => checkF t.kind (aheadK s bytes k) (codeK s bytes k) }

theorem txt_fine (s : ByteArray) (fold bytes : Bool) : (txt s fold bytes).Fine (nCh s bytes) := ⟨fun i hi => by simp only [txt, decide_eq_true_eq] at hi ⊢; omega⟩
end Thr
