/- The walk of Find. -/
import Derived.Test.YtanmlgliibgpcaaDoorNfaE
namespace Go.Proofs.YtanmlgliibgpcaaDoor
open Go.RowKit Thr
set_option linter.unusedVariables false

/-- The first place from which on there is a match, and where the longest one ends. -/
def Found (T : Txt) (n : Nat) (pl : Nat → Nat) (t : Rx) (from_ : Int) : Option (Nat × Nat) → Prop
  | some (k, e) => k ≤ n ∧ e ≤ n ∧ k ≤ e ∧ from_ ≤ pl k ∧ den T t k e ∧ (∀ j, den T t k j → j ≤ e) ∧ ∀ k', k' < k → from_ ≤ pl k' → ∀ j, ¬ den T t k' j
  | none => ∀ k, k ≤ n → from_ ≤ pl k → ∀ j, ¬ den T t k j
def foundVal (pl : Nat → Nat) : Option (Nat × Nat) → Value
  | some (k, e) => .tuple #[.int .i64 (pl k), .int .i64 (pl e), .bool true]
  | none => .tuple #[.int .i64 0, .int .i64 0, .bool false]

/-- longest, of a program that was made of an expression. -/
theorem longest_den {N bp : Nat} {fold bytes : Bool} {t : Rx} (ht : Makes t) (s : ByteArray) (k : Nat) (w : World) (hP : ProgAt N w bp fold bytes (compiled t).2 (compiled t).1) (hN : N ≤ w.heap.size)
    (hT : Tabs w) (hm : s.size ≤ 140737488351232) (hk : k ≤ nCh s bytes) :
    ∃ r, Last (den (txt s fold bytes) t k) (-1) r ∧ Calls Tryd.prog 18 #[.pointer (some ⟨bp, 0, none⟩), .string s, .int .i64 (place s bytes k), .int .i64 (aheadK s bytes k)] w fun e w' => e = .returned (.int .i64 (endB s bytes r)) ∧ Below w.heap.size w w' := by
  obtain ⟨r, hr, hL⟩ := longest_ends (txt_fine s fold bytes) ht (f := (compiled t).2.length + 1) (k := nCh s bytes - k + 1) (i := k) (by omega) hk (by omega)
  exact ⟨r, hL, longest_calls s k _ _ r w hP hN hT hm hk hr⟩

def atK (s : ByteArray) (bytes : Bool) (k : Nat) : Int := if k ≤ nCh s bytes then (place s bytes k : Int) else (s.size : Int) + 1
theorem atK_next {s : ByteArray} {bytes : Bool} (hZ : Sized s bytes) {k : Nat} (hk : k ≤ nCh s bytes) : (place s bytes k : Int) + max ((place s bytes (k + 1) : Int) - place s bytes k) 1 = atK s bytes (k + 1) := by
  unfold atK
  by_cases h : k + 1 ≤ nCh s bytes
  · rw [if_pos h]
    have := (place_step hZ (k := k) (by omega)).1
    omega
  · rw [if_neg h, place_end (k := k) (by omega), place_end (k := k + 1) (by omega)]
    omega

theorem Found.unique {T : Txt} {n : Nat} {pl : Nat → Nat} {t : Rx} {f : Int} {o o' : Option (Nat × Nat)} (h : Found T n pl t f o) (h' : Found T n pl t f o') : o = o' := by
  cases o with
  | none =>
    cases o' with
    | none => rfl
    | some q => exact absurd h'.2.2.2.2.1 (h q.1 h'.1 h'.2.2.2.1 q.2)
  | some p =>
    cases o' with
    | none => exact absurd h.2.2.2.2.1 (h' p.1 h.1 h.2.2.2.1 p.2)
    | some q =>
      obtain ⟨k, e⟩ := p
      obtain ⟨k', e'⟩ := q
      obtain ⟨_, _, _, a3, a4, a5, a6⟩ := h
      obtain ⟨_, _, _, b3, b4, b5, b6⟩ := h'
      have hk : k = k' := by
        rcases Nat.lt_trichotomy k k' with hlt | hlt | hlt
        · exact absurd a4 (b6 k hlt a3 e)
        · exact hlt
        · exact absurd b4 (a6 k' hlt b3 e')
      subst hk
      have := b5 _ a4
      have := a5 _ b4
      rw [show e = e' by omega]
theorem found_ends {T : Txt} {n : Nat} (hT : T.Fine n) (pl : Nat → Nat) {t : Rx} (ht : Makes t) (f : Int) : ∃ o, Found T n pl t f o := by
  have h : ∀ m, m ≤ n + 1 → (∃ o, Found T n pl t f o) ∨ ∀ k, k < m → f ≤ pl k → ∀ j, ¬ den T t k j := by
    intro m
    induction m with
    | zero => intro _; exact .inr (fun k hk => by omega)
    | succ m ih =>
      intro hm
      rcases ih (by omega) with ih | ih
      · exact .inl ih
      · by_cases hf : f ≤ pl m
        · obtain ⟨r, _, hL⟩ := longest_ends hT ht (f := (compiled t).2.length + 1) (k := n - m + 1) (i := m) (by omega) (by omega) (by omega)
          rcases hL with ⟨_, hn⟩ | ⟨e, _, hd, hmax⟩
          · refine .inr fun k hk hfk => ?_
            rcases Nat.lt_or_ge k m with h | h
            · exact ih k h hfk
            · obtain rfl : k = m := by omega
              exact hn
          · have := den_le hT t m e (by omega) hd
            exact .inl ⟨some (m, e), by omega, by omega, by omega, hf, hd, hmax, ih⟩
        · refine .inr fun k hk hfk => ?_
          rcases Nat.lt_or_ge k m with h | h
          · exact ih k h hfk
          · obtain rfl : k = m := by omega
            exact absurd hfk hf
  rcases h (n + 1) (Nat.le_refl _) with h | h
  · exact h
  · exact ⟨none, fun k hk => h k (by omega)⟩

set_option maxHeartbeats 4000000 in
theorem Find_nil (s : ByteArray) (from_ : Int) (w : World) : Calls Tryd.prog 9 #[.pointer none, .string s, .int .i64 from_] w fun e w' => e = .returned (foundVal (place s true) none) ∧ w' = w := by
  unfold foundVal
  go_enter Tryd.func9, Tryd.ntmps9
  go_wp2_with fail
  go_ret3
  exact ⟨rfl, rfl⟩
set_option maxHeartbeats 4000000 in
theorem Find_less (bp : Nat) (s : ByteArray) (from_ : Int) (w : World) (h : from_ < 0) : Calls Tryd.prog 9 #[.pointer (some ⟨bp, 0, none⟩), .string s, .int .i64 from_] w fun e w' => e = .returned (foundVal (place s true) none) ∧ w' = w := by
  unfold foundVal
  have h' : decide (from_ < 0) = true := by simpa using h
  clear h
  go_enter Tryd.func9, Tryd.ntmps9
  go_wp2_with fail
  go_ret3
  exact ⟨rfl, rfl⟩
set_option maxHeartbeats 40000000 in
theorem Find_calls {N bp : Nat} {fold bytes : Bool} {t : Rx} (ht : Makes t) (s : ByteArray) (from_ : Int) (o : Option (Nat × Nat)) (w : World) (hP : ProgAt N w bp fold bytes (compiled t).2 (compiled t).1) (hN : N ≤ w.heap.size)
    (hT : Tabs w) (hm : s.size ≤ 140737488351232) (h0 : 0 ≤ from_) (ho : Found (txt s fold bytes) (nCh s bytes) (place s bytes) t from_ o) :
    Calls Tryd.prog 9 #[.pointer (some ⟨bp, 0, none⟩), .string s, .int .i64 from_] w fun e w' => e = .returned (foundVal (place s bytes) o) ∧ Below w.heap.size w w' := by
  have hZ := sized_all s bytes
  have hcode : ∀ (w1 : World), Below w.heap.size w w1 → ∀ j : Nat, Calls Tryd.prog 19 #[.pointer (some ⟨bp, 0, none⟩), .string s, .int .i64 (place s bytes j)] w1 fun e w' => e = .returned (.tuple #[.int .i64 (codeK s bytes j), .int .i64 ((place s bytes (j + 1) : Int) - place s bytes j)]) ∧ Below w1.heap.size w1 w' := fun w1 hb j => by
    obtain ⟨vI, hB, -⟩ := hP.lies
    have := code_calls s (place s bytes j) w1 (hT.below hb) hm (hB.below hb (by have := hP.lt; omega))
    rw [codeAt_place hZ j] at this
    exact this
  have hlong := fun (w1 : World) (hb : Below w.heap.size w w1) k hk => longest_den ht s k w1 ((hP.more hN).below hb) hb.size (hT.below hb) hm hk
  have hz0 := place_zero hZ
  have h0' : decide (from_ < 0) = false := by simpa using h0
  have HC := hide hcode; have HL := hide hlong; have HO := hide ho; have HZ := hide hZ; have HP := hide hP; have HT := hide hT; have HZ0 := hide hz0
  clear hcode hlong ho hZ hP hT hz0 h0
  go_enter Tryd.func9, Tryd.ntmps9
  go_wp2_with fail
  go_loopw [9, 10] (fun ahead_ at_ wr => ∃ k : Nat, k ≤ nCh s bytes + 1 ∧ at_ = .int .i64 (atK s bytes k) ∧ ahead_ = .int .i64 (aheadK s bytes k) ∧ Hid (∀ k', k' < k → from_ ≤ place s bytes k' → ∀ j, ¬ den (txt s fold bytes) t k' j) ∧ Hid (Below w.heap.size w wr))
    (fun _ at_ _ => s.size + 1 - (intOf at_).toNat)
  case atStart => exact ⟨0, by omega, by rw [atK, if_pos (by omega), unhide HZ0]; rfl, rfl, fun k hk => by omega, Below.refl _ _⟩
  case round =>
    obtain ⟨k, hk, rfl, rfl, HN, HB⟩ := hrel
    by_cases hk' : k ≤ nCh s bytes
    · rw [show atK s bytes k = (place s bytes k : Int) from if_pos hk'] at *
      have hpl := place_le (unhide HZ) k
      have hnx : wrap64 ((place s bytes k : Int) + max ((place s bytes (k + 1) : Int) - place s bytes k) 1) = atK s bytes (k + 1) := by
        rw [atK_next (unhide HZ) hk']; unfold wrap64
        unfold atK
        have := place_le (unhide HZ) (k + 1)
        split <;> omega
      have hup : (place s bytes k : Int) < atK s bytes (k + 1) := by rw [← atK_next (unhide HZ) hk']; omega
      have hle : decide ((place s bytes k : Int) ≤ s.size) = true := by simp; omega
      by_cases hf : from_ ≤ place s bytes k
      · have hf' : decide (from_ ≤ (place s bytes k : Int)) = true := by simpa using hf
        obtain ⟨r, hL, hC⟩ := (unhide HL) wr (unhide HB) k hk'
        rcases hL with ⟨rfl, hno⟩ | ⟨e, rfl, hd, hmax⟩
        · rw [show endB s bytes (-1) = -1 from rfl] at hC
          have HC1 := hide hC; have HN1 := hide hno
          clear hC hno hf
          go_wp2_with fail
          refine (unhide HC1).mono ?_
          rintro e w1 ⟨rfl, hb1⟩
          have HB1 := hide (below_then (unhide HB) hb1)
          clear hb1
          go_wp2_with fail
          refine (unhide HC _ (unhide HB1) k).mono ?_
          rintro e w2 ⟨rfl, hb2⟩
          go_wp2_with fail
          go_roundw
          case rel => exact ⟨k + 1, by omega, by rw [hnx], rfl, fun k' hk1 => by
            rcases Nat.lt_or_ge k' k with h | h
            · exact unhide HN k' h
            · obtain rfl : k' = k := by omega
              exact fun _ => unhide HN1, below_then (unhide HB1) hb2⟩
          case measure => rw [hnx]; simp only [intOf]; omega
        · have hle' := den_le (txt_fine s fold bytes) t k e hk' hd
          have ho' := Found.unique (unhide HO) (o' := some (k, e)) ⟨hk', by omega, by omega, hf, hd, hmax, unhide HN⟩
          subst ho'
          rw [show endB s bytes (e : Int) = (place s bytes e : Int) by simp [endB]] at hC
          have HC1 := hide hC
          clear hC hd hmax hf
          go_wp2_with fail
          refine (unhide HC1).mono ?_
          rintro e w1 ⟨rfl, hb1⟩
          have HB1 := hide (below_then (unhide HB) hb1)
          clear hb1
          go_wp2_with fail
          go_ret3
          exact ⟨rfl, unhide HB1⟩
      · have hf' : decide (from_ ≤ (place s bytes k : Int)) = false := by simpa using hf
        clear hf
        go_wp2_with fail
        refine (unhide HC _ (unhide HB) k).mono ?_
        rintro e w2 ⟨rfl, hb2⟩
        go_wp2_with fail
        go_roundw
        case rel => exact ⟨k + 1, by omega, by rw [hnx], rfl, fun k' hk1 => by
          rcases Nat.lt_or_ge k' k with h | h
          · exact unhide HN k' h
          · obtain rfl : k' = k := by omega
            intro hx; simp at hf'; omega, below_then (unhide HB) hb2⟩
        case measure => rw [hnx]; simp only [intOf]; omega
    · obtain rfl : k = nCh s bytes + 1 := by omega
      have ha : atK s bytes (nCh s bytes + 1) = (s.size : Int) + 1 := if_neg (by omega)
      have ho' := Found.unique (unhide HO) (o' := none) (fun k hk => unhide HN k (by omega))
      subst ho'
      rw [ha]
      go_wp2_with fail
      go_ret3
      exact ⟨rfl, unhide HB⟩
end Go.Proofs.YtanmlgliibgpcaaDoor
