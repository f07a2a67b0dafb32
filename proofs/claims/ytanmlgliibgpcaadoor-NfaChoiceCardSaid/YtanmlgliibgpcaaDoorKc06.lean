/- NfaChoice returns true of every two texts, every string and every place: no condition beyond the statement's own (a part of its proof). -/
import Derived.Test.YtanmlgliibgpcaaDoorKc05
import Derived.Test.YtanmlgliibgpcaaDoorKc03
import Derived.Deep.RegionHeld3

/- The walks of fail, see, char, figure, interval. -/
namespace Go.Proofs.YtanmlgliibgpcaaDoor
open Go.RowKit Thr
set_option linter.unusedVariables false
set_option linter.unusedSimpArgs false

/-- The parser: its text, where it is, how characters are told, how deep. -/
def PAt (w : World) (bp : Nat) (s : ByteArray) (at_ : Nat) (bytes : Bool) (nest : Nat) : Prop := Blk w bp 80 #[.string s, .int .i64 at_, .bool bytes, .int .i64 nest]

def faultV (at_ e : Int) : List PanicEntry := [{ v := .iface 77 (.agg #[.int .i64 at_, .int .i64 e]), recovered := false }]

set_option maxHeartbeats 2000000 in
theorem fail_calls (vp : Value) (at_ e : Int) (w : World) : Calls Tryd.prog 66 #[vp, .int .i64 at_, .int .i64 e] w fun e' w' => e' = .panicked (faultV at_ e) ∧ w' = w := by
  unfold faultV
  go_enter Tryd.func66, Tryd.ntmps66
  go_wp2_with fail
  exact ⟨rfl, rfl, rfl⟩

def seeF (s : ByteArray) (i : Nat) (t : ByteArray) : Bool := Lib.hasPrefix (s.extract i s.size).data.toList t.data.toList

set_option maxHeartbeats 4000000 in
theorem see_calls {bp : Nat} {s : ByteArray} {i : Nat} {bytes : Bool} {nest : Nat} (t : ByteArray) (w : World) (hP : PAt w bp s i bytes nest) (hi : i ≤ s.size) (hm : s.size ≤ 1024) :
    Calls Tryd.prog 51 #[.pointer (some ⟨bp, 0, none⟩), .string t] w fun e w' => e = .returned (.bool (seeF s i t)) ∧ Below w.heap.size w w' := by
  have c0 := hP.cell 0
  have c1 := hP.cell 1
  have hbp := hP.lt
  simp at c0 c1
  have hpre := fun w => Tryd.strings_HasPrefix (s.extract i s.size) t w
  unfold seeF
  obtain ⟨F, hF⟩ : ∃ F, Lib.hasPrefix (s.extract i s.size).data.toList t.data.toList = F := ⟨_, rfl⟩
  rw [hF]
  rw [hF] at hpre
  have HPRE := hide hpre
  clear hP hpre hF
  go_enter Tryd.func51, Tryd.ntmps51
  go_wp2_with fail
  go_quiet ((go_at_call 63; exact Calls.quiet_of_same (unhide HPRE _)))
  go_wp2_with fail
  go_ret
  exact ⟨rfl, (by repeat (first | exact Below.refl _ _ | assumption | refine below_drewN ?_ _ | refine Below.drew ?_ | refine below_alloc' ?_ _))⟩

theorem PAt.go_on {w : World} {bp : Nat} {s : ByteArray} {i : Nat} {bytes : Bool} {nest : Nat} (h : PAt w bp s i bytes nest) (k : Nat) : PAt (w.setCell ⟨bp, 1, none⟩ (.int .i64 k)) bp s k bytes nest := h.set_ 1 _
theorem PAt.below {w w' : World} {bp : Nat} {s : ByteArray} {i : Nat} {bytes : Bool} {nest : Nat} (h : PAt w bp s i bytes nest) (hb : Below w.heap.size w w') : PAt w' bp s i bytes nest := Blk.below h hb h.lt
theorem PAt.deep {w : World} {bp : Nat} {s : ByteArray} {i : Nat} {bytes : Bool} {nest : Nat} (h : PAt w bp s i bytes nest) (k : Nat) : PAt (w.setCell ⟨bp, 3, none⟩ (.int .i64 k)) bp s i bytes k := h.set_ 3 _

set_option maxHeartbeats 4000000 in
theorem char_calls {bp : Nat} {s : ByteArray} {i : Nat} {bytes : Bool} {nest : Nat} (w : World) (hP : PAt w bp s i bytes nest) (hT : Tabs w) (hi : i ≤ s.size) (hm : s.size ≤ 1024) :
    Calls Tryd.prog 67 #[.pointer (some ⟨bp, 0, none⟩)] w fun e w' => e = .returned (.int .i64 (nextF s i bytes).1) ∧ PAt w' bp s (i + (nextF s i bytes).2.toNat) bytes nest ∧ Keeps (fun k => k = bp) w w' := by
  have c0 := hP.cell 0
  have c1 := hP.cell 1
  have c2 := hP.cell 2
  have f1 := hP.frozen 1
  have hbp := hP.lt
  simp at c0 c1 c2
  have hn := fun (w1 : World) (hb : Below w.heap.size w w1) => next_calls s i bytes w1 (hT.below hb) (by omega)
  have hle := next_le (s := s) (i := i) (sized_all s bytes)
  have hle2 : 0 ≤ (nextF s i bytes).2 ∧ (i : Int) + (nextF s i bytes).2 ≤ 1024 := by
    rcases Nat.lt_or_ge i s.size with h | h
    · have := hle.2.1 h; omega
    · have := hle.2.2 h; omega
  generalize nextF s i bytes = z at *
  obtain ⟨c, n⟩ := z
  simp only at hn hle hle2
  obtain ⟨h0, h1⟩ := hle2
  have HN := hide hn; have HP := hide hP
  clear hP hn hT hle
  go_enter Tryd.func67, Tryd.ntmps67
  go_wp2_with fail
  go_region_held3 (fun w' => w'.cell? ⟨bp, 0, none⟩ = some (.string s) ∧ w'.cell? ⟨bp, 1, none⟩ = some (.int .i64 i) ∧ w'.cell? ⟨bp, 2, none⟩ = some (.bool bytes)) (go_keep) ((go_at_call 29; refine (unhide HN _ (by repeat (first | exact Below.refl _ _ | assumption | refine below_drewN ?_ _ | refine Below.drew ?_ | refine below_alloc' ?_ _))).mono ?_; rintro e w1 ⟨rfl, hb1⟩; have q0 := ((bcell hb1).1 bp 0 (by simp; omega)).trans c0; have qq := ((bcell hb1).1 bp 2 (by simp; omega)).trans c2; have q1 := ((bcell hb1).1 bp 1 (by simp; omega)).trans c1; have q2 := ((bcell hb1).2 bp 1 (by simp; omega)).trans f1; have hbp1 : bp < w1.heap.size := by have := hb1.size; simp at this; omega))
  all_goals
    have HB1 := hide (below_then (w := w) (by repeat (first | exact Below.refl _ _ | assumption | refine below_drewN ?_ _ | refine Below.drew ?_ | refine below_alloc' ?_ _)) hb1)
    clear hb1
    go_wp2_with fail
    go_ret
    refine ⟨rfl, ?_, Keeps.setCell (S := fun k => k = bp) (p := ⟨bp, 1, none⟩) (Keeps.of_below (unhide HB1) _) (.inl rfl) _⟩
    have := ((unhide HP).below (unhide HB1)).go_on (i + n.toNat)
    rw [show ((i + n.toNat : Nat) : Int) = i + n by omega] at this
    exact this

set_option maxHeartbeats 4000000 in
theorem figure_calls (s : ByteArray) (w : World) (hm : s.size ≤ 1024) :
    Calls Tryd.prog 72 #[.string s] w fun e w' => e = .returned (.tuple #[.int .i64 (digF s s.size 0 0).1, .int .i64 (digF s s.size 0 0).2]) ∧ w' = w := by
  obtain ⟨D, hD⟩ : ∃ D, digF s s.size 0 0 = D := ⟨_, rfl⟩
  rw [hD]
  have HD := hide hD
  clear hD
  go_enter Tryd.func72, Tryd.ntmps72
  go_wp2_with fail
  go_loop [4, 5] (fun v_ i_ => ∃ (i : Nat) (v : Int), i ≤ s.size ∧ i_ = .int .i64 i ∧ v_ = .int .i64 v ∧ 0 ≤ v ∧ v ≤ 1000 ∧ Hid (digF s (s.size - i) i v = D)) (fun _ i_ => s.size - (intOf i_).toNat)
  case atStart => exact ⟨0, 0, by omega, rfl, rfl, by omega, by omega, HD⟩
  case round =>
    obtain ⟨i, v, hi, rfl, rfl, hv0, hv1, HR⟩ := hrel
    by_cases hlt : i < s.size
    · have hb := byt_at hlt
      have hr := byt_range s i
      have hd := unhide HR
      rw [show s.size - i = (s.size - (i + 1)) + 1 by omega] at hd
      simp only [digF] at hd
      obtain ⟨b, hb0⟩ : ∃ b, byt s i = b := ⟨_, rfl⟩
      rw [hb0] at hb hr hd
      by_cases h48 : 48 ≤ b
      · by_cases h57 : b ≤ 57
        · rw [if_pos ⟨hlt, by simp [isDig]; omega⟩] at hd
          have HR' := hide hd
          clear hd HR hb0
          go_wp2_with fail
          go_round
          case rel => exact ⟨i + 1, min (10 * v + (b - 48)) 1000, by omega, by go_num, rfl, by omega, by omega, HR'⟩
          case measure => simp [intOf]; omega
        · rw [if_neg (by simp [isDig]; omega)] at hd
          subst hd
          clear HR hb0
          go_wp2_with fail
          go_ret2
          exact ⟨rfl, rfl⟩
      · rw [if_neg (by simp [isDig]; omega)] at hd
        subst hd
        clear HR hb0
        go_wp2_with fail
        go_ret2
        exact ⟨rfl, rfl⟩
    · have hd := unhide HR
      rw [show s.size - i = 0 by omega] at hd
      simp only [digF] at hd
      subst hd
      clear HR
      go_wp2_with fail
      go_ret2
      exact ⟨rfl, rfl⟩
end Go.Proofs.YtanmlgliibgpcaaDoor

/- The walk of interval. -/
namespace Go.Proofs.YtanmlgliibgpcaaDoor
open Go.RowKit Thr
set_option linter.unusedVariables false
set_option linter.unusedSimpArgs false

theorem tail_tail (s : ByteArray) (a b : Nat) (ha : a ≤ s.size) : (s.extract a s.size).extract b (s.extract a s.size).size = s.extract (a + b) s.size := by
  apply ByteArray.ext
  simp [ByteArray.data_extract, Array.extract_extract, ByteArray.size_extract]
  congr 1
  omega
theorem tail_size (s : ByteArray) (a : Nat) : (s.extract a s.size).size = s.size - a := by simp [ByteArray.size_extract]
theorem dig_fuel (s : ByteArray) : ∀ (f i : Nat) (v : Int), s.size - i ≤ f → digF s f i v = digF s (s.size - i) i v
  | 0, i, v, h => by rw [show s.size - i = 0 by omega]
  | f + 1, i, v, h => by
    simp only [digF]
    rcases Nat.lt_or_ge i s.size with hi | hi
    · rw [show s.size - i = (s.size - (i + 1)) + 1 by omega]
      simp only [digF]
      rw [dig_fuel s f (i + 1) _ (by omega)]
    · rw [show s.size - i = 0 by omega, if_neg (by omega)]
      simp [digF]
theorem dig_tail (s : ByteArray) (a : Nat) : ∀ (f j : Nat) (v : Int), a + j ≤ s.size → digF (s.extract a s.size) f j v = ((digF s f (a + j) v).1, (digF s f (a + j) v).2 - a)
  | 0, j, v, h => by simp [digF]
  | f + 1, j, v, h => by
    simp only [digF, tail_size, byt_extract]
    by_cases hc : a + j < s.size ∧ isDig (byt s (a + j)) = true
    · rw [if_pos hc, if_pos ⟨by omega, hc.2⟩, dig_tail s a f (j + 1) _ (by omega)]
      rfl
    · rw [if_neg hc, if_neg (by intro h'; exact hc ⟨by omega, h'.2⟩)]
      simp
theorem dig_sub (s : ByteArray) (a : Nat) (ha : a ≤ s.size) : digF (s.extract a s.size) (s.extract a s.size).size 0 0 = ((digF s s.size a 0).1, (digF s s.size a 0).2 - a) := by
  rw [tail_size, dig_tail s a _ 0 0 (by omega), Nat.add_zero, ← dig_fuel s s.size a 0 (by omega)]
theorem dig_range (s : ByteArray) : ∀ (f i : Nat) (v : Int), 0 ≤ v → v ≤ 1000 → 0 ≤ (digF s f i v).1 ∧ (digF s f i v).1 ≤ 1000
  | 0, i, v, h0, h1 => by simp only [digF]; omega
  | f + 1, i, v, h0, h1 => by
    simp only [digF]
    split
    · rename_i h
      have : 48 ≤ byt s i ∧ byt s i ≤ 57 := by simpa [isDig] using h.2
      exact dig_range s f (i + 1) _ (by omega) (by omega)
    · exact ⟨h0, h1⟩

theorem ret_three {a a' b b' c c' : Int} (h1 : a = a') (h2 : b = b') (h3 : c = c') : Ending.returned (.tuple #[.int .i64 a, .int .i64 b, .int .i64 c]) = .returned (.tuple #[.int .i64 a', .int .i64 b', .int .i64 c']) := by rw [h1, h2, h3]
def itvV : Option (Int × Int × Nat) → Value
  | none => .tuple #[.int .i64 0, .int .i64 0, .int .i64 0]
  | some (lo, hi, k) => .tuple #[.int .i64 lo, .int .i64 hi, .int .i64 k]

set_option maxRecDepth 100000 in
set_option maxHeartbeats 8000000 in
theorem interval_calls (t : ByteArray) (w : World) (h1 : 1 ≤ t.size) (hm : t.size ≤ 1024) :
    Calls Tryd.prog 65 #[.string t] w fun e w' => e = .returned (itvV (itvF t 0)) ∧ w' = w := by
  have hd1 := dig_le t t.size 1 0
  have hv1 := dig_range t t.size 1 0 (by omega) (by omega)
  have hf1 := fun w => figure_calls (t.extract 1 t.size) w (by rw [tail_size]; omega)
  rw [dig_sub t 1 h1] at hf1
  have hit : itvF t 0 = itvF t 0 := rfl
  conv at hit => rhs; unfold itvF
  simp only [Nat.zero_add] at hit
  have hf2 : ∀ k, k ≤ t.size → ∀ w, Calls Tryd.prog 72 #[.string (t.extract k t.size)] w fun e w' => e = .returned (.tuple #[.int .i64 (digF t t.size k 0).1, .int .i64 ((digF t t.size k 0).2 - k : Nat)]) ∧ w' = w := fun k hk w => by
    have := figure_calls (t.extract k t.size) w (by rw [tail_size]; omega)
    rw [dig_sub t k hk] at this
    exact this
  generalize digF t t.size 1 0 = D at *
  obtain ⟨v1, k1⟩ := D
  simp only at hd1 hv1 hf1 hit
  obtain ⟨n, rfl⟩ : ∃ n, k1 = 1 + n := ⟨k1 - 1, by omega⟩
  rw [show 1 + n - 1 = n by omega] at hf1
  obtain ⟨F, hF⟩ : ∃ F, itvF t 0 = F := ⟨_, rfl⟩
  rw [hF] at hit ⊢
  have HF1 := hide hf1; have HF2 := hide hf2; have HIT := hide hit
  clear hf1 hf2 hit hF
  by_cases hn0 : n = 0
  · subst hn0
    obtain rfl : F = none := by rw [unhide HIT, if_pos (.inl rfl)]
    go_enter Tryd.func65, Tryd.ntmps65
    go_wp2_with fail
    refine (unhide HF1 _).mono ?_
    rintro e w' ⟨rfl, hw⟩
    obtain rfl := hw.symm
    go_wp2_with fail
    go_ret3
    exact ⟨rfl, rfl⟩
  have hn0' : ((n : Int) == 0) = false := by simp; omega
  by_cases hge : t.size ≤ 1 + n
  · obtain rfl : F = none := by rw [unhide HIT, if_pos (.inr hge)]
    go_enter Tryd.func65, Tryd.ntmps65
    go_wp2_with fail
    refine (unhide HF1 _).mono ?_
    rintro e w' ⟨rfl, hw⟩
    obtain rfl := hw.symm
    go_wp2_with fail
    go_ret3
    exact ⟨rfl, rfl⟩
  have hlt : 1 + n < t.size := by omega
  have hb := byt_at hlt
  have hr := byt_range t (1 + n)
  have hit := unhide HIT
  rw [if_neg (by omega)] at hit
  obtain ⟨b, hb0⟩ : ∃ b, byt t (1 + n) = b := ⟨_, rfl⟩
  rw [hb0] at hb hr hit
  have HIT2 := hide hit
  clear hit HIT hb0
  by_cases h44 : b = 44
  · have h44' : (b == 44) = true := by simpa using h44
    have hf := unhide HF2 (1 + n + 1) (by omega)
    have hit := unhide HIT2
    rw [if_pos h44] at hit
    have hd2 := dig_le t t.size (1 + n + 1) 0
    have hv2 := dig_range t t.size (1 + n + 1) 0 (by omega) (by omega)
    generalize digF t t.size (1 + n + 1) 0 = D at *
    obtain ⟨v2, k2⟩ := D
    simp only at hd2 hv2 hf hit
    have hd2' : 1 + n + 1 ≤ t.size := by omega
    by_cases hm0 : k2 = 1 + n + 1
    · subst hm0
      rw [show 1 + n + 1 - (1 + n + 1) = 0 by omega] at hf
      have HF := hide hf
      clear hf HIT2 h44 hd2'
      have hk2 : 1 + n + 1 ≤ t.size := by omega
      by_cases hge2 : t.size ≤ 1 + n + 1
      · obtain rfl : F = none := by rw [hit, if_neg (by omega)]
        have HK := hide hk2
        clear hk2 hit hd2
        · go_enter Tryd.func65, Tryd.ntmps65
          go_wp2_with fail
          refine (unhide HF1 _).mono ?_
          rintro e w' ⟨rfl, hw⟩
          obtain rfl := hw.symm
          go_wp2_with fail
          refine (unhide HF _).mono ?_
          rintro e w' ⟨rfl, hw⟩
          obtain rfl := hw.symm
          go_wp2_with fail
          go_ret3
          exact ⟨rfl, rfl⟩
      · have hlt2 : 1 + n + 1 < t.size := by omega
        have hb2 := byt_at hlt2
        have hr2 := byt_range t (1 + n + 1)
        obtain ⟨b2, hb20⟩ : ∃ b, byt t (1 + n + 1) = b := ⟨_, rfl⟩
        rw [hb20] at hb2 hr2 hit
        clear hb20 hge2 hd2 hk2
        by_cases h125 : b2 = 125
        · have h125' : (b2 == 125) = true := by simpa using h125
          have h126' : (b2 != 125) = false := by simpa using h125
          obtain rfl : F = some (v1, -1, 1 + n + 1 + 1) := by rw [hit, if_pos ⟨hlt2, h125⟩, if_pos rfl]
          clear h125 hit
          go_enter Tryd.func65, Tryd.ntmps65
          go_wp2_with fail
          refine (unhide HF1 _).mono ?_
          rintro e w' ⟨rfl, hw⟩
          obtain rfl := hw.symm
          go_wp2_with fail
          refine (unhide HF _).mono ?_
          rintro e w' ⟨rfl, hw⟩
          obtain rfl := hw.symm
          go_wp2_with fail
          go_ret3
          exact ⟨ret_three rfl rfl (by omega), rfl⟩
        · have h125' : (b2 == 125) = false := by simpa using h125
          have h126' : (b2 != 125) = true := by simpa using h125
          obtain rfl : F = none := by rw [hit, if_neg (by omega)]
          clear h125 hit
          go_enter Tryd.func65, Tryd.ntmps65
          go_wp2_with fail
          refine (unhide HF1 _).mono ?_
          rintro e w' ⟨rfl, hw⟩
          obtain rfl := hw.symm
          go_wp2_with fail
          refine (unhide HF _).mono ?_
          rintro e w' ⟨rfl, hw⟩
          obtain rfl := hw.symm
          go_wp2_with fail
          go_ret3
          exact ⟨rfl, rfl⟩
    · obtain ⟨m, rfl⟩ : ∃ m, k2 = 1 + n + (1 + m) := ⟨k2 - (1 + n + 1), by omega⟩
      rw [show 1 + n + (1 + m) - (1 + n + 1) = m by omega] at hf
      have HF := hide hf
      have hm1 : 0 < m := by omega
      have hm2 : ((m : Int) == 0) = false := by simp; omega
      have hnm : ¬ 1 + n + (1 + m) = 1 + n + 1 := by omega
      have hnm2 : n + m ≤ 3000 := by omega
      have HNM := hide hnm
      clear hf HIT2 h44 hd2' hm0 hnm
      have hk2 : 1 + n + (1 + m) ≤ t.size := by omega
      by_cases hge2 : t.size ≤ 1 + n + (1 + m)
      · obtain rfl : F = none := by rw [hit, if_neg (by omega)]
        have HK := hide hk2
        clear hk2 hit hd2
        · go_enter Tryd.func65, Tryd.ntmps65
          go_wp2_with fail
          refine (unhide HF1 _).mono ?_
          rintro e w' ⟨rfl, hw⟩
          obtain rfl := hw.symm
          go_wp2_with fail
          refine (unhide HF _).mono ?_
          rintro e w' ⟨rfl, hw⟩
          obtain rfl := hw.symm
          go_wp2_with fail
          go_ret3
          exact ⟨rfl, rfl⟩
      · have hlt2 : 1 + n + (1 + m) < t.size := by omega
        have hb2 := byt_at hlt2
        have hr2 := byt_range t (1 + n + (1 + m))
        obtain ⟨b2, hb20⟩ : ∃ b, byt t (1 + n + (1 + m)) = b := ⟨_, rfl⟩
        rw [hb20] at hb2 hr2 hit
        clear hb20 hge2 hd2 hk2
        by_cases h125 : b2 = 125
        · have h125' : (b2 == 125) = true := by simpa using h125
          have h126' : (b2 != 125) = false := by simpa using h125
          obtain rfl : F = some (v1, v2, 1 + n + (1 + m) + 1) := by rw [hit, if_pos ⟨hlt2, h125⟩, if_neg (unhide HNM)]
          clear h125 hit
          go_enter Tryd.func65, Tryd.ntmps65
          go_wp2_with fail
          refine (unhide HF1 _).mono ?_
          rintro e w' ⟨rfl, hw⟩
          obtain rfl := hw.symm
          go_wp2_with fail
          refine (unhide HF _).mono ?_
          rintro e w' ⟨rfl, hw⟩
          obtain rfl := hw.symm
          go_wp2_with fail
          go_ret3
          exact ⟨ret_three rfl rfl (by omega), rfl⟩
        · have h125' : (b2 == 125) = false := by simpa using h125
          have h126' : (b2 != 125) = true := by simpa using h125
          obtain rfl : F = none := by rw [hit, if_neg (by omega)]
          clear h125 hit
          go_enter Tryd.func65, Tryd.ntmps65
          go_wp2_with fail
          refine (unhide HF1 _).mono ?_
          rintro e w' ⟨rfl, hw⟩
          obtain rfl := hw.symm
          go_wp2_with fail
          refine (unhide HF _).mono ?_
          rintro e w' ⟨rfl, hw⟩
          obtain rfl := hw.symm
          go_wp2_with fail
          go_ret3
          exact ⟨rfl, rfl⟩
  · have h44' : (b == 44) = false := by simpa using h44
    have hit := unhide HIT2
    rw [if_neg h44] at hit
    clear HIT2 h44
    by_cases h125 : b = 125
    · have h125' : (b == 125) = true := by simpa using h125
      have h126' : (b != 125) = false := by simpa using h125
      rw [if_pos h125] at hit
      clear h125
      subst hit
      go_enter Tryd.func65, Tryd.ntmps65
      go_wp2_with fail
      refine (unhide HF1 _).mono ?_
      rintro e w' ⟨rfl, hw⟩
      obtain rfl := hw.symm
      go_wp2_with fail
      go_ret3
      exact ⟨ret_three rfl rfl (by omega), rfl⟩
    · have h125' : (b == 125) = false := by simpa using h125
      have h126' : (b != 125) = true := by simpa using h125
      rw [if_neg h125] at hit
      clear h125
      subst hit
      go_enter Tryd.func65, Tryd.ntmps65
      go_wp2_with fail
      refine (unhide HF1 _).mono ?_
      rintro e w' ⟨rfl, hw⟩
      obtain rfl := hw.symm
      go_wp2_with fail
      go_ret3
      exact ⟨rfl, rfl⟩

/-- Of a text's tail. -/
theorem itv_tail (s : ByteArray) (i : Nat) (hi : i < s.size) : itvF (s.extract i s.size) 0 = (itvF s i).map fun r => (r.1, r.2.1, r.2.2 - i) := by
  have hd : ∀ k, i + k ≤ s.size → digF (s.extract i s.size) (s.size - i) k 0 = ((digF s s.size (i + k) 0).1, (digF s s.size (i + k) 0).2 - i) := fun k hk => by
    rw [dig_tail s i _ k 0 hk, dig_fuel s s.size (i + k) 0 (by omega), dig_fuel s (s.size - i) (i + k) 0 (by omega)]
  have h1 := dig_le s s.size (i + 1) 0
  unfold itvF
  simp only [tail_size]
  rw [Nat.zero_add, hd 1 (by omega)]
  generalize digF s s.size (i + 1) 0 = D at *
  obtain ⟨v1, k1⟩ := D
  simp only at h1 ⊢
  by_cases hc : k1 = i + 1 ∨ s.size ≤ k1
  · rw [if_pos hc, if_pos (by omega)]; rfl
  · rw [if_neg hc, if_neg (by omega), byt_extract, show i + (k1 - i) = k1 by omega]
    by_cases h44 : byt s k1 = 44
    · rw [if_pos h44, if_pos h44, hd (k1 - i + 1) (by omega), show i + (k1 - i + 1) = k1 + 1 by omega]
      have h2 := dig_le s s.size (k1 + 1) 0
      generalize digF s s.size (k1 + 1) 0 = D2 at *
      obtain ⟨v2, k2⟩ := D2
      simp only at h2 ⊢
      rw [byt_extract, show i + (k2 - i) = k2 by omega]
      by_cases hc2 : k2 < s.size ∧ byt s k2 = 125
      · rw [if_pos hc2, if_pos ⟨by omega, hc2.2⟩]
        simp only [Option.map_some]
        congr 3
        · by_cases hk : k2 = k1 + 1
          · rw [if_pos hk, if_pos (by omega)]
          · rw [if_neg hk, if_neg (by omega)]
        · omega
      · rw [if_neg hc2, if_neg (by omega)]; rfl
    · rw [if_neg h44, if_neg h44]
      by_cases h125 : byt s k1 = 125
      · rw [if_pos h125, if_pos h125]
        simp only [Option.map_some]
        congr 3
        omega
      · rw [if_neg h125, if_neg h125]; rfl
end Go.Proofs.YtanmlgliibgpcaaDoor

/- The walks of single, word, space, class. -/
namespace Go.Proofs.YtanmlgliibgpcaaDoor
open Go.RowKit Thr
set_option linter.unusedVariables false
set_option linter.unusedSimpArgs false

def singleV (c : Int) : Value := match singleF c with
  | some x => .tuple #[.int .i64 x, .bool true]
  | none => .tuple #[.int .i64 c, .bool false]

theorem ret_ib {a b : Int} {p q : Bool} (h : a = b) (k : p = q) : Ending.returned (.tuple #[.int .i64 a, .bool p]) = .returned (.tuple #[.int .i64 b, .bool q]) := by rw [h, k]
theorem wrap_byte (b : UInt8) : wrap64 (b.toNat : Int) = (b.toNat : Int) := by
  have := b.toNat_lt
  unfold wrap64
  omega
theorem indexByte_out : ∀ (l : List UInt8) (c : UInt8), (∀ k ∈ l, k ≠ c) → Lib.indexByte l c = -1
  | [], c, _ => rfl
  | b :: l, c, h => by
    have ih := indexByte_out l c (fun k hk => h k (by simp [hk]))
    unfold Lib.indexByte
    rw [if_neg (by simpa using h b (by simp)), if_pos (by rw [ih]; rfl)]
theorem index_none (c : Int) (h0 : 0 ≤ c) (h : c ≠ 110 ∧ c ≠ 116 ∧ c ≠ 114 ∧ c ≠ 102 ∧ c ≠ 118 ∧ c ≠ 97 ∧ c ≠ 98) :
    Lib.indexByte (lit [110, 116, 114, 102, 118, 97, 98]).data.toList (min c 255).toNat.toUInt8 = -1 := by
  have hm : ∀ k : UInt8, (k.toNat : Int) ≠ c → k.toNat < 128 → (k == (min c 255).toNat.toUInt8) = false := by
    intro k hk hk2
    rw [beq_eq_false_iff_ne]
    intro e
    have := congrArg UInt8.toNat e
    have h2 : ((min c 255).toNat.toUInt8).toNat = (min c 255).toNat := by
      rw [Nat.toUInt8, UInt8.toNat_ofNat']
      omega
    rw [h2] at this
    omega
  refine indexByte_out _ _ fun k hk => ?_
  have : k = 110 ∨ k = 116 ∨ k = 114 ∨ k = 102 ∨ k = 118 ∨ k = 97 ∨ k = 98 := by simpa [lit] using hk
  intro e
  have hx : (k == (min c 255).toNat.toUInt8) = false := by
    rcases this with rfl | rfl | rfl | rfl | rfl | rfl | rfl
    all_goals exact hm _ (by simp; omega) (by decide)
  rw [← e] at hx
  simp at hx

set_option maxHeartbeats 4000000 in
theorem single_calls (c : Int) (w : World) (h0 : 0 ≤ c) (h1 : c ≤ 2000000) :
    Calls Tryd.prog 78 #[.int .i64 c] w fun e w' => e = .returned (singleV c) ∧ w' = w := by
  have hI := fun (b : Int) w => Tryd.strings_IndexByte (lit [110, 116, 114, 102, 118, 97, 98]) b w
  by_cases hc : c = 110 ∨ c = 116 ∨ c = 114 ∨ c = 102 ∨ c = 118 ∨ c = 97 ∨ c = 98
  · rcases hc with rfl | rfl | rfl | rfl | rfl | rfl | rfl
    · have hk : ∀ w, Calls Tryd.prog 84 #[.string (lit [110, 116, 114, 102, 118, 97, 98]), .int .u8 110] w fun e w' => e = .returned (.int .i64 0) ∧ w' = w := fun w => by
        have := hI 110 w
        rw [show Lib.indexByte (lit [110, 116, 114, 102, 118, 97, 98]).data.toList (110 : Int).toNat.toUInt8 = 0 from by decide] at this
        exact this
      have HK := hide hk
      clear hk hI
      go_enter Tryd.func78, Tryd.ntmps78
      go_wp2_with fail
      refine (unhide HK _).mono ?_
      rintro e w' ⟨rfl, hw⟩
      obtain rfl := hw.symm
      go_wp2_with fail
      go_ret2
      exact ⟨ret_ib ((wrap_byte _).trans (by first | rfl | decide)) rfl, rfl⟩
    · have hk : ∀ w, Calls Tryd.prog 84 #[.string (lit [110, 116, 114, 102, 118, 97, 98]), .int .u8 116] w fun e w' => e = .returned (.int .i64 1) ∧ w' = w := fun w => by
        have := hI 116 w
        rw [show Lib.indexByte (lit [110, 116, 114, 102, 118, 97, 98]).data.toList (116 : Int).toNat.toUInt8 = 1 from by decide] at this
        exact this
      have HK := hide hk
      clear hk hI
      go_enter Tryd.func78, Tryd.ntmps78
      go_wp2_with fail
      refine (unhide HK _).mono ?_
      rintro e w' ⟨rfl, hw⟩
      obtain rfl := hw.symm
      go_wp2_with fail
      go_ret2
      exact ⟨ret_ib ((wrap_byte _).trans (by first | rfl | decide)) rfl, rfl⟩
    · have hk : ∀ w, Calls Tryd.prog 84 #[.string (lit [110, 116, 114, 102, 118, 97, 98]), .int .u8 114] w fun e w' => e = .returned (.int .i64 2) ∧ w' = w := fun w => by
        have := hI 114 w
        rw [show Lib.indexByte (lit [110, 116, 114, 102, 118, 97, 98]).data.toList (114 : Int).toNat.toUInt8 = 2 from by decide] at this
        exact this
      have HK := hide hk
      clear hk hI
      go_enter Tryd.func78, Tryd.ntmps78
      go_wp2_with fail
      refine (unhide HK _).mono ?_
      rintro e w' ⟨rfl, hw⟩
      obtain rfl := hw.symm
      go_wp2_with fail
      go_ret2
      exact ⟨ret_ib ((wrap_byte _).trans (by first | rfl | decide)) rfl, rfl⟩
    · have hk : ∀ w, Calls Tryd.prog 84 #[.string (lit [110, 116, 114, 102, 118, 97, 98]), .int .u8 102] w fun e w' => e = .returned (.int .i64 3) ∧ w' = w := fun w => by
        have := hI 102 w
        rw [show Lib.indexByte (lit [110, 116, 114, 102, 118, 97, 98]).data.toList (102 : Int).toNat.toUInt8 = 3 from by decide] at this
        exact this
      have HK := hide hk
      clear hk hI
      go_enter Tryd.func78, Tryd.ntmps78
      go_wp2_with fail
      refine (unhide HK _).mono ?_
      rintro e w' ⟨rfl, hw⟩
      obtain rfl := hw.symm
      go_wp2_with fail
      go_ret2
      exact ⟨ret_ib ((wrap_byte _).trans (by first | rfl | decide)) rfl, rfl⟩
    · have hk : ∀ w, Calls Tryd.prog 84 #[.string (lit [110, 116, 114, 102, 118, 97, 98]), .int .u8 118] w fun e w' => e = .returned (.int .i64 4) ∧ w' = w := fun w => by
        have := hI 118 w
        rw [show Lib.indexByte (lit [110, 116, 114, 102, 118, 97, 98]).data.toList (118 : Int).toNat.toUInt8 = 4 from by decide] at this
        exact this
      have HK := hide hk
      clear hk hI
      go_enter Tryd.func78, Tryd.ntmps78
      go_wp2_with fail
      refine (unhide HK _).mono ?_
      rintro e w' ⟨rfl, hw⟩
      obtain rfl := hw.symm
      go_wp2_with fail
      go_ret2
      exact ⟨ret_ib ((wrap_byte _).trans (by first | rfl | decide)) rfl, rfl⟩
    · have hk : ∀ w, Calls Tryd.prog 84 #[.string (lit [110, 116, 114, 102, 118, 97, 98]), .int .u8 97] w fun e w' => e = .returned (.int .i64 5) ∧ w' = w := fun w => by
        have := hI 97 w
        rw [show Lib.indexByte (lit [110, 116, 114, 102, 118, 97, 98]).data.toList (97 : Int).toNat.toUInt8 = 5 from by decide] at this
        exact this
      have HK := hide hk
      clear hk hI
      go_enter Tryd.func78, Tryd.ntmps78
      go_wp2_with fail
      refine (unhide HK _).mono ?_
      rintro e w' ⟨rfl, hw⟩
      obtain rfl := hw.symm
      go_wp2_with fail
      go_ret2
      exact ⟨ret_ib ((wrap_byte _).trans (by first | rfl | decide)) rfl, rfl⟩
    · have hk : ∀ w, Calls Tryd.prog 84 #[.string (lit [110, 116, 114, 102, 118, 97, 98]), .int .u8 98] w fun e w' => e = .returned (.int .i64 6) ∧ w' = w := fun w => by
        have := hI 98 w
        rw [show Lib.indexByte (lit [110, 116, 114, 102, 118, 97, 98]).data.toList (98 : Int).toNat.toUInt8 = 6 from by decide] at this
        exact this
      have HK := hide hk
      clear hk hI
      go_enter Tryd.func78, Tryd.ntmps78
      go_wp2_with fail
      refine (unhide HK _).mono ?_
      rintro e w' ⟨rfl, hw⟩
      obtain rfl := hw.symm
      go_wp2_with fail
      go_ret2
      exact ⟨ret_ib ((wrap_byte _).trans (by first | rfl | decide)) rfl, rfl⟩
  · have hn := index_none c h0 (by omega)
    have hI' := fun w => hI (min c 255) w
    simp only [hn] at hI'
    have hs : singleF c = if isLet c = true then none else some c := by
      unfold singleF
      rw [if_neg (by omega), if_neg (by omega), if_neg (by omega), if_neg (by omega), if_neg (by omega), if_neg (by omega), if_neg (by omega)]
    have hv : singleV c = .tuple #[.int .i64 c, .bool (!isLet c)] := by
      unfold singleV
      rw [hs]
      cases hl : isLet c <;> simp
    rw [hv]
    obtain ⟨L, hL⟩ : ∃ L, (!isLet c) = L := ⟨_, rfl⟩
    rw [hL]
    have HL := hide hL
    have HI := hide hI'
    clear hI hI' hs hc hn hv hL
    go_enter Tryd.func78, Tryd.ntmps78
    go_wp2_with fail
    refine (unhide HI _).mono ?_
    rintro e w' ⟨rfl, hw⟩
    obtain rfl := hw.symm
    go_wp2_with fail
    all_goals
      go_ret2
      refine ⟨ret_ib rfl ?_, rfl⟩
      rw [← unhide HL]
      clear HL HI
      rw [Bool.eq_iff_iff]
      simp_all [isLet] <;> omega

/-- A set that was laid just now. -/
def NewSet (w w' : World) (e : Ending) (l : List (Int × Int)) : Prop := ∃ b, e = .returned (.slice (some ⟨b, 0, none⟩) l.length l.length) ∧ w.heap.size ≤ b ∧ SetAt (fun k => w.heap.size ≤ k) w' (.slice (some ⟨b, 0, none⟩) l.length l.length) l ∧ Below w.heap.size w w'

/-- A block of ranges is a set. -/
def rangeCells : List (Int × Int) → List Value
  | [] => []
  | r :: l => .int .i64 r.1 :: .int .i64 r.2 :: rangeCells l
theorem rangeCells_get : ∀ (l : List (Int × Int)) (i : Nat) (x : Int × Int), l[i]? = some x → (rangeCells l)[i * 2]? = some (.int .i64 x.1) ∧ (rangeCells l)[i * 2 + 1]? = some (.int .i64 x.2)
  | [], i, x, h => by simp at h
  | r :: l, 0, x, h => by
    simp at h; subst h
    simp [rangeCells]
  | r :: l, i + 1, x, h => by
    have := rangeCells_get l i x (by simpa using h)
    rw [show (i + 1) * 2 = i * 2 + 1 + 1 by omega, show i * 2 + 1 + 1 + 1 = (i * 2 + 1) + 1 + 1 by omega]
    simp only [rangeCells, List.getElem?_cons_succ]
    exact this
theorem set_of_block {ok : Nat → Prop} {W : World} {b c : Nat} {t : TypeId} {l : List (Int × Int)} (h : W.heap[b]? = some (.cells (rangeCells l).toArray t (0, 0))) (hb : ok b) (hc : l.length ≤ c) (hc2 : c ≤ 1000000) : SetAt ok W (.slice (some ⟨b, 0, none⟩) l.length c) l := by
  refine ⟨_, _, rfl, hc, by omega, .inr ⟨b, 0, rfl, hb, fun i x hx => ?_⟩⟩
  obtain ⟨h1, h2⟩ := rangeCells_get l i x hx
  rw [cell_of_row W b _ _ t (0, 0) h, cell_of_row W b _ _ t (0, 0) h]
  simpa using ⟨h1, h2⟩

set_option maxHeartbeats 4000000 in
theorem word_calls (w : World) : Calls Tryd.prog 76 #[] w fun e w' => NewSet w w' e wordS := by
  go_enter Tryd.func76, Tryd.ntmps76
  go_wp2_with fail
  go_ret
  exact ⟨w.heap.size, rfl, Nat.le_refl _, set_of_block (l := wordS) (t := 65) (heap_alloc_new w _) (Nat.le_refl _) (by decide) (by decide), (by repeat (first | exact Below.refl _ _ | assumption | refine below_drewN ?_ _ | refine Below.drew ?_ | refine below_alloc' ?_ _))⟩
set_option maxHeartbeats 4000000 in
theorem space_calls (w : World) : Calls Tryd.prog 77 #[] w fun e w' => NewSet w w' e spaceS := by
  go_enter Tryd.func77, Tryd.ntmps77
  go_wp2_with fail
  go_ret
  exact ⟨w.heap.size, rfl, Nat.le_refl _, set_of_block (l := spaceS) (t := 65) (heap_alloc_new w _) (Nat.le_refl _) (by decide) (by decide), (by repeat (first | exact Below.refl _ _ | assumption | refine below_drewN ?_ _ | refine Below.drew ?_ | refine below_alloc' ?_ _))⟩

theorem lit_of {n : ByteArray} {l : List UInt8} (h : (n.toList == l) = true) : n = lit l := by
  have := eq_of_beq h
  rw [ByteArray.toList_eq] at this
  apply ByteArray.ext
  apply Array.toList_inj.1
  rw [this]
  rfl
theorem not_lit {n : ByteArray} {l : List UInt8} (h : ¬ (n.toList == l) = true) : ¬ n = lit l := by
  rintro rfl
  apply h
  rw [ByteArray.toList_eq]
  simp [lit]

theorem class_alpha : classF (lit [97, 108, 112, 104, 97]) = some [(65, 90), (97, 122)] := by decide
theorem class_digit : classF (lit [100, 105, 103, 105, 116]) = some [(48, 57)] := by decide
theorem class_alnum : classF (lit [97, 108, 110, 117, 109]) = some [(48, 57), (65, 90), (97, 122)] := by decide
theorem class_upper : classF (lit [117, 112, 112, 101, 114]) = some [(65, 90)] := by decide
theorem class_lower : classF (lit [108, 111, 119, 101, 114]) = some [(97, 122)] := by decide
theorem class_space : classF (lit [115, 112, 97, 99, 101]) = some [(9, 13), (32, 32)] := by decide
theorem class_blank : classF (lit [98, 108, 97, 110, 107]) = some [(9, 9), (32, 32)] := by decide
theorem class_punct : classF (lit [112, 117, 110, 99, 116]) = some [(33, 47), (58, 64), (91, 96), (123, 126)] := by decide
theorem class_print : classF (lit [112, 114, 105, 110, 116]) = some [(32, 126)] := by decide
theorem class_graph : classF (lit [103, 114, 97, 112, 104]) = some [(33, 126)] := by decide
theorem class_cntrl : classF (lit [99, 110, 116, 114, 108]) = some [(0, 31), (127, 127)] := by decide
theorem class_xdigit : classF (lit [120, 100, 105, 103, 105, 116]) = some [(48, 57), (65, 70), (97, 102)] := by decide
theorem new_fourth (w : World) (a b c d : Obj) : ((((w.alloc a).alloc b).alloc c).alloc d).heap[w.heap.size + 1 + 1 + 1]? = some d := by
  have h : (((w.alloc a).alloc b).alloc c).heap.size = w.heap.size + 1 + 1 + 1 := by simp
  have := heap_alloc_new (((w.alloc a).alloc b).alloc c) d
  rw [h] at this
  exact this

def ClassPost (w w' : World) (e : Ending) : Option (List (Int × Int)) → Prop
  | none => e = .returned (.slice none 0 0) ∧ Below w.heap.size w w'
  | some l => NewSet w w' e l

set_option maxRecDepth 100000 in
set_option maxHeartbeats 16000000 in
theorem class_calls (n : ByteArray) (w : World) : Calls Tryd.prog 80 #[.string n] w fun e w' => ClassPost w w' e (classF n) := by
  obtain ⟨C, hC⟩ : ∃ C, classF n = C := ⟨_, rfl⟩
  rw [hC]
  have HC := hide hC
  have HSP := hide space_calls
  clear hC
  go_enter Tryd.func80, Tryd.ntmps80
  go_wp2_with fail
  · have hn := lit_of (by assumption)
    subst hn
    rw [class_alpha] at HC
    obtain rfl := unhide HC
    go_ret
    exact ⟨w.heap.size + 1 + 1 + 1, rfl, by omega, set_of_block (l := [(65, 90), (97, 122)]) (t := 65) (new_fourth _ _ _ _ _) (by omega) (by decide) (by decide), (by repeat (first | exact Below.refl _ _ | assumption | refine below_drewN ?_ _ | refine Below.drew ?_ | refine below_alloc' ?_ _))⟩
  · have hn := lit_of (by assumption)
    subst hn
    rw [class_digit] at HC
    obtain rfl := unhide HC
    go_ret
    exact ⟨w.heap.size + 1 + 1 + 1, rfl, by omega, set_of_block (l := [(48, 57)]) (t := 65) (new_fourth _ _ _ _ _) (by omega) (by decide) (by decide), (by repeat (first | exact Below.refl _ _ | assumption | refine below_drewN ?_ _ | refine Below.drew ?_ | refine below_alloc' ?_ _))⟩
  · have hn := lit_of (by assumption)
    subst hn
    rw [class_alnum] at HC
    obtain rfl := unhide HC
    go_ret
    exact ⟨w.heap.size + 1 + 1 + 1, rfl, by omega, set_of_block (l := [(48, 57), (65, 90), (97, 122)]) (t := 65) (new_fourth _ _ _ _ _) (by omega) (by decide) (by decide), (by repeat (first | exact Below.refl _ _ | assumption | refine below_drewN ?_ _ | refine Below.drew ?_ | refine below_alloc' ?_ _))⟩
  · have hn := lit_of (by assumption)
    subst hn
    rw [class_upper] at HC
    obtain rfl := unhide HC
    go_ret
    exact ⟨w.heap.size + 1 + 1 + 1, rfl, by omega, set_of_block (l := [(65, 90)]) (t := 65) (new_fourth _ _ _ _ _) (by omega) (by decide) (by decide), (by repeat (first | exact Below.refl _ _ | assumption | refine below_drewN ?_ _ | refine Below.drew ?_ | refine below_alloc' ?_ _))⟩
  · have hn := lit_of (by assumption)
    subst hn
    rw [class_lower] at HC
    obtain rfl := unhide HC
    go_ret
    exact ⟨w.heap.size + 1 + 1 + 1, rfl, by omega, set_of_block (l := [(97, 122)]) (t := 65) (new_fourth _ _ _ _ _) (by omega) (by decide) (by decide), (by repeat (first | exact Below.refl _ _ | assumption | refine below_drewN ?_ _ | refine Below.drew ?_ | refine below_alloc' ?_ _))⟩
  · have hn := lit_of (by assumption)
    subst hn
    rw [class_space] at HC
    obtain rfl := unhide HC
    refine (unhide HSP _).mono ?_
    rintro e w1 ⟨b, rfl, hb, hs, hb1⟩
    go_wp2_with fail
    go_ret
    simp at hb
    exact ⟨b, rfl, by omega, hs.mono (fun k hk => by simp at hk; omega), below_then (by repeat (first | exact Below.refl _ _ | assumption | refine below_drewN ?_ _ | refine Below.drew ?_ | refine below_alloc' ?_ _)) hb1⟩
  · have hn := lit_of (by assumption)
    subst hn
    rw [class_blank] at HC
    obtain rfl := unhide HC
    go_ret
    exact ⟨w.heap.size + 1 + 1 + 1, rfl, by omega, set_of_block (l := [(9, 9), (32, 32)]) (t := 65) (new_fourth _ _ _ _ _) (by omega) (by decide) (by decide), (by repeat (first | exact Below.refl _ _ | assumption | refine below_drewN ?_ _ | refine Below.drew ?_ | refine below_alloc' ?_ _))⟩
  · have hn := lit_of (by assumption)
    subst hn
    rw [class_punct] at HC
    obtain rfl := unhide HC
    go_ret
    exact ⟨w.heap.size + 1 + 1 + 1, rfl, by omega, set_of_block (l := [(33, 47), (58, 64), (91, 96), (123, 126)]) (t := 65) (new_fourth _ _ _ _ _) (by omega) (by decide) (by decide), (by repeat (first | exact Below.refl _ _ | assumption | refine below_drewN ?_ _ | refine Below.drew ?_ | refine below_alloc' ?_ _))⟩
  · have hn := lit_of (by assumption)
    subst hn
    rw [class_print] at HC
    obtain rfl := unhide HC
    go_ret
    exact ⟨w.heap.size + 1 + 1 + 1, rfl, by omega, set_of_block (l := [(32, 126)]) (t := 65) (new_fourth _ _ _ _ _) (by omega) (by decide) (by decide), (by repeat (first | exact Below.refl _ _ | assumption | refine below_drewN ?_ _ | refine Below.drew ?_ | refine below_alloc' ?_ _))⟩
  · have hn := lit_of (by assumption)
    subst hn
    rw [class_graph] at HC
    obtain rfl := unhide HC
    go_ret
    exact ⟨w.heap.size + 1 + 1 + 1, rfl, by omega, set_of_block (l := [(33, 126)]) (t := 65) (new_fourth _ _ _ _ _) (by omega) (by decide) (by decide), (by repeat (first | exact Below.refl _ _ | assumption | refine below_drewN ?_ _ | refine Below.drew ?_ | refine below_alloc' ?_ _))⟩
  · have hn := lit_of (by assumption)
    subst hn
    rw [class_cntrl] at HC
    obtain rfl := unhide HC
    go_ret
    exact ⟨w.heap.size + 1 + 1 + 1, rfl, by omega, set_of_block (l := [(0, 31), (127, 127)]) (t := 65) (new_fourth _ _ _ _ _) (by omega) (by decide) (by decide), (by repeat (first | exact Below.refl _ _ | assumption | refine below_drewN ?_ _ | refine Below.drew ?_ | refine below_alloc' ?_ _))⟩
  · have hn := lit_of (by assumption)
    subst hn
    rw [class_xdigit] at HC
    obtain rfl := unhide HC
    go_ret
    exact ⟨w.heap.size + 1 + 1 + 1, rfl, by omega, set_of_block (l := [(48, 57), (65, 70), (97, 102)]) (t := 65) (new_fourth _ _ _ _ _) (by omega) (by decide) (by decide), (by repeat (first | exact Below.refl _ _ | assumption | refine below_drewN ?_ _ | refine Below.drew ?_ | refine below_alloc' ?_ _))⟩
  · obtain rfl : C = none := by
      rw [← unhide HC]
      simp only [classF, classTab, lookF]
      repeat rw [if_neg (not_lit (by simp [*]))]
    go_ret
    exact ⟨rfl, (by repeat (first | exact Below.refl _ _ | assumption | refine below_drewN ?_ _ | refine Below.drew ?_ | refine below_alloc' ?_ _))⟩
end Go.Proofs.YtanmlgliibgpcaaDoor

/- The walk of member. -/
namespace Go.Proofs.YtanmlgliibgpcaaDoor
open Go.RowKit Thr
set_option linter.unusedVariables false
set_option linter.unusedSimpArgs false

theorem next_ascii {s : ByteArray} {i : Nat} {bytes : Bool} (hi : i < s.size) (h : (nextF s i bytes).1 < 128) : nextF s i bytes = (byt s i, 1) := by
  have hx : 0 < (s.extract i s.size).size := by simp [ByteArray.size_extract]; omega
  have hk := (sizeF_known (s.extract i s.size) hx).2.2.2.2.2.2
  have hr := byt_range s i
  rw [byt_extract, Nat.add_zero] at hk
  have e : nextF s i bytes = if bytes = true then (byt s i, 1) else if (sizeF (s.extract i s.size)).1 = 0 then (1114112 + byt s i, 1) else ((sizeF (s.extract i s.size)).2, (sizeF (s.extract i s.size)).1) := by
    unfold nextF
    rw [if_neg (by omega)]
    simp only [Int.toNat_natCast]
  rw [e] at h ⊢
  by_cases hb : bytes = true
  · rw [if_pos hb]
  · rw [if_neg hb] at h ⊢
    by_cases h0 : (sizeF (s.extract i s.size)).1 = 0
    · rw [if_pos h0] at h
      simp only at h
      omega
    · rw [if_neg h0] at h ⊢
      simp only at h
      obtain ⟨h1, h2⟩ := hk ⟨h, h0⟩
      rw [h1, h2]
theorem next_byte {s : ByteArray} {i : Nat} {bytes : Bool} (hi : i < s.size) (h : byt s i < 128) : nextF s i bytes = (byt s i, 1) := by
  have e : sizeF (s.extract i s.size) = (1, byt s i) := by
    unfold sizeF
    rw [byt_extract, Nat.add_zero, if_pos h]
  unfold nextF
  rw [if_neg (by omega)]
  simp only [Int.toNat_natCast, e]
  split
  · rfl
  · simp

theorem PAt.keeps_tabs {w w' : World} {bp : Nat} (hT : Tabs w) (hk : Keeps (fun k => k = bp) w w') {s : ByteArray} {i : Nat} {bytes : Bool} {nest : Nat} (hP : PAt w bp s i bytes nest) : Tabs w' := by
  obtain ⟨h1, h2⟩ := hT
  have hne : ∀ (b o : Nat) (v : Value), w.cell? ⟨b, o, none⟩ = some v → (∀ x : ByteArray, True) → b ≠ bp → w'.cell? ⟨b, o, none⟩ = some v := fun b o v h _ hb => (hk.cell (World.block_lt_of_cell? w _ h) hb).trans h
  have n1 : 1 ≠ bp := by
    intro e
    have h0 := h1 0 (by decide)
    have hc := hP.cell 0
    rw [← e] at hc
    rw [hc] at h0
    simp at h0
  have n2 : 2 ≠ bp := by
    intro e
    have h0 := (h2 0 (by decide)).1
    have hc := hP.cell 0
    rw [← e] at hc
    rw [show 2 * 0 = 0 from rfl, hc] at h0
    simp at h0
  refine ⟨fun c hc => ?_, fun i hi => ?_⟩
  · exact hne _ _ _ (h1 c hc) (fun _ => trivial) n1
  · obtain ⟨a, b⟩ := h2 i hi
    exact ⟨hne _ _ _ a (fun _ => trivial) n2, hne _ _ _ b (fun _ => trivial) n2⟩

/-- How a part of the parser ends where it gives up. -/
def Gives (bp : Nat) (at_ e : Int) (w w' : World) (o : Ending) : Prop := o = .panicked (faultV at_ e) ∧ Keeps (fun k => k = bp) w w'

def MemberPost (bp : Nat) (s : ByteArray) (bytes : Bool) (nest : Nat) (from_ : Int) (w w' : World) (e : Ending) : Option (Int × Nat) → Prop
  | none => Gives bp from_ 90 w w' e
  | some (x, k) => e = .returned (.int .i64 x) ∧ PAt w' bp s k bytes nest ∧ Keeps (fun k => k = bp) w w'

theorem code_bound {s : ByteArray} {i : Nat} {bytes : Bool} (hi : i < s.size) : 0 ≤ (nextF s i bytes).1 ∧ (nextF s i bytes).1 ≤ 2000000 := by
  have := (sized_all s bytes).at_ i hi
  omega

set_option maxRecDepth 100000 in
set_option maxHeartbeats 8000000 in
theorem member_calls {bp : Nat} {s : ByteArray} {i : Nat} {bytes : Bool} {nest : Nat} (from_ : Int) (w : World) (hP : PAt w bp s i bytes nest) (hT : Tabs w) (hi : i ≤ s.size) (hm : s.size ≤ 1024) :
    Calls Tryd.prog 74 #[.pointer (some ⟨bp, 0, none⟩), .int .i64 from_] w fun e w' => MemberPost bp s bytes nest from_ w w' e (memberF s i bytes) := by
  obtain ⟨O, hO⟩ : ∃ O, memberF s i bytes = O := ⟨_, rfl⟩
  rw [hO]
  unfold memberF at hO
  have c0 := hP.cell 0
  have c1 := hP.cell 1
  have hbp := hP.lt
  simp at c0 c1
  by_cases hge : s.size ≤ i
  · rw [if_pos ((next_le (sized_all s bytes)).2.2 hge)] at hO
    subst hO
    have hle : decide ((s.size : Int) ≤ i) = true := by simp; omega
    clear hP hT
    go_enter Tryd.func74, Tryd.ntmps74
    go_wp2_with fail
    go_quiet (fail)
    go_wp2_with fail
    refine (fail_calls _ _ _ _).mono ?_
    rintro e w' ⟨rfl, hw⟩
    obtain rfl := hw.symm
    exact ⟨rfl, rfl, (Keeps.refl _ _).drewN _⟩
  have hlt : i < s.size := by omega
  have hle : decide ((s.size : Int) ≤ i) = false := by simp; omega
  have hn := (next_le (i := i) (sized_all s bytes)).2.1 hlt
  rw [if_neg (by omega)] at hO
  have hch := fun w1 hP1 hT1 => char_calls (bp := bp) (s := s) (i := i) (bytes := bytes) (nest := nest) w1 hP1 hT1 hi hm
  have HP := hide hP; have HT := hide hT
  by_cases h92 : (nextF s i bytes).1 = 92
  · have hz := next_ascii hlt (bytes := bytes) (by omega)
    rw [hz] at hch hn h92 hO
    simp only at h92 hn hO
    rw [h92] at hch hO
    rw [if_neg (by simp)] at hO
    rw [show (1 : Int).toNat = 1 from rfl] at hch
    have HC := hide hch
    clear hch hP hT hz h92
    by_cases hge2 : s.size ≤ i + 1
    · have hnn := (next_le (i := i + 1) (sized_all s bytes)).2.2 hge2
      rw [show ((i + 1 : Nat) : Int) = (i : Int) + 1 by omega] at hnn
      rw [if_pos hnn] at hO
      subst hO
      clear hnn
      have hle2 : decide ((s.size : Int) ≤ (i : Int) + 1) = true := by simp; omega
      go_enter Tryd.func74, Tryd.ntmps74
      go_wp2_with fail
      go_quiet (fail)
      go_wp2_with fail
      refine (unhide HC _ ((unhide HP).below (by repeat (first | exact Below.refl _ _ | assumption | refine below_drewN ?_ _ | refine Below.drew ?_ | refine below_alloc' ?_ _))) ((unhide HT).below (by repeat (first | exact Below.refl _ _ | assumption | refine below_drewN ?_ _ | refine Below.drew ?_ | refine below_alloc' ?_ _)))).mono ?_
      rintro e w1 ⟨rfl, hP1, hK1⟩
      have q0 := hP1.cell 0
      have q1 := hP1.cell 1
      have hbp1 := hP1.lt
      simp at q0 q1
      have HK := hide hK1
      clear hP1 hK1
      go_wp2_with fail
      go_quiet (fail)
      go_wp2_with fail
      refine (fail_calls _ _ _ _).mono ?_
      rintro e w' ⟨rfl, hw⟩
      obtain rfl := hw.symm
      exact ⟨rfl, rfl, (((Keeps.refl _ _).drewN _).trans (unhide HK) (fun _ _ h => h)).drewN _⟩
    · have hlt2 : i + 1 < s.size := by omega
      have hle2 : decide ((s.size : Int) ≤ (i : Int) + 1) = false := by simp; omega
      have hnn := (next_le (i := i + 1) (sized_all s bytes)).2.1 hlt2
      have hcb := code_bound (bytes := bytes) hlt2
      have hch2 := fun w1 hP1 hT1 => char_calls (bp := bp) (s := s) (i := i + 1) (bytes := bytes) (nest := nest) w1 hP1 hT1 (by omega) hm
      rw [show ((i + 1 : Nat) : Int) = (i : Int) + 1 by omega] at hnn hcb hch2
      rw [if_neg (by omega)] at hO
      generalize nextF s ((i : Int) + 1) bytes = z at *
      obtain ⟨c2, n2⟩ := z
      simp only at hnn hcb hO hch2
      have hsg := fun w => single_calls c2 w hcb.1 hcb.2
      have HC2 := hide hch2
      clear hch2
      cases hsc : singleF c2 with
      | none =>
        rw [hsc] at hO
        subst hO
        simp only [singleV, hsc] at hsg
        have HS := hide hsg
        clear hsg hsc
        go_enter Tryd.func74, Tryd.ntmps74
        go_wp2_with fail
        go_quiet (fail)
        go_wp2_with fail
        refine (unhide HC _ ((unhide HP).below (by repeat (first | exact Below.refl _ _ | assumption | refine below_drewN ?_ _ | refine Below.drew ?_ | refine below_alloc' ?_ _))) ((unhide HT).below (by repeat (first | exact Below.refl _ _ | assumption | refine below_drewN ?_ _ | refine Below.drew ?_ | refine below_alloc' ?_ _)))).mono ?_
        rintro e w1 ⟨rfl, hP1, hK1⟩
        have q0 := hP1.cell 0
        have q1 := hP1.cell 1
        have hbp1 := hP1.lt
        have hT1 := PAt.keeps_tabs ((unhide HT).below (Below.refl _ _)) (((Keeps.refl (fun k => k = bp) w).drewN _).trans hK1 (fun _ _ h => h)) (unhide HP)
        simp at q0 q1
        have HK := hide hK1; have HP1 := hide hP1; have HT1 := hide hT1
        clear hP1 hK1 hT1
        go_wp2_with fail
        go_quiet (fail)
        go_wp2_with fail
        refine (unhide HC2 _ ((unhide HP1).below (by repeat (first | exact Below.refl _ _ | assumption | refine below_drewN ?_ _ | refine Below.drew ?_ | refine below_alloc' ?_ _))) ((unhide HT1).below (by repeat (first | exact Below.refl _ _ | assumption | refine below_drewN ?_ _ | refine Below.drew ?_ | refine below_alloc' ?_ _)))).mono ?_
        rintro e w2 ⟨rfl, hP2, hK2⟩
        have HK2 := hide hK2; have HP2 := hide hP2
        clear hP2 hK2
        go_wp2_with fail
        refine (unhide HS _).mono ?_
        rintro e w' ⟨rfl, hw⟩
        obtain rfl := hw.symm
        go_wp2_with fail
        refine (fail_calls _ _ _ _).mono ?_
        rintro e w' ⟨rfl, hw⟩
        obtain rfl := hw.symm
        exact ⟨rfl, rfl, ((((Keeps.refl _ _).drewN _).trans (unhide HK) (fun _ _ h => h)).drewN _).trans (unhide HK2) (fun _ _ h => h)⟩
      | some x =>
        rw [hsc] at hO
        simp only at hO
        subst hO
        simp only [singleV, hsc] at hsg
        have HS := hide hsg
        clear hsg hsc
        go_enter Tryd.func74, Tryd.ntmps74
        go_wp2_with fail
        go_quiet (fail)
        go_wp2_with fail
        refine (unhide HC _ ((unhide HP).below (by repeat (first | exact Below.refl _ _ | assumption | refine below_drewN ?_ _ | refine Below.drew ?_ | refine below_alloc' ?_ _))) ((unhide HT).below (by repeat (first | exact Below.refl _ _ | assumption | refine below_drewN ?_ _ | refine Below.drew ?_ | refine below_alloc' ?_ _)))).mono ?_
        rintro e w1 ⟨rfl, hP1, hK1⟩
        have q0 := hP1.cell 0
        have q1 := hP1.cell 1
        have hbp1 := hP1.lt
        have hT1 := PAt.keeps_tabs ((unhide HT).below (Below.refl _ _)) (((Keeps.refl (fun k => k = bp) w).drewN _).trans hK1 (fun _ _ h => h)) (unhide HP)
        simp at q0 q1
        have HK := hide hK1; have HP1 := hide hP1; have HT1 := hide hT1
        clear hP1 hK1 hT1
        go_wp2_with fail
        go_quiet (fail)
        go_wp2_with fail
        refine (unhide HC2 _ ((unhide HP1).below (by repeat (first | exact Below.refl _ _ | assumption | refine below_drewN ?_ _ | refine Below.drew ?_ | refine below_alloc' ?_ _))) ((unhide HT1).below (by repeat (first | exact Below.refl _ _ | assumption | refine below_drewN ?_ _ | refine Below.drew ?_ | refine below_alloc' ?_ _)))).mono ?_
        rintro e w2 ⟨rfl, hP2, hK2⟩
        have HK2 := hide hK2; have HP2 := hide hP2
        clear hP2 hK2
        go_wp2_with fail
        refine (unhide HS _).mono ?_
        rintro e w' ⟨rfl, hw⟩
        obtain rfl := hw.symm
        go_wp2_with fail
        go_ret
        exact ⟨rfl, unhide HP2, ((((Keeps.refl _ _).drewN _).trans (unhide HK) (fun _ _ h => h)).drewN _).trans (unhide HK2) (fun _ _ h => h)⟩
  · rw [if_pos h92] at hO
    subst hO
    generalize nextF s i bytes = z at *
    obtain ⟨c, n⟩ := z
    simp only at hn h92 hch
    have h92' : (c == 92) = false := by simpa using h92
    have h93' : (c != 92) = true := by simpa using h92
    have HC := hide hch
    clear hch hP hT h92
    go_enter Tryd.func74, Tryd.ntmps74
    go_wp2_with fail
    go_quiet (fail)
    go_wp2_with fail
    refine (unhide HC _ ((unhide HP).below (by repeat (first | exact Below.refl _ _ | assumption | refine below_drewN ?_ _ | refine Below.drew ?_ | refine below_alloc' ?_ _))) ((unhide HT).below (by repeat (first | exact Below.refl _ _ | assumption | refine below_drewN ?_ _ | refine Below.drew ?_ | refine below_alloc' ?_ _)))).mono ?_
    rintro e w1 ⟨rfl, hP1, hK1⟩
    go_wp2_with fail
    go_ret
    exact ⟨rfl, hP1, ((Keeps.refl _ _).drewN _).trans hK1 (fun _ _ h => h)⟩
end Go.Proofs.YtanmlgliibgpcaaDoor

/- What see tells, in bytes; where a class is closed. -/
namespace Go.Proofs.YtanmlgliibgpcaaDoor
open Go.RowKit Thr
set_option linter.unusedVariables false
set_option linter.unusedSimpArgs false

theorem tail_list (s : ByteArray) (i : Nat) : (s.extract i s.size).data.toList = s.data.toList.drop i := by
  simp [ByteArray.data_extract, Array.toList_extract, List.extract]
  rw [List.take_of_length_le]
  rw [List.length_drop, Array.length_toList]
  exact Nat.le_refl _
theorem byt_list (s : ByteArray) (i : Nat) (a : UInt8) : s.data.toList[i]? = some a ↔ i < s.size ∧ byt s i = a.toNat := by
  rw [Array.getElem?_toList]
  constructor
  · intro h
    obtain ⟨h1, h2⟩ := Array.getElem?_eq_some_iff.1 h
    have h1' : i < s.size := h1
    refine ⟨h1', ?_⟩
    rw [← byt_at h1']
    have : s[i] = a := h2
    rw [this]
  · rintro ⟨h1, h2⟩
    rw [← byt_at h1] at h2
    have h3 : s[i] = a := by
      apply UInt8.toNat_inj.1
      omega
    exact Array.getElem?_eq_some_iff.2 ⟨h1, h3⟩
theorem pre_one (l : List UInt8) (i : Nat) (a : UInt8) : [a].isPrefixOf (l.drop i) = true ↔ l[i]? = some a := by
  rw [List.isPrefixOf_iff_prefix]
  constructor
  · rintro ⟨t, h⟩
    have := congrArg (fun x => x[0]?) h
    simp at this
    exact this.symm
  · intro h
    obtain ⟨hi, he⟩ := List.getElem?_eq_some_iff.1 h
    rw [List.drop_eq_getElem_cons hi, he]
    exact ⟨_, rfl⟩
theorem pre_two (l : List UInt8) (i : Nat) (a b : UInt8) : [a, b].isPrefixOf (l.drop i) = true ↔ l[i]? = some a ∧ l[i + 1]? = some b := by
  rw [List.isPrefixOf_iff_prefix]
  constructor
  · rintro ⟨t, h⟩
    have h0 := congrArg (fun x => x[0]?) h
    have h1 := congrArg (fun x => x[1]?) h
    simp at h0 h1
    exact ⟨h0.symm, h1.symm⟩
  · rintro ⟨h0, h1⟩
    obtain ⟨hi, he⟩ := List.getElem?_eq_some_iff.1 h0
    obtain ⟨hi1, he1⟩ := List.getElem?_eq_some_iff.1 h1
    rw [List.drop_eq_getElem_cons hi, List.drop_eq_getElem_cons hi1, he, he1]
    exact ⟨_, rfl⟩
theorem see_one (s : ByteArray) (i : Nat) (a : UInt8) : seeF s i (lit [a]) = one s i a.toNat := by
  unfold seeF one Lib.hasPrefix
  rw [Bool.eq_iff_iff, tail_list, decide_eq_true_eq]
  exact (pre_one _ _ _).trans (byt_list _ _ _)
theorem see_two (s : ByteArray) (i : Nat) (a b : UInt8) : seeF s i (lit [a, b]) = two s i a.toNat b.toNat := by
  unfold seeF two Lib.hasPrefix
  rw [Bool.eq_iff_iff, tail_list, decide_eq_true_eq]
  refine (pre_two _ _ _ _).trans ?_
  rw [byt_list, byt_list]
  constructor
  · rintro ⟨⟨_, h1⟩, h2, h3⟩; exact ⟨h2, h1, h3⟩
  · rintro ⟨h2, h1, h3⟩; exact ⟨⟨by omega, h1⟩, h2, h3⟩
end Go.Proofs.YtanmlgliibgpcaaDoor

/- Where a class is closed: strings.Cut. -/
namespace Go.Proofs.YtanmlgliibgpcaaDoor
open Go.RowKit Thr
set_option linter.unusedVariables false
set_option linter.unusedSimpArgs false

theorem shutAt_none {s : ByteArray} : ∀ (f k : Nat), s.size ≤ k + f → shutAt s f k = none → ∀ j, k ≤ j → two s j 58 93 = false
  | 0, k, hf, h, j, hj => by simp [two]; omega
  | f + 1, k, hf, h, j, hj => by
    simp only [shutAt] at h
    split at h
    · simp [two]; omega
    · split at h
      · cases h
      · rename_i h1 h2
        rcases Nat.lt_or_ge k j with h3 | h3
        · exact shutAt_none f (k + 1) (by omega) h j h3
        · obtain rfl : j = k := by omega
          simp [two]
          intro _ e1 e2
          exact h2 ⟨e1, e2⟩
theorem shutAt_some {s : ByteArray} : ∀ (f k m : Nat), shutAt s f k = some m → k ≤ m ∧ two s m 58 93 = true ∧ ∀ j, k ≤ j → j < m → two s j 58 93 = false
  | 0, k, m, h => by simp [shutAt] at h
  | f + 1, k, m, h => by
    simp only [shutAt] at h
    split at h
    · cases h
    · rename_i h1
      split at h
      · rename_i h2
        injection h with h
        subst h
        exact ⟨Nat.le_refl _, by simp [two]; exact ⟨by omega, h2⟩, fun j h3 h4 => by omega⟩
      · rename_i h2
        obtain ⟨a, b, c⟩ := shutAt_some f (k + 1) m h
        refine ⟨by omega, b, fun j h3 h4 => ?_⟩
        rcases Nat.lt_or_ge k j with h5 | h5
        · exact c j h5 h4
        · obtain rfl : j = k := by omega
          simp [two]
          intro _ e1 e2
          exact h2 ⟨e1, e2⟩

theorem occ_two (s : ByteArray) (a j : Nat) : Lib.occAt (s.extract a s.size).data.toList [58, 93] j = two s (a + j) 58 93 := by
  unfold Lib.occAt two
  rw [Bool.eq_iff_iff, tail_list, List.drop_drop, decide_eq_true_eq]
  refine (pre_two _ _ _ _).trans ?_
  rw [byt_list, byt_list]
  constructor
  · rintro ⟨⟨_, h1⟩, h2, h3⟩; exact ⟨h2, h1, h3⟩
  · rintro ⟨h2, h1, h3⟩; exact ⟨⟨by omega, h1⟩, h2, h3⟩

theorem cut_none {s : ByteArray} {a : Nat} (h : shutAt s s.size a = none) : (Lib.cut (s.extract a s.size).data.toList [58, 93]).2.2 = false := by
  have hn := shutAt_none _ _ (by omega) h
  rcases Lib.index_spec (s.extract a s.size).data.toList [58, 93] with ⟨h1, _⟩ | ⟨i, h1, h2, h3, h4⟩
  · unfold Lib.cut
    rw [h1]; rfl
  · rw [occ_two, hn _ (by omega)] at h3
    cases h3
theorem cut_some {s : ByteArray} {a k : Nat} (h : shutAt s s.size a = some k) : (Lib.cut (s.extract a s.size).data.toList [58, 93]).2.2 = true ∧ (⟨(Lib.cut (s.extract a s.size).data.toList [58, 93]).1.toArray⟩ : ByteArray) = s.extract a k := by
  obtain ⟨h1, h2, h3⟩ := shutAt_some _ _ _ h
  have hk := (shutAt_le _ _ _ h).2
  have hidx : Lib.index (s.extract a s.size).data.toList [58, 93] = ((k - a : Nat) : Int) := by
    rcases Lib.index_spec (s.extract a s.size).data.toList [58, 93] with ⟨i1, i2⟩ | ⟨i, i1, i2, i3, i4⟩
    · have := i2 (k - a) (by rw [tail_list, List.length_drop, Array.length_toList]; have : s.data.size = s.size := rfl; omega)
      rw [occ_two, show a + (k - a) = k by omega, h2] at this
      cases this
    · rw [i1]
      rw [occ_two] at i3
      rcases Nat.lt_trichotomy (a + i) k with h5 | h5 | h5
      · rw [h3 _ (by omega) h5] at i3; cases i3
      · congr 1; omega
      · have := i4 (k - a) (by omega)
        rw [occ_two, show a + (k - a) = k by omega, h2] at this
        cases this
  unfold Lib.cut
  rw [hidx, if_pos (by omega)]
  refine ⟨rfl, ?_⟩
  apply ByteArray.ext
  apply Array.toList_inj.1
  simp only [Int.toNat_natCast]
  rw [tail_list]
  simp [ByteArray.data_extract, Array.toList_extract, List.extract]
end Go.Proofs.YtanmlgliibgpcaaDoor

/- The walk of named. -/
namespace Go.Proofs.YtanmlgliibgpcaaDoor
open Go.RowKit Thr
set_option linter.unusedVariables false
set_option linter.unusedSimpArgs false

/-- What the parser leans on beside its own block: the tables of unicode/utf8, a number of internal/bytealg's. -/
structure Glob (w : World) : Prop where
  tabs : Tabs w
  max : ∃ m, w.cell? ⟨0, 0, none⟩ = some (.int .i64 m)
theorem Glob.below {w w' : World} (h : Glob w) (hb : Below w.heap.size w w') : Glob w' := by
  obtain ⟨m, hm⟩ := h.max
  exact ⟨h.tabs.below hb, m, (hb.cell (p := ⟨_, _, none⟩) (World.block_lt_of_cell? w _ hm)).trans hm⟩
theorem Glob.keeps {w w' : World} {bp : Nat} (h : Glob w) (hk : Keeps (fun k => k = bp) w w') {s : ByteArray} {i : Nat} {bytes : Bool} {nest : Nat} (hP : PAt w bp s i bytes nest) : Glob w' := by
  obtain ⟨m, hm⟩ := h.max
  refine ⟨PAt.keeps_tabs h.tabs hk hP, m, (hk.cell (World.block_lt_of_cell? w _ hm) ?_).trans hm⟩
  intro e
  have e2 : 0 = bp := e
  subst e2
  have h0 := hP.cell 0
  simp at h0
  rw [h0] at hm
  cases hm

def NamedPost (bp : Nat) (s : ByteArray) (bytes : Bool) (nest : Nat) (from_ : Int) (w w' : World) (e : Ending) : Option (List (Int × Int) × Nat) → Prop
  | none => Gives bp from_ 90 w w' e
  | some (l, k) => ∃ b, e = .returned (.slice (some ⟨b, 0, none⟩) l.length l.length) ∧ w.heap.size ≤ b ∧ SetAt (fun k => w.heap.size ≤ k) w' (.slice (some ⟨b, 0, none⟩) l.length l.length) l ∧ PAt w' bp s k bytes nest ∧ Keeps (fun k => k = bp) w w'

set_option maxRecDepth 100000 in
set_option maxHeartbeats 8000000 in
theorem named_none {bp : Nat} {s : ByteArray} {i : Nat} {bytes : Bool} {nest : Nat} (from_ : Int) (w : World) (hP : PAt w bp s i bytes nest) (hi : i ≤ s.size) (hm : s.size ≤ 1024) (h : two s i 91 58 = false) :
    Calls Tryd.prog 73 #[.pointer (some ⟨bp, 0, none⟩), .int .i64 from_] w fun e w' => e = .returned (.slice none 0 0) ∧ Below w.heap.size w w' := by
  have hs := see_calls (lit [91, 58]) w hP hi hm
  rw [see_two, show ((91 : UInt8).toNat : Int) = 91 from rfl, show ((58 : UInt8).toNat : Int) = 58 from rfl, h] at hs
  have HS := hide hs
  clear hs hP
  go_enter Tryd.func73, Tryd.ntmps73
  go_wp2_with fail
  refine (unhide HS).mono ?_
  rintro e w1 ⟨rfl, hb1⟩
  go_wp2_with fail
  go_ret
  exact ⟨rfl, hb1⟩

set_option maxRecDepth 100000 in
set_option maxHeartbeats 8000000 in
theorem named_calls {bp : Nat} {s : ByteArray} {i : Nat} {bytes : Bool} {nest : Nat} (from_ : Int) (w : World) (hP : PAt w bp s i bytes nest) (hG : Glob w) (hi : i ≤ s.size) (hm : s.size ≤ 1024) (h : two s i 91 58 = true) :
    Calls Tryd.prog 73 #[.pointer (some ⟨bp, 0, none⟩), .int .i64 from_] w fun e w' => NamedPost bp s bytes nest from_ w w' e (namedF s i) := by
  obtain ⟨O, hO⟩ : ∃ O, namedF s i = O := ⟨_, rfl⟩
  rw [hO]
  have hi2 : i + 1 < s.size := by simp [two] at h; exact h.1
  have hs := see_calls (lit [91, 58]) w hP hi hm
  rw [see_two, show ((91 : UInt8).toNat : Int) = 91 from rfl, show ((58 : UInt8).toNat : Int) = 58 from rfl, h] at hs
  obtain ⟨mx, hmx⟩ := hG.max
  have hcut := fun w1 (hb : Below w.heap.size w w1) => Tryd.strings_Cut (s.extract (i + 2) s.size) (lit [58, 93]) mx w1 (by rw [tail_size]; omega) ((hb.cell (p := ⟨_, _, none⟩) (World.block_lt_of_cell? w _ hmx)).trans hmx)
  rw [show (lit [58, 93]).data.toList = [58, 93] from rfl] at hcut
  have hcn := @cut_none s (i + 2)
  have hcs := @cut_some s (i + 2)
  obtain ⟨C, hC⟩ : ∃ C, Lib.cut (s.extract (i + 2) s.size).data.toList [58, 93] = C := ⟨_, rfl⟩
  rw [hC] at hcut hcn
  simp only [hC] at hcs
  obtain ⟨c1, c2, c3⟩ := C
  simp only at hcut hcn hcs
  have HS := hide hs; have HCUT := hide hcut; have HP := hide hP
  have q0 := hP.cell 0
  have q1 := hP.cell 1
  have f1 := hP.frozen 1
  have hbp := hP.lt
  simp at q0 q1
  have b1 : (0 : Int) ≤ (i : Int) + 2 := by omega
  have b2 : (i : Int) + 2 ≤ s.size := by omega
  clear hs hcut hP hG hmx hC h
  unfold namedF at hO
  have hcl := fun n w => class_calls n w
  cases hsh : shutAt s s.size (i + 2) with
  | none =>
    obtain rfl := hcn hsh
    rw [hsh] at hO
    subst hO
    have HCL := hide hcl
    clear hcn hcs hsh hcl
    go_enter Tryd.func73, Tryd.ntmps73
    go_wp2_with fail
    refine (unhide HS).mono ?_
    rintro e w1 ⟨rfl, hb1⟩
    have p0 := ((bcell hb1).1 bp 0 hbp).trans q0
    have p1 := ((bcell hb1).1 bp 1 hbp).trans q1
    have HB1 := hide hb1
    clear hb1
    go_wp2_with fail
    have b3 : ((i : Int) + 2).toNat = i + 2 := by omega
    have b4 : IntKind.i64.wrap ((i : Int) + 2) = (i : Int) + 2 := by rw [IntKind.wrap_i64]; omega
    go_region_held3 (fun w' => w'.cell? ⟨bp, 0, none⟩ = some (.string s) ∧ w'.cell? ⟨bp, 1, none⟩ = some (.int .i64 i)) (go_keep) ((go_at_call 79; refine (unhide HCUT _ (by first | exact unhide HB1 | exact (unhide HB1).drew | exact below_drewN (unhide HB1) _)).mono ?_; rintro e w2 ⟨rfl, nn, rfl⟩))
    all_goals
      go_wp2_with fail
      refine (unhide HCL _ _).mono ?_
      rintro e w3 hcp
      have hcp' : (∃ v c, (v = .slice none 0 0 ∨ ∃ b, v = .slice (some ⟨b, 0, none⟩) c c) ∧ e = .returned v) ∧ Below w1.heap.size w1 w3 := by
        generalize classF _ = X at hcp
        cases X with
        | none => exact ⟨⟨_, 0, .inl rfl, hcp.1⟩, (below_drewN (Below.refl w1.heap.size w1) _).trans hcp.2⟩
        | some l => obtain ⟨b, h1, h2, h3, h4⟩ := hcp; exact ⟨⟨_, l.length, .inr ⟨b, rfl⟩, h1⟩, (below_drewN (Below.refl w1.heap.size w1) _).trans h4⟩
      obtain ⟨⟨v, c, hv, rfl⟩, hb3⟩ := hcp'
      have HB3 := hide (below_then (unhide HB1) hb3)
      clear hcp hb3
      rcases hv with rfl | ⟨b, rfl⟩
      all_goals
        go_wp2_with fail
        refine (fail_calls _ _ _ _).mono ?_
        rintro e w' ⟨rfl, hw⟩
        obtain rfl := hw.symm
        exact ⟨rfl, rfl, Keeps.of_below (unhide HB3) _⟩
  | some k =>
    obtain ⟨rfl, hnm⟩ := hcs hsh
    have hkl := shutAt_le _ _ _ hsh
    have hcut := unhide HCUT
    simp only [hnm] at hcut
    rw [hsh] at hO
    simp only at hO
    have hsz : (s.extract (i + 2) k).size = k - (i + 2) := by simp [ByteArray.size_extract]; omega
    generalize s.extract (i + 2) k = nm at *
    have hcl := fun w => hcl nm w
    have hns : (nm.size : Int) ≤ 1024 := by omega
    have hfin : (i : Int) + (nm.size + 4) = ((k + 2 : Nat) : Int) := by omega
    have hq := fun (w : World) (a : Option Addr) (n c : Nat) => Lib.run_eql_slice_nil w 23 65 a n c 0 0 Tryd.underlying23
    have HCUT2 := hide hcut; have HFIN := hide hfin
    clear hcut HCUT hcn hcs hsh hnm hfin
    have b3 : ((i : Int) + 2).toNat = i + 2 := by omega
    have b4 : IntKind.i64.wrap ((i : Int) + 2) = (i : Int) + 2 := by rw [IntKind.wrap_i64]; omega
    cases hcf : classF nm with
    | none =>
      rw [hcf] at hO hcl
      subst hO
      have HCL := hide hcl
      clear hcl hcf hsz
      go_enter Tryd.func73, Tryd.ntmps73
      go_wp2_with fail
      refine (unhide HS).mono ?_
      rintro e w1 ⟨rfl, hb1⟩
      have p0 := ((bcell hb1).1 bp 0 hbp).trans q0
      have p1 := ((bcell hb1).1 bp 1 hbp).trans q1
      have HB1 := hide hb1
      clear hb1
      go_wp2_with fail
      go_region_held3 (fun w' => w'.cell? ⟨bp, 0, none⟩ = some (.string s) ∧ w'.cell? ⟨bp, 1, none⟩ = some (.int .i64 i)) (go_keep) ((go_at_call 79; refine (unhide HCUT2 _ (by first | exact unhide HB1 | exact (unhide HB1).drew | exact below_drewN (unhide HB1) _)).mono ?_; rintro e w2 ⟨rfl, nn, rfl⟩))
      all_goals
        go_wp2_with fail
        refine (unhide HCL _).mono ?_
        rintro e w3 ⟨rfl, hb3⟩
        have HB3 := hide (below_then (unhide HB1) ((below_drewN (Below.refl w1.heap.size w1) _).trans hb3))
        clear hb3
        go_wp2_with fail
        refine (fail_calls _ _ _ _).mono ?_
        rintro e w' ⟨rfl, hw⟩
        obtain rfl := hw.symm
        exact ⟨rfl, rfl, Keeps.of_below (unhide HB3) _⟩
    | some l =>
      rw [hcf] at hO hcl
      subst hO
      have HCL := hide hcl
      clear hcl hcf hsz
      go_enter Tryd.func73, Tryd.ntmps73
      go_wp2_with fail
      refine (unhide HS).mono ?_
      rintro e w1 ⟨rfl, hb1⟩
      have p0 := ((bcell hb1).1 bp 0 hbp).trans q0
      have p1 := ((bcell hb1).1 bp 1 hbp).trans q1
      have HB1 := hide hb1
      clear hb1
      go_wp2_with fail
      go_region_held3 (fun w' => w'.cell? ⟨bp, 0, none⟩ = some (.string s) ∧ w'.cell? ⟨bp, 1, none⟩ = some (.int .i64 i)) (go_keep) ((go_at_call 79; refine (unhide HCUT2 _ (by first | exact unhide HB1 | exact (unhide HB1).drew | exact below_drewN (unhide HB1) _)).mono ?_; rintro e w2 ⟨rfl, nn, rfl⟩))
      all_goals
        go_wp2_with fail
        refine (unhide HCL _).mono ?_
        rintro e w3 ⟨b, rfl, hb0, hst, hb3⟩
        have hb4 := below_then (unhide HB1) ((below_drewN (Below.refl w1.heap.size w1) _).trans hb3)
        have r1 := ((bcell hb4).1 bp 1 hbp).trans q1
        have rf := ((bcell hb4).2 bp 1 hbp).trans f1
        have hbp3 : bp < w3.heap.size := by have := hb4.size; omega
        have hz1 := (unhide HB1).size
        have hb0' : w1.heap.size ≤ b := hb0
        have HB3 := hide hb4; have HST := hide hst
        clear hb3 hst hb4 hb0
        go_wp2_with fail
        go_ret
        refine ⟨b, rfl, by omega, ?_, ?_, Keeps.setCell (S := fun k => k = bp) (p := ⟨bp, 1, none⟩) (Keeps.of_below (unhide HB3) _) (.inl rfl) _⟩
        · refine ((unhide HST).mono (ok' := fun k => w.heap.size ≤ k) (fun k hk => by have : w1.heap.size ≤ k := hk; omega)).step (fun k hk hkl => Below.heap_setCell _ _ _ k (by simp only; omega))
        · have := ((unhide HP).below (unhide HB3)).go_on (k + 2)
          rw [← unhide HFIN] at this
          exact this
end Go.Proofs.YtanmlgliibgpcaaDoor
