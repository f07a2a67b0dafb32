/- The walk of interval. -/
import Derived.Test.YtanmlgliibgpcaaDoorRxD
namespace Go.Proofs.YtanmlgliibgpcaaDoor
open Go.RowKit Thr
set_option linter.unusedVariables false
set_option linter.unusedSimpArgs false

theorem tail_tail (s : ByteArray) (a b : Nat) (ha : a ≤ s.size) : (s.extract a s.size).extract b (s.extract a s.size).size = s.extract (a + b) s.size := by
  apply ByteArray.ext
  simp [ByteArray.data_extract, Array.extract_extract, ByteArray.size_extract]
  congr 1
  omega
theorem tail_size (s : ByteArray) (a : Nat) : (s.extract a s.size).size = s.size - a := by simp [ByteArray.size_extract]
theorem dig_fuel (s : ByteArray) : ∀ (f i : Nat) (v : Int), s.size - i ≤ f → digF s f i v = digF s (s.size - i) i v
  | 0, i, v, h => by rw [show s.size - i = 0 by omega]
  | f + 1, i, v, h => by
    simp only [digF]
    rcases Nat.lt_or_ge i s.size with hi | hi
    · rw [show s.size - i = (s.size - (i + 1)) + 1 by omega]
      simp only [digF]
      rw [dig_fuel s f (i + 1) _ (by omega)]
    · rw [show s.size - i = 0 by omega, if_neg (by omega)]
      simp [digF]
theorem dig_tail (s : ByteArray) (a : Nat) : ∀ (f j : Nat) (v : Int), a + j ≤ s.size → digF (s.extract a s.size) f j v = ((digF s f (a + j) v).1, (digF s f (a + j) v).2 - a)
  | 0, j, v, h => by simp [digF]
  | f + 1, j, v, h => by
    simp only [digF, tail_size, byt_extract]
    by_cases hc : a + j < s.size ∧ isDig (byt s (a + j)) = true
    · rw [if_pos hc, if_pos ⟨by omega, hc.2⟩, dig_tail s a f (j + 1) _ (by omega)]
      rfl
    · rw [if_neg hc, if_neg (by intro h'; exact hc ⟨by omega, h'.2⟩)]
      simp
theorem dig_sub (s : ByteArray) (a : Nat) (ha : a ≤ s.size) : digF (s.extract a s.size) (s.extract a s.size).size 0 0 = ((digF s s.size a 0).1, (digF s s.size a 0).2 - a) := by
  rw [tail_size, dig_tail s a _ 0 0 (by omega), Nat.add_zero, ← dig_fuel s s.size a 0 (by omega)]
theorem dig_range (s : ByteArray) : ∀ (f i : Nat) (v : Int), 0 ≤ v → v ≤ 1000 → 0 ≤ (digF s f i v).1 ∧ (digF s f i v).1 ≤ 1000
  | 0, i, v, h0, h1 => by simp only [digF]; omega
  | f + 1, i, v, h0, h1 => by
    simp only [digF]
    split
    · rename_i h
      have : 48 ≤ byt s i ∧ byt s i ≤ 57 := by simpa [isDig] using h.2
      exact dig_range s f (i + 1) _ (by omega) (by omega)
    · exact ⟨h0, h1⟩

theorem ret_three {a a' b b' c c' : Int} (h1 : a = a') (h2 : b = b') (h3 : c = c') : Ending.returned (.tuple #[.int .i64 a, .int .i64 b, .int .i64 c]) = .returned (.tuple #[.int .i64 a', .int .i64 b', .int .i64 c']) := by rw [h1, h2, h3]
def itvV : Option (Int × Int × Nat) → Value
  | none => .tuple #[.int .i64 0, .int .i64 0, .int .i64 0]
  | some (lo, hi, k) => .tuple #[.int .i64 lo, .int .i64 hi, .int .i64 k]

set_option maxRecDepth 100000 in
set_option maxHeartbeats 8000000 in
theorem interval_calls (t : ByteArray) (w : World) (h1 : 1 ≤ t.size) (hm : t.size ≤ 1024) :
    Calls Tryd.prog 65 #[.string t] w fun e w' => e = .returned (itvV (itvF t 0)) ∧ w' = w := by
  have hd1 := dig_le t t.size 1 0
  have hv1 := dig_range t t.size 1 0 (by omega) (by omega)
  have hf1 := fun w => figure_calls (t.extract 1 t.size) w (by rw [tail_size]; omega)
  rw [dig_sub t 1 h1] at hf1
  have hit : itvF t 0 = itvF t 0 := rfl
  conv at hit => rhs; unfold itvF
  simp only [Nat.zero_add] at hit
  have hf2 : ∀ k, k ≤ t.size → ∀ w, Calls Tryd.prog 72 #[.string (t.extract k t.size)] w fun e w' => e = .returned (.tuple #[.int .i64 (digF t t.size k 0).1, .int .i64 ((digF t t.size k 0).2 - k : Nat)]) ∧ w' = w := fun k hk w => by
    have := figure_calls (t.extract k t.size) w (by rw [tail_size]; omega)
    rw [dig_sub t k hk] at this
    exact this
  generalize digF t t.size 1 0 = D at *
  obtain ⟨v1, k1⟩ := D
  simp only at hd1 hv1 hf1 hit
  obtain ⟨n, rfl⟩ : ∃ n, k1 = 1 + n := ⟨k1 - 1, by omega⟩
  rw [show 1 + n - 1 = n by omega] at hf1
  obtain ⟨F, hF⟩ : ∃ F, itvF t 0 = F := ⟨_, rfl⟩
  rw [hF] at hit ⊢
  have HF1 := hide hf1; have HF2 := hide hf2; have HIT := hide hit
  clear hf1 hf2 hit hF
  by_cases hn0 : n = 0
  · subst hn0
    obtain rfl : F = none := by rw [unhide HIT, if_pos (.inl rfl)]
    go_enter Tryd.func65, Tryd.ntmps65
    go_wp2_with fail
    refine (unhide HF1 _).mono ?_
    rintro e w' ⟨rfl, hw⟩
    obtain rfl := hw.symm
    go_wp2_with fail
    go_ret3
    exact ⟨rfl, rfl⟩
  have hn0' : ((n : Int) == 0) = false := by simp; omega
  by_cases hge : t.size ≤ 1 + n
  · obtain rfl : F = none := by rw [unhide HIT, if_pos (.inr hge)]
    go_enter Tryd.func65, Tryd.ntmps65
    go_wp2_with fail
    refine (unhide HF1 _).mono ?_
    rintro e w' ⟨rfl, hw⟩
    obtain rfl := hw.symm
    go_wp2_with fail
    go_ret3
    exact ⟨rfl, rfl⟩
  have hlt : 1 + n < t.size := by omega
  have hb := byt_at hlt
  have hr := byt_range t (1 + n)
  have hit := unhide HIT
  rw [if_neg (by omega)] at hit
  obtain ⟨b, hb0⟩ : ∃ b, byt t (1 + n) = b := ⟨_, rfl⟩
  rw [hb0] at hb hr hit
  have HIT2 := hide hit
  clear hit HIT hb0
  by_cases h44 : b = 44
  · have h44' : (b == 44) = true := by simpa using h44
    have hf := unhide HF2 (1 + n + 1) (by omega)
    have hit := unhide HIT2
    rw [if_pos h44] at hit
    have hd2 := dig_le t t.size (1 + n + 1) 0
    have hv2 := dig_range t t.size (1 + n + 1) 0 (by omega) (by omega)
    generalize digF t t.size (1 + n + 1) 0 = D at *
    obtain ⟨v2, k2⟩ := D
    simp only at hd2 hv2 hf hit
    have hd2' : 1 + n + 1 ≤ t.size := by omega
    by_cases hm0 : k2 = 1 + n + 1
    · subst hm0
      rw [show 1 + n + 1 - (1 + n + 1) = 0 by omega] at hf
      have HF := hide hf
      clear hf HIT2 h44 hd2'
      have hk2 : 1 + n + 1 ≤ t.size := by omega
      by_cases hge2 : t.size ≤ 1 + n + 1
      · obtain rfl : F = none := by rw [hit, if_neg (by omega)]
        have HK := hide hk2
        clear hk2 hit hd2
        · go_enter Tryd.func65, Tryd.ntmps65
          go_wp2_with fail
          refine (unhide HF1 _).mono ?_
          rintro e w' ⟨rfl, hw⟩
          obtain rfl := hw.symm
          go_wp2_with fail
          refine (unhide HF _).mono ?_
          rintro e w' ⟨rfl, hw⟩
          obtain rfl := hw.symm
          go_wp2_with fail
          go_ret3
          exact ⟨rfl, rfl⟩
      · have hlt2 : 1 + n + 1 < t.size := by omega
        have hb2 := byt_at hlt2
        have hr2 := byt_range t (1 + n + 1)
        obtain ⟨b2, hb20⟩ : ∃ b, byt t (1 + n + 1) = b := ⟨_, rfl⟩
        rw [hb20] at hb2 hr2 hit
        clear hb20 hge2 hd2 hk2
        by_cases h125 : b2 = 125
        · have h125' : (b2 == 125) = true := by simpa using h125
          have h126' : (b2 != 125) = false := by simpa using h125
          obtain rfl : F = some (v1, -1, 1 + n + 1 + 1) := by rw [hit, if_pos ⟨hlt2, h125⟩, if_pos rfl]
          clear h125 hit
          go_enter Tryd.func65, Tryd.ntmps65
          go_wp2_with fail
          refine (unhide HF1 _).mono ?_
          rintro e w' ⟨rfl, hw⟩
          obtain rfl := hw.symm
          go_wp2_with fail
          refine (unhide HF _).mono ?_
          rintro e w' ⟨rfl, hw⟩
          obtain rfl := hw.symm
          go_wp2_with fail
          go_ret3
          exact ⟨ret_three rfl rfl (by omega), rfl⟩
        · have h125' : (b2 == 125) = false := by simpa using h125
          have h126' : (b2 != 125) = true := by simpa using h125
          obtain rfl : F = none := by rw [hit, if_neg (by omega)]
          clear h125 hit
          go_enter Tryd.func65, Tryd.ntmps65
          go_wp2_with fail
          refine (unhide HF1 _).mono ?_
          rintro e w' ⟨rfl, hw⟩
          obtain rfl := hw.symm
          go_wp2_with fail
          refine (unhide HF _).mono ?_
          rintro e w' ⟨rfl, hw⟩
          obtain rfl := hw.symm
          go_wp2_with fail
          go_ret3
          exact ⟨rfl, rfl⟩
    · obtain ⟨m, rfl⟩ : ∃ m, k2 = 1 + n + (1 + m) := ⟨k2 - (1 + n + 1), by omega⟩
      rw [show 1 + n + (1 + m) - (1 + n + 1) = m by omega] at hf
      have HF := hide hf
      have hm1 : 0 < m := by omega
      have hm2 : ((m : Int) == 0) = false := by simp; omega
      have hnm : ¬ 1 + n + (1 + m) = 1 + n + 1 := by omega
      have hnm2 : n + m ≤ 3000 := by omega
      have HNM := hide hnm
      clear hf HIT2 h44 hd2' hm0 hnm
      have hk2 : 1 + n + (1 + m) ≤ t.size := by omega
      by_cases hge2 : t.size ≤ 1 + n + (1 + m)
      · obtain rfl : F = none := by rw [hit, if_neg (by omega)]
        have HK := hide hk2
        clear hk2 hit hd2
        · go_enter Tryd.func65, Tryd.ntmps65
          go_wp2_with fail
          refine (unhide HF1 _).mono ?_
          rintro e w' ⟨rfl, hw⟩
          obtain rfl := hw.symm
          go_wp2_with fail
          refine (unhide HF _).mono ?_
          rintro e w' ⟨rfl, hw⟩
          obtain rfl := hw.symm
          go_wp2_with fail
          go_ret3
          exact ⟨rfl, rfl⟩
      · have hlt2 : 1 + n + (1 + m) < t.size := by omega
        have hb2 := byt_at hlt2
        have hr2 := byt_range t (1 + n + (1 + m))
        obtain ⟨b2, hb20⟩ : ∃ b, byt t (1 + n + (1 + m)) = b := ⟨_, rfl⟩
        rw [hb20] at hb2 hr2 hit
        clear hb20 hge2 hd2 hk2
        by_cases h125 : b2 = 125
        · have h125' : (b2 == 125) = true := by simpa using h125
          have h126' : (b2 != 125) = false := by simpa using h125
          obtain rfl : F = some (v1, v2, 1 + n + (1 + m) + 1) := by rw [hit, if_pos ⟨hlt2, h125⟩, if_neg (unhide HNM)]
          clear h125 hit
          go_enter Tryd.func65, Tryd.ntmps65
          go_wp2_with fail
          refine (unhide HF1 _).mono ?_
          rintro e w' ⟨rfl, hw⟩
          obtain rfl := hw.symm
          go_wp2_with fail
          refine (unhide HF _).mono ?_
          rintro e w' ⟨rfl, hw⟩
          obtain rfl := hw.symm
          go_wp2_with fail
          go_ret3
          exact ⟨ret_three rfl rfl (by omega), rfl⟩
        · have h125' : (b2 == 125) = false := by simpa using h125
          have h126' : (b2 != 125) = true := by simpa using h125
          obtain rfl : F = none := by rw [hit, if_neg (by omega)]
          clear h125 hit
          go_enter Tryd.func65, Tryd.ntmps65
          go_wp2_with fail
          refine (unhide HF1 _).mono ?_
          rintro e w' ⟨rfl, hw⟩
          obtain rfl := hw.symm
          go_wp2_with fail
          refine (unhide HF _).mono ?_
          rintro e w' ⟨rfl, hw⟩
          obtain rfl := hw.symm
          go_wp2_with fail
          go_ret3
          exact ⟨rfl, rfl⟩
  · have h44' : (b == 44) = false := by simpa using h44
    have hit := unhide HIT2
    rw [if_neg h44] at hit
    clear HIT2 h44
    by_cases h125 : b = 125
    · have h125' : (b == 125) = true := by simpa using h125
      have h126' : (b != 125) = false := by simpa using h125
      rw [if_pos h125] at hit
      clear h125
      subst hit
      go_enter Tryd.func65, Tryd.ntmps65
      go_wp2_with fail
      refine (unhide HF1 _).mono ?_
      rintro e w' ⟨rfl, hw⟩
      obtain rfl := hw.symm
      go_wp2_with fail
      go_ret3
      exact ⟨ret_three rfl rfl (by omega), rfl⟩
    · have h125' : (b == 125) = false := by simpa using h125
      have h126' : (b != 125) = true := by simpa using h125
      rw [if_neg h125] at hit
      clear h125
      subst hit
      go_enter Tryd.func65, Tryd.ntmps65
      go_wp2_with fail
      refine (unhide HF1 _).mono ?_
      rintro e w' ⟨rfl, hw⟩
      obtain rfl := hw.symm
      go_wp2_with fail
      go_ret3
      exact ⟨rfl, rfl⟩

/-- Of a text's tail. -/
theorem itv_tail (s : ByteArray) (i : Nat) (hi : i < s.size) : itvF (s.extract i s.size) 0 = (itvF s i).map fun r => (r.1, r.2.1, r.2.2 - i) := by
  have hd : ∀ k, i + k ≤ s.size → digF (s.extract i s.size) (s.size - i) k 0 = ((digF s s.size (i + k) 0).1, (digF s s.size (i + k) 0).2 - i) := fun k hk => by
    rw [dig_tail s i _ k 0 hk, dig_fuel s s.size (i + k) 0 (by omega), dig_fuel s (s.size - i) (i + k) 0 (by omega)]
  have h1 := dig_le s s.size (i + 1) 0
  unfold itvF
  simp only [tail_size]
  rw [Nat.zero_add, hd 1 (by omega)]
  generalize digF s s.size (i + 1) 0 = D at *
  obtain ⟨v1, k1⟩ := D
  simp only at h1 ⊢
  by_cases hc : k1 = i + 1 ∨ s.size ≤ k1
  · rw [if_pos hc, if_pos (by omega)]; rfl
  · rw [if_neg hc, if_neg (by omega), byt_extract, show i + (k1 - i) = k1 by omega]
    by_cases h44 : byt s k1 = 44
    · rw [if_pos h44, if_pos h44, hd (k1 - i + 1) (by omega), show i + (k1 - i + 1) = k1 + 1 by omega]
      have h2 := dig_le s s.size (k1 + 1) 0
      generalize digF s s.size (k1 + 1) 0 = D2 at *
      obtain ⟨v2, k2⟩ := D2
      simp only at h2 ⊢
      rw [byt_extract, show i + (k2 - i) = k2 by omega]
      by_cases hc2 : k2 < s.size ∧ byt s k2 = 125
      · rw [if_pos hc2, if_pos ⟨by omega, hc2.2⟩]
        simp only [Option.map_some]
        congr 3
        · by_cases hk : k2 = k1 + 1
          · rw [if_pos hk, if_pos (by omega)]
          · rw [if_neg hk, if_neg (by omega)]
        · omega
      · rw [if_neg hc2, if_neg (by omega)]; rfl
    · rw [if_neg h44, if_neg h44]
      by_cases h125 : byt s k1 = 125
      · rw [if_pos h125, if_pos h125]
        simp only [Option.map_some]
        congr 3
        omega
      · rw [if_neg h125, if_neg h125]; rfl
end Go.Proofs.YtanmlgliibgpcaaDoor
