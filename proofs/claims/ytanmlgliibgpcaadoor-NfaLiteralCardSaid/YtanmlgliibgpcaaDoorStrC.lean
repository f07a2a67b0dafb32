/- Walks: ustr.Next and thresherref01.Next give the same: 'nextF'. -/
import Derived.Test.YtanmlgliibgpcaaDoorStrB
namespace Go.Proofs.YtanmlgliibgpcaaDoor
open Go.RowKit Thr
set_option linter.unusedVariables false

/-- The tables of unicode/utf8 lie as the program's text lays them. -/
def Tabs (w : World) : Prop := Lib.Utf8Tabs 1 2 w
theorem Tabs.below {w w' : World} (h : Tabs w) (hb : Below w.heap.size w w') : Tabs w' := by
  obtain ⟨h1, h2⟩ := h
  refine ⟨fun c hc => ?_, fun i hi => ?_⟩
  · have := h1 c hc
    exact (hb.cell (p := ⟨_, _, none⟩) (World.block_lt_of_cell? w _ this)).trans this
  · obtain ⟨a, b⟩ := h2 i hi
    exact ⟨(hb.cell (p := ⟨_, _, none⟩) (World.block_lt_of_cell? w _ a)).trans a, (hb.cell (p := ⟨_, _, none⟩) (World.block_lt_of_cell? w _ b)).trans b⟩

theorem ret_pair {a b : Int} {p : Int × Int} (h : p = (a, b)) : Ending.returned (.tuple #[.int .i64 a, .int .i64 b]) = .returned (.tuple #[.int .i64 p.1, .int .i64 p.2]) := by rw [h]

theorem byt_index {s : ByteArray} {i : Int} (h : i.toNat < s.size) : ((s[i.toNat]'h).toNat : Int) = byt s i.toNat := byt_at h

set_option maxHeartbeats 2000000 in
theorem rnext_calls (s : ByteArray) (i : Int) (bytes : Bool) (w : World) (hm : s.size ≤ 140737488351232) :
    Calls Tryd.prog 31 #[.string s, .int .i64 i, .bool bytes] w fun e w' => e = .returned (.tuple #[.int .i64 (nextF s i bytes).1, .int .i64 (nextF s i bytes).2]) ∧ w' = w := by
  by_cases h0 : i < 0
  · go_enter Tryd.func31, Tryd.ntmps31
    go_wp2
    go_ret2
    exact ⟨ret_pair (by unfold nextF; rw [if_pos (by omega)]), rfl⟩
  by_cases h1 : (s.size : Int) ≤ i
  · go_enter Tryd.func31, Tryd.ntmps31
    go_wp2
    go_ret2
    exact ⟨ret_pair (by unfold nextF; rw [if_pos (by omega)]), rfl⟩
  obtain ⟨k, rfl⟩ := Int.eq_ofNat_of_zero_le (by omega : 0 ≤ i)
  have hk : k < s.size := by omega
  have e0 : ¬ ((k : Int) < 0 ∨ (s.size : Int) ≤ k) := by omega
  have hb := byt_at hk
  have hr := byt_range s k
  cases bytes with
  | true =>
    obtain ⟨b0, hb0⟩ : ∃ b0, byt s k = b0 := ⟨_, rfl⟩
    rw [hb0] at hb hr
    have HB := hide hb0
    clear hb0
    go_enter Tryd.func31, Tryd.ntmps31
    go_wp2
    go_ret2
    exact ⟨ret_pair (by unfold nextF; rw [if_neg e0, if_pos rfl, Int.toNat_natCast, unhide HB]), rfl⟩
  | false =>
    have hx : 0 < (s.extract k s.size).size := by simp [ByteArray.size_extract]; omega
    have hx2 : (s.extract k s.size).size ≤ 140737488351232 := by simp [ByteArray.size_extract]; omega
    have hc := fun w => size_calls (s.extract k s.size) w hx hx2
    have hkn := sizeF_known (s.extract k s.size) hx
    obtain ⟨b0, hb0⟩ : ∃ b0, byt s k = b0 := ⟨_, rfl⟩
    rw [hb0] at hb hr
    obtain ⟨z, hz⟩ : ∃ z, sizeF (s.extract k s.size) = z := ⟨_, rfl⟩
    rw [hz] at hc hkn
    have hn : nextF s k false = if z.1 = 0 then (1114112 + b0, 1) else (z.2, z.1) := by
      unfold nextF
      rw [if_neg e0, if_neg (by simp), Int.toNat_natCast, hz, hb0]
    have HB := hide hb0; have HN := hide hn; have HC := hide hc
    obtain ⟨z1, z2⟩ := z
    simp only at hkn
    clear hb0 hz hn hc
    by_cases hz : z1 = 0
    · have hz' : (z1 == 0) = true := by simpa using hz
      have HZ := hide hz
      clear hz
      go_enter Tryd.func31, Tryd.ntmps31
      go_wp2_with (go_at_call 46; refine (unhide HC _).mono ?_; rintro e w' ⟨rfl, hw⟩; obtain rfl := hw.symm)
      go_ret2
      exact ⟨ret_pair (by rw [unhide HN, if_pos (unhide HZ)]), rfl⟩
    · have hz' : (z1 == 0) = false := by simpa using hz
      have HZ := hide hz
      clear hz
      go_enter Tryd.func31, Tryd.ntmps31
      go_wp2_with (go_at_call 46; refine (unhide HC _).mono ?_; rintro e w' ⟨rfl, hw⟩; obtain rfl := hw.symm)
      go_ret2
      exact ⟨ret_pair (by rw [unhide HN, if_neg (unhide HZ)]), rfl⟩

set_option maxHeartbeats 2000000 in
theorem next_calls (s : ByteArray) (i : Int) (bytes : Bool) (w : World) (hT : Tabs w) (hm : s.size ≤ 140737488351232) :
    Calls Tryd.prog 29 #[.string s, .int .i64 i, .bool bytes] w fun e w' => e = .returned (.tuple #[.int .i64 (nextF s i bytes).1, .int .i64 (nextF s i bytes).2]) ∧ Below w.heap.size w w' := by
  by_cases h0 : i < 0
  · go_enter Tryd.func29, Tryd.ntmps29
    go_wp2
    go_ret2
    exact ⟨ret_pair (by unfold nextF; rw [if_pos (by omega)]), (by repeat (first | exact Below.refl _ _ | assumption | refine below_drewN ?_ _ | refine Below.drew ?_ | refine below_alloc' ?_ _))⟩
  by_cases h1 : (s.size : Int) ≤ i
  · go_enter Tryd.func29, Tryd.ntmps29
    go_wp2
    go_ret2
    exact ⟨ret_pair (by unfold nextF; rw [if_pos (by omega)]), (by repeat (first | exact Below.refl _ _ | assumption | refine below_drewN ?_ _ | refine Below.drew ?_ | refine below_alloc' ?_ _))⟩
  obtain ⟨k, rfl⟩ := Int.eq_ofNat_of_zero_le (by omega : 0 ≤ i)
  have hk : k < s.size := by omega
  have e0 : ¬ ((k : Int) < 0 ∨ (s.size : Int) ≤ k) := by omega
  have hb := byt_at hk
  have hr := byt_range s k
  cases bytes with
  | true =>
    obtain ⟨b0, hb0⟩ : ∃ b0, byt s k = b0 := ⟨_, rfl⟩
    rw [hb0] at hb hr
    have HB := hide hb0
    clear hb0
    go_enter Tryd.func29, Tryd.ntmps29
    go_wp2
    go_ret2
    exact ⟨ret_pair (by unfold nextF; rw [if_neg e0, if_pos rfl, Int.toNat_natCast, unhide HB]), (by repeat (first | exact Below.refl _ _ | assumption | refine below_drewN ?_ _ | refine Below.drew ?_ | refine below_alloc' ?_ _))⟩
  | false =>
    have hx : 0 < (s.extract k s.size).size := by simp [ByteArray.size_extract]; omega
    have hc := Tryd.utf8_DecodeRuneInString (s.extract k s.size) w hT
    rw [decode_size _ hx] at hc
    have hkn := sizeF_known (s.extract k s.size) hx
    obtain ⟨b0, hb0⟩ : ∃ b0, byt s k = b0 := ⟨_, rfl⟩
    rw [hb0] at hb hr
    obtain ⟨z, hz⟩ : ∃ z, sizeF (s.extract k s.size) = z := ⟨_, rfl⟩
    rw [hz] at hc hkn
    have hn : nextF s k false = if z.1 = 0 then (1114112 + b0, 1) else (z.2, z.1) := by
      unfold nextF
      rw [if_neg e0, if_neg (by simp), Int.toNat_natCast, hz, hb0]
    obtain ⟨z1, z2⟩ := z
    simp only at hkn hc
    have HB := hide hb0; have HN := hide hn
    clear hb0 hz hn hT
    by_cases hz : z1 = 0
    · rw [if_pos hz] at hc
      have HZ := hide hz
      have HC := hide hc
      clear hz hc hkn
      go_enter Tryd.func29, Tryd.ntmps29
      go_wp2_with (go_at_call 45; refine (unhide HC).mono ?_; rintro e w' ⟨rfl, hb1⟩)
      go_ret2
      exact ⟨ret_pair (by rw [unhide HN, if_pos (unhide HZ)]), hb1⟩
    · rw [if_neg hz] at hc
      obtain ⟨m1, rfl⟩ := Int.eq_ofNat_of_zero_le hkn.1
      obtain ⟨m2, rfl⟩ := Int.eq_ofNat_of_zero_le hkn.2.2.2.1
      simp only [Int.toNat_natCast] at hc
      have HC := hide hc
      have HZ := hide hz
      have b2 : (m2 : Int) ≤ 1114111 := hkn.2.2.2.2.1
      have ht : (((m2 : Int) == 65533) && ((m1 : Int) == 1)) = false := by
        have := hkn.2.2.2.2.2.1
        cases hh : ((m1 : Int) == 1)
        · simp
        · have : (m1 : Int) = 1 := by simpa using hh
          have : (m2 : Int) < 128 := by omega
          simp; omega
      clear hz hc hkn
      by_cases h5 : (m2 : Int) = 65533
      · have h6 : ((m2 : Int) == 65533) = true := by simpa using h5
        have h7 : ((m1 : Int) == 1) = false := by simpa [h6] using ht
        clear ht h5
        go_enter Tryd.func29, Tryd.ntmps29
        go_wp2_with (go_at_call 45; refine (unhide HC).mono ?_; rintro e w' ⟨rfl, hb1⟩)
        go_ret2
        exact ⟨ret_pair (by rw [unhide HN, if_neg (unhide HZ)]), hb1⟩
      · have h6 : ((m2 : Int) == 65533) = false := by simpa using h5
        clear ht h5
        go_enter Tryd.func29, Tryd.ntmps29
        go_wp2_with (go_at_call 45; refine (unhide HC).mono ?_; rintro e w' ⟨rfl, hb1⟩)
        go_ret2
        exact ⟨ret_pair (by rw [unhide HN, if_neg (unhide HZ)]), hb1⟩
end Go.Proofs.YtanmlgliibgpcaaDoor
