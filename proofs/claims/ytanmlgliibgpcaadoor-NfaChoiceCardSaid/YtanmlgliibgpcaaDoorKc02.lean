/- NfaChoice returns true of every two texts, every string and every place: no condition beyond the statement's own (a part of its proof). -/
import Derived.Test.YtanmlgliibgpcaaDoorKc01
import Derived.Test.YtanmlgliibgpcaaDoorShelf
import Derived.Deep.OwnRows
import Derived.WalkMore
import Derived.Deep.DrawnRows
import Derived.Deep.RegionHeld3
import Derived.Deep.RegionLaw

/- Walks: the next character, as the program and as the reference tell it. -/
namespace Go.Proofs.YtanmlgliibgpcaaDoor
open Go.RowKit Thr
set_option linter.unusedVariables false

theorem get!_byt (s : ByteArray) (i : Nat) : ((s.get! i).toNat : Int) = byt s i := by
  unfold byt
  by_cases h : i < s.size
  · rw [dif_pos h]
    cases s with
    | mk d => simp [ByteArray.get!, ByteArray.getElem_eq_getElem_data, getElem!_pos d i h]
  · rw [dif_neg h]
    cases s with
    | mk d =>
      have : ¬ i < d.size := h
      simp [ByteArray.get!, this]
      rfl

/-- The size and the code, of the first four bytes. -/
def sizeN (n b0 b1 b2 b3 : Nat) : Nat × Nat :=
  if b0 < 128 then (1, b0)
  else if 194 ≤ b0 ∧ b0 ≤ 223 then (if 2 ≤ n ∧ 128 ≤ b1 ∧ b1 ≤ 191 then (2, b0 % 32 * 64 + (b1 - 128)) else (0, 0))
  else if 224 ≤ b0 ∧ b0 ≤ 239 then (if (3 ≤ n ∧ 128 ≤ b1 ∧ b1 ≤ 191 ∧ 128 ≤ b2 ∧ b2 ≤ 191) ∧ 2048 ≤ b0 % 16 * 4096 + (b1 - 128) * 64 + (b2 - 128) ∧ ¬ (55296 ≤ b0 % 16 * 4096 + (b1 - 128) * 64 + (b2 - 128) ∧ b0 % 16 * 4096 + (b1 - 128) * 64 + (b2 - 128) ≤ 57343) then (3, b0 % 16 * 4096 + (b1 - 128) * 64 + (b2 - 128)) else (0, 0))
  else if 240 ≤ b0 ∧ b0 ≤ 244 then (if (4 ≤ n ∧ 128 ≤ b1 ∧ b1 ≤ 191 ∧ 128 ≤ b2 ∧ b2 ≤ 191 ∧ 128 ≤ b3 ∧ b3 ≤ 191) ∧ 65536 ≤ b0 % 8 * 262144 + (b1 - 128) * 4096 + (b2 - 128) * 64 + (b3 - 128) ∧ b0 % 8 * 262144 + (b1 - 128) * 4096 + (b2 - 128) * 64 + (b3 - 128) ≤ 1114111 then (4, b0 % 8 * 262144 + (b1 - 128) * 4096 + (b2 - 128) * 64 + (b3 - 128)) else (0, 0))
  else (0, 0)

set_option maxRecDepth 100000 in
set_option maxHeartbeats 4000000 in
theorem decodeN_size (n b0 b1 b2 b3 : Nat) (hn : 1 ≤ n) (l0 : b0 < 256) (l1 : b1 < 256) (l2 : b2 < 256) (l3 : b3 < 256) :
    Lib.decodeN n b0 b1 b2 b3 = if (sizeN n b0 b1 b2 b3).1 = 0 then (65533, 1) else ((sizeN n b0 b1 b2 b3).2, (sizeN n b0 b1 b2 b3).1) := by
  unfold sizeN
  by_cases c1 : b0 < 128
  · rw [if_pos c1]
    simp only [Nat.succ_ne_zero, if_false]
    unfold Lib.decodeN
    rw [if_pos c1]
  rw [if_neg c1]
  by_cases c2 : 194 ≤ b0 ∧ b0 ≤ 223
  · rw [if_pos c2]
    by_cases q : 2 ≤ n ∧ 128 ≤ b1 ∧ b1 ≤ 191
    · rw [if_pos q]
      rw [if_neg (by simp)]
      (unfold Lib.decodeN; repeat' split) <;> first
          | rfl
          | (exfalso; omega)
          | (refine Prod.ext ?_ ?_ <;> simp only <;> omega)
    · rw [if_neg q]
      simp only [if_true]
      (unfold Lib.decodeN; repeat' split) <;> first
          | rfl
          | (exfalso; omega)
          | (refine Prod.ext ?_ ?_ <;> simp only <;> omega)
  rw [if_neg c2]
  by_cases c3 : 224 ≤ b0 ∧ b0 ≤ 239
  · rw [if_pos c3]
    by_cases q : (3 ≤ n ∧ 128 ≤ b1 ∧ b1 ≤ 191 ∧ 128 ≤ b2 ∧ b2 ≤ 191) ∧ 2048 ≤ b0 % 16 * 4096 + (b1 - 128) * 64 + (b2 - 128) ∧ ¬ (55296 ≤ b0 % 16 * 4096 + (b1 - 128) * 64 + (b2 - 128) ∧ b0 % 16 * 4096 + (b1 - 128) * 64 + (b2 - 128) ≤ 57343)
    · rw [if_pos q]
      rw [if_neg (by simp)]
      (unfold Lib.decodeN; repeat' split) <;> first
          | rfl
          | (exfalso; omega)
          | (refine Prod.ext ?_ ?_ <;> simp only <;> omega)
    · rw [if_neg q]
      simp only [if_true]
      (unfold Lib.decodeN; repeat' split) <;> first
          | rfl
          | (exfalso; omega)
          | (refine Prod.ext ?_ ?_ <;> simp only <;> omega)
  rw [if_neg c3]
  by_cases c4 : 240 ≤ b0 ∧ b0 ≤ 244
  · rw [if_pos c4]
    by_cases q : (4 ≤ n ∧ 128 ≤ b1 ∧ b1 ≤ 191 ∧ 128 ≤ b2 ∧ b2 ≤ 191 ∧ 128 ≤ b3 ∧ b3 ≤ 191) ∧ 65536 ≤ b0 % 8 * 262144 + (b1 - 128) * 4096 + (b2 - 128) * 64 + (b3 - 128) ∧ b0 % 8 * 262144 + (b1 - 128) * 4096 + (b2 - 128) * 64 + (b3 - 128) ≤ 1114111
    · rw [if_pos q]
      rw [if_neg (by simp)]
      (unfold Lib.decodeN; repeat' split) <;> first
          | rfl
          | (exfalso; omega)
          | (refine Prod.ext ?_ ?_ <;> simp only <;> omega)
    · rw [if_neg q]
      simp only [if_true]
      (unfold Lib.decodeN; repeat' split) <;> first
          | rfl
          | (exfalso; omega)
          | (refine Prod.ext ?_ ?_ <;> simp only <;> omega)
  rw [if_neg c4]
  simp only [if_true]
  (unfold Lib.decodeN; repeat' split) <;> first
      | rfl
      | (exfalso; omega)
      | (refine Prod.ext ?_ ?_ <;> simp only <;> omega)

set_option maxHeartbeats 4000000 in
theorem sizeF_size (s : ByteArray) (hs : 0 < s.size) : sizeF s = (((sizeN s.size (s.get! 0).toNat (s.get! 1).toNat (s.get! 2).toNat (s.get! 3).toNat).1 : Int), ((sizeN s.size (s.get! 0).toNat (s.get! 1).toNat (s.get! 2).toNat (s.get! 3).toNat).2 : Int)) := by
  have g0 := get!_byt s 0
  have g1 := get!_byt s 1
  have g2 := get!_byt s 2
  have g3 := get!_byt s 3
  unfold sizeF
  generalize (s.get! 0).toNat = b0 at *
  generalize (s.get! 1).toNat = b1 at *
  generalize (s.get! 2).toNat = b2 at *
  generalize (s.get! 3).toNat = b3 at *
  rw [← g0]
  unfold sizeN
  by_cases c1 : b0 < 128
  · rw [if_pos c1, if_pos (by omega)]; rfl
  rw [if_neg c1, if_neg (by omega)]
  by_cases c2 : 194 ≤ b0 ∧ b0 ≤ 223
  · have e0 : leadF (b0 : Int) = (2, (b0 : Int) % 32, 128) := by unfold leadF; rw [if_pos (by omega)]
    rw [if_pos c2, e0]
    by_cases hl : s.size < 2
    · rw [if_pos (.inr hl), if_neg (by omega)]; rfl
    rw [if_neg (by simp only; omega)]
    simp only [Nat.add_one_sub_one, tailF, ← g1]
    by_cases t1 : (b1 : Int) < 128 ∨ 191 < (b1 : Int)
    · simp only [if_pos t1]
      rw [if_neg (by omega)]; rfl
    simp only [if_neg t1]
    simp only [codeF]
    rw [if_neg (by omega), if_pos (by omega)]
    refine Prod.ext ?_ ?_ <;> simp only <;> omega
  rw [if_neg c2]
  by_cases c3 : 224 ≤ b0 ∧ b0 ≤ 239
  · have e0 : leadF (b0 : Int) = (3, (b0 : Int) % 16, 2048) := by unfold leadF; rw [if_neg (by omega), if_pos (by omega)]
    rw [if_pos c3, e0]
    by_cases hl : s.size < 3
    · rw [if_pos (.inr hl), if_neg (by omega)]; rfl
    rw [if_neg (by simp only; omega)]
    simp only [Nat.add_one_sub_one, tailF, ← g1, ← g2]
    by_cases t1 : (b1 : Int) < 128 ∨ 191 < (b1 : Int)
    · simp only [if_pos t1]
      rw [if_neg (by omega)]; rfl
    simp only [if_neg t1]
    by_cases t2 : (b2 : Int) < 128 ∨ 191 < (b2 : Int)
    · simp only [if_pos t2]
      rw [if_neg (by omega)]; rfl
    simp only [if_neg t2]
    simp only [codeF]
    by_cases q : 64 * (64 * ((b0 : Int) % 16) + (b1 : Int) - 128) + (b2 : Int) - 128 < 2048 ∨ 1114111 < 64 * (64 * ((b0 : Int) % 16) + (b1 : Int) - 128) + (b2 : Int) - 128 ∨ 55296 ≤ 64 * (64 * ((b0 : Int) % 16) + (b1 : Int) - 128) + (b2 : Int) - 128 ∧ 64 * (64 * ((b0 : Int) % 16) + (b1 : Int) - 128) + (b2 : Int) - 128 ≤ 57343
    · rw [if_pos q, if_neg (by omega)]; rfl
    · rw [if_neg q, if_pos (by omega)]
      refine Prod.ext ?_ ?_ <;> simp only <;> omega
  rw [if_neg c3]
  by_cases c4 : 240 ≤ b0 ∧ b0 ≤ 244
  · have e0 : leadF (b0 : Int) = (4, (b0 : Int) % 8, 65536) := by unfold leadF; rw [if_neg (by omega), if_neg (by omega), if_pos (by omega)]
    rw [if_pos c4, e0]
    by_cases hl : s.size < 4
    · rw [if_pos (.inr hl), if_neg (by omega)]; rfl
    rw [if_neg (by simp only; omega)]
    simp only [Nat.add_one_sub_one, tailF, ← g1, ← g2, ← g3]
    by_cases t1 : (b1 : Int) < 128 ∨ 191 < (b1 : Int)
    · simp only [if_pos t1]
      rw [if_neg (by omega)]; rfl
    simp only [if_neg t1]
    by_cases t2 : (b2 : Int) < 128 ∨ 191 < (b2 : Int)
    · simp only [if_pos t2]
      rw [if_neg (by omega)]; rfl
    simp only [if_neg t2]
    by_cases t3 : (b3 : Int) < 128 ∨ 191 < (b3 : Int)
    · simp only [if_pos t3]
      rw [if_neg (by omega)]; rfl
    simp only [if_neg t3]
    simp only [codeF]
    by_cases q : 64 * (64 * (64 * ((b0 : Int) % 8) + (b1 : Int) - 128) + (b2 : Int) - 128) + (b3 : Int) - 128 < 65536 ∨ 1114111 < 64 * (64 * (64 * ((b0 : Int) % 8) + (b1 : Int) - 128) + (b2 : Int) - 128) + (b3 : Int) - 128 ∨ 55296 ≤ 64 * (64 * (64 * ((b0 : Int) % 8) + (b1 : Int) - 128) + (b2 : Int) - 128) + (b3 : Int) - 128 ∧ 64 * (64 * (64 * ((b0 : Int) % 8) + (b1 : Int) - 128) + (b2 : Int) - 128) + (b3 : Int) - 128 ≤ 57343
    · rw [if_pos q, if_neg (by omega)]; rfl
    · rw [if_neg q, if_pos (by omega)]
      refine Prod.ext ?_ ?_ <;> simp only <;> omega
  have e0 : leadF (b0 : Int) = (0, 0, 0) := by unfold leadF; rw [if_neg (by omega), if_neg (by omega), if_neg (by omega)]
  rw [if_neg c4, e0, if_pos (.inl rfl)]
  rfl

/-- Go's decoder tells what the definition tells. -/
theorem decode_size (s : ByteArray) (hs : 0 < s.size) : Lib.decodeGo s = if (sizeF s).1 = 0 then (65533, 1) else ((sizeF s).2.toNat, (sizeF s).1.toNat) := by
  unfold Lib.decodeGo
  rw [if_neg (by omega), Lib.decode_at, sizeF_size s hs]
  simp only [Nat.zero_add, Nat.sub_zero, Int.toNat_natCast]
  rw [decodeN_size _ _ _ _ _ hs (UInt8.toNat_lt _) (UInt8.toNat_lt _) (UInt8.toNat_lt _) (UInt8.toNat_lt _)]
  simp only [Int.natCast_eq_zero]
/-- A code of several bytes, or of one: what is known of it. -/
theorem sizeF_known (s : ByteArray) (hs : 0 < s.size) : 0 ≤ (sizeF s).1 ∧ (sizeF s).1 ≤ s.size ∧ (sizeF s).1 ≤ 4 ∧ 0 ≤ (sizeF s).2 ∧ (sizeF s).2 ≤ 1114111 ∧ ((sizeF s).1 = 1 → (sizeF s).2 < 128) ∧ ((sizeF s).2 < 128 ∧ (sizeF s).1 ≠ 0 → (sizeF s).2 = byt s 0 ∧ (sizeF s).1 = 1) := by
  have l0 : (s.get! 0).toNat < 256 := UInt8.toNat_lt _
  have l1 : (s.get! 1).toNat < 256 := UInt8.toNat_lt _
  have l2 : (s.get! 2).toNat < 256 := UInt8.toNat_lt _
  have l3 : (s.get! 3).toNat < 256 := UInt8.toNat_lt _
  rw [sizeF_size s hs, ← get!_byt]
  generalize (s.get! 0).toNat = b0 at *
  generalize (s.get! 1).toNat = b1 at *
  generalize (s.get! 2).toNat = b2 at *
  generalize (s.get! 3).toNat = b3 at *
  unfold sizeN
  repeat' split
  all_goals (refine ⟨?_, ?_, ?_, ?_, ?_, ?_, ?_⟩ <;> simp <;> omega)
end Go.Proofs.YtanmlgliibgpcaaDoor

/- Walks: ustr.Next and thresherref01.Next give the same: 'nextF'. -/
namespace Go.Proofs.YtanmlgliibgpcaaDoor
open Go.RowKit Thr
set_option linter.unusedVariables false

/-- The tables of unicode/utf8 lie as the program's text lays them. -/
def Tabs (w : World) : Prop := Lib.Utf8Tabs 1 2 w
theorem Tabs.below {w w' : World} (h : Tabs w) (hb : Below w.heap.size w w') : Tabs w' := by
  obtain ⟨h1, h2⟩ := h
  refine ⟨fun c hc => ?_, fun i hi => ?_⟩
  · have := h1 c hc
    exact (hb.cell (p := ⟨_, _, none⟩) (World.block_lt_of_cell? w _ this)).trans this
  · obtain ⟨a, b⟩ := h2 i hi
    exact ⟨(hb.cell (p := ⟨_, _, none⟩) (World.block_lt_of_cell? w _ a)).trans a, (hb.cell (p := ⟨_, _, none⟩) (World.block_lt_of_cell? w _ b)).trans b⟩

theorem ret_pair {a b : Int} {p : Int × Int} (h : p = (a, b)) : Ending.returned (.tuple #[.int .i64 a, .int .i64 b]) = .returned (.tuple #[.int .i64 p.1, .int .i64 p.2]) := by rw [h]

theorem byt_index {s : ByteArray} {i : Int} (h : i.toNat < s.size) : ((s[i.toNat]'h).toNat : Int) = byt s i.toNat := byt_at h

set_option maxHeartbeats 2000000 in
theorem rnext_calls (s : ByteArray) (i : Int) (bytes : Bool) (w : World) (hm : s.size ≤ 140737488351232) :
    Calls Tryd.prog 31 #[.string s, .int .i64 i, .bool bytes] w fun e w' => e = .returned (.tuple #[.int .i64 (nextF s i bytes).1, .int .i64 (nextF s i bytes).2]) ∧ w' = w := by
  by_cases h0 : i < 0
  · go_enter Tryd.func31, Tryd.ntmps31
    go_wp2
    go_ret2
    exact ⟨ret_pair (by unfold nextF; rw [if_pos (by omega)]), rfl⟩
  by_cases h1 : (s.size : Int) ≤ i
  · go_enter Tryd.func31, Tryd.ntmps31
    go_wp2
    go_ret2
    exact ⟨ret_pair (by unfold nextF; rw [if_pos (by omega)]), rfl⟩
  obtain ⟨k, rfl⟩ := Int.eq_ofNat_of_zero_le (by omega : 0 ≤ i)
  have hk : k < s.size := by omega
  have e0 : ¬ ((k : Int) < 0 ∨ (s.size : Int) ≤ k) := by omega
  have hb := byt_at hk
  have hr := byt_range s k
  cases bytes with
  | true =>
    obtain ⟨b0, hb0⟩ : ∃ b0, byt s k = b0 := ⟨_, rfl⟩
    rw [hb0] at hb hr
    have HB := hide hb0
    clear hb0
    go_enter Tryd.func31, Tryd.ntmps31
    go_wp2
    go_ret2
    exact ⟨ret_pair (by unfold nextF; rw [if_neg e0, if_pos rfl, Int.toNat_natCast, unhide HB]), rfl⟩
  | false =>
    have hx : 0 < (s.extract k s.size).size := by simp [ByteArray.size_extract]; omega
    have hx2 : (s.extract k s.size).size ≤ 140737488351232 := by simp [ByteArray.size_extract]; omega
    have hc := fun w => size_calls (s.extract k s.size) w hx hx2
    have hkn := sizeF_known (s.extract k s.size) hx
    obtain ⟨b0, hb0⟩ : ∃ b0, byt s k = b0 := ⟨_, rfl⟩
    rw [hb0] at hb hr
    obtain ⟨z, hz⟩ : ∃ z, sizeF (s.extract k s.size) = z := ⟨_, rfl⟩
    rw [hz] at hc hkn
    have hn : nextF s k false = if z.1 = 0 then (1114112 + b0, 1) else (z.2, z.1) := by
      unfold nextF
      rw [if_neg e0, if_neg (by simp), Int.toNat_natCast, hz, hb0]
    have HB := hide hb0; have HN := hide hn; have HC := hide hc
    obtain ⟨z1, z2⟩ := z
    simp only at hkn
    clear hb0 hz hn hc
    by_cases hz : z1 = 0
    · have hz' : (z1 == 0) = true := by simpa using hz
      have HZ := hide hz
      clear hz
      go_enter Tryd.func31, Tryd.ntmps31
      go_wp2_with (go_at_call 46; refine (unhide HC _).mono ?_; rintro e w' ⟨rfl, hw⟩; obtain rfl := hw.symm)
      go_ret2
      exact ⟨ret_pair (by rw [unhide HN, if_pos (unhide HZ)]), rfl⟩
    · have hz' : (z1 == 0) = false := by simpa using hz
      have HZ := hide hz
      clear hz
      go_enter Tryd.func31, Tryd.ntmps31
      go_wp2_with (go_at_call 46; refine (unhide HC _).mono ?_; rintro e w' ⟨rfl, hw⟩; obtain rfl := hw.symm)
      go_ret2
      exact ⟨ret_pair (by rw [unhide HN, if_neg (unhide HZ)]), rfl⟩

set_option maxHeartbeats 2000000 in
theorem next_calls (s : ByteArray) (i : Int) (bytes : Bool) (w : World) (hT : Tabs w) (hm : s.size ≤ 140737488351232) :
    Calls Tryd.prog 29 #[.string s, .int .i64 i, .bool bytes] w fun e w' => e = .returned (.tuple #[.int .i64 (nextF s i bytes).1, .int .i64 (nextF s i bytes).2]) ∧ Below w.heap.size w w' := by
  by_cases h0 : i < 0
  · go_enter Tryd.func29, Tryd.ntmps29
    go_wp2
    go_ret2
    exact ⟨ret_pair (by unfold nextF; rw [if_pos (by omega)]), (by repeat (first | exact Below.refl _ _ | assumption | refine below_drewN ?_ _ | refine Below.drew ?_ | refine below_alloc' ?_ _))⟩
  by_cases h1 : (s.size : Int) ≤ i
  · go_enter Tryd.func29, Tryd.ntmps29
    go_wp2
    go_ret2
    exact ⟨ret_pair (by unfold nextF; rw [if_pos (by omega)]), (by repeat (first | exact Below.refl _ _ | assumption | refine below_drewN ?_ _ | refine Below.drew ?_ | refine below_alloc' ?_ _))⟩
  obtain ⟨k, rfl⟩ := Int.eq_ofNat_of_zero_le (by omega : 0 ≤ i)
  have hk : k < s.size := by omega
  have e0 : ¬ ((k : Int) < 0 ∨ (s.size : Int) ≤ k) := by omega
  have hb := byt_at hk
  have hr := byt_range s k
  cases bytes with
  | true =>
    obtain ⟨b0, hb0⟩ : ∃ b0, byt s k = b0 := ⟨_, rfl⟩
    rw [hb0] at hb hr
    have HB := hide hb0
    clear hb0
    go_enter Tryd.func29, Tryd.ntmps29
    go_wp2
    go_ret2
    exact ⟨ret_pair (by unfold nextF; rw [if_neg e0, if_pos rfl, Int.toNat_natCast, unhide HB]), (by repeat (first | exact Below.refl _ _ | assumption | refine below_drewN ?_ _ | refine Below.drew ?_ | refine below_alloc' ?_ _))⟩
  | false =>
    have hx : 0 < (s.extract k s.size).size := by simp [ByteArray.size_extract]; omega
    have hc := Tryd.utf8_DecodeRuneInString (s.extract k s.size) w hT
    rw [decode_size _ hx] at hc
    have hkn := sizeF_known (s.extract k s.size) hx
    obtain ⟨b0, hb0⟩ : ∃ b0, byt s k = b0 := ⟨_, rfl⟩
    rw [hb0] at hb hr
    obtain ⟨z, hz⟩ : ∃ z, sizeF (s.extract k s.size) = z := ⟨_, rfl⟩
    rw [hz] at hc hkn
    have hn : nextF s k false = if z.1 = 0 then (1114112 + b0, 1) else (z.2, z.1) := by
      unfold nextF
      rw [if_neg e0, if_neg (by simp), Int.toNat_natCast, hz, hb0]
    obtain ⟨z1, z2⟩ := z
    simp only at hkn hc
    have HB := hide hb0; have HN := hide hn
    clear hb0 hz hn hT
    by_cases hz : z1 = 0
    · rw [if_pos hz] at hc
      have HZ := hide hz
      have HC := hide hc
      clear hz hc hkn
      go_enter Tryd.func29, Tryd.ntmps29
      go_wp2_with (go_at_call 45; refine (unhide HC).mono ?_; rintro e w' ⟨rfl, hb1⟩)
      go_ret2
      exact ⟨ret_pair (by rw [unhide HN, if_pos (unhide HZ)]), hb1⟩
    · rw [if_neg hz] at hc
      obtain ⟨m1, rfl⟩ := Int.eq_ofNat_of_zero_le hkn.1
      obtain ⟨m2, rfl⟩ := Int.eq_ofNat_of_zero_le hkn.2.2.2.1
      simp only [Int.toNat_natCast] at hc
      have HC := hide hc
      have HZ := hide hz
      have b2 : (m2 : Int) ≤ 1114111 := hkn.2.2.2.2.1
      have ht : (((m2 : Int) == 65533) && ((m1 : Int) == 1)) = false := by
        have := hkn.2.2.2.2.2.1
        cases hh : ((m1 : Int) == 1)
        · simp
        · have : (m1 : Int) = 1 := by simpa using hh
          have : (m2 : Int) < 128 := by omega
          simp; omega
      clear hz hc hkn
      by_cases h5 : (m2 : Int) = 65533
      · have h6 : ((m2 : Int) == 65533) = true := by simpa using h5
        have h7 : ((m1 : Int) == 1) = false := by simpa [h6] using ht
        clear ht h5
        go_enter Tryd.func29, Tryd.ntmps29
        go_wp2_with (go_at_call 45; refine (unhide HC).mono ?_; rintro e w' ⟨rfl, hb1⟩)
        go_ret2
        exact ⟨ret_pair (by rw [unhide HN, if_neg (unhide HZ)]), hb1⟩
      · have h6 : ((m2 : Int) == 65533) = false := by simpa using h5
        clear ht h5
        go_enter Tryd.func29, Tryd.ntmps29
        go_wp2_with (go_at_call 45; refine (unhide HC).mono ?_; rintro e w' ⟨rfl, hb1⟩)
        go_ret2
        exact ⟨ret_pair (by rw [unhide HN, if_neg (unhide HZ)]), hb1⟩
end Go.Proofs.YtanmlgliibgpcaaDoor

/- Walks: Fold, code, in, fits. -/
namespace Go.Proofs.YtanmlgliibgpcaaDoor
open Go.RowKit Thr
set_option linter.unusedVariables false

set_option maxHeartbeats 1000000 in
theorem Fold_calls (c : Int) (bytes : Bool) (w : World) : Calls Tryd.prog 43 #[.int .i64 c, .bool bytes] w fun e w' => e = .returned (.int .i64 (foldF c bytes)) ∧ w' = w := by
  obtain ⟨r, hr⟩ : ∃ r, foldF c bytes = r := ⟨_, rfl⟩
  rw [hr]
  unfold foldF at hr
  have HR := hide hr
  clear hr
  cases bytes
  all_goals
    go_enter Tryd.func43, Tryd.ntmps43
    go_wp2
    all_goals
      go_ret
      refine ⟨ret_int ?_, rfl⟩
      rw [← unhide HR]
      simp_all <;> omega

set_option maxHeartbeats 1000000 in
theorem code_calls {bp : Nat} {fold bytes : Bool} {vI : Value} {start : Int} (s : ByteArray) (i : Int) (w : World) (hT : Tabs w) (hm : s.size ≤ 140737488351232) (hP : Blk w bp 47 #[.bool fold, .bool bytes, vI, .int .i64 start]) :
    Calls Tryd.prog 19 #[.pointer (some ⟨bp, 0, none⟩), .string s, .int .i64 i] w fun e w' => e = .returned (.tuple #[.int .i64 (codeAt s i bytes).1, .int .i64 (codeAt s i bytes).2]) ∧ Below w.heap.size w w' := by
  have hc := next_calls s i bytes w hT hm
  have p1 := hP.cell 1
  simp at p1
  have e : codeAt s i bytes = if (nextF s i bytes).2 = 0 then (-1, 0) else nextF s i bytes := rfl
  generalize nextF s i bytes = z at *
  obtain ⟨z1, z2⟩ := z
  simp only at hc e
  have HC := hide hc
  clear hc hT hP
  by_cases hz : z2 = 0
  · rw [if_pos hz] at e
    have hz' : (z2 == 0) = true := by simpa using hz
    rw [e]
    clear hz e
    go_enter Tryd.func19, Tryd.ntmps19
    go_wp2_with (go_at_call 29; refine (unhide HC).mono ?_; rintro e w' ⟨rfl, hb1⟩)
    go_ret2
    exact ⟨rfl, hb1⟩
  · rw [if_neg hz] at e
    have hz' : (z2 == 0) = false := by simpa using hz
    rw [e]
    clear hz e
    go_enter Tryd.func19, Tryd.ntmps19
    go_wp2_with (go_at_call 29; refine (unhide HC).mono ?_; rintro e w' ⟨rfl, hb1⟩)
    go_ret2
    exact ⟨rfl, hb1⟩

set_option maxHeartbeats 4000000 in
theorem in_calls {ok : Nat → Prop} {bp : Nat} {fold bytes : Bool} {vI vs : Value} {start : Int} (set : List (Int × Int)) (c : Int) (w : World) (hP : Blk w bp 47 #[.bool fold, .bool bytes, vI, .int .i64 start])
    (hs : SetAt ok w vs set) (hc0 : -1000000000 ≤ c) (hc1 : c ≤ 1000000000) :
    Calls Tryd.prog 44 #[.pointer (some ⟨bp, 0, none⟩), vs, .int .i64 c] w fun e w' => e = .returned (.bool (inF set c fold bytes)) ∧ Below w.heap.size w w' := by
  obtain ⟨A, cc, rfl, hl1, hl2, hcs⟩ := hs
  obtain ⟨low, hlow⟩ : ∃ low, foldF c bytes = low := ⟨_, rfl⟩
  have hlb : -1000000000 ≤ low ∧ low ≤ 1000000032 := by unfold foldF at hlow; split at hlow <;> omega
  obtain ⟨up, hup⟩ : ∃ up, upF low bytes = up := ⟨_, rfl⟩
  obtain ⟨T, hT⟩ : ∃ T, inF set c fold bytes = T := ⟨_, rfl⟩
  have hT' : (set.drop 0).any (fun r => inR r c low up fold) = T := by rw [← hT, List.drop_zero]; unfold inF; rw [hlow, hup]
  rw [hT]
  have c1 := fun w => Fold_calls c bytes w
  rw [hlow] at c1
  have c2 := fun w => Fold_calls (low - 32) bytes w
  obtain ⟨lf, hlf⟩ : ∃ lf, foldF (low - 32) bytes = lf := ⟨_, rfl⟩
  rw [hlf] at c2
  have p0 := hP.cell 0
  have p1 := hP.cell 1
  have hbp := hP.lt
  simp at p0 p1
  unfold upF at hup
  rw [hlf] at hup
  clear hP
  have HCS : ∀ (k : Nat) (h : k < set.length), ∃ b o, A = some ⟨b, o, none⟩ ∧ w.cell? ⟨b, o + k * 2, none⟩ = some (.int .i64 (set[k]'h).1) ∧ w.cell? ⟨b, o + k * 2 + 1, none⟩ = some (.int .i64 (set[k]'h).2) := fun k h => by
    rcases hcs with rfl | ⟨b, o, rfl, _, hc⟩
    · simp at h
    · exact ⟨b, o, rfl, hc k _ (List.getElem?_eq_getElem h)⟩
  have hne : (low - 32 != low) = true := by rw [bne_iff_ne]; omega
  have hup3 : (low - 32 < 0 ∧ up = low) ∨ (0 ≤ low - 32 ∧ (lf == low) = false ∧ up = low) ∨ (0 ≤ low - 32 ∧ (lf == low) = true ∧ up = low - 32) := by
    by_cases h1 : 0 ≤ low - 32
    · by_cases h2 : lf = low
      · rw [if_pos ⟨h1, h2⟩] at hup; exact .inr (.inr ⟨h1, by simpa using h2, hup.symm⟩)
      · rw [if_neg (fun h => h2 h.2)] at hup; exact .inr (.inl ⟨h1, by simpa using h2, hup.symm⟩)
    · rw [if_neg (fun h => h1 h.1)] at hup; exact .inl ⟨by omega, hup.symm⟩
  clear hup
  rcases hup3 with ⟨q1, hu⟩ | ⟨q1, q2, hu⟩ | ⟨q1, q2, hu⟩
  · rw [hu] at hT'
    have C1 := hide c1; have C2 := hide c2; have HT := hide hT'
    clear c1 c2 hT hT' hlow hlf hu hcs
    go_enter Tryd.func44, Tryd.ntmps44
    go_wp2_with (first | (go_at_call_of 43 (Value.int IntKind.i64 c); refine (unhide C1 _).mono ?_; rintro e w' ⟨rfl, hw⟩; obtain rfl := hw.symm) | (go_at_call 43; refine (unhide C2 _).mono ?_; rintro e w' ⟨rfl, hw⟩; obtain rfl := hw.symm))
    go_loopw [43] (fun i wr => ∃ k : Nat, k ≤ set.length ∧ i = .int .i64 k ∧ Hid ((set.drop k).any (fun r => inR r c low low fold) = T) ∧ Below w.heap.size w wr) (fun i _ => set.length - (intOf i).toNat)
    case atStart => exact ⟨0, by omega, rfl, HT, Below.refl _ _⟩
    case round =>
      obtain ⟨k, hk, rfl, hd, hb⟩ := hrel
      obtain ⟨g0, g1⟩ := bcell hb
      have p0' := (g0 bp 0 hbp).trans p0
      have hz := hb.size
      have hbp' : bp < wr.heap.size := by omega
      have HB := hide hb
      clear g0 g1 hb
      by_cases hlt : k < set.length
      · obtain ⟨b, o, rfl, e0, e1⟩ := HCS k hlt
        have hbl := World.block_lt_of_cell? w _ e0
        have e0' := ((bcell (unhide HB)).1 b _ hbl).trans e0
        have e1' := ((bcell (unhide HB)).1 b _ hbl).trans e1
        have hstep : (inR set[k] c low low fold || (set.drop (k + 1)).any (fun r => inR r c low low fold)) = T := by
          rw [← unhide hd, List.drop_eq_getElem_cons hlt, List.any_cons]
        obtain ⟨rest, hrest⟩ : ∃ rest, (set.drop (k + 1)).any (fun r => inR r c low low fold) = rest := ⟨_, rfl⟩
        rw [hrest] at hstep
        have HR := hide hrest
        generalize set[k] = x at *
        obtain ⟨x1, x2⟩ := x
        simp only [inR, hitF] at hstep
        have HS := hide hstep
        clear hstep hrest hd e0 e1
        go_wp2
        all_goals first
          | (go_ret
             refine ⟨ret_bool ?_, (unhide HB).alloc hz _⟩
             rw [← unhide HS]
             clear HS HB HR C1 C2 HT
             simp_all)
          | (go_roundw
             case rel =>
               refine ⟨k + 1, by omega, by go_num, hide ?_, (unhide HB).alloc hz _⟩
               rw [unhide HR, ← unhide HS]
               clear HS HB HR C1 C2 HT
               simp_all <;> omega
             case measure => simp [intOf]; omega)
      · obtain rfl : k = set.length := by omega
        have hT0 : T = false := by rw [← unhide hd]; simp
        have HT0 := hide hT0
        clear hlt hd hT0
        go_wp2
        go_ret
        exact ⟨ret_bool (unhide HT0).symm, unhide HB⟩
  · rw [hu] at hT'
    have C1 := hide c1; have C2 := hide c2; have HT := hide hT'
    clear c1 c2 hT hT' hlow hlf hu hcs
    go_enter Tryd.func44, Tryd.ntmps44
    go_wp2_with (first | (go_at_call_of 43 (Value.int IntKind.i64 c); refine (unhide C1 _).mono ?_; rintro e w' ⟨rfl, hw⟩; obtain rfl := hw.symm) | (go_at_call 43; refine (unhide C2 _).mono ?_; rintro e w' ⟨rfl, hw⟩; obtain rfl := hw.symm))
    go_loopw [43] (fun i wr => ∃ k : Nat, k ≤ set.length ∧ i = .int .i64 k ∧ Hid ((set.drop k).any (fun r => inR r c low low fold) = T) ∧ Below w.heap.size w wr) (fun i _ => set.length - (intOf i).toNat)
    case atStart => exact ⟨0, by omega, rfl, HT, Below.refl _ _⟩
    case round =>
      obtain ⟨k, hk, rfl, hd, hb⟩ := hrel
      obtain ⟨g0, g1⟩ := bcell hb
      have p0' := (g0 bp 0 hbp).trans p0
      have hz := hb.size
      have hbp' : bp < wr.heap.size := by omega
      have HB := hide hb
      clear g0 g1 hb
      by_cases hlt : k < set.length
      · obtain ⟨b, o, rfl, e0, e1⟩ := HCS k hlt
        have hbl := World.block_lt_of_cell? w _ e0
        have e0' := ((bcell (unhide HB)).1 b _ hbl).trans e0
        have e1' := ((bcell (unhide HB)).1 b _ hbl).trans e1
        have hstep : (inR set[k] c low low fold || (set.drop (k + 1)).any (fun r => inR r c low low fold)) = T := by
          rw [← unhide hd, List.drop_eq_getElem_cons hlt, List.any_cons]
        obtain ⟨rest, hrest⟩ : ∃ rest, (set.drop (k + 1)).any (fun r => inR r c low low fold) = rest := ⟨_, rfl⟩
        rw [hrest] at hstep
        have HR := hide hrest
        generalize set[k] = x at *
        obtain ⟨x1, x2⟩ := x
        simp only [inR, hitF] at hstep
        have HS := hide hstep
        clear hstep hrest hd e0 e1
        go_wp2
        all_goals first
          | (go_ret
             refine ⟨ret_bool ?_, (unhide HB).alloc hz _⟩
             rw [← unhide HS]
             clear HS HB HR C1 C2 HT
             simp_all)
          | (go_roundw
             case rel =>
               refine ⟨k + 1, by omega, by go_num, hide ?_, (unhide HB).alloc hz _⟩
               rw [unhide HR, ← unhide HS]
               clear HS HB HR C1 C2 HT
               simp_all <;> omega
             case measure => simp [intOf]; omega)
      · obtain rfl : k = set.length := by omega
        have hT0 : T = false := by rw [← unhide hd]; simp
        have HT0 := hide hT0
        clear hlt hd hT0
        go_wp2
        go_ret
        exact ⟨ret_bool (unhide HT0).symm, unhide HB⟩
  · rw [hu] at hT'
    have C1 := hide c1; have C2 := hide c2; have HT := hide hT'
    clear c1 c2 hT hT' hlow hlf hu hcs
    go_enter Tryd.func44, Tryd.ntmps44
    go_wp2_with (first | (go_at_call_of 43 (Value.int IntKind.i64 c); refine (unhide C1 _).mono ?_; rintro e w' ⟨rfl, hw⟩; obtain rfl := hw.symm) | (go_at_call 43; refine (unhide C2 _).mono ?_; rintro e w' ⟨rfl, hw⟩; obtain rfl := hw.symm))
    go_loopw [43] (fun i wr => ∃ k : Nat, k ≤ set.length ∧ i = .int .i64 k ∧ Hid ((set.drop k).any (fun r => inR r c low (low - 32) fold) = T) ∧ Below w.heap.size w wr) (fun i _ => set.length - (intOf i).toNat)
    case atStart => exact ⟨0, by omega, rfl, HT, Below.refl _ _⟩
    case round =>
      obtain ⟨k, hk, rfl, hd, hb⟩ := hrel
      obtain ⟨g0, g1⟩ := bcell hb
      have p0' := (g0 bp 0 hbp).trans p0
      have hz := hb.size
      have hbp' : bp < wr.heap.size := by omega
      have HB := hide hb
      clear g0 g1 hb
      by_cases hlt : k < set.length
      · obtain ⟨b, o, rfl, e0, e1⟩ := HCS k hlt
        have hbl := World.block_lt_of_cell? w _ e0
        have e0' := ((bcell (unhide HB)).1 b _ hbl).trans e0
        have e1' := ((bcell (unhide HB)).1 b _ hbl).trans e1
        have hstep : (inR set[k] c low (low - 32) fold || (set.drop (k + 1)).any (fun r => inR r c low (low - 32) fold)) = T := by
          rw [← unhide hd, List.drop_eq_getElem_cons hlt, List.any_cons]
        obtain ⟨rest, hrest⟩ : ∃ rest, (set.drop (k + 1)).any (fun r => inR r c low (low - 32) fold) = rest := ⟨_, rfl⟩
        rw [hrest] at hstep
        have HR := hide hrest
        generalize set[k] = x at *
        obtain ⟨x1, x2⟩ := x
        simp only [inR, hitF] at hstep
        have HS := hide hstep
        clear hstep hrest hd e0 e1
        go_wp2
        all_goals first
          | (go_ret
             refine ⟨ret_bool ?_, (unhide HB).alloc hz _⟩
             rw [← unhide HS]
             clear HS HB HR C1 C2 HT
             simp_all)
          | (go_roundw
             case rel =>
               refine ⟨k + 1, by omega, by go_num, hide ?_, (unhide HB).alloc hz _⟩
               rw [unhide HR, ← unhide HS]
               clear HS HB HR C1 C2 HT
               simp_all <;> omega
             case measure => simp [intOf]; omega)
      · obtain rfl : k = set.length := by omega
        have hT0 : T = false := by rw [← unhide hd]; simp
        have HT0 := hide hT0
        clear hlt hd hT0
        go_wp2
        go_ret
        exact ⟨ret_bool (unhide HT0).symm, unhide HB⟩
end Go.Proofs.YtanmlgliibgpcaaDoor

/- The walk of fits: does a character fit a node? -/
namespace Go.Proofs.YtanmlgliibgpcaaDoor
open Go.RowKit Thr
set_option linter.unusedVariables false

set_option maxHeartbeats 4000000 in
theorem fits_calls {ok : Nat → Prop} {bp : Nat} {fold bytes : Bool} {vI : Value} {start : Int} (t : Rx) (cs : List Value) (c : Int) (w : World) (hP : Blk w bp 47 #[.bool fold, .bool bytes, vI, .int .i64 start])
    (ht : TreeAt ok w t cs) (hc0 : -1000000000 ≤ c) (hc1 : c ≤ 1000000000) :
    Calls Tryd.prog 28 #[.pointer (some ⟨bp, 0, none⟩), .agg cs.toArray, .int .i64 c] w fun e w' => e = .returned (.bool (fitsF t c fold bytes)) ∧ Below w.heap.size w w' := by
  obtain ⟨kind, code, neg, set, mn, mx, kids⟩ := t
  simp only [TreeAt] at ht
  obtain ⟨vs, A, cc, rfl, hset, -⟩ := ht
  have p0 := hP.cell 0
  have p1 := hP.cell 1
  have hbp := hP.lt
  simp at p0 p1
  have e0 : fitsF (.mk kind code neg set mn mx kids) c fold bytes = if kind = 3 then true else if kind = 2 then decide (c = code) || (fold && decide (foldF c bytes = foldF code bytes)) else inF set c fold bytes != neg := rfl
  rw [e0]
  by_cases k3 : kind = 3
  · subst k3
    rw [if_pos rfl]
    clear e0 hset hP
    go_enter Tryd.func28, Tryd.ntmps28
    go_wp2_with fail
    go_ret
    exact ⟨rfl, (by repeat (first | exact Below.refl _ _ | assumption | refine below_drewN ?_ _ | refine Below.drew ?_ | refine below_alloc' ?_ _))⟩
  rw [if_neg k3]
  have k3' : (kind == 3) = false := by simpa using k3
  by_cases k2 : kind = 2
  · subst k2
    rw [if_pos rfl]
    clear e0 hset hP k3 k3'
    by_cases h1 : c = code
    · have h1' : (c == code) = true := by simpa using h1
      have e1 : (decide (c = code) || (fold && decide (foldF c bytes = foldF code bytes))) = true := by simp [h1]
      rw [e1]
      clear h1 e1
      go_enter Tryd.func28, Tryd.ntmps28
      go_wp2_with fail
      go_quiet (fail)
      go_wp2_with fail
      go_ret
      exact ⟨rfl, (by repeat (first | exact Below.refl _ _ | assumption | refine below_drewN ?_ _ | refine Below.drew ?_ | refine below_alloc' ?_ _))⟩
    · have h1' : (c == code) = false := by simpa using h1
      cases fold with
      | false =>
        have e1 : (decide (c = code) || (false && decide (foldF c bytes = foldF code bytes))) = false := by simp [h1]
        rw [e1]
        clear h1 e1
        go_enter Tryd.func28, Tryd.ntmps28
        go_wp2_with fail
        go_quiet (fail)
        go_wp2_with fail
        go_ret
        exact ⟨rfl, (by repeat (first | exact Below.refl _ _ | assumption | refine below_drewN ?_ _ | refine Below.drew ?_ | refine below_alloc' ?_ _))⟩
      | true =>
        have e1 : (decide (c = code) || (true && decide (foldF c bytes = foldF code bytes))) = decide (foldF c bytes = foldF code bytes) := by simp [h1]
        rw [e1]
        have f1 := fun w => Fold_calls c bytes w
        have f2 := fun w => Fold_calls code bytes w
        generalize foldF c bytes = x at *
        generalize foldF code bytes = y at *
        have F1 := hide f1; have F2 := hide f2
        clear h1 e1 f1 f2
        go_enter Tryd.func28, Tryd.ntmps28
        go_wp2_with fail
        go_quiet ((first | (go_at_call_of 43 (Value.int IntKind.i64 c); exact Calls.quiet_of_same (unhide F1 _)) | (go_at_call 43; exact Calls.quiet_of_same (unhide F2 _))))
        go_wp2_with fail
        go_ret
        refine ⟨ret_bool ?_, (by repeat (first | exact Below.refl _ _ | assumption | refine below_drewN ?_ _ | refine Below.drew ?_ | refine below_alloc' ?_ _))⟩
        rw [Bool.eq_iff_iff]; simp
  rw [if_neg k2]
  have k2' : (kind == 2) = false := by simpa using k2
  have hin := fun (w1 : World) (hb : Below w.heap.size w w1) => in_calls set c w1 (hP.below hb hP.lt) (hset.below hb) hc0 hc1
  obtain ⟨As, cs', rfl, -⟩ := hset
  generalize inF set c fold bytes = x at *
  have HIN := hide hin
  clear e0 k2 k3 hin hP
  go_enter Tryd.func28, Tryd.ntmps28
  go_wp2_with fail
  go_region_with (go_at_call 44; refine (unhide HIN _ (by repeat (first | exact Below.refl _ _ | assumption | refine below_drewN ?_ _ | refine Below.drew ?_ | refine below_alloc' ?_ _))).mono ?_; rintro e w1 ⟨rfl, hb1⟩; have g2 := (bcell hb1).1 w.heap.size 2 (by simp))
  all_goals
    go_wp2
    go_ret
    refine ⟨ret_bool ?_, ?_⟩
    · first | rfl | simp
    · exact below_then (by repeat (first | exact Below.refl _ _ | assumption | refine below_drewN ?_ _ | refine Below.drew ?_ | refine below_alloc' ?_ _)) hb1
end Go.Proofs.YtanmlgliibgpcaaDoor

/- Plain Lean: a string as its characters; the text that a pattern is looked for in. -/
namespace Thr

/-- What is known of a size and a code: from the walk's side. -/
structure Sized (s : ByteArray) (bytes : Bool) : Prop where
  at_ : ∀ i : Nat, i < s.size → 1 ≤ (nextF s i bytes).2 ∧ (nextF s i bytes).2 ≤ s.size - i ∧ 0 ≤ (nextF s i bytes).1 ∧ (nextF s i bytes).1 ≤ 1114367

def seg (s : ByteArray) (bytes : Bool) : Nat → Nat → List (Nat × Int)
  | 0, _ => []
  | f + 1, i => if i < s.size then (i, (nextF s i bytes).1) :: seg s bytes f (i + (nextF s i bytes).2.toNat) else []

def plOf (s : ByteArray) (l : List (Nat × Int)) (k : Nat) : Nat := match l[k]? with | some c => c.1 | none => s.size
def cdOf (l : List (Nat × Int)) (k : Nat) : Int := match l[k]? with | some c => c.2 | none => -1

theorem plOf_cons_succ (s : ByteArray) (c : Nat × Int) (l : List (Nat × Int)) (k : Nat) : plOf s (c :: l) (k + 1) = plOf s l k := by simp [plOf]
theorem cdOf_cons_succ (c : Nat × Int) (l : List (Nat × Int)) (k : Nat) : cdOf (c :: l) (k + 1) = cdOf l k := by simp [cdOf]

theorem seg_known {s : ByteArray} {bytes : Bool} (hs : Sized s bytes) : ∀ (f i : Nat), i ≤ s.size → s.size - i ≤ f →
    plOf s (seg s bytes f i) 0 = i ∧ ∀ k, k < (seg s bytes f i).length → plOf s (seg s bytes f i) k < plOf s (seg s bytes f i) (k + 1) ∧ plOf s (seg s bytes f i) (k + 1) ≤ s.size ∧
      nextF s (plOf s (seg s bytes f i) k) bytes = (cdOf (seg s bytes f i) k, (plOf s (seg s bytes f i) (k + 1) : Int) - plOf s (seg s bytes f i) k)
  | 0, i, hi, hf => by
    refine ⟨?_, fun k hk => ?_⟩
    · simp [seg, plOf]; omega
    · simp [seg] at hk
  | f + 1, i, hi, hf => by
    by_cases hlt : i < s.size
    · obtain ⟨a1, a2, a3, a4⟩ := hs.at_ i hlt
      obtain ⟨ih1, ih2⟩ := seg_known hs f (i + (nextF s i bytes).2.toNat) (by omega) (by omega)
      simp only [seg, if_pos hlt]
      refine ⟨by simp [plOf], fun k hk => ?_⟩
      cases k with
      | zero =>
        rw [plOf_cons_succ, ih1]
        refine ⟨by simp [plOf]; omega, by omega, ?_⟩
        have e1 : plOf s ((i, (nextF s i bytes).1) :: seg s bytes f (i + (nextF s i bytes).2.toNat)) 0 = i := by simp [plOf]
        have e2 : cdOf ((i, (nextF s i bytes).1) :: seg s bytes f (i + (nextF s i bytes).2.toNat)) 0 = (nextF s i bytes).1 := by simp [cdOf]
        rw [e1, e2]
        refine Prod.ext rfl ?_
        simp only; omega
      | succ k =>
        rw [plOf_cons_succ, plOf_cons_succ, cdOf_cons_succ]
        exact ih2 k (by simpa using hk)
    · simp only [seg, if_neg hlt]
      exact ⟨by simp [plOf]; omega, fun k hk => by simp at hk⟩

def chs (s : ByteArray) (bytes : Bool) : List (Nat × Int) := seg s bytes s.size 0
def nCh (s : ByteArray) (bytes : Bool) : Nat := (chs s bytes).length
/-- The place of a character's number (from 0 on); the end behind the last. -/
def place (s : ByteArray) (bytes : Bool) (k : Nat) : Nat := plOf s (chs s bytes) k
/-- Its code; -1: there is none. -/
def codeK (s : ByteArray) (bytes : Bool) (k : Nat) : Int := cdOf (chs s bytes) k
def aheadK (s : ByteArray) (bytes : Bool) : Nat → Int
  | 0 => -1
  | k + 1 => codeK s bytes k

section
variable {s : ByteArray} {bytes : Bool}
theorem place_zero (hs : Sized s bytes) : place s bytes 0 = 0 := (seg_known hs s.size 0 (by omega) (by omega)).1
theorem place_end {k : Nat} (hk : nCh s bytes ≤ k) : place s bytes k = s.size := by
  unfold place plOf
  rw [List.getElem?_eq_none (by unfold nCh at hk; exact hk)]
theorem code_end {k : Nat} (hk : nCh s bytes ≤ k) : codeK s bytes k = -1 := by
  unfold codeK cdOf
  rw [List.getElem?_eq_none (by unfold nCh at hk; exact hk)]
theorem place_step (hs : Sized s bytes) {k : Nat} (hk : k < nCh s bytes) : place s bytes k < place s bytes (k + 1) ∧ place s bytes (k + 1) ≤ s.size ∧
    nextF s (place s bytes k) bytes = (codeK s bytes k, (place s bytes (k + 1) : Int) - place s bytes k) := (seg_known hs s.size 0 (by omega) (by omega)).2 k hk
theorem place_le (hs : Sized s bytes) (k : Nat) : place s bytes k ≤ s.size := by
  by_cases hk : k < nCh s bytes
  · have := place_step hs hk; omega
  · rw [place_end (by omega)]; omega
theorem place_mono (hs : Sized s bytes) : ∀ {i j : Nat}, i < j → j ≤ nCh s bytes → place s bytes i < place s bytes j
  | i, j + 1, hij, hj => by
    have h1 := (place_step hs (k := j) (by omega)).1
    by_cases h : i = j
    · subst h; exact h1
    · have := place_mono hs (i := i) (j := j) (by omega) (by omega); omega
theorem place_inj (hs : Sized s bytes) {i j : Nat} (hi : i ≤ nCh s bytes) (hj : j ≤ nCh s bytes) (h : place s bytes i = place s bytes j) : i = j := by
  rcases Nat.lt_trichotomy i j with h1 | h1 | h1
  · have := place_mono hs h1 hj; omega
  · exact h1
  · have := place_mono hs h1 hi; omega
theorem code_range (hs : Sized s bytes) {k : Nat} (hk : k < nCh s bytes) : 0 ≤ codeK s bytes k ∧ codeK s bytes k ≤ 1114367 := by
  obtain ⟨h1, h2, h3⟩ := place_step hs hk
  have := hs.at_ (place s bytes k) (by omega)
  rw [h3] at this
  exact ⟨this.2.2.1, this.2.2.2⟩
theorem nCh_le (hs : Sized s bytes) : nCh s bytes ≤ s.size := by
  have : ∀ k, k ≤ nCh s bytes → k ≤ place s bytes k := by
    intro k
    induction k with
    | zero => intro _; omega
    | succ k ih => intro hk; have := ih (by omega); have := (place_step hs (k := k) (by omega)).1; omega
  have h := this _ (Nat.le_refl _)
  rw [place_end (Nat.le_refl _)] at h
  exact h
/-- The program's look at a place. -/
theorem codeAt_place (hs : Sized s bytes) (k : Nat) : codeAt s (place s bytes k) bytes = (codeK s bytes k, (place s bytes (k + 1) : Int) - place s bytes k) := by
  unfold codeAt
  by_cases hk : k < nCh s bytes
  · obtain ⟨h1, h2, h3⟩ := place_step hs hk
    rw [h3]
    rw [if_neg (by simp only; omega)]
  · have e1 : place s bytes k = s.size := place_end (by omega)
    have e2 : place s bytes (k + 1) = s.size := place_end (by omega)
    have e3 : codeK s bytes k = -1 := code_end (by omega)
    have e4 : nextF s (place s bytes k) bytes = (0, 0) := by unfold nextF; rw [if_pos (by omega)]
    rw [e4, if_pos rfl, e1, e2, e3]
    simp
end

/-- The text that a pattern is looked for in: by the numbers of its characters. -/
def txt (s : ByteArray) (fold bytes : Bool) : Txt :=
  { has := fun k => decide (k < nCh s bytes), nxt := fun k => k + 1, fit := fun t k => fitsF t (codeK s bytes k) fold bytes,
    hold := fun t k => checkF t.kind (aheadK s bytes k) (codeK s bytes k) }

theorem txt_fine (s : ByteArray) (fold bytes : Bool) : (txt s fold bytes).Fine (nCh s bytes) := ⟨fun i hi => by simp only [txt, decide_eq_true_eq] at hi ⊢; omega⟩
end Thr

/- The walk of longest. -/
namespace Go.Proofs.YtanmlgliibgpcaaDoor
open Go.RowKit Thr
set_option linter.unusedVariables false

theorem sized_all (s : ByteArray) (bytes : Bool) : Sized s bytes := by
  refine ⟨fun i hi => ?_⟩
  have hr := byt_range s i
  have hx : 0 < (s.extract i s.size).size := by simp [ByteArray.size_extract]; omega
  have hk := sizeF_known (s.extract i s.size) hx
  have hz : (s.extract i s.size).size = s.size - i := by simp [ByteArray.size_extract]
  unfold nextF
  rw [if_neg (by omega)]
  simp only [Int.toNat_natCast]
  cases bytes with
  | true => rw [if_pos rfl]; simp only; omega
  | false =>
    rw [if_neg (by simp)]
    by_cases h : (sizeF (s.extract i s.size)).1 = 0
    · rw [if_pos h]; simp only; omega
    · rw [if_neg h]; simp only; omega

/-- A program that was made ready lies in the blocks below N. -/
structure ProgAt (N : Nat) (w : World) (bp : Nat) (fold bytes : Bool) (I : List Inst) (start : Int) : Prop where
  lies : ∃ vI, Blk w bp 47 #[.bool fold, .bool bytes, vI, .int .i64 start] ∧ InstsAt (fun k => k < N) w vI I
  lt : bp < N
  sound : Sound I
  small : I.length ≤ 1000
  st : 0 ≤ start ∧ start < I.length
theorem ProgAt.below {N : Nat} {w w' : World} {bp : Nat} {fold bytes : Bool} {I : List Inst} {start : Int} (h : ProgAt N w bp fold bytes I start) (hb : Below N w w') : ProgAt N w' bp fold bytes I start := by
  obtain ⟨vI, h1, h2⟩ := h.lies
  exact ⟨⟨vI, h1.below hb h.lt, h2.below hb⟩, h.lt, h.sound, h.small, h.st⟩

theorem Tryd.infoBool : (Tryd.prog.info? 4).map (fun i => (i.zero, i.size, i.bytes)) = some (some (.bool false), 1, 1) := by kernel_rfl
/-- So many cells that are false. -/
def falses (n : Nat) : Array Value := ((List.replicate n false).map Value.bool).toArray
theorem make_bools (n : Nat) (hn : n ≤ 1000) (w : World) :
    (Instr.makeSlice 66 (.int .i64 (n : Int)) (.int .i64 (n : Int))).run Tryd.prog w = .ok (.slice (some ⟨w.heap.size, 0, none⟩) n n) (w.alloc (.cells (falses n) 4)) := by
  rw [run_make_row' 66 4 (.bool false) 1 Tryd.underlying66 Tryd.infoBool rfl .i64 .i64 n (by omega) (by omega) w]
  have e : madeCells #[Value.bool false] n = falses n := by
    apply Array.toList_inj.1
    rw [toList_madeCells_one]
    simp [falses]
  rw [e]

/-- The first set of marks: none. -/
theorem SetS.fresh (w : World) (n base : Nat) (hn : n ≤ 1000) (hb : base ≤ w.heap.size) :
    SetS ((w.alloc (.cells (falses n) 4)).alloc (.cells #[.slice (some ⟨w.heap.size, 0, none⟩) n n, .slice none 0 0] 68)) base (w.heap.size + 1) w.heap.size (.slice none 0 0) (List.replicate n false) [] := by
  refine ⟨?_, ⟨by simp, .inl ⟨rfl, rfl⟩⟩, (Blk.new w _ _).alloc _, ⟨by omega, hb, by simp; omega⟩⟩
  have := Blk.new (w.alloc (.cells (falses n) 4)) 68 #[.slice (some ⟨w.heap.size, 0, none⟩) n n, .slice none 0 0]
  simpa using this

/-- The end of a match, as bytes. -/
def endB (s : ByteArray) (bytes : Bool) (e : Int) : Int := if e < 0 then -1 else place s bytes e.toNat

/-- All that a list tells are instructions. -/
theorem follow_in {I : List Inst} {chk : Rx → Bool} : ∀ (f : Nat) (has : List Bool) (list : List Int) (i : Int) (r : List Bool × List Int), 0 ≤ i → Sound I → has.length = I.length → i < I.length →
    followF I chk f has list i = some r → (∀ c ∈ list, 0 ≤ c ∧ c < I.length) → ∀ c ∈ r.2, 0 ≤ c ∧ c < I.length := by
  intro f has list i r h0 hI hl hi h hin c hc
  obtain ⟨F, _⟩ := follow_met f has list i r h0 hI hi hl h
  obtain ⟨new, e, a, _⟩ := F.news
  rw [e] at hc
  rcases List.mem_append.1 hc with hc | hc
  · exact hin c hc
  · obtain ⟨c0, _, q, hq, _⟩ := a c hc
    have := (List.getElem?_eq_some_iff.1 hq).1
    omega

theorem InstsAt.mono {ok ok' : Nat → Prop} {W : World} {v : Value} {I : List Inst} (h : InstsAt ok W v I) (hk : ∀ k, ok k → ok' k) : InstsAt ok' W v I := by
  obtain ⟨b, o, c, h1, h2, h3, hb, h⟩ := h
  refine ⟨b, o, c, h1, h2, h3, hk b hb, fun k q hq => ?_⟩
  obtain ⟨cs, ht, h4⟩ := h k q hq
  exact ⟨cs, TreeAt.mono hk _ _ ht, h4⟩
theorem ProgAt.more {N M : Nat} {w : World} {bp : Nat} {fold bytes : Bool} {I : List Inst} {start : Int} (h : ProgAt N w bp fold bytes I start) (hM : N ≤ M) : ProgAt M w bp fold bytes I start := by
  obtain ⟨vI, h1, h2⟩ := h.lies
  exact ⟨⟨vI, h1, h2.mono (fun k hk => Nat.lt_of_lt_of_le hk hM)⟩, Nat.lt_of_lt_of_le h.lt hM, h.sound, h.small, h.st⟩
theorem bare_false (n : Nat) : bare (List.replicate n false) = n := by
  induction n with
  | zero => rfl
  | succ n ih => simp [List.replicate_succ, bare, ih]; omega

/-- follow, of a program that lies below base. -/
theorem follow_prog {base bp bt bh : Nat} {fold bytes : Bool} {I : List Inst} {start : Int} (sa sb : Int) (f : Nat) (has : List Bool) (list : List Int) (i : Int) (r : List Bool × List Int) (vl : Value) (w : World)
    (hr : followF I (fun t => checkF t.kind sa sb) f has list i = some r) (hP : ProgAt base w bp fold bytes I start) (hl : has.length = I.length) (hlen : list.length + bare has ≤ 1000000) (hS : SetS w base bt bh vl has list) (h0 : 0 ≤ i) (hi : i < I.length) :
    Calls Tryd.prog 27 #[.pointer (some ⟨bp, 0, none⟩), .pointer (some ⟨bt, 0, none⟩), .int .i64 i, .agg #[.int .i64 sa, .int .i64 sb]] w fun e w' =>
      e = .returned (.tuple #[]) ∧ ∃ vl', SetS w' base bt bh vl' r.1 r.2 ∧ Keeps (Turn bt bh vl) w w' ∧ At w vl vl' := by
  obtain ⟨vI, h1, h2⟩ := hP.lies
  exact follow_calls sa sb hP.sound f has list i r vl w hr h1 hP.lt h2 hl hlen hS h0 hi

theorem own_lower {w : World} {base base' n size : Nat} {e : TypeId} {v : Value} {xs : List Value} (h : w.ownsRow base e size v n xs) (hb : base' ≤ base) : w.ownsRow base' e size v n xs := by
  obtain ⟨h1, h2⟩ := h
  refine ⟨h1, ?_⟩
  rcases h2 with h2 | ⟨g, cap, cur, rfl, hg, r⟩
  · exact .inl h2
  · exact .inr ⟨g, cap, cur, rfl, Nat.le_trans hb hg, r⟩
/-- What is read of a row of ints. -/
theorem own_ints {w : World} {base : Nat} {v : Value} {xs : List Int} (h : w.ownsRow base 3 1 v xs.length (xs.map (Value.int .i64))) :
    ∃ A c, v = .slice A xs.length c ∧ ∀ (j : Nat) (hj : j < xs.length), ∃ g, A = some ⟨g, 0, none⟩ ∧ g < w.heap.size ∧ base ≤ g ∧ v.ownBlock = some g ∧ w.cell? ⟨g, j, none⟩ = some (.int .i64 (xs[j]'hj)) := by
  rcases h.2 with ⟨rfl, h0⟩ | ⟨g, cap, cur, rfl, hg, hh, hc1, hc2, hc3, hc4⟩
  · refine ⟨none, 0, by rw [h0], fun j hj => ?_⟩
    omega
  · refine ⟨_, _, rfl, fun j hj => ⟨g, rfl, (Array.getElem?_eq_some_iff.1 hh).1, hg, rfl, ?_⟩⟩
    rw [cell_of_row w g j cur _ (0, 0) hh]
    have hsz : cur.toList.length = cap := by rw [Array.length_toList]; omega
    have e : cur.toList[j]? = (xs.map (Value.int .i64))[j]? := by
      rw [← hc4, List.getElem?_take, if_pos (by omega)]
    rw [← Array.getElem?_toList, e, List.getElem?_map, List.getElem?_eq_getElem hj]
    rfl
theorem SetS.lower {w : World} {base base' bt bh : Nat} {vl : Value} {has : List Bool} {list : List Int} (h : SetS w base bt bh vl has list) (hb : base' ≤ base) : SetS w base' bt bh vl has list :=
  ⟨h.row, own_lower h.own hb, h.marks, by have := h.lt; omega⟩
theorem SetS.old {w w1 : World} {B base bt bh : Nat} {vl : Value} {has : List Bool} {list : List Int} (h : SetS w base bt bh vl has list) (hB : w.heap.size ≤ B) (hb : Below B w w1) : SetS w1 base bt bh vl has list :=
  ⟨h.row.below hb (by have := h.bt_lt; omega), own_step h.own (fun k hk => hb.block k (by have := (own_lt h.own k hk).2; omega)), h.marks.below hb (by have := h.bh_lt; omega), h.lt⟩

set_option maxRecDepth 100000 in
set_option maxHeartbeats 40000000 in
theorem longest_calls {N bp : Nat} {fold bytes : Bool} {I : List Inst} {start : Int} (s : ByteArray) (k : Nat) (f rounds : Nat) (r : Int) (w : World) (hP : ProgAt N w bp fold bytes I start) (hN : N ≤ w.heap.size)
    (hT : Tabs w) (hm : s.size ≤ 140737488351232) (hk : k ≤ nCh s bytes)
    (hr : (followF I (fun t => checkF t.kind (aheadK s bytes k) (codeK s bytes k)) f (List.replicate I.length false) [] start).bind (fun q => longF (txt s fold bytes) I f rounds k q.2 (-1)) = some r) :
    Calls Tryd.prog 18 #[.pointer (some ⟨bp, 0, none⟩), .string s, .int .i64 (place s bytes k), .int .i64 (aheadK s bytes k)] w fun e w' => e = .returned (.int .i64 (endB s bytes r)) ∧ Below w.heap.size w w' := by
  have hZ := sized_all s bytes
  obtain ⟨q0, hq0, hr0⟩ := Option.bind_eq_some_iff.1 hr
  obtain ⟨vI, hB, hIn⟩ := hP.lies
  have hcode : ∀ (w1 : World), Below w.heap.size w w1 → ∀ j : Nat, Calls Tryd.prog 19 #[.pointer (some ⟨bp, 0, none⟩), .string s, .int .i64 (place s bytes j)] w1 fun e w' => e = .returned (.tuple #[.int .i64 (codeK s bytes j), .int .i64 ((place s bytes (j + 1) : Int) - place s bytes j)]) ∧ Below w1.heap.size w1 w' := fun w1 hb j => by
    have := code_calls s (place s bytes j) w1 (hT.below hb) hm (hB.below hb hB.lt)
    rw [codeAt_place hZ j] at this
    exact this
  have hmk := make_bools I.length hP.small
  have p2 := hB.cell 2
  have p3 := hB.cell 3
  obtain ⟨bI, oI, cI, rfl, hc1, hc2, hbI, hcells⟩ := hIn
  simp at p2 p3
  have hbp := hB.lt
  have hst := hP.st
  have hsm := hP.small
  have HC := hide hcode; have HP := hide hP; have HQ := hide hq0; have HR := hide hr0; have HT := hide hT; have HZ := hide hZ; have HIC := hide hcells
  clear hcode hP hq0 hr0 hr hB hT hZ hcells
  go_enter Tryd.func18, Tryd.ntmps18
  go_wp2_with fail
  go_step3
  go_wp2_with (go_at_call 19; refine (unhide HC _ (by repeat (first | exact Below.refl _ _ | assumption | refine below_drewN ?_ _ | refine Below.drew ?_ | refine below_alloc' ?_ _)) k).mono ?_; rintro e w1 ⟨rfl, hb1⟩; obtain ⟨g0, g1⟩ := bcell hb1; have p2' := (g0 _ 2 hbp).trans p2; have p3' := (g0 _ 3 hbp).trans p3; have hz1 := hb1.size; have hbp1 : bp < w1.heap.size := by omega)
  have hP1 := ((((unhide HP).more hN).below hb1).below ((Below.refl w.heap.size _).alloc hz1 (.cells (falses I.length) 4))).below ((Below.refl w.heap.size _).alloc (by simp <;> omega) (.cells #[.slice (some ⟨w1.heap.size, 0, none⟩) I.length I.length, .slice none 0 0] 68))
  refine (follow_prog (aheadK s bytes k) (codeK s bytes k) f (List.replicate I.length false) [] start q0 (.slice none 0 0) _ (unhide HQ) hP1 (by simp) (by rw [bare_false]; simp <;> omega) (SetS.fresh w1 I.length w.heap.size hsm hz1) hst.1 hst.2).mono ?_
  rintro e w2 ⟨rfl, vl, hS, hK, hat⟩
  have hbd := follow_bound _ _ _ _ _ (by simp) (unhide HQ)
  have hin := follow_in _ _ _ _ _ hst.1 (unhide HP).sound (by simp) hst.2 (unhide HQ) (by simp)
  rw [bare_false] at hbd
  have hB2 : Below w.heap.size w w2 := (((hb1.alloc hz1 _).alloc (by simp <;> omega) _)).trans (hK.below (by simp <;> omega) (fun j hj => (SetS.fresh w1 I.length w.heap.size hsm hz1).old_not hj))
  have hl2 : q0.2.length ≤ I.length := by have := hbd.1; simp at this; omega
  obtain ⟨has, list⟩ := q0
  simp only at hS hbd hin hl2
  have hl1 : has.length = I.length := hbd.2
  have HS := hide hS; have HIN := hide hin; have HB2 := hide hB2; have HL1 := hide hl1
  have hr0 := unhide HR
  simp only at hr0
  have HR0 := hide hr0
  clear hS hK hat hbd hin hB2 hP1 hl1 hb1 g0 g1 p2' p3' hz1 hbp1 HR hr0 HQ
  go_wp2_with fail
  go_step3
  go_wp2_with fail
  go_loopw [2, 9, 10, 11] (fun at_ e_ c_ n_ wr => ∃ (j rounds' bh : Nat) (ee : Int) (vl : Value) (has : List Bool) (list : List Int), at_ = .int .i64 (place s bytes j) ∧ e_ = .int .i64 (endB s bytes ee) ∧ c_ = .int .i64 (codeK s bytes j) ∧ n_ = .int .i64 ((place s bytes (j + 1) : Int) - place s bytes j) ∧ j ≤ nCh s bytes ∧ Hid (longF (txt s fold bytes) I f rounds' j list ee = some r) ∧ Hid (SetS wr w.heap.size (w1.heap.size + 1) bh vl has list) ∧ Hid (has.length = I.length) ∧ list.length ≤ 1000 ∧ Hid (∀ c ∈ list, 0 ≤ c ∧ c < I.length) ∧ Hid (Below w.heap.size w wr))
    (fun at_ _ _ _ _ => s.size - (intOf at_).toNat)
  case atStart => exact ⟨k, rounds, w1.heap.size, -1, vl, has, list, rfl, rfl, rfl, rfl, hk, HR0, HS, HL1, by omega, HIN, HB2⟩
  case round =>
    clear HS HL1 HIN HB2 HR0 hl2 vl has list
    obtain ⟨j, rounds', bh, ee, vl, has, list, rfl, rfl, rfl, rfl, hj, HR0, HS, HL1, hl2, HIN, HB2⟩ := hrel
    have hS := unhide HS
    obtain ⟨A, cl, hv, hcl⟩ := own_ints hS.own
    have r1 := hS.row.cell 1
    have r0 := hS.row.cell 0
    rw [hv] at r1
    simp at r1 r0
    have hbt := hS.bt_lt
    obtain ⟨g0, g1⟩ := bcell (unhide HB2)
    have p2' := (g0 _ 2 hbp).trans p2
    have hz1 := (unhide HB2).size
    have HCL := hide hcl
    have HV := hide hv
    clear hS hv hcl g0 g1
    obtain ⟨wo, rfl⟩ : ∃ wo : World, wo = wr := ⟨_, rfl⟩
    go_wp2_with fail
    go_loop [47, 9] (fun i e => ∃ m : Nat, m ≤ list.length ∧ i = .int .i64 m ∧ e = .int .i64 (endB s bytes (if (list.take m).any (isMatch I) = true then (j : Int) else ee))) (fun i _ => list.length - (intOf i).toNat)
    case atStart => exact ⟨0, by omega, rfl, by simp⟩
    case round =>
      obtain ⟨m, hm1, rfl, rfl⟩ := hrel
      by_cases hlt : m < list.length
      · obtain ⟨g, rfl, hg1, _, _, hg2⟩ := (unhide HCL) m hlt
        obtain ⟨x0, x1⟩ := (unhide HIN) list[m] (List.getElem_mem hlt)
        have hbx : list[m].toNat < I.length := by omega
        obtain ⟨q, hq⟩ : ∃ q, I[list[m].toNat]? = some q := ⟨_, List.getElem?_eq_getElem hbx⟩
        obtain ⟨cs, ht, d0, d1, d8, d9⟩ := (unhide HIC) _ q hq
        have d0' := ((bcell (unhide HB2)).1 bI _ (World.block_lt_of_cell? w _ d0)).trans d0
        have hst1 : (list.take (m + 1)).any (isMatch I) = ((list.take m).any (isMatch I) || (q.op == 3)) := by
          rw [List.take_succ_eq_append_getElem hlt, List.any_append]
          simp [isMatch, hq]
        generalize list[m] = x at *
        obtain ⟨xn, rfl⟩ := Int.eq_ofNat_of_zero_le x0
        simp only [Int.toNat_natCast] at d0'
        have hxn : xn < I.length := by omega
        have HST := hide hst1
        clear hst1 hq d0 d1 d8 d9 ht x0 x1
        by_cases h3 : q.op = 3
        · have h3' : (q.op == 3) = true := by simpa using h3
          clear h3
          go_wp2_with fail
          go_round
          case rel => exact ⟨m + 1, by omega, by go_num, by rw [unhide HST, h3', Bool.or_true, if_pos rfl]; simp [endB]⟩
          case measure => simp [intOf]; omega
        · have h3' : (q.op == 3) = false := by simpa using h3
          clear h3
          go_wp2_with fail
          go_round
          case rel => exact ⟨m + 1, by omega, by go_num, by rw [unhide HST, h3', Bool.or_false]⟩
          case measure => simp [intOf]; omega
      · obtain rfl : m = list.length := by omega
        clear hlt
        obtain ⟨e2, he2⟩ : ∃ e2, (if (list.take list.length).any (isMatch I) = true then (j : Int) else ee) = e2 := ⟨_, rfl⟩
        rw [he2]
        rw [List.take_length] at he2
        have HE := hide he2
        clear he2 hm1
        have hr0 := unhide HR0
        cases rounds' with
        | zero => simp [longF] at hr0
        | succ rounds' =>
        simp only [longF] at hr0
        rw [unhide HE] at hr0
        by_cases hjn : j < nCh s bytes
        · obtain ⟨ps1, ps2, ps3⟩ := place_step (unhide HZ) hjn
          have hpn : ((((place s bytes (j + 1) : Int) - place s bytes j)) == 0) = false := by
            have : ¬ ((place s bytes (j + 1) : Int) - place s bytes j = 0) := by omega
            simpa using this
          by_cases hle : list = []
          · rw [if_pos (.inr hle)] at hr0
            obtain rfl := Option.some.inj hr0
            have hll : ((list.length : Int) == 0) = true := by rw [hle]; rfl
            clear hle hr0
            go_wp2_with fail
            go_ret
            exact ⟨rfl, unhide HB2⟩
          · have hll : ((list.length : Int) == 0) = false := by simpa using hle
            rw [if_neg (by simp [txt, hjn, hle])] at hr0
            obtain ⟨r2, hr2, hr3⟩ := Option.bind_eq_some_iff.1 hr0
            have HR2 := hide hr2; have HR3 := hide hr3
            clear hr0 hr2 hr3 hle HR0
            go_wp2_with fail
            rw [show (place s bytes j : Int) + ((place s bytes (j + 1) : Int) - place s bytes j) = (place s bytes (j + 1) : Int) by omega]
            refine (unhide HC _ (unhide HB2) (j + 1)).mono ?_
            rintro e w3 ⟨rfl, hb3⟩
            obtain ⟨g0, g1⟩ := bcell hb3
            have p2'' := (g0 _ 2 (by omega)).trans p2'
            have r1'' := (g0 _ 1 hbt).trans r1
            have hz3 := hb3.size
            have HB3 := hide hb3
            have hbt3 : w1.heap.size + 1 < w3.heap.size := by omega
            have hbt4 : w1.heap.size < w3.heap.size := by omega
            have hcr := code_range (unhide HZ) hjn
            clear g0 g1 hb3
            go_wp2_with fail
            go_loopw [89] (fun i wq => ∃ (m : Nat) (vl2 : Value) (has2 : List Bool) (list2 : List Int), m ≤ list.length ∧ i = .int .i64 m ∧ Hid (stepF I (fun t => fitsF t (codeK s bytes j) fold bytes) (fun t => checkF t.kind (codeK s bytes j) (codeK s bytes (j + 1))) f (list.drop m) has2 list2 = some r2) ∧ Hid (SetS wq w3.heap.size (w3.heap.size + 1) w3.heap.size vl2 has2 list2) ∧ Hid (has2.length = I.length) ∧ list2.length + bare has2 ≤ I.length ∧ Hid (∀ c ∈ list2, 0 ≤ c ∧ c < I.length) ∧ Hid (Below w3.heap.size w3 wq)) (fun i _ => list.length - (intOf i).toNat)
            case atStart => exact ⟨0, .slice none 0 0, List.replicate I.length false, [], by omega, rfl, HR2, SetS.fresh w3 I.length w3.heap.size hsm (Nat.le_refl _), hide (by simp), by rw [bare_false]; simp, hide (by simp), hide (by repeat (first | exact Below.refl _ _ | assumption | refine below_drewN ?_ _ | refine Below.drew ?_ | refine below_alloc' ?_ _))⟩
            case round =>
              obtain ⟨m, vl2, has2, list2, hm1, rfl, HS2, HSS2, HL2, hb2, HIN2, HB4⟩ := hrel
              have hbq : Below w.heap.size w wr := below_then (below_then (unhide HB2) (unhide HB3)) (unhide HB4)
              have hz4 := (unhide HB4).size
              by_cases hlt : m < list.length
              · obtain ⟨g, rfl, hg1, _, _, hg2⟩ := (unhide HCL) m hlt
                obtain ⟨x0, x1⟩ := (unhide HIN) list[m] (List.getElem_mem hlt)
                have hbx : list[m].toNat < I.length := by omega
                obtain ⟨q, hq⟩ : ∃ q, I[list[m].toNat]? = some q := ⟨_, List.getElem?_eq_getElem hbx⟩
                have hs2 := unhide HS2
                rw [List.drop_eq_getElem_cons hlt] at hs2
                simp only [stepF, hq] at hs2
                obtain ⟨cs, ht, d0, d1, d8, d9⟩ := (unhide HIC) _ q hq
                have hx := ((unhide HP).sound _ _ hq).2.1
                have hg2' := ((bcell (unhide HB4)).1 g m (by omega)).trans (((bcell (unhide HB3)).1 g m hg1).trans hg2)
                generalize list[m] = x at *
                obtain ⟨xn, rfl⟩ := Int.eq_ofNat_of_zero_le x0
                simp only [Int.toNat_natCast] at d0 d1 d8 d9 hbx
                obtain ⟨op, node, qx, qy⟩ := q
                have ht0 := ht
                obtain ⟨kind, code, neg, set, mn, mx, kids⟩ := node
                simp only [TreeAt] at ht
                obtain ⟨vs, A, cc, rfl, ⟨As, cs', rfl, -⟩, -⟩ := ht
                have hbIw : bI < w.heap.size := by omega
                have hq0 := (bcell hbq).1 bI
                have e0 := (hq0 _ hbIw).trans d0
                have e1 := (hq0 _ hbIw).trans (d1 0 _ rfl)
                have e2 := (hq0 _ hbIw).trans (d1 1 _ rfl)
                have e3 := (hq0 _ hbIw).trans (d1 2 _ rfl)
                have e4 := (hq0 _ hbIw).trans (d1 3 _ rfl)
                have e5 := (hq0 _ hbIw).trans (d1 4 _ rfl)
                have e6 := (hq0 _ hbIw).trans (d1 5 _ rfl)
                have e7 := (hq0 _ hbIw).trans (d1 6 _ rfl)
                have e8 := (hq0 _ hbIw).trans d8
                have e9 := (hq0 _ hbIw).trans d9
                have p2q := ((bcell hbq).1 bp 2 hbp).trans p2
                simp at e1
                have HT0 := hide ht0; have HS3 := hide hs2; have HBQ := hide hbq; have HX := hide hx
                clear d0 d1 d8 d9 hq0 hg2 ht0 hs2 hbq hx HS2 hq x0 x1
                simp only at HT0 HS3 HX
                by_cases h0 : op = 0
                · subst h0
                  have hs3 := unhide HS3
                  simp only [true_and] at hs3
                  have hPw := (unhide HP).below (unhide HBQ |>.mono hN)
                  obtain ⟨vI, hBw, -⟩ := hPw.lies
                  go_wp2_with fail
                  refine (fits_calls (.mk kind code neg set mn mx kids) _ (codeK s bytes j) _ (hBw.alloc _) (TreeAt.step (fun _ _ hj => Below.heap_alloc _ _ _ hj) _ _ (TreeAt.step (fun _ hj _ => (unhide HBQ).block _ (by omega)) _ _ (unhide HT0))) (by omega) (by omega)).mono ?_
                  rintro e w5 ⟨rfl, hb5⟩
                  generalize hfit : fitsF (.mk kind code neg set mn mx kids) (codeK s bytes j) fold bytes = fit at *
                  cases fit with
                  | true =>
                    rw [if_pos rfl] at hs3
                    obtain ⟨r5, hr5, hs5⟩ := Option.bind_eq_some_iff.1 hs3
                    obtain ⟨hx0, hx1⟩ : 0 ≤ qx ∧ qx < I.length := by simpa using unhide HX
                    have f8 : w5.cell? ⟨wr.heap.size, 8, none⟩ = some (.int .i64 qx) := ((bcell hb5).1 _ _ (by simp)).trans (by go_simp)
                    have HR5 := hide hr5; have HS5 := hide hs5; have HB5 := hide hb5; have HPW := hide hPw
                    clear hs3 hr5 hs5 hb5 hPw hBw HX HT0 HS3
                    go_wp2_with fail
                    have hPW : ProgAt w3.heap.size w5 bp fold bytes I start := ((((unhide HPW).below ((Below.refl _ _).alloc (by omega) _)).below ((unhide HB5).mono (by simp; omega))).more (by omega))
                    refine (follow_prog (codeK s bytes j) (codeK s bytes (j + 1)) f has2 list2 qx r5 vl2 _ (unhide HR5) hPW (unhide HL2) (by omega) (((unhide HSS2).alloc _).below (unhide HB5)) hx0 hx1).mono ?_
                    rintro e w6 ⟨rfl, vl6, hS6, hK6, hat6⟩
                    have hbd := follow_bound _ _ _ _ _ (unhide HL2) (unhide HR5)
                    have hin6 := follow_in _ _ _ _ _ hx0 (unhide HP).sound (unhide HL2) hx1 (unhide HR5) (unhide HIN2)
                    have hb6 : Below w3.heap.size w3 w6 := ((((unhide HB4).alloc (by omega) _).trans ((unhide HB5).mono (by simp; omega)))).trans (hK6.below (by have := (unhide HB5).size; simp at this; omega) (fun j hj => (((unhide HSS2).alloc _).below (unhide HB5)).old_not hj))
                    have HS6 := hide hS6; have HIN6 := hide hin6; have HB6 := hide hb6
                    clear hS6 hK6 hat6 hin6 hb6 hPW
                    go_wp2_with fail
                    go_roundw
                    case rel => exact ⟨m + 1, vl6, r5.1, r5.2, by omega, by go_num, HS5, HS6, hbd.2, by have := hbd.1; omega, HIN6, HB6⟩
                    case measure => simp [intOf]; omega
                  | false =>
                    rw [if_neg (by simp)] at hs3
                    have HS5 := hide hs3; have HB5 := hide hb5
                    clear hs3 hb5 hPw hBw HX HT0 HS3
                    go_wp2_with fail
                    go_roundw
                    case rel => exact ⟨m + 1, vl2, has2, list2, by omega, by go_num, HS5, (((unhide HSS2).alloc _).below (unhide HB5)), HL2, hb2, HIN2, (((unhide HB4).alloc (by omega) _).trans ((unhide HB5).mono (by simp; omega)))⟩
                    case measure => simp [intOf]; omega
                · have h0' : (op == 0) = false := by simpa using h0
                  have hs3 := unhide HS3
                  rw [if_neg (by simp [h0])] at hs3
                  have HS4 := hide hs3
                  clear h0 hs3 HS3
                  go_wp2_with fail
                  go_roundw
                  case rel => exact ⟨m + 1, vl2, has2, list2, by omega, by go_num, HS4, (unhide HSS2).alloc _, HL2, hb2, HIN2, (unhide HB4).alloc (by omega) _⟩
                  case measure => simp [intOf]; omega
              · obtain rfl : m = list.length := by omega
                have hs2 := unhide HS2
                rw [List.drop_length] at hs2
                simp only [stepF] at hs2
                obtain rfl := Option.some.inj hs2
                simp only at HR3
                obtain ⟨A2, c2, rfl, -⟩ := own_ints (unhide HSS2).own
                have t0 := (unhide HSS2).row.cell 0
                have t1 := (unhide HSS2).row.cell 1
                simp at t0 t1
                have hwn : w3.heap.size + 1 < wr.heap.size := (unhide HSS2).bt_lt
                have HBQ := hide hbq
                clear hs2 hbq hlt hm1 HS2 HR2
                have o0 := (unhide HS).row.frozen 0
                have o1 := (unhide HS).row.frozen 1
                have o0' := ((bcell (unhide HB4)).2 _ 0 (by omega)).trans (((bcell (unhide HB3)).2 _ 0 hbt).trans o0)
                have o1' := ((bcell (unhide HB4)).2 _ 1 (by omega)).trans (((bcell (unhide HB3)).2 _ 1 hbt).trans o1)
                have r0q := ((bcell (unhide HB4)).1 _ 0 hbt3).trans (((bcell (unhide HB3)).1 _ 0 hbt).trans r0)
                have r1q := ((bcell (unhide HB4)).1 _ 1 hbt3).trans r1''
                have hbtq : w1.heap.size + 1 < wr.heap.size := by omega
                clear o0 o1 p2'' r1'' r0 r1 p2' p2 p3
                go_wp2_with fail
                go_roundw
                case rel =>
                  have hne : (Value.slice A2 list2.length c2).ownBlock ≠ some (w1.heap.size + 1) := fun e => by
                    have := own_lt (unhide HSS2).own _ e; omega
                  have hS := unhide HSS2
                  have hrow : Blk wr (w1.heap.size + 1) 68 _ := ((unhide HS).row.below (unhide HB3) hbt).below (unhide HB4) hbt3
                  refine ⟨j + 1, rounds', w3.heap.size, e2, .slice A2 list2.length c2, has2, list2, ?_, rfl, rfl, rfl, by omega, HR3, ⟨?_, ?_, ?_, ?_⟩, HL2, by omega, HIN2, ?_⟩
                  · congr 1; omega
                  · exact ((hrow.set_ 0 _).set_ 1 _)
                  · exact own_step (own_step (own_lower hS.own (by omega)) (fun k hk => Below.heap_setCell _ _ _ k (by rintro rfl; exact hne hk))) (fun k hk => Below.heap_setCell _ _ _ k (by rintro rfl; exact hne hk))
                  · exact (hS.marks.far (by simp only; omega) _).far (by simp only; omega) _
                  · have := (unhide HS).lt; have := hS.lt; omega
                  · exact ((unhide HBQ).setCell (p := ⟨w1.heap.size + 1, 0, none⟩) (by have := (unhide HS).lt; simp only; omega) _).setCell (p := ⟨w1.heap.size + 1, 1, none⟩) (by have := (unhide HS).lt; simp only; omega) _
                case measure => simp [intOf]; omega
        · obtain rfl : j = nCh s bytes := by omega
          have hpn : ((((place s bytes (nCh s bytes + 1) : Int) - place s bytes (nCh s bytes))) == 0) = true := by
            rw [place_end (by omega), place_end (by omega)]; simp
          rw [if_pos (.inl (by simp [txt]))] at hr0
          obtain rfl := Option.some.inj hr0
          clear hr0
          go_wp2_with fail
          go_ret
          exact ⟨rfl, unhide HB2⟩
end Go.Proofs.YtanmlgliibgpcaaDoor

/- The walk of Find. -/
namespace Go.Proofs.YtanmlgliibgpcaaDoor
open Go.RowKit Thr
set_option linter.unusedVariables false

/-- The first place from which on there is a match, and where the longest one ends. -/
def Found (T : Txt) (n : Nat) (pl : Nat → Nat) (t : Rx) (from_ : Int) : Option (Nat × Nat) → Prop
  | some (k, e) => k ≤ n ∧ e ≤ n ∧ k ≤ e ∧ from_ ≤ pl k ∧ den T t k e ∧ (∀ j, den T t k j → j ≤ e) ∧ ∀ k', k' < k → from_ ≤ pl k' → ∀ j, ¬ den T t k' j
  | none => ∀ k, k ≤ n → from_ ≤ pl k → ∀ j, ¬ den T t k j
def foundVal (pl : Nat → Nat) : Option (Nat × Nat) → Value
  | some (k, e) => .tuple #[.int .i64 (pl k), .int .i64 (pl e), .bool true]
  | none => .tuple #[.int .i64 0, .int .i64 0, .bool false]

/-- longest, of a program that was made of an expression. -/
theorem longest_den {N bp : Nat} {fold bytes : Bool} {t : Rx} (ht : Makes t) (s : ByteArray) (k : Nat) (w : World) (hP : ProgAt N w bp fold bytes (compiled t).2 (compiled t).1) (hN : N ≤ w.heap.size)
    (hT : Tabs w) (hm : s.size ≤ 140737488351232) (hk : k ≤ nCh s bytes) :
    ∃ r, Last (den (txt s fold bytes) t k) (-1) r ∧ Calls Tryd.prog 18 #[.pointer (some ⟨bp, 0, none⟩), .string s, .int .i64 (place s bytes k), .int .i64 (aheadK s bytes k)] w fun e w' => e = .returned (.int .i64 (endB s bytes r)) ∧ Below w.heap.size w w' := by
  obtain ⟨r, hr, hL⟩ := longest_ends (txt_fine s fold bytes) ht (f := (compiled t).2.length + 1) (k := nCh s bytes - k + 1) (i := k) (by omega) hk (by omega)
  exact ⟨r, hL, longest_calls s k _ _ r w hP hN hT hm hk hr⟩

def atK (s : ByteArray) (bytes : Bool) (k : Nat) : Int := if k ≤ nCh s bytes then (place s bytes k : Int) else (s.size : Int) + 1
theorem atK_next {s : ByteArray} {bytes : Bool} (hZ : Sized s bytes) {k : Nat} (hk : k ≤ nCh s bytes) : (place s bytes k : Int) + max ((place s bytes (k + 1) : Int) - place s bytes k) 1 = atK s bytes (k + 1) := by
  unfold atK
  by_cases h : k + 1 ≤ nCh s bytes
  · rw [if_pos h]
    have := (place_step hZ (k := k) (by omega)).1
    omega
  · rw [if_neg h, place_end (k := k) (by omega), place_end (k := k + 1) (by omega)]
    omega

theorem Found.unique {T : Txt} {n : Nat} {pl : Nat → Nat} {t : Rx} {f : Int} {o o' : Option (Nat × Nat)} (h : Found T n pl t f o) (h' : Found T n pl t f o') : o = o' := by
  cases o with
  | none =>
    cases o' with
    | none => rfl
    | some q => exact absurd h'.2.2.2.2.1 (h q.1 h'.1 h'.2.2.2.1 q.2)
  | some p =>
    cases o' with
    | none => exact absurd h.2.2.2.2.1 (h' p.1 h.1 h.2.2.2.1 p.2)
    | some q =>
      obtain ⟨k, e⟩ := p
      obtain ⟨k', e'⟩ := q
      obtain ⟨_, _, _, a3, a4, a5, a6⟩ := h
      obtain ⟨_, _, _, b3, b4, b5, b6⟩ := h'
      have hk : k = k' := by
        rcases Nat.lt_trichotomy k k' with hlt | hlt | hlt
        · exact absurd a4 (b6 k hlt a3 e)
        · exact hlt
        · exact absurd b4 (a6 k' hlt b3 e')
      subst hk
      have := b5 _ a4
      have := a5 _ b4
      rw [show e = e' by omega]
theorem found_ends {T : Txt} {n : Nat} (hT : T.Fine n) (pl : Nat → Nat) {t : Rx} (ht : Makes t) (f : Int) : ∃ o, Found T n pl t f o := by
  have h : ∀ m, m ≤ n + 1 → (∃ o, Found T n pl t f o) ∨ ∀ k, k < m → f ≤ pl k → ∀ j, ¬ den T t k j := by
    intro m
    induction m with
    | zero => intro _; exact .inr (fun k hk => by omega)
    | succ m ih =>
      intro hm
      rcases ih (by omega) with ih | ih
      · exact .inl ih
      · by_cases hf : f ≤ pl m
        · obtain ⟨r, _, hL⟩ := longest_ends hT ht (f := (compiled t).2.length + 1) (k := n - m + 1) (i := m) (by omega) (by omega) (by omega)
          rcases hL with ⟨_, hn⟩ | ⟨e, _, hd, hmax⟩
          · refine .inr fun k hk hfk => ?_
            rcases Nat.lt_or_ge k m with h | h
            · exact ih k h hfk
            · obtain rfl : k = m := by omega
              exact hn
          · have := den_le hT t m e (by omega) hd
            exact .inl ⟨some (m, e), by omega, by omega, by omega, hf, hd, hmax, ih⟩
        · refine .inr fun k hk hfk => ?_
          rcases Nat.lt_or_ge k m with h | h
          · exact ih k h hfk
          · obtain rfl : k = m := by omega
            exact absurd hfk hf
  rcases h (n + 1) (Nat.le_refl _) with h | h
  · exact h
  · exact ⟨none, fun k hk => h k (by omega)⟩

set_option maxHeartbeats 4000000 in
theorem Find_nil (s : ByteArray) (from_ : Int) (w : World) : Calls Tryd.prog 9 #[.pointer none, .string s, .int .i64 from_] w fun e w' => e = .returned (foundVal (place s true) none) ∧ w' = w := by
  unfold foundVal
  go_enter Tryd.func9, Tryd.ntmps9
  go_wp2_with fail
  go_ret3
  exact ⟨rfl, rfl⟩
set_option maxHeartbeats 4000000 in
theorem Find_less (bp : Nat) (s : ByteArray) (from_ : Int) (w : World) (h : from_ < 0) : Calls Tryd.prog 9 #[.pointer (some ⟨bp, 0, none⟩), .string s, .int .i64 from_] w fun e w' => e = .returned (foundVal (place s true) none) ∧ w' = w := by
  unfold foundVal
  have h' : decide (from_ < 0) = true := by simpa using h
  clear h
  go_enter Tryd.func9, Tryd.ntmps9
  go_wp2_with fail
  go_ret3
  exact ⟨rfl, rfl⟩
set_option maxHeartbeats 40000000 in
theorem Find_calls {N bp : Nat} {fold bytes : Bool} {t : Rx} (ht : Makes t) (s : ByteArray) (from_ : Int) (o : Option (Nat × Nat)) (w : World) (hP : ProgAt N w bp fold bytes (compiled t).2 (compiled t).1) (hN : N ≤ w.heap.size)
    (hT : Tabs w) (hm : s.size ≤ 140737488351232) (h0 : 0 ≤ from_) (ho : Found (txt s fold bytes) (nCh s bytes) (place s bytes) t from_ o) :
    Calls Tryd.prog 9 #[.pointer (some ⟨bp, 0, none⟩), .string s, .int .i64 from_] w fun e w' => e = .returned (foundVal (place s bytes) o) ∧ Below w.heap.size w w' := by
  have hZ := sized_all s bytes
  have hcode : ∀ (w1 : World), Below w.heap.size w w1 → ∀ j : Nat, Calls Tryd.prog 19 #[.pointer (some ⟨bp, 0, none⟩), .string s, .int .i64 (place s bytes j)] w1 fun e w' => e = .returned (.tuple #[.int .i64 (codeK s bytes j), .int .i64 ((place s bytes (j + 1) : Int) - place s bytes j)]) ∧ Below w1.heap.size w1 w' := fun w1 hb j => by
    obtain ⟨vI, hB, -⟩ := hP.lies
    have := code_calls s (place s bytes j) w1 (hT.below hb) hm (hB.below hb (by have := hP.lt; omega))
    rw [codeAt_place hZ j] at this
    exact this
  have hlong := fun (w1 : World) (hb : Below w.heap.size w w1) k hk => longest_den ht s k w1 ((hP.more hN).below hb) hb.size (hT.below hb) hm hk
  have hz0 := place_zero hZ
  have h0' : decide (from_ < 0) = false := by simpa using h0
  have HC := hide hcode; have HL := hide hlong; have HO := hide ho; have HZ := hide hZ; have HP := hide hP; have HT := hide hT; have HZ0 := hide hz0
  clear hcode hlong ho hZ hP hT hz0 h0
  go_enter Tryd.func9, Tryd.ntmps9
  go_wp2_with fail
  go_loopw [9, 10] (fun ahead_ at_ wr => ∃ k : Nat, k ≤ nCh s bytes + 1 ∧ at_ = .int .i64 (atK s bytes k) ∧ ahead_ = .int .i64 (aheadK s bytes k) ∧ Hid (∀ k', k' < k → from_ ≤ place s bytes k' → ∀ j, ¬ den (txt s fold bytes) t k' j) ∧ Hid (Below w.heap.size w wr))
    (fun _ at_ _ => s.size + 1 - (intOf at_).toNat)
  case atStart => exact ⟨0, by omega, by rw [atK, if_pos (by omega), unhide HZ0]; rfl, rfl, fun k hk => by omega, Below.refl _ _⟩
  case round =>
    obtain ⟨k, hk, rfl, rfl, HN, HB⟩ := hrel
    by_cases hk' : k ≤ nCh s bytes
    · rw [show atK s bytes k = (place s bytes k : Int) from if_pos hk'] at *
      have hpl := place_le (unhide HZ) k
      have hnx : wrap64 ((place s bytes k : Int) + max ((place s bytes (k + 1) : Int) - place s bytes k) 1) = atK s bytes (k + 1) := by
        rw [atK_next (unhide HZ) hk']; unfold wrap64
        unfold atK
        have := place_le (unhide HZ) (k + 1)
        split <;> omega
      have hup : (place s bytes k : Int) < atK s bytes (k + 1) := by rw [← atK_next (unhide HZ) hk']; omega
      have hle : decide ((place s bytes k : Int) ≤ s.size) = true := by simp; omega
      by_cases hf : from_ ≤ place s bytes k
      · have hf' : decide (from_ ≤ (place s bytes k : Int)) = true := by simpa using hf
        obtain ⟨r, hL, hC⟩ := (unhide HL) wr (unhide HB) k hk'
        rcases hL with ⟨rfl, hno⟩ | ⟨e, rfl, hd, hmax⟩
        · rw [show endB s bytes (-1) = -1 from rfl] at hC
          have HC1 := hide hC; have HN1 := hide hno
          clear hC hno hf
          go_wp2_with fail
          refine (unhide HC1).mono ?_
          rintro e w1 ⟨rfl, hb1⟩
          have HB1 := hide (below_then (unhide HB) hb1)
          clear hb1
          go_wp2_with fail
          refine (unhide HC _ (unhide HB1) k).mono ?_
          rintro e w2 ⟨rfl, hb2⟩
          go_wp2_with fail
          go_roundw
          case rel => exact ⟨k + 1, by omega, by rw [hnx], rfl, fun k' hk1 => by
            rcases Nat.lt_or_ge k' k with h | h
            · exact unhide HN k' h
            · obtain rfl : k' = k := by omega
              exact fun _ => unhide HN1, below_then (unhide HB1) hb2⟩
          case measure => rw [hnx]; simp only [intOf]; omega
        · have hle' := den_le (txt_fine s fold bytes) t k e hk' hd
          have ho' := Found.unique (unhide HO) (o' := some (k, e)) ⟨hk', by omega, by omega, hf, hd, hmax, unhide HN⟩
          subst ho'
          rw [show endB s bytes (e : Int) = (place s bytes e : Int) by simp [endB]] at hC
          have HC1 := hide hC
          clear hC hd hmax hf
          go_wp2_with fail
          refine (unhide HC1).mono ?_
          rintro e w1 ⟨rfl, hb1⟩
          have HB1 := hide (below_then (unhide HB) hb1)
          clear hb1
          go_wp2_with fail
          go_ret3
          exact ⟨rfl, unhide HB1⟩
      · have hf' : decide (from_ ≤ (place s bytes k : Int)) = false := by simpa using hf
        clear hf
        go_wp2_with fail
        refine (unhide HC _ (unhide HB) k).mono ?_
        rintro e w2 ⟨rfl, hb2⟩
        go_wp2_with fail
        go_roundw
        case rel => exact ⟨k + 1, by omega, by rw [hnx], rfl, fun k' hk1 => by
          rcases Nat.lt_or_ge k' k with h | h
          · exact unhide HN k' h
          · obtain rfl : k' = k := by omega
            intro hx; simp at hf'; omega, below_then (unhide HB) hb2⟩
        case measure => rw [hnx]; simp only [intOf]; omega
    · obtain rfl : k = nCh s bytes + 1 := by omega
      have ha : atK s bytes (nCh s bytes + 1) = (s.size : Int) + 1 := if_neg (by omega)
      have ho' := Found.unique (unhide HO) (o' := none) (fun k hk => unhide HN k (by omega))
      subst ho'
      rw [ha]
      go_wp2_with fail
      go_ret3
      exact ⟨rfl, unhide HB⟩
end Go.Proofs.YtanmlgliibgpcaaDoor

/- The walk of add: an instruction more. -/
namespace Go.Proofs.YtanmlgliibgpcaaDoor
open Go.RowKit Thr
set_option linter.unusedVariables false
set_option linter.unusedSimpArgs false
attribute [local go_sem ↓] Go.wp_at_zero Go.wp_at_succ

/-- An instruction's cells. -/
def instVals (q : Inst) (cs : List Value) : List Value := [.int .i64 q.op] ++ cs ++ [.int .i64 q.x, .int .i64 q.y]
/-- The cells of instructions, of which each node lies in blocks of ok. -/
def RowOf (ok : Nat → Prop) (W : World) (I : List Inst) (xs : List Value) : Prop :=
  xs.length = I.length * 10 ∧ ∀ (k : Nat) (q : Inst), I[k]? = some q → ∃ cs, TreeAt ok W q.node cs ∧ ∀ (j : Nat) (u : Value), (instVals q cs)[j]? = some u → xs[k * 10 + j]? = some u
theorem instVals_len {ok : Nat → Prop} {W : World} {q : Inst} {cs : List Value} (h : TreeAt ok W q.node cs) : (instVals q cs).length = 10 := by
  simp [instVals, h.len]
theorem RowOf.nil (ok : Nat → Prop) (W : World) : RowOf ok W [] [] := ⟨rfl, fun k q h => by simp at h⟩
theorem RowOf.snoc {ok : Nat → Prop} {W : World} {I : List Inst} {xs : List Value} (h : RowOf ok W I xs) {q : Inst} {cs : List Value} (ht : TreeAt ok W q.node cs) : RowOf ok W (I ++ [q]) (xs ++ instVals q cs) := by
  refine ⟨by simp [h.1, instVals_len ht]; omega, fun k p hp => ?_⟩
  rcases Nat.lt_or_ge k I.length with hk | hk
  · rw [List.getElem?_append_left hk] at hp
    obtain ⟨cs', ht', hc⟩ := h.2 k p hp
    refine ⟨cs', ht', fun j u hu => ?_⟩
    have hj := (List.getElem?_eq_some_iff.1 hu).1
    rw [instVals_len ht'] at hj
    rw [List.getElem?_append_left (by rw [h.1]; omega)]
    exact hc j u hu
  · have hk2 := (List.getElem?_eq_some_iff.1 hp).1
    simp at hk2
    obtain rfl : k = I.length := by omega
    simp at hp
    subst hp
    refine ⟨cs, ht, fun j u hu => ?_⟩
    rw [List.getElem?_append_right (by rw [h.1]; omega), h.1, show I.length * 10 + j - I.length * 10 = j by omega]
    exact hu
theorem RowOf.step {ok : Nat → Prop} {W W' : World} {I : List Inst} {xs : List Value} (h : RowOf ok W I xs) (hk : ∀ k, ok k → k < W.heap.size → W'.heap[k]? = W.heap[k]?) : RowOf ok W' I xs :=
  ⟨h.1, fun k q hq => by obtain ⟨cs, ht, hc⟩ := h.2 k q hq; exact ⟨cs, TreeAt.step hk _ _ ht, hc⟩⟩
theorem RowOf.put {ok : Nat → Prop} {W : World} {I : List Inst} {xs : List Value} (h : RowOf ok W I xs) {n : Nat} (hn : n < I.length) (c : Int) : RowOf ok W (Thr.setX I n c) (xs.set (n * 10 + 8) (.int .i64 c)) := by
  obtain ⟨q0, hq0⟩ : ∃ q, I[n]? = some q := ⟨_, List.getElem?_eq_getElem hn⟩
  have e : Thr.setX I n c = I.set n { q0 with x := c } := by simp [Thr.setX, hq0]
  rw [e]
  refine ⟨by simp [h.1], fun k q hq => ?_⟩
  by_cases hk : k = n
  · subst hk
    rw [List.getElem?_set_self (by omega)] at hq
    obtain rfl := Option.some.inj hq
    obtain ⟨cs, ht, hc⟩ := h.2 k q0 hq0
    refine ⟨cs, ht, fun j u hu => ?_⟩
    have hj := (List.getElem?_eq_some_iff.1 hu).1
    have hl := instVals_len (q := q0) ht
    have hl' : (instVals { q0 with x := c } cs).length = 10 := instVals_len (q := { q0 with x := c }) ht
    have hcl := ht.len
    by_cases h8 : j = 8
    · subst h8
      rw [List.getElem?_set_self (by rw [h.1]; omega)]
      simp [instVals, List.getElem?_append, hcl] at hu
      rw [hu]
    · rw [List.getElem?_set_ne (by omega)]
      apply hc j u
      rw [← hu]
      rcases Nat.lt_or_ge j 8 with hj8 | hj8
      · simp only [instVals]
        rw [List.getElem?_append_left (l₁ := [Value.int .i64 q0.op] ++ cs) (by simp [hcl]; omega), List.getElem?_append_left (l₁ := [Value.int .i64 q0.op] ++ cs) (by simp [hcl]; omega)]
      · obtain rfl : j = 9 := by omega
        simp [instVals, List.getElem?_append, hcl]
  · rw [List.getElem?_set_ne (by omega)] at hq
    obtain ⟨cs, ht, hc⟩ := h.2 k q hq
    refine ⟨cs, ht, fun j u hu => ?_⟩
    have hj := (List.getElem?_eq_some_iff.1 hu).1
    rw [instVals_len ht] at hj
    rw [List.getElem?_set_ne (by omega)]
    exact hc j u hu

/-- A program that is being made. -/
structure MkP (w : World) (base bp : Nat) (fold bytes : Bool) (I : List Inst) (vI : Value) : Prop where
  row : Blk w bp 47 #[.bool fold, .bool bytes, vI, .int .i64 0]
  own : ∃ xs, w.ownsRow base 52 10 vI I.length xs ∧ RowOf (fun k => k < base) w I xs
  lt : base ≤ bp
/-- The blocks that making turns. -/
def TurnP (bp : Nat) (vI : Value) (k : Nat) : Prop := k = bp ∨ vI.ownBlock = some k

theorem Turnp.of_at {w : World} {bp : Nat} {vl vl1 : Value} (h : At w vl vl1) : ∀ k, k < w.heap.size → TurnP bp vl1 k → TurnP bp vl k := by
  rintro k hk (rfl | e)
  · exact .inl rfl
  · rcases h with h | ⟨g, h, hg⟩
    · exact .inr (h ▸ e)
    · rw [h] at e; cases e; omega

section
variable {w w' : World} {base bp : Nat} {fold bytes : Bool} {I : List Inst} {vI : Value}
theorem MkP.alloc (h : MkP w base bp fold bytes I vI) (o : Obj) : MkP (w.alloc o) base bp fold bytes I vI := by
  obtain ⟨xs, h1, h2⟩ := h.own
  exact ⟨h.row.alloc o, ⟨xs, h1.alloc o, h2.step (fun k _ hlt => Below.heap_alloc w o k hlt)⟩, h.lt⟩
theorem MkP.bp_lt (h : MkP w base bp fold bytes I vI) : bp < w.heap.size := h.row.lt
theorem MkP.ne (h : MkP w base bp fold bytes I vI) : vI.ownBlock ≠ some bp := by
  obtain ⟨xs, h1, h2⟩ := h.own
  exact own_blk_ne h1 h.row (by decide)
theorem MkP.new_not {k : Nat} (h : MkP w base bp fold bytes I vI) (hk : w.heap.size ≤ k) : ¬ TurnP bp vI k := by
  obtain ⟨xs, h1, h2⟩ := h.own
  have := h.bp_lt
  rintro (rfl | e)
  · omega
  · have := own_lt h1 k e; omega
theorem MkP.old_not {k : Nat} (h : MkP w base bp fold bytes I vI) (hk : k < base) : ¬ TurnP bp vI k := by
  obtain ⟨xs, h1, h2⟩ := h.own
  have := h.lt
  rintro (rfl | e)
  · omega
  · have := own_lt h1 k e; omega
end
theorem Tryd.infoInst : (Tryd.prog.info? 52).map (fun i => (i.zero, i.size, i.bytes)) = some (some (.agg #[.int .i64 0, .int .i64 0, .int .i64 0, .bool false, .slice none 0 0, .int .i64 0, .int .i64 0, .slice none 0 0, .int .i64 0, .int .i64 0]), 10, 112) := by kernel_rfl

theorem own_form {w : World} {base n size : Nat} {e : TypeId} {v : Value} {xs : List Value} (h : w.ownsRow base e size v n xs) : ∃ A c, v = .slice A n c := by
  rcases h.2 with ⟨rfl, rfl⟩ | ⟨g, cap, cur, rfl, _⟩
  · exact ⟨_, _, rfl⟩
  · exact ⟨_, _, rfl⟩

theorem new_second (w : World) (o1 o2 : Obj) : ((w.alloc o1).alloc o2).drew.heap[w.heap.size + 1]? = some o2 := by
  have h : (w.alloc o1).heap.size = w.heap.size + 1 := by simp
  have := heap_alloc_new (w.alloc o1) o2
  rw [h] at this
  exact this
set_option maxRecDepth 100000 in
set_option maxHeartbeats 4000000 in
theorem add_calls {base bp : Nat} {fold bytes : Bool} {I : List Inst} {vI : Value} (q : Inst) (cs : List Value) (w : World) (hP : MkP w base bp fold bytes I vI) (ht : TreeAt (fun k => k < base) w q.node cs) (hI : I.length < 1000000) :
    Calls Tryd.prog 15 #[.pointer (some ⟨bp, 0, none⟩), .agg (instVals q cs).toArray] w fun e w' =>
      e = .returned (.int .i64 I.length) ∧ ∃ vI', MkP w' base bp fold bytes (I ++ [q]) vI' ∧ Keeps (TurnP bp vI) w w' ∧ At w vI vI' := by
  obtain ⟨op, node, qx, qy⟩ := q
  obtain ⟨xs, hown, hrow⟩ := hP.own
  have ht0 := ht
  obtain ⟨kind, code, neg, set, mn, mx, kids⟩ := node
  simp only [TreeAt] at ht
  obtain ⟨vs, A, cc, rfl, ⟨As, cs', rfl, -⟩, -⟩ := ht
  have c2 := hP.row.cell 2
  have f2 := hP.row.frozen 2
  have hbp := hP.bp_lt
  have hlt := hP.lt
  have hne := hP.ne
  simp at c2
  have HP := hide hP; have HO := hide hown; have HR := hide hrow; have HT := hide ht0; have HNE := hide hne
  have hvs := own_form hown
  clear hP hown hrow ht0
  obtain ⟨Ao, co, rfl⟩ := hvs
  obtain ⟨i0, hi0, hz0, hz1, hz2⟩ := info_parts Tryd.infoInst
  simp only [instVals, List.cons_append, List.nil_append]
  go_enter Tryd.func15, Tryd.ntmps15
  go_wp2_with fail
  go_region_law
    ((refine step_append_lies _ (by rfl) _ _ _ (by rfl) base 52 i0 _ 10 112 Tryd.underlying45 hi0 hz0 hz1 hz2 rfl (by omega) (.slice Ao I.length co) I.length xs (by rfl)
        (by first | exact (((unhide HO).alloc _).alloc _).drew | exact (((unhide HO).alloc _).drew).alloc _ | exact ((unhide HO).alloc _).alloc _) ⟨w.heap.size + 1, 0, none⟩ 1 1 [.int .i64 op, .int .i64 kind, .int .i64 code, .bool neg, .slice As set.length cs', .int .i64 mn, .int .i64 mx, .slice A kids.length cc, .int .i64 qx, .int .i64 qy]
        (by rfl) (by rfl) (by exact World.news_of_block (cs := #[.int .i64 op, .int .i64 kind, .int .i64 code, .bool neg, .slice As set.length cs', .int .i64 mn, .int .i64 mx, .slice A kids.length cc, .int .i64 qx, .int .i64 qy]) (new_second w _ _))
        (by simp [Value.oneCell']) (by omega) (by simp only [maxLen]; omega) (by omega) (by simp; omega) (w.heap.size + 2) (by simp) ?_; intro g cap w1 hown1 hgrow hat hlt1; have fz : w1.frozen? ⟨bp, 2, none⟩ = false := (hgrow.frozen_far ⟨bp, 2, none⟩ (by simp; omega) (Ne.symm (unhide HNE))).trans (((unhide HP).row.alloc _).alloc _ |>.drew |>.frozen 2); have cz : w1.cell? ⟨bp, 2, none⟩ = some (.slice Ao I.length co) := (hgrow.cell_far ⟨bp, 2, none⟩ (by simp; omega) (Ne.symm (unhide HNE))).trans ((((unhide HP).row.alloc _).alloc _ |>.drew |>.cell 2).trans (by simp))))
  all_goals
    have hr1 : Blk w1 bp 47 _ := ((((unhide HP).row.alloc _).alloc _).drew).grown hgrow (fun e => hne e.symm)
    have hkp : Keeps (TurnP bp (.slice Ao I.length co)) w w1 := (((Keeps.refl (TurnP bp (.slice Ao I.length co)) w).alloc _).alloc _).drew.grown hgrow (fun j hj => .inl (.inr hj))
    have hgb : bp ≠ g := by
      rintro rfl
      rcases hat with hat | hat
      · exact hne hat
      · omega
    have hT1 := RowOf.snoc (q := ⟨op, .mk kind code neg set mn mx kids, qx, qy⟩) (unhide HR) (unhide HT)
    have hT2 := hT1.step (W' := w1.setCell ⟨bp, 2, none⟩ (.slice (some ⟨g, 0, none⟩) (I.length + 1) cap)) (fun k hk hkl => (Below.heap_setCell _ _ _ k (by simp only; omega)).trans (hkp.block k hkl ((unhide HP).old_not hk)))
    have HR1 := hide hr1; have HKP := hide hkp; have HT2 := hide hT2; have HO1 := hide hown1; have HAT := hide hat
    clear hr1 hkp hT1 hT2 hown1 hgrow hat
    go_wp2_with fail
    go_ret
    refine ⟨ret_int (by simp), _, ⟨(unhide HR1).set_ 2 _, ⟨_, ?_, unhide HT2⟩, hlt⟩, (unhide HKP).setCell (.inl (.inl rfl)) _, ?_⟩
    · have := own_step (unhide HO1) (w1 := w1.setCell ⟨bp, 2, none⟩ (.slice (some ⟨g, 0, none⟩) (I.length + 1) cap)) (fun j hj => Below.heap_setCell _ _ _ j (by simp [Value.ownBlock] at hj; subst hj; exact hgb.symm))
      rw [List.length_append]
      exact this
    · rcases unhide HAT with h | h
      · exact .inl (by rw [h]; rfl)
      · exact .inr ⟨g, rfl, by omega⟩
end Go.Proofs.YtanmlgliibgpcaaDoor

/- Plain Lean: which trees may be, how heavy they are, how many instructions are made of them. -/
namespace Thr

def nearF (x : Int) : Option (Int × Int) → Bool
  | none => false
  | some q => decide (x ≤ q.2 + 1)
/-- A range of a set that may not stand at its place. -/
def badAt (set : List (Int × Int)) (i : Nat) : Bool :=
  match set[i]? with
  | none => false
  | some r => decide (r.1 < 0) || decide (r.1 > r.2) || decide (r.2 > 1114367) || (decide (0 < i) && nearF r.1 set[i - 1]?)
def setOkF (set : List (Int × Int)) : Bool := (List.range set.length).all fun i => !badAt set i
def validF : Rx → Bool
  | .mk kind _ _ set mn mx kids =>
    if kind = 5 ∨ kind = 6 then decide (1 < kids.length)
    else if kind = 7 then decide (kids.length = 1) && decide (0 ≤ mn) && decide (mn ≤ 30) && decide (-1 ≤ mx) && decide (mx ≤ 30) && (decide (mx < 0) || decide (mn ≤ mx))
    else if kind = 4 then setOkF set && decide (kids.length = 0)
    else decide (kids.length = 0) && decide (1 ≤ kind) && decide (kind ≤ 13)
mutual
def withinF : Rx → Nat → Bool
  | .mk kind code neg set mn mx kids => fun d => match d with
    | 0 => false
    | d + 1 => validF (.mk kind code neg set mn mx kids) && withinAll kids d
def withinAll : List Rx → Nat → Bool
  | [] => fun _ => true
  | k :: ks => fun d => withinF k d && withinAll ks d
end
def bigW : Int := 1048576
mutual
def weightF : Rx → Int
  | .mk kind _ _ _ mn mx kids =>
    if kind = 5 then weightsF kids 0
    else if kind = 7 then min (weightsF kids 0 * (if mx < 0 then min (max mn 0) bigW + 1 else min (max mx 0) bigW) + 1) bigW
    else min (weightsF kids 0 + 1) bigW
def weightsF : List Rx → Int → Int
  | [], n => n
  | k :: ks, n => weightsF ks (min (n + weightF k) bigW)
end
-- Each node is valid.
mutual
def Valids : Rx → Prop
  | .mk kind code neg set mn mx kids => validF (.mk kind code neg set mn mx kids) = true ∧ ValidsAll kids
def ValidsAll : List Rx → Prop
  | [] => True
  | k :: ks => Valids k ∧ ValidsAll ks
end
mutual
theorem within_valids : ∀ (t : Rx) (d : Nat), withinF t d = true → Valids t
  | .mk kind code neg set mn mx kids, 0, h => by simp [withinF] at h
  | .mk kind code neg set mn mx kids, d + 1, h => by
    simp only [withinF, Bool.and_eq_true] at h
    exact ⟨h.1, withinAll_valids kids d h.2⟩
theorem withinAll_valids : ∀ (ks : List Rx) (d : Nat), withinAll ks d = true → ValidsAll ks
  | [], d, h => by simp [ValidsAll]
  | k :: ks, d, h => by
    simp only [withinAll, Bool.and_eq_true] at h
    exact ⟨within_valids k d h.1, withinAll_valids ks d h.2⟩
end
theorem ValidsAll.get : ∀ {ks : List Rx}, ValidsAll ks → ∀ k ∈ ks, Valids k
  | [], _, k, hk => by simp at hk
  | k' :: ks, h, k, hk => by
    rcases List.mem_cons.1 hk with rfl | hk
    · exact h.1
    · exact ValidsAll.get h.2 k hk

/-- What validity says of each kind. -/
theorem valid_many {kind code : Int} {neg : Bool} {set : List (Int × Int)} {mn mx : Int} {kids : List Rx} (h : validF (.mk kind code neg set mn mx kids) = true) (hk : kind = 5 ∨ kind = 6) : 1 < kids.length := by
  simpa [validF, if_pos hk] using h
theorem valid_rep {code : Int} {neg : Bool} {set : List (Int × Int)} {mn mx : Int} {kids : List Rx} (h : validF (.mk 7 code neg set mn mx kids) = true) : (∃ k, kids = [k]) ∧ 0 ≤ mn ∧ mn ≤ 30 ∧ -1 ≤ mx ∧ mx ≤ 30 ∧ (0 ≤ mx → mn ≤ mx) := by
  simp [validF] at h
  obtain ⟨⟨⟨⟨⟨h1, h2⟩, h3⟩, h4⟩, h5⟩, h6⟩ := h
  refine ⟨?_, h2, h3, h4, h5, by omega⟩
  match kids, h1 with
  | [k], _ => exact ⟨k, rfl⟩
theorem valid_leaf {kind code : Int} {neg : Bool} {set : List (Int × Int)} {mn mx : Int} {kids : List Rx} (h : validF (.mk kind code neg set mn mx kids) = true) (h5 : kind ≠ 5) (h6 : kind ≠ 6) (h7 : kind ≠ 7) : kids = [] ∧ 1 ≤ kind ∧ kind ≤ 13 := by
  simp only [validF] at h
  rw [if_neg (by simp [h5, h6]), if_neg h7] at h
  by_cases h4 : kind = 4
  · rw [if_pos h4] at h
    simp at h
    exact ⟨h.2, by omega, by omega⟩
  · rw [if_neg h4] at h
    simp at h
    exact ⟨h.1.1, h.1.2, h.2⟩

mutual
theorem valids_makes : ∀ t : Rx, Valids t → Makes t
  | .mk kind code neg set mn mx kids, h => by
    refine ⟨fun hk => ?_, fun hk => ?_, validsAll_makes kids h.2⟩
    · have := valid_many h.1 (.inr hk)
      intro e; rw [e] at this; simp at this
    · subst hk
      obtain ⟨⟨k, hk⟩, h1, h2, h3, h4, h5⟩ := valid_rep h.1
      exact ⟨by rw [hk]; simp, h1, h5⟩
theorem validsAll_makes : ∀ ks : List Rx, ValidsAll ks → MakesAll ks
  | [], _ => by simp [MakesAll]
  | k :: ks, h => ⟨valids_makes k h.1, validsAll_makes ks h.2⟩
end

/-! ### How many instructions -/
mutual
theorem weight_pos : ∀ t : Rx, Valids t → 1 ≤ weightF t
  | .mk kind code neg set mn mx kids, h => by
    have hs := weights_le kids 0 (by omega) (by unfold bigW; omega) h.2
    simp only [weightF]
    have hb : bigW = 1048576 := rfl
    by_cases h5 : kind = 5
    · rw [if_pos h5]
      have := valid_many h.1 (.inl h5)
      omega
    · rw [if_neg h5]
      by_cases h7 : kind = 7
      · rw [if_pos h7]
        subst h7
        obtain ⟨⟨k, hk⟩, h1, h2, h3, h4, h5⟩ := valid_rep h.1
        have h0 : 0 ≤ weightsF kids 0 * (if mx < 0 then min (max mn 0) bigW + 1 else min (max mx 0) bigW) := by
          refine Int.mul_nonneg (by omega) ?_
          split <;> omega
        omega
      · rw [if_neg h7]; omega
theorem weights_le : ∀ (ks : List Rx) (n : Int), 0 ≤ n → n ≤ bigW → ValidsAll ks → n ≤ weightsF ks n ∧ weightsF ks n ≤ bigW ∧ (ks = [] ∨ 1 ≤ weightsF ks n) ∧ (ks.length > 0 → n < bigW → n < weightsF ks n)
  | [], n, h0, hn, h => by simp [weightsF]; exact hn
  | k :: ks, n, h0, hn, h => by
    have h1 := weight_pos k h.1
    have h2 := weights_le ks (min (n + weightF k) bigW) (by have : bigW = 1048576 := rfl; omega) (by omega) h.2
    have hb : bigW = 1048576 := rfl
    simp only [weightsF]
    refine ⟨by omega, h2.2.1, .inr (by omega), fun _ _ => by omega⟩
end
/-- The weights one behind the other, of those that are not too heavy. -/
theorem weights_cons {k : Rx} {ks : List Rx} {n : Int} (hn : 0 ≤ n) (h : ValidsAll (k :: ks)) (hw : weightsF (k :: ks) n < bigW) : n + weightF k ≤ weightsF (k :: ks) n ∧ weightsF (k :: ks) n = weightsF ks (n + weightF k) := by
  have h1 := weight_pos k h.1
  have hb : bigW = 1048576 := rfl
  simp only [weightsF] at hw ⊢
  by_cases hm : n + weightF k ≤ bigW
  · rw [show min (n + weightF k) bigW = n + weightF k by omega] at hw ⊢
    have := weights_le ks (n + weightF k) (by omega) hm h.2
    exact ⟨this.1, rfl⟩
  · rw [show min (n + weightF k) bigW = bigW by omega] at hw
    have := weights_le ks bigW (by omega) (Int.le_refl _) h.2
    omega
theorem times_len {F : Int → List Inst → Int × List Inst} {c : Nat} (hF : ∀ n I, (F n I).2.length ≤ I.length + c) : ∀ (m : Nat) (n : Int) (I : List Inst), (timesF F m n I).2.length ≤ I.length + m * c
  | 0, n, I => by simp [timesF]
  | m + 1, n, I => by
    simp only [timesF]
    have := times_len hF m (F n I).1 (F n I).2
    have := hF n I
    rw [Nat.add_mul]; omega
theorem opt_len {F : Int → List Inst → Int × List Inst} {c : Nat} (hF : ∀ n I, (F n I).2.length ≤ I.length + c) : ∀ (m : Nat) (n : Int) (I : List Inst), (optF F m n I).2.length ≤ I.length + m * (c + 1)
  | 0, n, I => by simp [optF]
  | m + 1, n, I => by
    simp only [optF]
    have a := opt_len hF m (F n I).2.length ((F n I).2 ++ [⟨2, noNode, (F n I).1, n⟩])
    have b := hF n I
    rw [List.length_append, List.length_singleton] at a
    rw [Nat.add_mul]; omega
theorem setX_len (I : List Inst) (n : Nat) (c : Int) : (setX I n c).length = I.length := by
  unfold setX
  split <;> simp
mutual
theorem make_len : ∀ (t : Rx), Valids t → weightF t < bigW → ∀ (next : Int) (I : List Inst), ((make t next I).2.length : Int) ≤ I.length + (2 * weightF t - 1)
  | .mk kind code neg set mn mx kids, h, hw, next, I => by
    have hb : bigW = 1048576 := rfl
    have hp := weight_pos _ h
    by_cases h1 : kind = 1
    · simp only [make, if_pos h1]; omega
    rw [make]
    simp only [if_neg h1]
    by_cases h2 : kind = 2 ∨ kind = 3 ∨ kind = 4
    · simp only [if_pos h2, List.length_append, List.length_singleton]; omega
    simp only [if_neg h2]
    by_cases h5 : kind = 5
    · simp only [if_pos h5]
      simp only [weightF, if_pos h5] at hw hp ⊢
      have hm := valid_many h.1 (.inl h5)
      have := makeCat_len kids 0 (by omega) h.2 hw next I
      omega
    simp only [if_neg h5]
    by_cases h6 : kind = 6
    · simp only [if_pos h6]
      simp only [weightF, if_neg h5, if_neg (show ¬ kind = 7 by omega)] at hw hp ⊢
      have hm := valid_many h.1 (.inr h6)
      have := makeAlt_len kids 0 (by omega) (by intro e; rw [e] at hm; simp at hm) h.2 (by omega) next I
      omega
    simp only [if_neg h6]
    by_cases h7 : kind = 7
    · subst h7
      simp only [if_true]
      obtain ⟨⟨k, rfl⟩, r1, r2, r3, r4, r5⟩ := valid_rep h.1
      have hk := h.2.1
      have hkp := weight_pos k hk
      simp only [weightF, weightsF] at hw hp ⊢
      simp only [if_neg (show ¬ (7 : Int) = 5 by omega), if_true] at hw hp ⊢
      by_cases hmx : mx < 0
      · simp only [if_pos hmx] at hw hp ⊢
        have e1 : min (max mn 0) bigW = mn := by omega
        rw [e1] at hw hp ⊢
        have hkw : weightF k < bigW := by
          rcases Int.lt_or_le (weightF k) bigW with h | h
          · exact h
          · rw [show min (0 + weightF k) bigW = bigW by omega] at hw
            have := Int.mul_le_mul_of_nonneg_left (show 1 ≤ mn + 1 by omega) (show 0 ≤ bigW by omega)
            omega
        rw [show min (0 + weightF k) bigW = weightF k by omega] at hw ⊢
        obtain ⟨c, hc⟩ : ∃ c : Nat, (c : Int) = 2 * weightF k - 1 := ⟨(2 * weightF k - 1).toNat, by omega⟩
        have hF : ∀ n I, (makeHd [k] n I).2.length ≤ I.length + c := fun n I => by
          have := make_len k hk hkw n I
          simp only [makeHd]; omega
        have hF' : ∀ F : Int → List Inst → Int × List Inst, F = (fun n J => makeHd [k] n J) → ∀ n I, (F n I).2.length ≤ I.length + c := by
          rintro F rfl n I; exact hF n I
        generalize hFF : (fun n J => makeHd [k] n J) = F
        have hF := hF' F hFF.symm
        have e0 : (mx - mn).toNat = 0 := by omega
        rw [e0]
        simp only [optF]
        have t1 := times_len hF mn.toNat (starF F next I).1 (starF F next I).2
        have t2 : (starF F next I).2.length ≤ I.length + 1 + c := by
          simp only [starF, setX_len]
          have := hF I.length (I ++ [⟨2, noNode, 0, next⟩])
          simp at this ⊢; omega
        obtain ⟨m, rfl⟩ := Int.eq_ofNat_of_zero_le r1
        simp only [Int.toNat_natCast] at t1 ⊢
        have hprod : ((m * c : Nat) : Int) = m * (2 * weightF k - 1) := by rw [Int.natCast_mul, hc]
        have e2 : (m : Int) * (2 * weightF k - 1) = 2 * (weightF k * m) - m := by rw [Int.mul_sub, Int.mul_one, Int.mul_comm (m : Int) (2 * weightF k), Int.mul_assoc]
        have e3 : weightF k * ((m : Int) + 1) = weightF k * m + weightF k := by rw [Int.mul_add, Int.mul_one]
        rw [e3] at hw ⊢
        omega
      · simp only [if_neg hmx] at hw hp ⊢
        have e1 : min (max mx 0) bigW = mx := by omega
        rw [e1] at hw hp ⊢
        have r5' := r5 (by omega)
        by_cases hz : mx = 0
        · subst hz
          have : mn = 0 := by omega
          subst this
          simp only [show ((0 : Int) - 0).toNat = 0 from rfl, show (0 : Int).toNat = 0 from rfl, optF, timesF]
          omega
        have hkw : weightF k < bigW := by
          rcases Int.lt_or_le (weightF k) bigW with h | h
          · exact h
          · rw [show min (0 + weightF k) bigW = bigW by omega] at hw
            have := Int.mul_le_mul_of_nonneg_left (show 1 ≤ mx by omega) (show 0 ≤ bigW by omega)
            omega
        rw [show min (0 + weightF k) bigW = weightF k by omega] at hw ⊢
        obtain ⟨c, hc⟩ : ∃ c : Nat, (c : Int) = 2 * weightF k - 1 := ⟨(2 * weightF k - 1).toNat, by omega⟩
        have hF : ∀ n I, (makeHd [k] n I).2.length ≤ I.length + c := fun n I => by
          have := make_len k hk hkw n I
          simp only [makeHd]; omega
        have hF' : ∀ F : Int → List Inst → Int × List Inst, F = (fun n J => makeHd [k] n J) → ∀ n I, (F n I).2.length ≤ I.length + c := by
          rintro F rfl n I; exact hF n I
        generalize hFF : (fun n J => makeHd [k] n J) = F
        have hF := hF' F hFF.symm
        have t1 := opt_len hF (mx - mn).toNat next I
        have t2 := times_len hF mn.toNat (optF F (mx - mn).toNat next I).1 (optF F (mx - mn).toNat next I).2
        obtain ⟨m, rfl⟩ := Int.eq_ofNat_of_zero_le r1
        obtain ⟨d, hd⟩ : ∃ d : Nat, mx = m + d := ⟨(mx - m).toNat, by omega⟩
        subst hd
        rw [show ((m : Int) + d - m).toNat = d by omega] at t1 t2 ⊢
        simp only [Int.toNat_natCast] at t2 ⊢
        have p1 : ((d * (c + 1) : Nat) : Int) = 2 * (weightF k * d) := by
          rw [Int.natCast_mul, Int.natCast_add, hc]
          rw [show (2 * weightF k - 1 + ((1 : Nat) : Int)) = 2 * weightF k by omega, Int.mul_comm (d : Int), Int.mul_assoc]
        have p2 : ((m * c : Nat) : Int) = 2 * (weightF k * m) - m := by
          rw [Int.natCast_mul, hc, Int.mul_sub, Int.mul_one, Int.mul_comm (m : Int) (2 * weightF k), Int.mul_assoc]
        rw [Int.mul_add] at hw ⊢
        omega
    · simp only [if_neg h7, List.length_append, List.length_singleton]; omega
theorem makeCat_len : ∀ (ks : List Rx) (n : Int), 0 ≤ n → ValidsAll ks → weightsF ks n < bigW → ∀ (next : Int) (I : List Inst), ((makeCat ks next I).2.length : Int) ≤ I.length + 2 * (weightsF ks n - n) - ks.length
  | [], n, h0, h, hw, next, I => by simp [makeCat, weightsF]
  | k :: ks, n, h0, h, hw, next, I => by
    have h1 := weight_pos k h.1
    obtain ⟨w1, w2⟩ := weights_cons h0 h hw
    rw [w2] at hw w1 ⊢
    have hb : bigW = 1048576 := rfl
    have a := makeCat_len ks (n + weightF k) (by omega) h.2 hw next I
    have b := make_len k h.1 (by omega) (makeCat ks next I).1 (makeCat ks next I).2
    simp only [makeCat, List.length_cons]
    omega
theorem makeAlt_len : ∀ (ks : List Rx) (n : Int), 0 ≤ n → ks ≠ [] → ValidsAll ks → weightsF ks n < bigW → ∀ (next : Int) (I : List Inst), ((makeAlt ks next I).2.length : Int) ≤ I.length + 2 * (weightsF ks n - n) - 1
  | [], n, h0, hne, h, hw, next, I => absurd rfl hne
  | k :: ks, n, h0, hne, h, hw, next, I => by
    have h1 := weight_pos k h.1
    obtain ⟨w1, w2⟩ := weights_cons h0 h hw
    rw [w2] at hw w1 ⊢
    have hb : bigW = 1048576 := rfl
    simp only [makeAlt]
    by_cases he : ks = []
    · rw [if_pos he]
      subst he
      simp only [weightsF] at hw ⊢
      have b := make_len k h.1 (by omega) next I
      omega
    · rw [if_neg he]
      have a := makeAlt_len ks (n + weightF k) (by omega) he h.2 hw next I
      have b := make_len k h.1 (by omega) next (makeAlt ks next I).2
      simp only [List.length_append, List.length_singleton]
      omega
end
theorem compiled_len {t : Rx} (h : Valids t) (hw : weightF t ≤ 200) : (compiled t).2.length ≤ 400 := by
  have := make_len t h (by have : bigW = 1048576 := rfl; omega) 0 [⟨3, noNode, 0, 0⟩]
  unfold compiled
  simp at this; omega
end Thr

/- The walk of make: the instructions of a node. -/
namespace Go.Proofs.YtanmlgliibgpcaaDoor
open Go.RowKit Thr
set_option linter.unusedVariables false
set_option linter.unusedSimpArgs false

def MakeOK (t : Rx) : Prop := ∀ (next : Int) (I : List Inst) (vI : Value) (w : World) (base bp : Nat) (fold bytes : Bool) (cs : List Value), MkP w base bp fold bytes I vI → TreeAt (fun k => k < base) w t cs → 0 ≤ next → next < I.length → (make t next I).2.length ≤ 1000 →
  Calls Tryd.prog 14 #[.pointer (some ⟨bp, 0, none⟩), .agg cs.toArray, .int .i64 next] w fun e w' => e = .returned (.int .i64 (make t next I).1) ∧ ∃ vI', MkP w' base bp fold bytes (make t next I).2 vI' ∧ Keeps (TurnP bp vI) w w' ∧ At w vI vI'

theorem TreeAt.more {B : Nat} {w w' : World} {t : Rx} {cs : List Value} (h : TreeAt (fun k => k < B) w t cs) (hb : ∀ k, k < B → k < w.heap.size → w'.heap[k]? = w.heap[k]?) : TreeAt (fun k => k < B) w' t cs := TreeAt.step (fun k hk hl => hb k hk hl) t cs h
theorem MkP.then_ {w w' : World} {base bp : Nat} {fold bytes : Bool} {I : List Inst} {vI : Value} (h : MkP w base bp fold bytes I vI) {t : Rx} {cs : List Value} (ht : TreeAt (fun k => k < base) w t cs) (hk : Keeps (TurnP bp vI) w w') : TreeAt (fun k => k < base) w' t cs :=
  ht.more fun k hk1 hk2 => hk.block k hk2 (h.old_not hk1)
theorem no_tree (ok : Nat → Prop) (w : World) : TreeAt ok w noNode [.int .i64 0, .int .i64 0, .bool false, .slice none 0 0, .int .i64 0, .int .i64 0, .slice none 0 0] := by
  simp only [noNode, TreeAt]
  refine ⟨_, none, 0, rfl, SetAt.nil _ _, Nat.le_refl _, by omega, .inl ?_⟩
  trivial

set_option maxHeartbeats 4000000 in
theorem make_empty (code : Int) (neg : Bool) (set : List (Int × Int)) (mn mx : Int) (kids : List Rx) : MakeOK (.mk 1 code neg set mn mx kids) := by
  intro next I vI w base bp fold bytes cs hP ht h0 h1 hl
  simp only [TreeAt] at ht
  obtain ⟨vs, A, cc, rfl, ⟨As, cs', rfl, -⟩, -⟩ := ht
  simp only [make, if_true] at hl ⊢
  have HP := hide hP
  clear hP
  go_enter Tryd.func14, Tryd.ntmps14
  go_wp2_with fail
  go_ret
  exact ⟨rfl, vI, (unhide HP).alloc _, (Keeps.refl _ _).alloc _, .inl rfl⟩

set_option maxHeartbeats 4000000 in
theorem make_char (kind code : Int) (neg : Bool) (set : List (Int × Int)) (mn mx : Int) (kids : List Rx) (hk : kind = 2 ∨ kind = 3 ∨ kind = 4) : MakeOK (.mk kind code neg set mn mx kids) := by
  intro next I vI w base bp fold bytes cs hP ht h0 h1 hl
  have ht0 := ht
  simp only [TreeAt] at ht
  obtain ⟨vs, A, cc, rfl, ⟨As, cs', rfl, -⟩, -⟩ := ht
  have e0 : make (.mk kind code neg set mn mx kids) next I = ((I.length : Int), I ++ [⟨0, .mk kind code neg set mn mx kids, next, 0⟩]) := by
    simp only [make]
    rw [if_neg (by omega), if_pos hk]
  rw [e0] at hl ⊢
  have HP := hide hP; have HT := hide ht0
  clear hP ht0 e0
  simp at hl
  rcases hk with rfl | rfl | rfl
  all_goals
    go_enter Tryd.func14, Tryd.ntmps14
    go_wp2_with fail
    refine (add_calls ⟨0, _, next, 0⟩ _ _ ((unhide HP).alloc _) ((unhide HT).more fun k _ hk => Below.heap_alloc _ _ _ hk) (by omega)).mono ?_
    rintro e w1 ⟨rfl, vI1, hP1, hK1, hA1⟩
    go_wp2_with fail
    go_ret
    exact ⟨rfl, vI1, hP1, ((Keeps.refl _ _).alloc _).trans hK1 (fun _ _ h => h), At.later hA1 (by simp)⟩

set_option maxHeartbeats 4000000 in
theorem make_check (kind code : Int) (neg : Bool) (set : List (Int × Int)) (mn mx : Int) (kids : List Rx) (hk : ¬ kind = 1 ∧ ¬ kind = 2 ∧ ¬ kind = 3 ∧ ¬ kind = 4 ∧ ¬ kind = 5 ∧ ¬ kind = 6 ∧ ¬ kind = 7) : MakeOK (.mk kind code neg set mn mx kids) := by
  intro next I vI w base bp fold bytes cs hP ht h0 h1 hl
  have ht0 := ht
  simp only [TreeAt] at ht
  obtain ⟨vs, A, cc, rfl, ⟨As, cs', rfl, -⟩, -⟩ := ht
  obtain ⟨k1, k2, k3, k4, k5, k6, k7⟩ := hk
  have e0 : make (.mk kind code neg set mn mx kids) next I = ((I.length : Int), I ++ [⟨1, .mk kind code neg set mn mx kids, next, 0⟩]) := by
    simp only [make]
    rw [if_neg k1, if_neg (by omega), if_neg k5, if_neg k6, if_neg k7]
  rw [e0] at hl ⊢
  have k1' : (kind == 1) = false := by simpa using k1
  have k2' : (kind == 2) = false := by simpa using k2
  have k3' : (kind == 3) = false := by simpa using k3
  have k4' : (kind == 4) = false := by simpa using k4
  have k5' : (kind == 5) = false := by simpa using k5
  have k6' : (kind == 6) = false := by simpa using k6
  have k7' : (kind == 7) = false := by simpa using k7
  have HP := hide hP; have HT := hide ht0
  clear hP ht0 e0 k1 k2 k3 k4 k5 k6 k7
  simp at hl
  go_enter Tryd.func14, Tryd.ntmps14
  go_wp2_with fail
  refine (add_calls ⟨1, _, next, 0⟩ _ _ ((unhide HP).alloc _) ((unhide HT).more fun k _ hk => Below.heap_alloc _ _ _ hk) (by omega)).mono ?_
  rintro e w1 ⟨rfl, vI1, hP1, hK1, hA1⟩
  go_wp2_with fail
  go_ret
  exact ⟨rfl, vI1, hP1, ((Keeps.refl _ _).alloc _).trans hK1 (fun _ _ h => h), At.later hA1 (by simp)⟩

theorem makes_drop {ks : List Rx} (h : MakesAll ks) : ∀ n, MakesAll (ks.drop n) := by
  induction ks with
  | nil => intro n; simpa using h
  | cons k ks ih =>
    intro n
    cases n with
    | zero => exact h
    | succ n => exact ih h.2 n
theorem _root_.Thr.MakesAll.get : ∀ {ks : List Rx}, MakesAll ks → ∀ k ∈ ks, Makes k
  | [], _, k, hk => by simp at hk
  | k' :: ks, h, k, hk => by
    rcases List.mem_cons.1 hk with rfl | hk
    · exact h.1
    · exact Thr.MakesAll.get h.2 k hk
theorem cat_drop {ks : List Rx} {m : Nat} (hm : m < ks.length) (next : Int) (I : List Inst) : makeCat (ks.drop m) next I = make ks[m] (makeCat (ks.drop (m + 1)) next I).1 (makeCat (ks.drop (m + 1)) next I).2 := by
  rw [List.drop_eq_getElem_cons hm, makeCat]
theorem cat_in {ks : List Rx} (h : MakesAll ks) {next : Int} {I : List Inst} (h0 : 0 ≤ next) (h1 : next < I.length) (n : Nat) :
    0 ≤ (makeCat (ks.drop n) next I).1 ∧ (makeCat (ks.drop n) next I).1 < (makeCat (ks.drop n) next I).2.length := (makeCat_made _ next I (makes_drop h n) h0 h1).start
theorem cat_mono {ks : List Rx} (h : MakesAll ks) {next : Int} {I : List Inst} (h0 : 0 ≤ next) (h1 : next < I.length) : ∀ n, (makeCat (ks.drop n) next I).2.length ≤ (makeCat ks next I).2.length
  | 0 => by simp
  | n + 1 => by
    have ih := cat_mono h h0 h1 n
    rcases Nat.lt_or_ge n ks.length with hn | hn
    · rw [cat_drop hn] at ih
      have c := cat_in h h0 h1 (n + 1)
      have := (make_made ks[n] _ _ (h.get _ (List.getElem_mem hn)) c.1 c.2).len
      omega
    · rw [List.drop_eq_nil_of_le hn] at ih
      rw [List.drop_eq_nil_of_le (by omega)]
      exact ih

theorem kid_cells {ok : Nat → Prop} {W : World} {kids : List Rx} {A : Option Addr} (h : kids = [] ∨ ∃ b o, A = some ⟨b, o, none⟩ ∧ ok b ∧ KidsAt ok W kids b o) (m : Nat) (hm : m < kids.length) :
    ∃ b o, A = some ⟨b, o, none⟩ ∧ ok b ∧ ∃ csk, TreeAt ok W kids[m] csk ∧ ∀ (j : Nat) (v : Value), csk[j]? = some v → W.cell? ⟨b, o + m * 7 + j, none⟩ = some v := by
  rcases h with rfl | ⟨b, o, hA, hb, hk⟩
  · simp at hm
  · obtain ⟨cs, h1, h2⟩ := hk.kid m kids[m] (List.getElem?_eq_getElem hm)
    exact ⟨b, o, hA, hb, cs, h1, h2⟩

set_option maxHeartbeats 4000000 in
theorem make_cat (code : Int) (neg : Bool) (set : List (Int × Int)) (mn mx : Int) (kids : List Rx) (hk : ∀ k ∈ kids, MakeOK k) (hv : MakesAll kids) : MakeOK (.mk 5 code neg set mn mx kids) := by
  intro next I vI w base bp fold bytes cs hP ht h0 h1 hl
  have ht0 := ht
  simp only [TreeAt] at ht
  obtain ⟨vs, A, cc, rfl, ⟨As, cs', rfl, -⟩, hc1, hc2, hkids⟩ := ht
  have e0 : make (.mk 5 code neg set mn mx kids) next I = makeCat kids next I := by simp [make]
  rw [e0] at hl ⊢
  obtain ⟨R, hR⟩ : ∃ R, makeCat kids next I = R := ⟨_, rfl⟩
  rw [hR]
  rw [hR] at hl
  have HP := hide hP; have HT := hide ht0; have HK := hide hk; have HV := hide hv; have HR := hide hR; have HKI := hide hkids
  have hbp := hP.bp_lt
  have hbb := hP.lt
  clear hP ht0 e0 hk hv hR hkids
  go_enter Tryd.func14, Tryd.ntmps14
  go_wp2_with fail
  go_loopw [2, 7] (fun next_ i_ wr => ∃ (n : Nat) (vI' : Value), n ≤ kids.length ∧ i_ = .int .i64 ((n : Int) - 1) ∧ next_ = .int .i64 (makeCat (kids.drop n) next I).1 ∧ Hid (MkP wr base bp fold bytes (makeCat (kids.drop n) next I).2 vI') ∧ Hid (Keeps (TurnP bp vI) (w.alloc (.cells #[.int .i64 5, .int .i64 code, .bool neg, .slice As set.length cs', .int .i64 mn, .int .i64 mx, .slice A kids.length cc] 26)) wr) ∧ Hid (At (w.alloc (.cells #[.int .i64 5, .int .i64 code, .bool neg, .slice As set.length cs', .int .i64 mn, .int .i64 mx, .slice A kids.length cc] 26)) vI vI'))
    (fun _ i_ _ => (intOf i_ + 1).toNat)
  case atStart =>
    refine ⟨kids.length, vI, Nat.le_refl _, rfl, ?_, ?_, Keeps.refl _ _, .inl rfl⟩
    · rw [List.drop_length]; rfl
    · rw [List.drop_length]; exact (unhide HP).alloc _
  case round =>
    obtain ⟨n, vI', hn, rfl, rfl, HP1, HK1, HA1⟩ := hrel
    by_cases hn0 : n = 0
    · subst hn0
      rw [List.drop_zero, unhide HR] at HP1 ⊢
      go_wp2_with fail
      go_ret
      exact ⟨rfl, vI', unhide HP1, ((Keeps.refl _ _).alloc _).trans (unhide HK1) (fun _ _ h => h), At.later (unhide HA1) (by simp)⟩
    · obtain ⟨m, rfl⟩ : ∃ m, n = m + 1 := ⟨n - 1, by omega⟩
      have hm : m < kids.length := by omega
      obtain ⟨b, o, rfl, hb, csk, htk, hck⟩ := kid_cells (unhide HKI) m hm
      have hmem := List.getElem_mem hm
      have hd := cat_drop hm next I
      have hmo := cat_mono (unhide HV) h0 h1 m
      rw [unhide HR, hd] at hmo
      obtain ⟨i0, i1⟩ := cat_in (unhide HV) h0 h1 (m + 1)
      have hok := (unhide HK) kids[m] hmem
      rw [show (((m + 1 : Nat) : Int) - 1) = (m : Int) by omega]
      have hds : ∀ x, (fun n => makeCat (List.drop n kids) next I) m = x → makeCat (List.drop m kids) next I = x := fun x h => h
      generalize kids[m] = kid at *
      obtain ⟨kind', code', neg', set', mn', mx', kids'⟩ := kid
      have htk0 := htk
      simp only [TreeAt] at htk
      obtain ⟨vs', A', cc', rfl, ⟨As', cs'', rfl, -⟩, -⟩ := htk
      have hbl : b < w.heap.size := by omega
      have fr : ∀ j, wr.cell? ⟨b, j, none⟩ = w.cell? ⟨b, j, none⟩ := fun j => ((unhide HK1).cell (by simp; omega) ((unhide HP).old_not hb)).trans (by go_simp)
      have e0 := (fr _).trans (hck 0 _ rfl)
      have e1 := (fr _).trans (hck 1 _ rfl)
      have e2 := (fr _).trans (hck 2 _ rfl)
      have e3 := (fr _).trans (hck 3 _ rfl)
      have e4 := (fr _).trans (hck 4 _ rfl)
      have e5 := (fr _).trans (hck 5 _ rfl)
      have e6 := (fr _).trans (hck 6 _ rfl)
      have t6 : wr.cell? ⟨w.heap.size, 6, none⟩ = some (.slice (some ⟨b, o, none⟩) kids.length cc) := ((unhide HK1).cell (by simp) ((unhide HP).new_not (Nat.le_refl _))).trans (by go_simp)
      have htw : TreeAt (fun k => k < base) wr _ _ := ((htk0.more (w' := w.alloc _) fun k _ hk => Below.heap_alloc w (.cells #[.int .i64 5, .int .i64 code, .bool neg, .slice As set.length cs', .int .i64 mn, .int .i64 mx, .slice (some ⟨b, o, none⟩) kids.length cc] 26) k hk).more fun k hk1 hk2 => (unhide HK1).block k hk2 ((unhide HP).old_not hk1))
      simp at e0
      have hlx : (makeCat (List.drop m kids) next I).2.length ≤ 1000 := by rw [hd]; omega
      have HOK := hide hok; have HTW := hide htw; have HD := hide hd
      clear hok htw hd fr hck htk0 hmo hds
      go_wp2_with fail
      refine ((unhide HOK) _ _ vI' _ base bp fold bytes _ (unhide HP1) (unhide HTW) i0 i1 (by rw [unhide HD] at hlx; exact hlx)).mono ?_
      rintro e w2 ⟨rfl, vI2, hP2, hK2, hA2⟩
      have HP2 := hide hP2; have HK2 := hide hK2; have HA2 := hide hA2
      clear hP2 hK2 hA2
      go_wp2_with fail
      go_roundw
      case rel =>
        refine ⟨m, vI2, by omega, rfl, ?_, ?_, (unhide HK1).trans (unhide HK2) (fun k hk ht => Turnp.of_at (unhide HA1) k hk ht), At.trans (unhide HA1) (unhide HA2) (unhide HK1).size⟩
        · rw [unhide HD]
        · rw [unhide HD]; exact HP2
      case measure => simp [intOf]
end Go.Proofs.YtanmlgliibgpcaaDoor

/- The walk of make: a choice. -/
namespace Go.Proofs.YtanmlgliibgpcaaDoor
open Go.RowKit Thr
set_option linter.unusedVariables false
set_option linter.unusedSimpArgs false

theorem alt_last {ks : List Rx} {m : Nat} (hm : m + 1 = ks.length) (next : Int) (I : List Inst) : makeAlt (ks.drop m) next I = make (ks[m]'(by omega)) next I := by
  rw [List.drop_eq_getElem_cons (by omega)]
  simp only [makeAlt]
  rw [if_pos (List.drop_eq_nil_of_le (by omega))]
theorem alt_drop {ks : List Rx} {m : Nat} (hm : m + 1 < ks.length) (next : Int) (I : List Inst) : makeAlt (ks.drop m) next I =
    (((make (ks[m]'(by omega)) next (makeAlt (ks.drop (m + 1)) next I).2).2.length : Int), (make (ks[m]'(by omega)) next (makeAlt (ks.drop (m + 1)) next I).2).2 ++ [⟨2, noNode, (make (ks[m]'(by omega)) next (makeAlt (ks.drop (m + 1)) next I).2).1, (makeAlt (ks.drop (m + 1)) next I).1⟩]) := by
  rw [List.drop_eq_getElem_cons (show m < ks.length by omega)]
  simp only [makeAlt]
  rw [if_neg (by intro e; have := congrArg List.length e; simp at this; omega)]
theorem alt_in {ks : List Rx} (h : MakesAll ks) {next : Int} {I : List Inst} (h0 : 0 ≤ next) (h1 : next < I.length) (n : Nat) (hn : n < ks.length) :
    0 ≤ (makeAlt (ks.drop n) next I).1 ∧ (makeAlt (ks.drop n) next I).1 < (makeAlt (ks.drop n) next I).2.length ∧ I.length ≤ (makeAlt (ks.drop n) next I).2.length := by
  have := makeAlt_made (ks.drop n) next I (by intro e; have := congrArg List.length e; simp at this; omega) (makes_drop h n) h0 h1
  exact ⟨this.start.1, this.start.2, this.len⟩
theorem alt_mono {ks : List Rx} (h : MakesAll ks) {next : Int} {I : List Inst} (h0 : 0 ≤ next) (h1 : next < I.length) : ∀ n, n < ks.length → (makeAlt (ks.drop n) next I).2.length ≤ (makeAlt ks next I).2.length
  | 0, _ => by simp
  | n + 1, hn => by
    have ih := alt_mono h h0 h1 n (by omega)
    rw [alt_drop hn] at ih
    have c := alt_in h h0 h1 (n + 1) hn
    have := (make_made (ks[n]'(by omega)) next _ (h.get _ (List.getElem_mem (by omega))) h0 (show next < (makeAlt (ks.drop (n + 1)) next I).2.length by omega)).len
    simp at ih
    omega

set_option maxRecDepth 100000 in
set_option maxHeartbeats 8000000 in
theorem make_alt (code : Int) (neg : Bool) (set : List (Int × Int)) (mn mx : Int) (kids : List Rx) (hk : ∀ k ∈ kids, MakeOK k) (hv : MakesAll kids) (hne : 0 < kids.length) : MakeOK (.mk 6 code neg set mn mx kids) := by
  intro next I vI w base bp fold bytes cs hP ht h0 h1 hl
  simp only [TreeAt] at ht
  obtain ⟨vs, A, cc, rfl, ⟨As, cs', rfl, -⟩, hc1, hc2, hkids⟩ := ht
  have e0 : make (.mk 6 code neg set mn mx kids) next I = makeAlt kids next I := by simp [make]
  rw [e0] at hl ⊢
  obtain ⟨R, hR⟩ : ∃ R, makeAlt kids next I = R := ⟨_, rfl⟩
  rw [hR]
  rw [hR] at hl
  obtain ⟨l, hlk⟩ : ∃ l, kids.length = l + 1 := ⟨kids.length - 1, by omega⟩
  have HP := hide hP; have HK := hide hk; have HV := hide hv; have HR := hide hR; have HKI := hide hkids
  have hbp := hP.bp_lt
  have hbb := hP.lt
  clear hP e0 hk hv hR hkids hne
  have hll : l < kids.length := by omega
  obtain ⟨b, o, rfl, hb, csk, htk, hck⟩ := kid_cells (unhide HKI) l hll
  have hmo := alt_mono (unhide HV) h0 h1 l hll
  have hal := alt_last (by omega : l + 1 = kids.length) next I
  rw [unhide HR, hal] at hmo
  have hok := (unhide HK) kids[l] (List.getElem_mem hll)
  have hwrap : ((l + 1 : Nat) : Int) - 1 = (l : Int) := by omega
  generalize kids[l] = kid at *
  obtain ⟨kind', code', neg', set', mn', mx', kids'⟩ := kid
  have htk0 := htk
  simp only [TreeAt] at htk
  obtain ⟨vs', A', cc', rfl, ⟨As', cs'', rfl, -⟩, -⟩ := htk
  have hbl : b < w.heap.size := by omega
  have e0 := hck 0 _ rfl
  have e1 := hck 1 _ rfl
  have e2 := hck 2 _ rfl
  have e3 := hck 3 _ rfl
  have e4 := hck 4 _ rfl
  have e5 := hck 5 _ rfl
  have e6 := hck 6 _ rfl
  have HTW := hide (htk0.more (w' := w.alloc _) fun k _ hk => Below.heap_alloc w (.cells #[.int .i64 6, .int .i64 code, .bool neg, .slice As set.length cs', .int .i64 mn, .int .i64 mx, .slice (some ⟨b, o, none⟩) kids.length cc] 26) k hk)
  simp at e0
  have HOK := hide hok; have HAL := hide hal
  rw [hlk] at HTW ⊢
  clear hok hck htk0 hal
  go_enter Tryd.func14, Tryd.ntmps14
  go_wp2_with fail
  refine ((unhide HOK) _ _ vI _ base bp fold bytes _ ((unhide HP).alloc _) (unhide HTW) h0 h1 (by omega)).mono ?_
  rintro e w2 ⟨rfl, vI2, hP2, hK2, hA2⟩
  have t6 : w2.cell? ⟨w.heap.size, 6, none⟩ = some (.slice (some ⟨b, o, none⟩) (l + 1) cc) := (hK2.cell (by simp) ((unhide HP).new_not (Nat.le_refl _))).trans (by go_simp)
  rw [← unhide HAL] at hP2 ⊢
  have HP2 := hide hP2; have HK2 := hide hK2; have HA2 := hide hA2
  clear hP2 hK2 hA2 HTW HOK e0 e1 e2 e3 e4 e5 e6 hmo HAL
  go_wp2_with fail
  go_loopw [8, 9] (fun at_ i_ wr => ∃ (n : Nat) (vI' : Value), n ≤ l ∧ i_ = .int .i64 ((n : Int) - 1) ∧ at_ = .int .i64 (makeAlt (kids.drop n) next I).1 ∧ Hid (MkP wr base bp fold bytes (makeAlt (kids.drop n) next I).2 vI') ∧ Hid (Keeps (TurnP bp vI) (w.alloc (.cells #[.int .i64 6, .int .i64 code, .bool neg, .slice As set.length cs', .int .i64 mn, .int .i64 mx, .slice (some ⟨b, o, none⟩) (l + 1) cc] 26)) wr) ∧ Hid (At (w.alloc (.cells #[.int .i64 6, .int .i64 code, .bool neg, .slice As set.length cs', .int .i64 mn, .int .i64 mx, .slice (some ⟨b, o, none⟩) (l + 1) cc] 26)) vI vI'))
    (fun _ i_ _ => (intOf i_ + 1).toNat)
  case atStart =>
    refine ⟨l, vI2, Nat.le_refl _, ?_, rfl, HP2, HK2, HA2⟩
    go_num
  case round =>
    clear HP2 HK2 HA2 t6
    obtain ⟨n, vI', hn, rfl, rfl, HP1, HK1, HA1⟩ := hrel
    by_cases hn0 : n = 0
    · subst hn0
      rw [List.drop_zero, unhide HR] at HP1 ⊢
      go_wp2_with fail
      go_ret
      exact ⟨rfl, vI', unhide HP1, ((Keeps.refl _ _).alloc _).trans (unhide HK1) (fun _ _ h => h), At.later (unhide HA1) (by simp)⟩
    · obtain ⟨m, rfl⟩ : ∃ m, n = m + 1 := ⟨n - 1, by omega⟩
      have hm : m < kids.length := by omega
      obtain ⟨b2, o2, hA, hb2, csk, htk, hck⟩ := kid_cells (unhide HKI) m hm
      obtain ⟨rfl, rfl⟩ : b = b2 ∧ o = o2 := by cases hA; exact ⟨rfl, rfl⟩
      have hmem := List.getElem_mem hm
      have hd := alt_drop (show m + 1 < kids.length by omega) next I
      have hmo := alt_mono (unhide HV) h0 h1 m hm
      rw [unhide HR, hd] at hmo
      obtain ⟨i0, i1, i2⟩ := alt_in (unhide HV) h0 h1 (m + 1) (by omega)
      have hok := (unhide HK) kids[m] hmem
      rw [show (((m + 1 : Nat) : Int) - 1) = (m : Int) by omega]
      generalize kids[m] = kid at *
      obtain ⟨kind', code', neg', set', mn', mx', kids'⟩ := kid
      have htk0 := htk
      simp only [TreeAt] at htk
      obtain ⟨vs', A', cc', rfl, ⟨As', cs'', rfl, -⟩, -⟩ := htk
      have fr : ∀ j, wr.cell? ⟨b, j, none⟩ = w.cell? ⟨b, j, none⟩ := fun j => ((unhide HK1).cell (by simp; omega) ((unhide HP).old_not hb)).trans (by go_simp)
      have e0 := (fr _).trans (hck 0 _ rfl)
      have e1 := (fr _).trans (hck 1 _ rfl)
      have e2 := (fr _).trans (hck 2 _ rfl)
      have e3 := (fr _).trans (hck 3 _ rfl)
      have e4 := (fr _).trans (hck 4 _ rfl)
      have e5 := (fr _).trans (hck 5 _ rfl)
      have e6 := (fr _).trans (hck 6 _ rfl)
      have t6 : wr.cell? ⟨w.heap.size, 6, none⟩ = some (.slice (some ⟨b, o, none⟩) (l + 1) cc) := ((unhide HK1).cell (by simp) ((unhide HP).new_not (Nat.le_refl _))).trans (by go_simp)
      have htw : TreeAt (fun k => k < base) wr _ _ := ((htk0.more (w' := (w.alloc (.cells #[.int .i64 6, .int .i64 code, .bool neg, .slice As set.length cs', .int .i64 mn, .int .i64 mx, .slice (some ⟨b, o, none⟩) (l + 1) cc] 26))) fun k _ hk => Below.heap_alloc w _ k hk).more fun k hk1 hk2 => (unhide HK1).block k hk2 ((unhide HP).old_not hk1))
      simp at e0
      have HOK := hide hok; have HTW := hide htw; have HD := hide hd
      simp at hmo
      clear hok htw hd fr hck htk0 
      go_wp2_with fail
      refine ((unhide HOK) _ _ vI' _ base bp fold bytes _ (unhide HP1) (unhide HTW) h0 (by omega) (by omega)).mono ?_
      rintro e w2 ⟨rfl, vI2, hP2, hK2, hA2⟩
      have HP2 := hide hP2; have HK2 := hide hK2; have HA2 := hide hA2
      clear hP2 hK2 hA2
      go_wp2_with fail
      refine (add_calls ⟨2, noNode, _, _⟩ _ _ (unhide HP2) (no_tree _ _) (by omega)).mono ?_
      rintro e w3 ⟨rfl, vI3, hP3, hK3, hA3⟩
      have HP3 := hide hP3; have HK3 := hide hK3; have HA3 := hide hA3
      clear hP3 hK3 hA3
      go_wp2_with fail
      go_roundw
      case rel =>
        have hK4 := (unhide HK1).trans (unhide HK2) (fun k hk ht => Turnp.of_at (unhide HA1) k hk ht)
        have hA4 := At.trans (unhide HA1) (unhide HA2) (unhide HK1).size
        refine ⟨m, vI3, by omega, rfl, ?_, ?_, hK4.trans (unhide HK3) (fun k hk ht => Turnp.of_at hA4 k hk ht), At.trans hA4 (unhide HA3) hK4.size⟩
        · rw [unhide HD]
        · rw [unhide HD]; exact HP3
      case measure => simp [intOf]
end Go.Proofs.YtanmlgliibgpcaaDoor
