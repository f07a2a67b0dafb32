/- NfaChoice returns true of every two texts, every string and every place: no condition beyond the statement's own (a part of its proof). -/
import Derived.Test.YtanmlgliibgpcaaDoorKc02
import Derived.Test.YtanmlgliibgpcaaDoorShelf

/- Walks: the next character, as the program and as the reference tell it. -/
namespace Go.Proofs.YtanmlgliibgpcaaDoor
open Go.RowKit Thr
set_option linter.unusedVariables false

theorem get!_byt (s : ByteArray) (i : Nat) : ((s.get! i).toNat : Int) = byt s i := by
  unfold byt
  by_cases h : i < s.size
  · rw [dif_pos h]
    cases s with
    | mk d => simp [ByteArray.get!, ByteArray.getElem_eq_getElem_data, getElem!_pos d i h]
  · rw [dif_neg h]
    cases s with
    | mk d =>
      have : ¬ i < d.size := h
      simp [ByteArray.get!, this]
      rfl

/-- The size and the code, of the first four bytes. -/
def sizeN (n b0 b1 b2 b3 : Nat) : Nat × Nat :=
  if b0 < 128 then (1, b0)
  else if 194 ≤ b0 ∧ b0 ≤ 223 then (if 2 ≤ n ∧ 128 ≤ b1 ∧ b1 ≤ 191 then (2, b0 % 32 * 64 + (b1 - 128)) else (0, 0))
  else if 224 ≤ b0 ∧ b0 ≤ 239 then (if (3 ≤ n ∧ 128 ≤ b1 ∧ b1 ≤ 191 ∧ 128 ≤ b2 ∧ b2 ≤ 191) ∧ 2048 ≤ b0 % 16 * 4096 + (b1 - 128) * 64 + (b2 - 128) ∧ ¬ (55296 ≤ b0 % 16 * 4096 + (b1 - 128) * 64 + (b2 - 128) ∧ b0 % 16 * 4096 + (b1 - 128) * 64 + (b2 - 128) ≤ 57343) then (3, b0 % 16 * 4096 + (b1 - 128) * 64 + (b2 - 128)) else (0, 0))
  else if 240 ≤ b0 ∧ b0 ≤ 244 then (if (4 ≤ n ∧ 128 ≤ b1 ∧ b1 ≤ 191 ∧ 128 ≤ b2 ∧ b2 ≤ 191 ∧ 128 ≤ b3 ∧ b3 ≤ 191) ∧ 65536 ≤ b0 % 8 * 262144 + (b1 - 128) * 4096 + (b2 - 128) * 64 + (b3 - 128) ∧ b0 % 8 * 262144 + (b1 - 128) * 4096 + (b2 - 128) * 64 + (b3 - 128) ≤ 1114111 then (4, b0 % 8 * 262144 + (b1 - 128) * 4096 + (b2 - 128) * 64 + (b3 - 128)) else (0, 0))
  else (0, 0)

set_option maxRecDepth 100000 in
set_option maxHeartbeats 4000000 in
theorem decodeN_size (n b0 b1 b2 b3 : Nat) (hn : 1 ≤ n) (l0 : b0 < 256) (l1 : b1 < 256) (l2 : b2 < 256) (l3 : b3 < 256) :
    Lib.decodeN n b0 b1 b2 b3 = if (sizeN n b0 b1 b2 b3).1 = 0 then (65533, 1) else ((sizeN n b0 b1 b2 b3).2, (sizeN n b0 b1 b2 b3).1) := by
  unfold sizeN
  by_cases c1 : b0 < 128
  · rw [if_pos c1]
    simp only [Nat.succ_ne_zero, if_false]
    unfold Lib.decodeN
    rw [if_pos c1]
  rw [if_neg c1]
  by_cases c2 : 194 ≤ b0 ∧ b0 ≤ 223
  · rw [if_pos c2]
    by_cases q : 2 ≤ n ∧ 128 ≤ b1 ∧ b1 ≤ 191
    · rw [if_pos q]
      rw [if_neg (by simp)]
      (unfold Lib.decodeN; repeat' split) <;> first
          | rfl
          | (exfalso; omega)
          | (refine Prod.ext ?_ ?_ <;> simp only <;> omega)
    · rw [if_neg q]
      simp only [if_true]
      (unfold Lib.decodeN; repeat' split) <;> first
          | rfl
          | (exfalso; omega)
          | (refine Prod.ext ?_ ?_ <;> simp only <;> omega)
  rw [if_neg c2]
  by_cases c3 : 224 ≤ b0 ∧ b0 ≤ 239
  · rw [if_pos c3]
    by_cases q : (3 ≤ n ∧ 128 ≤ b1 ∧ b1 ≤ 191 ∧ 128 ≤ b2 ∧ b2 ≤ 191) ∧ 2048 ≤ b0 % 16 * 4096 + (b1 - 128) * 64 + (b2 - 128) ∧ ¬ (55296 ≤ b0 % 16 * 4096 + (b1 - 128) * 64 + (b2 - 128) ∧ b0 % 16 * 4096 + (b1 - 128) * 64 + (b2 - 128) ≤ 57343)
    · rw [if_pos q]
      rw [if_neg (by simp)]
      (unfold Lib.decodeN; repeat' split) <;> first
          | rfl
          | (exfalso; omega)
          | (refine Prod.ext ?_ ?_ <;> simp only <;> omega)
    · rw [if_neg q]
      simp only [if_true]
      (unfold Lib.decodeN; repeat' split) <;> first
          | rfl
          | (exfalso; omega)
          | (refine Prod.ext ?_ ?_ <;> simp only <;> omega)
  rw [if_neg c3]
  by_cases c4 : 240 ≤ b0 ∧ b0 ≤ 244
  · rw [if_pos c4]
    by_cases q : (4 ≤ n ∧ 128 ≤ b1 ∧ b1 ≤ 191 ∧ 128 ≤ b2 ∧ b2 ≤ 191 ∧ 128 ≤ b3 ∧ b3 ≤ 191) ∧ 65536 ≤ b0 % 8 * 262144 + (b1 - 128) * 4096 + (b2 - 128) * 64 + (b3 - 128) ∧ b0 % 8 * 262144 + (b1 - 128) * 4096 + (b2 - 128) * 64 + (b3 - 128) ≤ 1114111
    · rw [if_pos q]
      rw [if_neg (by simp)]
      (unfold Lib.decodeN; repeat' split) <;> first
          | rfl
          | (exfalso; omega)
          | (refine Prod.ext ?_ ?_ <;> simp only <;> omega)
    · rw [if_neg q]
      simp only [if_true]
      (unfold Lib.decodeN; repeat' split) <;> first
          | rfl
          | (exfalso; omega)
          | (refine Prod.ext ?_ ?_ <;> simp only <;> omega)
  rw [if_neg c4]
  simp only [if_true]
  (unfold Lib.decodeN; repeat' split) <;> first
      | rfl
      | (exfalso; omega)
      | (refine Prod.ext ?_ ?_ <;> simp only <;> omega)

set_option maxHeartbeats 4000000 in
theorem sizeF_size (s : ByteArray) (hs : 0 < s.size) : sizeF s = (((sizeN s.size (s.get! 0).toNat (s.get! 1).toNat (s.get! 2).toNat (s.get! 3).toNat).1 : Int), ((sizeN s.size (s.get! 0).toNat (s.get! 1).toNat (s.get! 2).toNat (s.get! 3).toNat).2 : Int)) := by
  have g0 := get!_byt s 0
  have g1 := get!_byt s 1
  have g2 := get!_byt s 2
  have g3 := get!_byt s 3
  unfold sizeF
  generalize (s.get! 0).toNat = b0 at *
  generalize (s.get! 1).toNat = b1 at *
  generalize (s.get! 2).toNat = b2 at *
  generalize (s.get! 3).toNat = b3 at *
  rw [← g0]
  unfold sizeN
  by_cases c1 : b0 < 128
  · rw [if_pos c1, if_pos (by omega)]; rfl
  rw [if_neg c1, if_neg (by omega)]
  by_cases c2 : 194 ≤ b0 ∧ b0 ≤ 223
  · have e0 : leadF (b0 : Int) = (2, (b0 : Int) % 32, 128) := by unfold leadF; rw [if_pos (by omega)]
    rw [if_pos c2, e0]
    by_cases hl : s.size < 2
    · rw [if_pos (.inr hl), if_neg (by omega)]; rfl
    rw [if_neg (by simp only; omega)]
    simp only [Nat.add_one_sub_one, tailF, ← g1]
    by_cases t1 : (b1 : Int) < 128 ∨ 191 < (b1 : Int)
    · simp only [if_pos t1]
      rw [if_neg (by omega)]; rfl
    simp only [if_neg t1]
    simp only [codeF]
    rw [if_neg (by omega), if_pos (by omega)]
    refine Prod.ext ?_ ?_ <;> simp only <;> omega
  rw [if_neg c2]
  by_cases c3 : 224 ≤ b0 ∧ b0 ≤ 239
  · have e0 : leadF (b0 : Int) = (3, (b0 : Int) % 16, 2048) := by unfold leadF; rw [if_neg (by omega), if_pos (by omega)]
    rw [if_pos c3, e0]
    by_cases hl : s.size < 3
    · rw [if_pos (.inr hl), if_neg (by omega)]; rfl
    rw [if_neg (by simp only; omega)]
    simp only [Nat.add_one_sub_one, tailF, ← g1, ← g2]
    by_cases t1 : (b1 : Int) < 128 ∨ 191 < (b1 : Int)
    · simp only [if_pos t1]
      rw [if_neg (by omega)]; rfl
    simp only [if_neg t1]
    by_cases t2 : (b2 : Int) < 128 ∨ 191 < (b2 : Int)
    · simp only [if_pos t2]
      rw [if_neg (by omega)]; rfl
    simp only [if_neg t2]
    simp only [codeF]
    by_cases q : 64 * (64 * ((b0 : Int) % 16) + (b1 : Int) - 128) + (b2 : Int) - 128 < 2048 ∨ 1114111 < 64 * (64 * ((b0 : Int) % 16) + (b1 : Int) - 128) + (b2 : Int) - 128 ∨ 55296 ≤ 64 * (64 * ((b0 : Int) % 16) + (b1 : Int) - 128) + (b2 : Int) - 128 ∧ 64 * (64 * ((b0 : Int) % 16) + (b1 : Int) - 128) + (b2 : Int) - 128 ≤ 57343
    · rw [if_pos q, if_neg (by omega)]; rfl
    · rw [if_neg q, if_pos (by omega)]
      refine Prod.ext ?_ ?_ <;> simp only <;> omega
  rw [if_neg c3]
  by_cases c4 : 240 ≤ b0 ∧ b0 ≤ 244
  · have e0 : leadF (b0 : Int) = (4, (b0 : Int) % 8, 65536) := by unfold leadF; rw [if_neg (by omega), if_neg (by omega), if_pos (by omega)]
    rw [if_pos c4, e0]
    by_cases hl : s.size < 4
    · rw [if_pos (.inr hl), if_neg (by omega)]; rfl
    rw [if_neg (by simp only; omega)]
    simp only [Nat.add_one_sub_one, tailF, ← g1, ← g2, ← g3]
    by_cases t1 : (b1 : Int) < 128 ∨ 191 < (b1 : Int)
    · simp only [if_pos t1]
      rw [if_neg (by omega)]; rfl
    simp only [if_neg t1]
    by_cases t2 : (b2 : Int) < 128 ∨ 191 < (b2 : Int)
    · simp only [if_pos t2]
      rw [if_neg (by omega)]; rfl
    simp only [if_neg t2]
    by_cases t3 : (b3 : Int) < 128 ∨ 191 < (b3 : Int)
    · simp only [if_pos t3]
      rw [if_neg (by omega)]; rfl
    simp only [if_neg t3]
    simp only [codeF]
    by_cases q : 64 * (64 * (64 * ((b0 : Int) % 8) + (b1 : Int) - 128) + (b2 : Int) - 128) + (b3 : Int) - 128 < 65536 ∨ 1114111 < 64 * (64 * (64 * ((b0 : Int) % 8) + (b1 : Int) - 128) + (b2 : Int) - 128) + (b3 : Int) - 128 ∨ 55296 ≤ 64 * (64 * (64 * ((b0 : Int) % 8) + (b1 : Int) - 128) + (b2 : Int) - 128) + (b3 : Int) - 128 ∧ 64 * (64 * (64 * ((b0 : Int) % 8) + (b1 : Int) - 128) + (b2 : Int) - 128) + (b3 : Int) - 128 ≤ 57343
    · rw [if_pos q, if_neg (by omega)]; rfl
    · rw [if_neg q, if_pos (by omega)]
      refine Prod.ext ?_ ?_ <;> simp only <;> omega
  have e0 : leadF (b0 : Int) = (0, 0, 0) := by unfold leadF; rw [if_neg (by omega), if_neg (by omega), if_neg (by omega)]
  rw [if_neg c4, e0, if_pos (.inl rfl)]
  rfl

/-- Go's decoder tells what the definition tells. -/
theorem decode_size (s : ByteArray) (hs : 0 < s.size) : Lib.decodeGo s = if (sizeF s).1 = 0 then (65533, 1) else ((sizeF s).2.toNat, (sizeF s).1.toNat) := by
  unfold Lib.decodeGo
  rw [if_neg (by omega), Lib.decode_at, sizeF_size s hs]
  simp only [Nat.zero_add, Nat.sub_zero, Int.toNat_natCast]
  rw [decodeN_size _ _ _ _ _ hs (UInt8.toNat_lt _) (UInt8.toNat_lt _) (UInt8.toNat_lt _) (UInt8.toNat_lt _)]
  simp only [Int.natCast_eq_zero]
/-- A code of several bytes, or of one: what is known of it. -/
theorem sizeF_known (s : ByteArray) (hs : 0 < s.size) : 0 ≤ (sizeF s).1 ∧ (sizeF s).1 ≤ s.size ∧ (sizeF s).1 ≤ 4 ∧ 0 ≤ (sizeF s).2 ∧ (sizeF s).2 ≤ 1114111 ∧ ((sizeF s).1 = 1 → (sizeF s).2 < 128) ∧ ((sizeF s).2 < 128 ∧ (sizeF s).1 ≠ 0 → (sizeF s).2 = byt s 0 ∧ (sizeF s).1 = 1) := by
  have l0 : (s.get! 0).toNat < 256 := UInt8.toNat_lt _
  have l1 : (s.get! 1).toNat < 256 := UInt8.toNat_lt _
  have l2 : (s.get! 2).toNat < 256 := UInt8.toNat_lt _
  have l3 : (s.get! 3).toNat < 256 := UInt8.toNat_lt _
  rw [sizeF_size s hs, ← get!_byt]
  generalize (s.get! 0).toNat = b0 at *
  generalize (s.get! 1).toNat = b1 at *
  generalize (s.get! 2).toNat = b2 at *
  generalize (s.get! 3).toNat = b3 at *
  unfold sizeN
  repeat' split
  all_goals (refine ⟨?_, ?_, ?_, ?_, ?_, ?_, ?_⟩ <;> simp <;> omega)
end Go.Proofs.YtanmlgliibgpcaaDoor

/- Walks: ustr.Next and thresherref01.Next give the same: 'nextF'. -/
namespace Go.Proofs.YtanmlgliibgpcaaDoor
open Go.RowKit Thr
set_option linter.unusedVariables false

/-- The tables of unicode/utf8 lie as the program's text lays them. -/
def Tabs (w : World) : Prop := Lib.Utf8Tabs 1 2 w
theorem Tabs.below {w w' : World} (h : Tabs w) (hb : Below w.heap.size w w') : Tabs w' := by
  obtain ⟨h1, h2⟩ := h
  refine ⟨fun c hc => ?_, fun i hi => ?_⟩
  · have := h1 c hc
    exact (hb.cell (p := ⟨_, _, none⟩) (World.block_lt_of_cell? w _ this)).trans this
  · obtain ⟨a, b⟩ := h2 i hi
    exact ⟨(hb.cell (p := ⟨_, _, none⟩) (World.block_lt_of_cell? w _ a)).trans a, (hb.cell (p := ⟨_, _, none⟩) (World.block_lt_of_cell? w _ b)).trans b⟩

theorem ret_pair {a b : Int} {p : Int × Int} (h : p = (a, b)) : Ending.returned (.tuple #[.int .i64 a, .int .i64 b]) = .returned (.tuple #[.int .i64 p.1, .int .i64 p.2]) := by rw [h]

theorem byt_index {s : ByteArray} {i : Int} (h : i.toNat < s.size) : ((s[i.toNat]'h).toNat : Int) = byt s i.toNat := byt_at h

set_option maxHeartbeats 2000000 in
theorem rnext_calls (s : ByteArray) (i : Int) (bytes : Bool) (w : World) (hm : s.size ≤ 140737488351232) :
    Calls Tryd.prog 31 #[.string s, .int .i64 i, .bool bytes] w fun e w' => e = .returned (.tuple #[.int .i64 (nextF s i bytes).1, .int .i64 (nextF s i bytes).2]) ∧ w' = w := by
  by_cases h0 : i < 0
  · go_enter Tryd.func31, Tryd.ntmps31
    go_wp2
    go_ret2
    exact ⟨ret_pair (by unfold nextF; rw [if_pos (by omega)]), rfl⟩
  by_cases h1 : (s.size : Int) ≤ i
  · go_enter Tryd.func31, Tryd.ntmps31
    go_wp2
    go_ret2
    exact ⟨ret_pair (by unfold nextF; rw [if_pos (by omega)]), rfl⟩
  obtain ⟨k, rfl⟩ := Int.eq_ofNat_of_zero_le (by omega : 0 ≤ i)
  have hk : k < s.size := by omega
  have e0 : ¬ ((k : Int) < 0 ∨ (s.size : Int) ≤ k) := by omega
  have hb := byt_at hk
  have hr := byt_range s k
  cases bytes with
  | true =>
    obtain ⟨b0, hb0⟩ : ∃ b0, byt s k = b0 := ⟨_, rfl⟩
    rw [hb0] at hb hr
    have HB := hide hb0
    clear hb0
    go_enter Tryd.func31, Tryd.ntmps31
    go_wp2
    go_ret2
    exact ⟨ret_pair (by unfold nextF; rw [if_neg e0, if_pos rfl, Int.toNat_natCast, unhide HB]), rfl⟩
  | false =>
    have hx : 0 < (s.extract k s.size).size := by simp [ByteArray.size_extract]; omega
    have hx2 : (s.extract k s.size).size ≤ 140737488351232 := by simp [ByteArray.size_extract]; omega
    have hc := fun w => size_calls (s.extract k s.size) w hx hx2
    have hkn := sizeF_known (s.extract k s.size) hx
    obtain ⟨b0, hb0⟩ : ∃ b0, byt s k = b0 := ⟨_, rfl⟩
    rw [hb0] at hb hr
    obtain ⟨z, hz⟩ : ∃ z, sizeF (s.extract k s.size) = z := ⟨_, rfl⟩
    rw [hz] at hc hkn
    have hn : nextF s k false = if z.1 = 0 then (1114112 + b0, 1) else (z.2, z.1) := by
      unfold nextF
      rw [if_neg e0, if_neg (by simp), Int.toNat_natCast, hz, hb0]
    have HB := hide hb0; have HN := hide hn; have HC := hide hc
    obtain ⟨z1, z2⟩ := z
    simp only at hkn
    clear hb0 hz hn hc
    by_cases hz : z1 = 0
    · have hz' : (z1 == 0) = true := by simpa using hz
      have HZ := hide hz
      clear hz
      go_enter Tryd.func31, Tryd.ntmps31
      go_wp2_with (go_at_call 46; refine (unhide HC _).mono ?_; rintro e w' ⟨rfl, hw⟩; obtain rfl := hw.symm)
      go_ret2
      exact ⟨ret_pair (by rw [unhide HN, if_pos (unhide HZ)]), rfl⟩
    · have hz' : (z1 == 0) = false := by simpa using hz
      have HZ := hide hz
      clear hz
      go_enter Tryd.func31, Tryd.ntmps31
      go_wp2_with (go_at_call 46; refine (unhide HC _).mono ?_; rintro e w' ⟨rfl, hw⟩; obtain rfl := hw.symm)
      go_ret2
      exact ⟨ret_pair (by rw [unhide HN, if_neg (unhide HZ)]), rfl⟩

set_option maxHeartbeats 2000000 in
theorem next_calls (s : ByteArray) (i : Int) (bytes : Bool) (w : World) (hT : Tabs w) (hm : s.size ≤ 140737488351232) :
    Calls Tryd.prog 29 #[.string s, .int .i64 i, .bool bytes] w fun e w' => e = .returned (.tuple #[.int .i64 (nextF s i bytes).1, .int .i64 (nextF s i bytes).2]) ∧ Below w.heap.size w w' := by
  by_cases h0 : i < 0
  · go_enter Tryd.func29, Tryd.ntmps29
    go_wp2
    go_ret2
    exact ⟨ret_pair (by unfold nextF; rw [if_pos (by omega)]), (by repeat (first | exact Below.refl _ _ | assumption | refine below_drewN ?_ _ | refine Below.drew ?_ | refine below_alloc' ?_ _))⟩
  by_cases h1 : (s.size : Int) ≤ i
  · go_enter Tryd.func29, Tryd.ntmps29
    go_wp2
    go_ret2
    exact ⟨ret_pair (by unfold nextF; rw [if_pos (by omega)]), (by repeat (first | exact Below.refl _ _ | assumption | refine below_drewN ?_ _ | refine Below.drew ?_ | refine below_alloc' ?_ _))⟩
  obtain ⟨k, rfl⟩ := Int.eq_ofNat_of_zero_le (by omega : 0 ≤ i)
  have hk : k < s.size := by omega
  have e0 : ¬ ((k : Int) < 0 ∨ (s.size : Int) ≤ k) := by omega
  have hb := byt_at hk
  have hr := byt_range s k
  cases bytes with
  | true =>
    obtain ⟨b0, hb0⟩ : ∃ b0, byt s k = b0 := ⟨_, rfl⟩
    rw [hb0] at hb hr
    have HB := hide hb0
    clear hb0
    go_enter Tryd.func29, Tryd.ntmps29
    go_wp2
    go_ret2
    exact ⟨ret_pair (by unfold nextF; rw [if_neg e0, if_pos rfl, Int.toNat_natCast, unhide HB]), (by repeat (first | exact Below.refl _ _ | assumption | refine below_drewN ?_ _ | refine Below.drew ?_ | refine below_alloc' ?_ _))⟩
  | false =>
    have hx : 0 < (s.extract k s.size).size := by simp [ByteArray.size_extract]; omega
    have hc := Tryd.utf8_DecodeRuneInString (s.extract k s.size) w hT
    rw [decode_size _ hx] at hc
    have hkn := sizeF_known (s.extract k s.size) hx
    obtain ⟨b0, hb0⟩ : ∃ b0, byt s k = b0 := ⟨_, rfl⟩
    rw [hb0] at hb hr
    obtain ⟨z, hz⟩ : ∃ z, sizeF (s.extract k s.size) = z := ⟨_, rfl⟩
    rw [hz] at hc hkn
    have hn : nextF s k false = if z.1 = 0 then (1114112 + b0, 1) else (z.2, z.1) := by
      unfold nextF
      rw [if_neg e0, if_neg (by simp), Int.toNat_natCast, hz, hb0]
    obtain ⟨z1, z2⟩ := z
    simp only at hkn hc
    have HB := hide hb0; have HN := hide hn
    clear hb0 hz hn hT
    by_cases hz : z1 = 0
    · rw [if_pos hz] at hc
      have HZ := hide hz
      have HC := hide hc
      clear hz hc hkn
      go_enter Tryd.func29, Tryd.ntmps29
      go_wp2_with (go_at_call 45; refine (unhide HC).mono ?_; rintro e w' ⟨rfl, hb1⟩)
      go_ret2
      exact ⟨ret_pair (by rw [unhide HN, if_pos (unhide HZ)]), hb1⟩
    · rw [if_neg hz] at hc
      obtain ⟨m1, rfl⟩ := Int.eq_ofNat_of_zero_le hkn.1
      obtain ⟨m2, rfl⟩ := Int.eq_ofNat_of_zero_le hkn.2.2.2.1
      simp only [Int.toNat_natCast] at hc
      have HC := hide hc
      have HZ := hide hz
      have b2 : (m2 : Int) ≤ 1114111 := hkn.2.2.2.2.1
      have ht : (((m2 : Int) == 65533) && ((m1 : Int) == 1)) = false := by
        have := hkn.2.2.2.2.2.1
        cases hh : ((m1 : Int) == 1)
        · simp
        · have : (m1 : Int) = 1 := by simpa using hh
          have : (m2 : Int) < 128 := by omega
          simp; omega
      clear hz hc hkn
      by_cases h5 : (m2 : Int) = 65533
      · have h6 : ((m2 : Int) == 65533) = true := by simpa using h5
        have h7 : ((m1 : Int) == 1) = false := by simpa [h6] using ht
        clear ht h5
        go_enter Tryd.func29, Tryd.ntmps29
        go_wp2_with (go_at_call 45; refine (unhide HC).mono ?_; rintro e w' ⟨rfl, hb1⟩)
        go_ret2
        exact ⟨ret_pair (by rw [unhide HN, if_neg (unhide HZ)]), hb1⟩
      · have h6 : ((m2 : Int) == 65533) = false := by simpa using h5
        clear ht h5
        go_enter Tryd.func29, Tryd.ntmps29
        go_wp2_with (go_at_call 45; refine (unhide HC).mono ?_; rintro e w' ⟨rfl, hb1⟩)
        go_ret2
        exact ⟨ret_pair (by rw [unhide HN, if_neg (unhide HZ)]), hb1⟩
end Go.Proofs.YtanmlgliibgpcaaDoor

/- Walks: Fold, code, in, fits. -/
namespace Go.Proofs.YtanmlgliibgpcaaDoor
open Go.RowKit Thr
set_option linter.unusedVariables false

set_option maxHeartbeats 1000000 in
theorem Fold_calls (c : Int) (bytes : Bool) (w : World) : Calls Tryd.prog 43 #[.int .i64 c, .bool bytes] w fun e w' => e = .returned (.int .i64 (foldF c bytes)) ∧ w' = w := by
  obtain ⟨r, hr⟩ : ∃ r, foldF c bytes = r := ⟨_, rfl⟩
  rw [hr]
  unfold foldF at hr
  have HR := hide hr
  clear hr
  cases bytes
  all_goals
    go_enter Tryd.func43, Tryd.ntmps43
    go_wp2
    all_goals
      go_ret
      refine ⟨ret_int ?_, rfl⟩
      rw [← unhide HR]
      simp_all <;> omega

set_option maxHeartbeats 1000000 in
theorem code_calls {bp : Nat} {fold bytes : Bool} {vI : Value} {start : Int} (s : ByteArray) (i : Int) (w : World) (hT : Tabs w) (hm : s.size ≤ 140737488351232) (hP : Blk w bp 47 #[.bool fold, .bool bytes, vI, .int .i64 start]) :
    Calls Tryd.prog 19 #[.pointer (some ⟨bp, 0, none⟩), .string s, .int .i64 i] w fun e w' => e = .returned (.tuple #[.int .i64 (codeAt s i bytes).1, .int .i64 (codeAt s i bytes).2]) ∧ Below w.heap.size w w' := by
  have hc := next_calls s i bytes w hT hm
  have p1 := hP.cell 1
  simp at p1
  have e : codeAt s i bytes = if (nextF s i bytes).2 = 0 then (-1, 0) else nextF s i bytes := rfl
  generalize nextF s i bytes = z at *
  obtain ⟨z1, z2⟩ := z
  simp only at hc e
  have HC := hide hc
  clear hc hT hP
  by_cases hz : z2 = 0
  · rw [if_pos hz] at e
    have hz' : (z2 == 0) = true := by simpa using hz
    rw [e]
    clear hz e
    go_enter Tryd.func19, Tryd.ntmps19
    go_wp2_with (go_at_call 29; refine (unhide HC).mono ?_; rintro e w' ⟨rfl, hb1⟩)
    go_ret2
    exact ⟨rfl, hb1⟩
  · rw [if_neg hz] at e
    have hz' : (z2 == 0) = false := by simpa using hz
    rw [e]
    clear hz e
    go_enter Tryd.func19, Tryd.ntmps19
    go_wp2_with (go_at_call 29; refine (unhide HC).mono ?_; rintro e w' ⟨rfl, hb1⟩)
    go_ret2
    exact ⟨rfl, hb1⟩

set_option maxHeartbeats 4000000 in
theorem in_calls {ok : Nat → Prop} {bp : Nat} {fold bytes : Bool} {vI vs : Value} {start : Int} (set : List (Int × Int)) (c : Int) (w : World) (hP : Blk w bp 47 #[.bool fold, .bool bytes, vI, .int .i64 start])
    (hs : SetAt ok w vs set) (hc0 : -1000000000 ≤ c) (hc1 : c ≤ 1000000000) :
    Calls Tryd.prog 44 #[.pointer (some ⟨bp, 0, none⟩), vs, .int .i64 c] w fun e w' => e = .returned (.bool (inF set c fold bytes)) ∧ Below w.heap.size w w' := by
  obtain ⟨A, cc, rfl, hl1, hl2, hcs⟩ := hs
  obtain ⟨low, hlow⟩ : ∃ low, foldF c bytes = low := ⟨_, rfl⟩
  have hlb : -1000000000 ≤ low ∧ low ≤ 1000000032 := by unfold foldF at hlow; split at hlow <;> omega
  obtain ⟨up, hup⟩ : ∃ up, upF low bytes = up := ⟨_, rfl⟩
  obtain ⟨T, hT⟩ : ∃ T, inF set c fold bytes = T := ⟨_, rfl⟩
  have hT' : (set.drop 0).any (fun r => inR r c low up fold) = T := by rw [← hT, List.drop_zero]; unfold inF; rw [hlow, hup]
  rw [hT]
  have c1 := fun w => Fold_calls c bytes w
  rw [hlow] at c1
  have c2 := fun w => Fold_calls (low - 32) bytes w
  obtain ⟨lf, hlf⟩ : ∃ lf, foldF (low - 32) bytes = lf := ⟨_, rfl⟩
  rw [hlf] at c2
  have p0 := hP.cell 0
  have p1 := hP.cell 1
  have hbp := hP.lt
  simp at p0 p1
  unfold upF at hup
  rw [hlf] at hup
  clear hP
  have HCS : ∀ (k : Nat) (h : k < set.length), ∃ b o, A = some ⟨b, o, none⟩ ∧ w.cell? ⟨b, o + k * 2, none⟩ = some (.int .i64 (set[k]'h).1) ∧ w.cell? ⟨b, o + k * 2 + 1, none⟩ = some (.int .i64 (set[k]'h).2) := fun k h => by
    rcases hcs with rfl | ⟨b, o, rfl, _, hc⟩
    · simp at h
    · exact ⟨b, o, rfl, hc k _ (List.getElem?_eq_getElem h)⟩
  have hne : (low - 32 != low) = true := by rw [bne_iff_ne]; omega
  have hup3 : (low - 32 < 0 ∧ up = low) ∨ (0 ≤ low - 32 ∧ (lf == low) = false ∧ up = low) ∨ (0 ≤ low - 32 ∧ (lf == low) = true ∧ up = low - 32) := by
    by_cases h1 : 0 ≤ low - 32
    · by_cases h2 : lf = low
      · rw [if_pos ⟨h1, h2⟩] at hup; exact .inr (.inr ⟨h1, by simpa using h2, hup.symm⟩)
      · rw [if_neg (fun h => h2 h.2)] at hup; exact .inr (.inl ⟨h1, by simpa using h2, hup.symm⟩)
    · rw [if_neg (fun h => h1 h.1)] at hup; exact .inl ⟨by omega, hup.symm⟩
  clear hup
  rcases hup3 with ⟨q1, hu⟩ | ⟨q1, q2, hu⟩ | ⟨q1, q2, hu⟩
  · rw [hu] at hT'
    have C1 := hide c1; have C2 := hide c2; have HT := hide hT'
    clear c1 c2 hT hT' hlow hlf hu hcs
    go_enter Tryd.func44, Tryd.ntmps44
    go_wp2_with (first | (go_at_call_of 43 (Value.int IntKind.i64 c); refine (unhide C1 _).mono ?_; rintro e w' ⟨rfl, hw⟩; obtain rfl := hw.symm) | (go_at_call 43; refine (unhide C2 _).mono ?_; rintro e w' ⟨rfl, hw⟩; obtain rfl := hw.symm))
    go_loopw [43] (fun i wr => ∃ k : Nat, k ≤ set.length ∧ i = .int .i64 k ∧ Hid ((set.drop k).any (fun r => inR r c low low fold) = T) ∧ Below w.heap.size w wr) (fun i _ => set.length - (intOf i).toNat)
    case atStart => exact ⟨0, by omega, rfl, HT, Below.refl _ _⟩
    case round =>
      obtain ⟨k, hk, rfl, hd, hb⟩ := hrel
      obtain ⟨g0, g1⟩ := bcell hb
      have p0' := (g0 bp 0 hbp).trans p0
      have hz := hb.size
      have hbp' : bp < wr.heap.size := by omega
      have HB := hide hb
      clear g0 g1 hb
      by_cases hlt : k < set.length
      · obtain ⟨b, o, rfl, e0, e1⟩ := HCS k hlt
        have hbl := World.block_lt_of_cell? w _ e0
        have e0' := ((bcell (unhide HB)).1 b _ hbl).trans e0
        have e1' := ((bcell (unhide HB)).1 b _ hbl).trans e1
        have hstep : (inR set[k] c low low fold || (set.drop (k + 1)).any (fun r => inR r c low low fold)) = T := by
          rw [← unhide hd, List.drop_eq_getElem_cons hlt, List.any_cons]
        obtain ⟨rest, hrest⟩ : ∃ rest, (set.drop (k + 1)).any (fun r => inR r c low low fold) = rest := ⟨_, rfl⟩
        rw [hrest] at hstep
        have HR := hide hrest
        generalize set[k] = x at *
        obtain ⟨x1, x2⟩ := x
        simp only [inR, hitF] at hstep
        have HS := hide hstep
        clear hstep hrest hd e0 e1
        go_wp2
        all_goals first
          | (go_ret
             refine ⟨ret_bool ?_, (unhide HB).alloc hz _⟩
             rw [← unhide HS]
             clear HS HB HR C1 C2 HT
             simp_all)
          | (go_roundw
             case rel =>
               refine ⟨k + 1, by omega, by go_num, hide ?_, (unhide HB).alloc hz _⟩
               rw [unhide HR, ← unhide HS]
               clear HS HB HR C1 C2 HT
               simp_all <;> omega
             case measure => simp [intOf]; omega)
      · obtain rfl : k = set.length := by omega
        have hT0 : T = false := by rw [← unhide hd]; simp
        have HT0 := hide hT0
        clear hlt hd hT0
        go_wp2
        go_ret
        exact ⟨ret_bool (unhide HT0).symm, unhide HB⟩
  · rw [hu] at hT'
    have C1 := hide c1; have C2 := hide c2; have HT := hide hT'
    clear c1 c2 hT hT' hlow hlf hu hcs
    go_enter Tryd.func44, Tryd.ntmps44
    go_wp2_with (first | (go_at_call_of 43 (Value.int IntKind.i64 c); refine (unhide C1 _).mono ?_; rintro e w' ⟨rfl, hw⟩; obtain rfl := hw.symm) | (go_at_call 43; refine (unhide C2 _).mono ?_; rintro e w' ⟨rfl, hw⟩; obtain rfl := hw.symm))
    go_loopw [43] (fun i wr => ∃ k : Nat, k ≤ set.length ∧ i = .int .i64 k ∧ Hid ((set.drop k).any (fun r => inR r c low low fold) = T) ∧ Below w.heap.size w wr) (fun i _ => set.length - (intOf i).toNat)
    case atStart => exact ⟨0, by omega, rfl, HT, Below.refl _ _⟩
    case round =>
      obtain ⟨k, hk, rfl, hd, hb⟩ := hrel
      obtain ⟨g0, g1⟩ := bcell hb
      have p0' := (g0 bp 0 hbp).trans p0
      have hz := hb.size
      have hbp' : bp < wr.heap.size := by omega
      have HB := hide hb
      clear g0 g1 hb
      by_cases hlt : k < set.length
      · obtain ⟨b, o, rfl, e0, e1⟩ := HCS k hlt
        have hbl := World.block_lt_of_cell? w _ e0
        have e0' := ((bcell (unhide HB)).1 b _ hbl).trans e0
        have e1' := ((bcell (unhide HB)).1 b _ hbl).trans e1
        have hstep : (inR set[k] c low low fold || (set.drop (k + 1)).any (fun r => inR r c low low fold)) = T := by
          rw [← unhide hd, List.drop_eq_getElem_cons hlt, List.any_cons]
        obtain ⟨rest, hrest⟩ : ∃ rest, (set.drop (k + 1)).any (fun r => inR r c low low fold) = rest := ⟨_, rfl⟩
        rw [hrest] at hstep
        have HR := hide hrest
        generalize set[k] = x at *
        obtain ⟨x1, x2⟩ := x
        simp only [inR, hitF] at hstep
        have HS := hide hstep
        clear hstep hrest hd e0 e1
        go_wp2
        all_goals first
          | (go_ret
             refine ⟨ret_bool ?_, (unhide HB).alloc hz _⟩
             rw [← unhide HS]
             clear HS HB HR C1 C2 HT
             simp_all)
          | (go_roundw
             case rel =>
               refine ⟨k + 1, by omega, by go_num, hide ?_, (unhide HB).alloc hz _⟩
               rw [unhide HR, ← unhide HS]
               clear HS HB HR C1 C2 HT
               simp_all <;> omega
             case measure => simp [intOf]; omega)
      · obtain rfl : k = set.length := by omega
        have hT0 : T = false := by rw [← unhide hd]; simp
        have HT0 := hide hT0
        clear hlt hd hT0
        go_wp2
        go_ret
        exact ⟨ret_bool (unhide HT0).symm, unhide HB⟩
  · rw [hu] at hT'
    have C1 := hide c1; have C2 := hide c2; have HT := hide hT'
    clear c1 c2 hT hT' hlow hlf hu hcs
    go_enter Tryd.func44, Tryd.ntmps44
    go_wp2_with (first | (go_at_call_of 43 (Value.int IntKind.i64 c); refine (unhide C1 _).mono ?_; rintro e w' ⟨rfl, hw⟩; obtain rfl := hw.symm) | (go_at_call 43; refine (unhide C2 _).mono ?_; rintro e w' ⟨rfl, hw⟩; obtain rfl := hw.symm))
    go_loopw [43] (fun i wr => ∃ k : Nat, k ≤ set.length ∧ i = .int .i64 k ∧ Hid ((set.drop k).any (fun r => inR r c low (low - 32) fold) = T) ∧ Below w.heap.size w wr) (fun i _ => set.length - (intOf i).toNat)
    case atStart => exact ⟨0, by omega, rfl, HT, Below.refl _ _⟩
    case round =>
      obtain ⟨k, hk, rfl, hd, hb⟩ := hrel
      obtain ⟨g0, g1⟩ := bcell hb
      have p0' := (g0 bp 0 hbp).trans p0
      have hz := hb.size
      have hbp' : bp < wr.heap.size := by omega
      have HB := hide hb
      clear g0 g1 hb
      by_cases hlt : k < set.length
      · obtain ⟨b, o, rfl, e0, e1⟩ := HCS k hlt
        have hbl := World.block_lt_of_cell? w _ e0
        have e0' := ((bcell (unhide HB)).1 b _ hbl).trans e0
        have e1' := ((bcell (unhide HB)).1 b _ hbl).trans e1
        have hstep : (inR set[k] c low (low - 32) fold || (set.drop (k + 1)).any (fun r => inR r c low (low - 32) fold)) = T := by
          rw [← unhide hd, List.drop_eq_getElem_cons hlt, List.any_cons]
        obtain ⟨rest, hrest⟩ : ∃ rest, (set.drop (k + 1)).any (fun r => inR r c low (low - 32) fold) = rest := ⟨_, rfl⟩
        rw [hrest] at hstep
        have HR := hide hrest
        generalize set[k] = x at *
        obtain ⟨x1, x2⟩ := x
        simp only [inR, hitF] at hstep
        have HS := hide hstep
        clear hstep hrest hd e0 e1
        go_wp2
        all_goals first
          | (go_ret
             refine ⟨ret_bool ?_, (unhide HB).alloc hz _⟩
             rw [← unhide HS]
             clear HS HB HR C1 C2 HT
             simp_all)
          | (go_roundw
             case rel =>
               refine ⟨k + 1, by omega, by go_num, hide ?_, (unhide HB).alloc hz _⟩
               rw [unhide HR, ← unhide HS]
               clear HS HB HR C1 C2 HT
               simp_all <;> omega
             case measure => simp [intOf]; omega)
      · obtain rfl : k = set.length := by omega
        have hT0 : T = false := by rw [← unhide hd]; simp
        have HT0 := hide hT0
        clear hlt hd hT0
        go_wp2
        go_ret
        exact ⟨ret_bool (unhide HT0).symm, unhide HB⟩
end Go.Proofs.YtanmlgliibgpcaaDoor

/- The walk of fits: does a character fit a node? -/
namespace Go.Proofs.YtanmlgliibgpcaaDoor
open Go.RowKit Thr
set_option linter.unusedVariables false

set_option maxHeartbeats 4000000 in
theorem fits_calls {ok : Nat → Prop} {bp : Nat} {fold bytes : Bool} {vI : Value} {start : Int} (t : Rx) (cs : List Value) (c : Int) (w : World) (hP : Blk w bp 47 #[.bool fold, .bool bytes, vI, .int .i64 start])
    (ht : TreeAt ok w t cs) (hc0 : -1000000000 ≤ c) (hc1 : c ≤ 1000000000) :
    Calls Tryd.prog 28 #[.pointer (some ⟨bp, 0, none⟩), .agg cs.toArray, .int .i64 c] w fun e w' => e = .returned (.bool (fitsF t c fold bytes)) ∧ Below w.heap.size w w' := by
  obtain ⟨kind, code, neg, set, mn, mx, kids⟩ := t
  simp only [TreeAt] at ht
  obtain ⟨vs, A, cc, rfl, hset, -⟩ := ht
  have p0 := hP.cell 0
  have p1 := hP.cell 1
  have hbp := hP.lt
  simp at p0 p1
  have e0 : fitsF (.mk kind code neg set mn mx kids) c fold bytes = if kind = 3 then true else if kind = 2 then decide (c = code) || (fold && decide (foldF c bytes = foldF code bytes)) else inF set c fold bytes != neg := rfl
  rw [e0]
  by_cases k3 : kind = 3
  · subst k3
    rw [if_pos rfl]
    clear e0 hset hP
    go_enter Tryd.func28, Tryd.ntmps28
    go_wp2_with fail
    go_ret
    exact ⟨rfl, (by repeat (first | exact Below.refl _ _ | assumption | refine below_drewN ?_ _ | refine Below.drew ?_ | refine below_alloc' ?_ _))⟩
  rw [if_neg k3]
  have k3' : (kind == 3) = false := by simpa using k3
  by_cases k2 : kind = 2
  · subst k2
    rw [if_pos rfl]
    clear e0 hset hP k3 k3'
    by_cases h1 : c = code
    · have h1' : (c == code) = true := by simpa using h1
      have e1 : (decide (c = code) || (fold && decide (foldF c bytes = foldF code bytes))) = true := by simp [h1]
      rw [e1]
      clear h1 e1
      go_enter Tryd.func28, Tryd.ntmps28
      go_wp2_with fail
      go_quiet (fail)
      go_wp2_with fail
      go_ret
      exact ⟨rfl, (by repeat (first | exact Below.refl _ _ | assumption | refine below_drewN ?_ _ | refine Below.drew ?_ | refine below_alloc' ?_ _))⟩
    · have h1' : (c == code) = false := by simpa using h1
      cases fold with
      | false =>
        have e1 : (decide (c = code) || (false && decide (foldF c bytes = foldF code bytes))) = false := by simp [h1]
        rw [e1]
        clear h1 e1
        go_enter Tryd.func28, Tryd.ntmps28
        go_wp2_with fail
        go_quiet (fail)
        go_wp2_with fail
        go_ret
        exact ⟨rfl, (by repeat (first | exact Below.refl _ _ | assumption | refine below_drewN ?_ _ | refine Below.drew ?_ | refine below_alloc' ?_ _))⟩
      | true =>
        have e1 : (decide (c = code) || (true && decide (foldF c bytes = foldF code bytes))) = decide (foldF c bytes = foldF code bytes) := by simp [h1]
        rw [e1]
        have f1 := fun w => Fold_calls c bytes w
        have f2 := fun w => Fold_calls code bytes w
        generalize foldF c bytes = x at *
        generalize foldF code bytes = y at *
        have F1 := hide f1; have F2 := hide f2
        clear h1 e1 f1 f2
        go_enter Tryd.func28, Tryd.ntmps28
        go_wp2_with fail
        go_quiet ((first | (go_at_call_of 43 (Value.int IntKind.i64 c); exact Calls.quiet_of_same (unhide F1 _)) | (go_at_call 43; exact Calls.quiet_of_same (unhide F2 _))))
        go_wp2_with fail
        go_ret
        refine ⟨ret_bool ?_, (by repeat (first | exact Below.refl _ _ | assumption | refine below_drewN ?_ _ | refine Below.drew ?_ | refine below_alloc' ?_ _))⟩
        rw [Bool.eq_iff_iff]; simp
  rw [if_neg k2]
  have k2' : (kind == 2) = false := by simpa using k2
  have hin := fun (w1 : World) (hb : Below w.heap.size w w1) => in_calls set c w1 (hP.below hb hP.lt) (hset.below hb) hc0 hc1
  obtain ⟨As, cs', rfl, -⟩ := hset
  generalize inF set c fold bytes = x at *
  have HIN := hide hin
  clear e0 k2 k3 hin hP
  go_enter Tryd.func28, Tryd.ntmps28
  go_wp2_with fail
  go_region_with (go_at_call 44; refine (unhide HIN _ (by repeat (first | exact Below.refl _ _ | assumption | refine below_drewN ?_ _ | refine Below.drew ?_ | refine below_alloc' ?_ _))).mono ?_; rintro e w1 ⟨rfl, hb1⟩; have g2 := (bcell hb1).1 w.heap.size 2 (by simp))
  all_goals
    go_wp2
    go_ret
    refine ⟨ret_bool ?_, ?_⟩
    · first | rfl | simp
    · exact below_then (by repeat (first | exact Below.refl _ _ | assumption | refine below_drewN ?_ _ | refine Below.drew ?_ | refine below_alloc' ?_ _)) hb1
end Go.Proofs.YtanmlgliibgpcaaDoor

/- Plain Lean: a string as its characters; the text that a pattern is looked for in. -/
namespace Thr

/-- What is known of a size and a code: from the walk's side. -/
structure Sized (s : ByteArray) (bytes : Bool) : Prop where
  at_ : ∀ i : Nat, i < s.size → 1 ≤ (nextF s i bytes).2 ∧ (nextF s i bytes).2 ≤ s.size - i ∧ 0 ≤ (nextF s i bytes).1 ∧ (nextF s i bytes).1 ≤ 1114367

def seg (s : ByteArray) (bytes : Bool) : Nat → Nat → List (Nat × Int)
  | 0, _ => []
  | f + 1, i => if i < s.size then (i, (nextF s i bytes).1) :: seg s bytes f (i + (nextF s i bytes).2.toNat) else []

def plOf (s : ByteArray) (l : List (Nat × Int)) (k : Nat) : Nat := match l[k]? with | some c => c.1 | none => s.size
def cdOf (l : List (Nat × Int)) (k : Nat) : Int := match l[k]? with | some c => c.2 | none => -1

theorem plOf_cons_succ (s : ByteArray) (c : Nat × Int) (l : List (Nat × Int)) (k : Nat) : plOf s (c :: l) (k + 1) = plOf s l k := by simp [plOf]
theorem cdOf_cons_succ (c : Nat × Int) (l : List (Nat × Int)) (k : Nat) : cdOf (c :: l) (k + 1) = cdOf l k := by simp [cdOf]

theorem seg_known {s : ByteArray} {bytes : Bool} (hs : Sized s bytes) : ∀ (f i : Nat), i ≤ s.size → s.size - i ≤ f →
    plOf s (seg s bytes f i) 0 = i ∧ ∀ k, k < (seg s bytes f i).length → plOf s (seg s bytes f i) k < plOf s (seg s bytes f i) (k + 1) ∧ plOf s (seg s bytes f i) (k + 1) ≤ s.size ∧
      nextF s (plOf s (seg s bytes f i) k) bytes = (cdOf (seg s bytes f i) k, (plOf s (seg s bytes f i) (k + 1) : Int) - plOf s (seg s bytes f i) k)
  | 0, i, hi, hf => by
    refine ⟨?_, fun k hk => ?_⟩
    · simp [seg, plOf]; omega
    · simp [seg] at hk
  | f + 1, i, hi, hf => by
    by_cases hlt : i < s.size
    · obtain ⟨a1, a2, a3, a4⟩ := hs.at_ i hlt
      obtain ⟨ih1, ih2⟩ := seg_known hs f (i + (nextF s i bytes).2.toNat) (by omega) (by omega)
      simp only [seg, if_pos hlt]
      refine ⟨by simp [plOf], fun k hk => ?_⟩
      cases k with
      | zero =>
        rw [plOf_cons_succ, ih1]
        refine ⟨by simp [plOf]; omega, by omega, ?_⟩
        have e1 : plOf s ((i, (nextF s i bytes).1) :: seg s bytes f (i + (nextF s i bytes).2.toNat)) 0 = i := by simp [plOf]
        have e2 : cdOf ((i, (nextF s i bytes).1) :: seg s bytes f (i + (nextF s i bytes).2.toNat)) 0 = (nextF s i bytes).1 := by simp [cdOf]
        rw [e1, e2]
        refine Prod.ext rfl ?_
        simp only; omega
      | succ k =>
        rw [plOf_cons_succ, plOf_cons_succ, cdOf_cons_succ]
        exact ih2 k (by simpa using hk)
    · simp only [seg, if_neg hlt]
      exact ⟨by simp [plOf]; omega, fun k hk => by simp at hk⟩

def chs (s : ByteArray) (bytes : Bool) : List (Nat × Int) := seg s bytes s.size 0
def nCh (s : ByteArray) (bytes : Bool) : Nat := (chs s bytes).length
/-- The place of a character's number (from 0 on); the end behind the last. -/
def place (s : ByteArray) (bytes : Bool) (k : Nat) : Nat := plOf s (chs s bytes) k
/-- Its code; -1: there is none. -/
def codeK (s : ByteArray) (bytes : Bool) (k : Nat) : Int := cdOf (chs s bytes) k
def aheadK (s : ByteArray) (bytes : Bool) : Nat → Int
  | 0 => -1
  | k + 1 => codeK s bytes k

section
variable {s : ByteArray} {bytes : Bool}
theorem place_zero (hs : Sized s bytes) : place s bytes 0 = 0 := (seg_known hs s.size 0 (by omega) (by omega)).1
theorem place_end {k : Nat} (hk : nCh s bytes ≤ k) : place s bytes k = s.size := by
  unfold place plOf
  rw [List.getElem?_eq_none (by unfold nCh at hk; exact hk)]
theorem code_end {k : Nat} (hk : nCh s bytes ≤ k) : codeK s bytes k = -1 := by
  unfold codeK cdOf
  rw [List.getElem?_eq_none (by unfold nCh at hk; exact hk)]
theorem place_step (hs : Sized s bytes) {k : Nat} (hk : k < nCh s bytes) : place s bytes k < place s bytes (k + 1) ∧ place s bytes (k + 1) ≤ s.size ∧
    nextF s (place s bytes k) bytes = (codeK s bytes k, (place s bytes (k + 1) : Int) - place s bytes k) := (seg_known hs s.size 0 (by omega) (by omega)).2 k hk
theorem place_le (hs : Sized s bytes) (k : Nat) : place s bytes k ≤ s.size := by
  by_cases hk : k < nCh s bytes
  · have := place_step hs hk; omega
  · rw [place_end (by omega)]; omega
theorem place_mono (hs : Sized s bytes) : ∀ {i j : Nat}, i < j → j ≤ nCh s bytes → place s bytes i < place s bytes j
  | i, j + 1, hij, hj => by
    have h1 := (place_step hs (k := j) (by omega)).1
    by_cases h : i = j
    · subst h; exact h1
    · have := place_mono hs (i := i) (j := j) (by omega) (by omega); omega
theorem place_inj (hs : Sized s bytes) {i j : Nat} (hi : i ≤ nCh s bytes) (hj : j ≤ nCh s bytes) (h : place s bytes i = place s bytes j) : i = j := by
  rcases Nat.lt_trichotomy i j with h1 | h1 | h1
  · have := place_mono hs h1 hj; omega
  · exact h1
  · have := place_mono hs h1 hi; omega
theorem code_range (hs : Sized s bytes) {k : Nat} (hk : k < nCh s bytes) : 0 ≤ codeK s bytes k ∧ codeK s bytes k ≤ 1114367 := by
  obtain ⟨h1, h2, h3⟩ := place_step hs hk
  have := hs.at_ (place s bytes k) (by omega)
  rw [h3] at this
  exact ⟨this.2.2.1, this.2.2.2⟩
theorem nCh_le (hs : Sized s bytes) : nCh s bytes ≤ s.size := by
  have : ∀ k, k ≤ nCh s bytes → k ≤ place s bytes k := by
    intro k
    induction k with
    | zero => intro _; omega
    | succ k ih => intro hk; have := ih (by omega); have := (place_step hs (k := k) (by omega)).1; omega
  have h := this _ (Nat.le_refl _)
  rw [place_end (Nat.le_refl _)] at h
  exact h
/-- The program's look at a place. -/
theorem codeAt_place (hs : Sized s bytes) (k : Nat) : codeAt s (place s bytes k) bytes = (codeK s bytes k, (place s bytes (k + 1) : Int) - place s bytes k) := by
  unfold codeAt
  by_cases hk : k < nCh s bytes
  · obtain ⟨h1, h2, h3⟩ := place_step hs hk
    rw [h3]
    rw [if_neg (by simp only; omega)]
  · have e1 : place s bytes k = s.size := place_end (by omega)
    have e2 : place s bytes (k + 1) = s.size := place_end (by omega)
    have e3 : codeK s bytes k = -1 := code_end (by omega)
    have e4 : nextF s (place s bytes k) bytes = (0, 0) := by unfold nextF; rw [if_pos (by omega)]
    rw [e4, if_pos rfl, e1, e2, e3]
    simp
end

/-- The text that a pattern is looked for in: by the numbers of its characters. -/
def txt (s : ByteArray) (fold bytes : Bool) : Txt :=
  { has := fun k => decide (k < nCh s bytes), nxt := fun k => k + 1, fit := fun t k => fitsF t (codeK s bytes k) fold bytes,
    hold := fun t k => checkF t.kind (aheadK s bytes k) (codeK s bytes k) }

theorem txt_fine (s : ByteArray) (fold bytes : Bool) : (txt s fold bytes).Fine (nCh s bytes) := ⟨fun i hi => by simp only [txt, decide_eq_true_eq] at hi ⊢; omega⟩
end Thr
