/- Walks: the next character, as the program and as the reference tell it. -/
import Derived.Test.YtanmlgliibgpcaaDoorStr
import Derived.Test.YtanmlgliibgpcaaDoorShelf
namespace Go.Proofs.YtanmlgliibgpcaaDoor
open Go.RowKit Thr
set_option linter.unusedVariables false

theorem get!_byt (s : ByteArray) (i : Nat) : ((s.get! i).toNat : Int) = byt s i := by
  unfold byt
  by_cases h : i < s.size
  · rw [dif_pos h]
    cases s with
    | mk d => simp [ByteArray.get!, ByteArray.getElem_eq_getElem_data, getElem!_pos d i h]
  · rw [dif_neg h]
    cases s with
    | mk d =>
      have : ¬ i < d.size := h
      simp [ByteArray.get!, this]
      rfl

/-- The size and the code, of the first four bytes. -/
def sizeN (n b0 b1 b2 b3 : Nat) : Nat × Nat :=
  if b0 < 128 then (1, b0)
  else if 194 ≤ b0 ∧ b0 ≤ 223 then (if 2 ≤ n ∧ 128 ≤ b1 ∧ b1 ≤ 191 then (2, b0 % 32 * 64 + (b1 - 128)) else (0, 0))
  else if 224 ≤ b0 ∧ b0 ≤ 239 then (if (3 ≤ n ∧ 128 ≤ b1 ∧ b1 ≤ 191 ∧ 128 ≤ b2 ∧ b2 ≤ 191) ∧ 2048 ≤ b0 % 16 * 4096 + (b1 - 128) * 64 + (b2 - 128) ∧ ¬ (55296 ≤ b0 % 16 * 4096 + (b1 - 128) * 64 + (b2 - 128) ∧ b0 % 16 * 4096 + (b1 - 128) * 64 + (b2 - 128) ≤ 57343) then (3, b0 % 16 * 4096 + (b1 - 128) * 64 + (b2 - 128)) else (0, 0))
  else if 240 ≤ b0 ∧ b0 ≤ 244 then (if (4 ≤ n ∧ 128 ≤ b1 ∧ b1 ≤ 191 ∧ 128 ≤ b2 ∧ b2 ≤ 191 ∧ 128 ≤ b3 ∧ b3 ≤ 191) ∧ 65536 ≤ b0 % 8 * 262144 + (b1 - 128) * 4096 + (b2 - 128) * 64 + (b3 - 128) ∧ b0 % 8 * 262144 + (b1 - 128) * 4096 + (b2 - 128) * 64 + (b3 - 128) ≤ 1114111 then (4, b0 % 8 * 262144 + (b1 - 128) * 4096 + (b2 - 128) * 64 + (b3 - 128)) else (0, 0))
  else (0, 0)

set_option maxRecDepth 100000 in
set_option maxHeartbeats 4000000 in
theorem decodeN_size (n b0 b1 b2 b3 : Nat) (hn : 1 ≤ n) (l0 : b0 < 256) (l1 : b1 < 256) (l2 : b2 < 256) (l3 : b3 < 256) :
    Lib.decodeN n b0 b1 b2 b3 = if (sizeN n b0 b1 b2 b3).1 = 0 then (65533, 1) else ((sizeN n b0 b1 b2 b3).2, (sizeN n b0 b1 b2 b3).1) := by
  unfold sizeN
  by_cases c1 : b0 < 128
  · rw [if_pos c1]
    simp only [Nat.succ_ne_zero, if_false]
    unfold Lib.decodeN
    rw [if_pos c1]
  rw [if_neg c1]
  by_cases c2 : 194 ≤ b0 ∧ b0 ≤ 223
  · rw [if_pos c2]
    by_cases q : 2 ≤ n ∧ 128 ≤ b1 ∧ b1 ≤ 191
    · rw [if_pos q]
      rw [if_neg (by simp)]
      (unfold Lib.decodeN; repeat' split) <;> first
          | rfl
          | (exfalso; omega)
          | (refine Prod.ext ?_ ?_ <;> simp only <;> omega)
    · rw [if_neg q]
      simp only [if_true]
      (unfold Lib.decodeN; repeat' split) <;> first
          | rfl
          | (exfalso; omega)
          | (refine Prod.ext ?_ ?_ <;> simp only <;> omega)
  rw [if_neg c2]
  by_cases c3 : 224 ≤ b0 ∧ b0 ≤ 239
  · rw [if_pos c3]
    by_cases q : (3 ≤ n ∧ 128 ≤ b1 ∧ b1 ≤ 191 ∧ 128 ≤ b2 ∧ b2 ≤ 191) ∧ 2048 ≤ b0 % 16 * 4096 + (b1 - 128) * 64 + (b2 - 128) ∧ ¬ (55296 ≤ b0 % 16 * 4096 + (b1 - 128) * 64 + (b2 - 128) ∧ b0 % 16 * 4096 + (b1 - 128) * 64 + (b2 - 128) ≤ 57343)
    · rw [if_pos q]
      rw [if_neg (by simp)]
      (unfold Lib.decodeN; repeat' split) <;> first
          | rfl
          | (exfalso; omega)
          | (refine Prod.ext ?_ ?_ <;> simp only <;> omega)
    · rw [if_neg q]
      simp only [if_true]
      (unfold Lib.decodeN; repeat' split) <;> first
          | rfl
          | (exfalso; omega)
          | (refine Prod.ext ?_ ?_ <;> simp only <;> omega)
  rw [if_neg c3]
  by_cases c4 : 240 ≤ b0 ∧ b0 ≤ 244
  · rw [if_pos c4]
    by_cases q : (4 ≤ n ∧ 128 ≤ b1 ∧ b1 ≤ 191 ∧ 128 ≤ b2 ∧ b2 ≤ 191 ∧ 128 ≤ b3 ∧ b3 ≤ 191) ∧ 65536 ≤ b0 % 8 * 262144 + (b1 - 128) * 4096 + (b2 - 128) * 64 + (b3 - 128) ∧ b0 % 8 * 262144 + (b1 - 128) * 4096 + (b2 - 128) * 64 + (b3 - 128) ≤ 1114111
    · rw [if_pos q]
      rw [if_neg (by simp)]
      (unfold Lib.decodeN; repeat' split) <;> first
          | rfl
          | (exfalso; omega)
          | (refine Prod.ext ?_ ?_ <;> simp only <;> omega)
    · rw [if_neg q]
      simp only [if_true]
      (unfold Lib.decodeN; repeat' split) <;> first
          | rfl
          | (exfalso; omega)
          | (refine Prod.ext ?_ ?_ <;> simp only <;> omega)
  rw [if_neg c4]
  simp only [if_true]
  (unfold Lib.decodeN; repeat' split) <;> first
      | rfl
      | (exfalso; omega)
      | (refine Prod.ext ?_ ?_ <;> simp only <;> omega)

set_option maxHeartbeats 4000000 in
theorem sizeF_size (s : ByteArray) (hs : 0 < s.size) : sizeF s = (((sizeN s.size (s.get! 0).toNat (s.get! 1).toNat (s.get! 2).toNat (s.get! 3).toNat).1 : Int), ((sizeN s.size (s.get! 0).toNat (s.get! 1).toNat (s.get! 2).toNat (s.get! 3).toNat).2 : Int)) := by
  have g0 := get!_byt s 0
  have g1 := get!_byt s 1
  have g2 := get!_byt s 2
  have g3 := get!_byt s 3
  unfold sizeF
  generalize (s.get! 0).toNat = b0 at *
  generalize (s.get! 1).toNat = b1 at *
  generalize (s.get! 2).toNat = b2 at *
  generalize (s.get! 3).toNat = b3 at *
  rw [← g0]
  unfold sizeN
  by_cases c1 : b0 < 128
  · rw [if_pos c1, if_pos (by omega)]; rfl
  rw [if_neg c1, if_neg (by omega)]
  by_cases c2 : 194 ≤ b0 ∧ b0 ≤ 223
  · have e0 : leadF (b0 : Int) = (2, (b0 : Int) % 32, 128) := by unfold leadF; rw [if_pos (by omega)]
    rw [if_pos c2, e0]
    by_cases hl : s.size < 2
    · rw [if_pos (.inr hl), if_neg (by omega)]; rfl
    rw [if_neg (by simp only; omega)]
    simp only [Nat.add_one_sub_one, tailF, ← g1]
    by_cases t1 : (b1 : Int) < 128 ∨ 191 < (b1 : Int)
    · simp only [if_pos t1]
      rw [if_neg (by omega)]; rfl
    simp only [if_neg t1]
    simp only [codeF]
    rw [if_neg (by omega), if_pos (by omega)]
    refine Prod.ext ?_ ?_ <;> simp only <;> omega
  rw [if_neg c2]
  by_cases c3 : 224 ≤ b0 ∧ b0 ≤ 239
  · have e0 : leadF (b0 : Int) = (3, (b0 : Int) % 16, 2048) := by unfold leadF; rw [if_neg (by omega), if_pos (by omega)]
    rw [if_pos c3, e0]
    by_cases hl : s.size < 3
    · rw [if_pos (.inr hl), if_neg (by omega)]; rfl
    rw [if_neg (by simp only; omega)]
    simp only [Nat.add_one_sub_one, tailF, ← g1, ← g2]
    by_cases t1 : (b1 : Int) < 128 ∨ 191 < (b1 : Int)
    · simp only [if_pos t1]
      rw [if_neg (by omega)]; rfl
    simp only [if_neg t1]
    by_cases t2 : (b2 : Int) < 128 ∨ 191 < (b2 : Int)
    · simp only [if_pos t2]
      rw [if_neg (by omega)]; rfl
    simp only [if_neg t2]
    simp only [codeF]
    by_cases q : 64 * (64 * ((b0 : Int) % 16) + (b1 : Int) - 128) + (b2 : Int) - 128 < 2048 ∨ 1114111 < 64 * (64 * ((b0 : Int) % 16) + (b1 : Int) - 128) + (b2 : Int) - 128 ∨ 55296 ≤ 64 * (64 * ((b0 : Int) % 16) + (b1 : Int) - 128) + (b2 : Int) - 128 ∧ 64 * (64 * ((b0 : Int) % 16) + (b1 : Int) - 128) + (b2 : Int) - 128 ≤ 57343
    · rw [if_pos q, if_neg (by omega)]; rfl
    · rw [if_neg q, if_pos (by omega)]
      refine Prod.ext ?_ ?_ <;> simp only <;> omega
  rw [if_neg c3]
  by_cases c4 : 240 ≤ b0 ∧ b0 ≤ 244
  · have e0 : leadF (b0 : Int) = (4, (b0 : Int) % 8, 65536) := by unfold leadF; rw [if_neg (by omega), if_neg (by omega), if_pos (by omega)]
    rw [if_pos c4, e0]
    by_cases hl : s.size < 4
    · rw [if_pos (.inr hl), if_neg (by omega)]; rfl
    rw [if_neg (by simp only; omega)]
    simp only [Nat.add_one_sub_one, tailF, ← g1, ← g2, ← g3]
    by_cases t1 : (b1 : Int) < 128 ∨ 191 < (b1 : Int)
    · simp only [if_pos t1]
      rw [if_neg (by omega)]; rfl
    simp only [if_neg t1]
    by_cases t2 : (b2 : Int) < 128 ∨ 191 < (b2 : Int)
    · simp only [if_pos t2]
      rw [if_neg (by omega)]; rfl
    simp only [if_neg t2]
    by_cases t3 : (b3 : Int) < 128 ∨ 191 < (b3 : Int)
    · simp only [if_pos t3]
      rw [if_neg (by omega)]; rfl
    simp only [if_neg t3]
    simp only [codeF]
    by_cases q : 64 * (64 * (64 * ((b0 : Int) % 8) + (b1 : Int) - 128) + (b2 : Int) - 128) + (b3 : Int) - 128 < 65536 ∨ 1114111 < 64 * (64 * (64 * ((b0 : Int) % 8) + (b1 : Int) - 128) + (b2 : Int) - 128) + (b3 : Int) - 128 ∨ 55296 ≤ 64 * (64 * (64 * ((b0 : Int) % 8) + (b1 : Int) - 128) + (b2 : Int) - 128) + (b3 : Int) - 128 ∧ 64 * (64 * (64 * ((b0 : Int) % 8) + (b1 : Int) - 128) + (b2 : Int) - 128) + (b3 : Int) - 128 ≤ 57343
    · rw [if_pos q, if_neg (by omega)]; rfl
    · rw [if_neg q, if_pos (by omega)]
      refine Prod.ext ?_ ?_ <;> simp only <;> omega
  have e0 : leadF (b0 : Int) = (0, 0, 0) := by unfold leadF; rw [if_neg (by omega), if_neg (by omega), if_neg (by omega)]
  rw [if_neg c4, e0, if_pos (.inl rfl)]
  rfl

/-- Go's decoder tells what the definition tells. -/
theorem decode_size (s : ByteArray) (hs : 0 < s.size) : Lib.decodeGo s = if (sizeF s).1 = 0 then (65533, 1) else ((sizeF s).2.toNat, (sizeF s).1.toNat) := by
  unfold Lib.decodeGo
  rw [if_neg (by omega), Lib.decode_at, sizeF_size s hs]
  simp only [Nat.zero_add, Nat.sub_zero, Int.toNat_natCast]
  rw [decodeN_size _ _ _ _ _ hs (UInt8.toNat_lt _) (UInt8.toNat_lt _) (UInt8.toNat_lt _) (UInt8.toNat_lt _)]
  simp only [Int.natCast_eq_zero]
/-- A code of several bytes, or of one: what is known of it. -/
theorem sizeF_known (s : ByteArray) (hs : 0 < s.size) : 0 ≤ (sizeF s).1 ∧ (sizeF s).1 ≤ s.size ∧ (sizeF s).1 ≤ 4 ∧ 0 ≤ (sizeF s).2 ∧ (sizeF s).2 ≤ 1114111 ∧ ((sizeF s).1 = 1 → (sizeF s).2 < 128) ∧ ((sizeF s).2 < 128 ∧ (sizeF s).1 ≠ 0 → (sizeF s).2 = byt s 0 ∧ (sizeF s).1 = 1) := by
  have l0 : (s.get! 0).toNat < 256 := UInt8.toNat_lt _
  have l1 : (s.get! 1).toNat < 256 := UInt8.toNat_lt _
  have l2 : (s.get! 2).toNat < 256 := UInt8.toNat_lt _
  have l3 : (s.get! 3).toNat < 256 := UInt8.toNat_lt _
  rw [sizeF_size s hs, ← get!_byt]
  generalize (s.get! 0).toNat = b0 at *
  generalize (s.get! 1).toNat = b1 at *
  generalize (s.get! 2).toNat = b2 at *
  generalize (s.get! 3).toNat = b3 at *
  unfold sizeN
  repeat' split
  all_goals (refine ⟨?_, ?_, ?_, ?_, ?_, ?_, ?_⟩ <;> simp <;> omega)
end Go.Proofs.YtanmlgliibgpcaaDoor
