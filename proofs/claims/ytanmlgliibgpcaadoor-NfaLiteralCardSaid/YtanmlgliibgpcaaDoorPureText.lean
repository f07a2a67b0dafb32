/- Plain Lean: characters of a string: their codes and sizes. -/
namespace Thr

/-- The byte at a place; 0 beyond the end. -/
def byt (s : ByteArray) (i : Nat) : Int := if h : i < s.size then ((s[i]'h).toNat : Int) else 0
theorem byt_at {s : ByteArray} {i : Nat} (h : i < s.size) : ((s[i]'h).toNat : Int) = byt s i := by simp [byt, h]
theorem byt_range (s : ByteArray) (i : Nat) : 0 ≤ byt s i ∧ byt s i ≤ 255 := by
  unfold byt
  split
  · rename_i h
    have := (s[i]'h).toNat_lt
    omega
  · omega
theorem byt_extract {s : ByteArray} {a i : Nat} : byt (s.extract a s.size) i = byt s (a + i) := by
  unfold byt
  by_cases h : a + i < s.size
  · have h' : i < (s.extract a s.size).size := by simp [ByteArray.size_extract]; omega
    rw [dif_pos h, dif_pos h']
    simp [ByteArray.getElem_extract]
  · have h' : ¬ i < (s.extract a s.size).size := by simp [ByteArray.size_extract]; omega
    rw [dif_neg h, dif_neg h']

/-- k bytes that go on an encoding, from place i on, r so far. -/
def tailF (s : ByteArray) : Nat → Nat → Int → Option Int
  | 0, _, r => some r
  | k + 1, i, r => if byt s i < 128 ∨ 191 < byt s i then none else tailF s k (i + 1) (64 * r + byt s i - 128)

/-- Of a byte that begins an encoding of several: how many, its own part of the code, the least code. -/
def leadF (b : Int) : Nat × Int × Int :=
  if 194 ≤ b ∧ b ≤ 223 then (2, b % 32, 128) else if 224 ≤ b ∧ b ≤ 239 then (3, b % 16, 2048) else if 240 ≤ b ∧ b ≤ 244 then (4, b % 8, 65536) else (0, 0, 0)
def codeF (n : Int) (least : Int) (o : Option Int) : Int × Int :=
  match o with
  | none => (0, 0)
  | some r => if r < least ∨ 1114111 < r ∨ 55296 ≤ r ∧ r ≤ 57343 then (0, 0) else (n, r)

/-- How many bytes an encoding has with which a string begins; 0: none does. And its code. -/
def sizeF (s : ByteArray) : Int × Int :=
  if byt s 0 < 128 then (1, byt s 0)
  else if (leadF (byt s 0)).1 = 0 ∨ s.size < (leadF (byt s 0)).1 then (0, 0)
  else codeF (leadF (byt s 0)).1 (leadF (byt s 0)).2.2 (tailF s ((leadF (byt s 0)).1 - 1) 1 (leadF (byt s 0)).2.1)

/-- The code at a place, and how many bytes it has. -/
def nextF (s : ByteArray) (i : Int) (bytes : Bool) : Int × Int :=
  if i < 0 ∨ (s.size : Int) ≤ i then (0, 0)
  else if bytes = true then (byt s i.toNat, 1)
  else if (sizeF (s.extract i.toNat s.size)).1 = 0 then (1114112 + byt s i.toNat, 1)
  else ((sizeF (s.extract i.toNat s.size)).2, (sizeF (s.extract i.toNat s.size)).1)
end Thr
