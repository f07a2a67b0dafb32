/- Plain Lean: what a pattern means: one answer for the descent and for the stack. -/
import Derived.Test.YtanmlgliibgpcaaDoorPureSeg
import Derived.Test.YtanmlgliibgpcaaDoorPureSets
import Derived.Test.YtanmlgliibgpcaaDoorPureValid
namespace Thr

def leaf (k : Int) : Rx := .mk k 0 false [] 0 0 []
def chrN (c : Int) : Rx := .mk 2 c false [] 0 0 []
def setN (neg : Bool) (set : List (Int × Int)) : Rx := .mk 4 0 neg set 0 0 []
def catN (ks : List Rx) : Rx := .mk 5 0 false [] 0 0 ks
def altN (ks : List Rx) : Rx := .mk 6 0 false [] 0 0 ks
def repN (lo hi : Int) (k : Rx) : Rx := .mk 7 0 false [] lo hi [k]
def joinF : List Rx → Rx
  | [] => leaf 1
  | [x] => x
  | x :: y :: l => catN (x :: y :: l)
def oneF : List Rx → Rx
  | [x] => x
  | l => altN l
def shutF (alts cat : List Rx) : Rx := oneF (alts ++ [joinF cat])

def isDig (c : Int) : Bool := decide (48 ≤ c ∧ c ≤ 57)
/-- The number at a place, and where it ends. -/
def digF (s : ByteArray) : Nat → Nat → Int → Int × Nat
  | 0, i, v => (v, i)
  | f + 1, i, v => if i < s.size ∧ isDig (byt s i) = true then digF s f (i + 1) (min (10 * v + (byt s i - 48)) 1000) else (v, i)
/-- What stands behind a '{': its numbers, where it ends. -/
def itvF (s : ByteArray) (i : Nat) : Option (Int × Int × Nat) :=
  if (digF s s.size (i + 1) 0).2 = i + 1 ∨ s.size ≤ (digF s s.size (i + 1) 0).2 then none
  else if byt s (digF s s.size (i + 1) 0).2 = 44 then
    if (digF s s.size ((digF s s.size (i + 1) 0).2 + 1) 0).2 < s.size ∧ byt s (digF s s.size ((digF s s.size (i + 1) 0).2 + 1) 0).2 = 125 then
      some ((digF s s.size (i + 1) 0).1, if (digF s s.size ((digF s s.size (i + 1) 0).2 + 1) 0).2 = (digF s s.size (i + 1) 0).2 + 1 then -1 else (digF s s.size ((digF s s.size (i + 1) 0).2 + 1) 0).1, (digF s s.size ((digF s s.size (i + 1) 0).2 + 1) 0).2 + 1)
    else none
  else if byt s (digF s s.size (i + 1) 0).2 = 125 then some ((digF s s.size (i + 1) 0).1, (digF s s.size (i + 1) 0).1, (digF s s.size (i + 1) 0).2 + 1)
  else none

inductive Again where
  | no
  | fault (e : Int)
  | yes (lo hi : Int) (k : Nat)
def againF (s : ByteArray) (i : Nat) : Again :=
  if byt s i = 42 then .yes 0 (-1) (i + 1)
  else if byt s i = 43 then .yes 1 (-1) (i + 1)
  else if byt s i = 63 then .yes 0 1 (i + 1)
  else if byt s i = 123 then
    match itvF s i with
    | none => .no
    | some (lo, hi, k) => if 30 < lo ∨ 30 < hi then .fault 91 else if 0 ≤ hi ∧ hi < lo then .fault 90 else .yes lo hi k
  else .no

def isLet (c : Int) : Bool := decide (48 ≤ c ∧ c ≤ 57 ∨ 97 ≤ c ∧ c ≤ 122 ∨ 65 ≤ c ∧ c ≤ 90)
/-- What a character behind a backslash stands for. -/
def singleF (c : Int) : Option Int :=
  if c = 110 then some 10 else if c = 116 then some 9 else if c = 114 then some 13 else if c = 102 then some 12 else if c = 118 then some 11 else if c = 97 then some 7 else if c = 98 then some 8
  else if isLet c = true then none else some c

def wordS : List (Int × Int) := [(48, 57), (65, 90), (95, 95), (97, 122)]
def spaceS : List (Int × Int) := [(9, 13), (32, 32)]
def escF (s : ByteArray) (i : Nat) (bytes : Bool) : Option (Rx × Nat) :=
  if (nextF s (i + 1) bytes).2 = 0 then none
  else
    let k := i + 1 + (nextF s (i + 1) bytes).2.toNat
    let c := (nextF s (i + 1) bytes).1
    if c = 121 then some (leaf 10, k) else if c = 66 then some (leaf 11, k) else if c = 60 then some (leaf 12, k) else if c = 62 then some (leaf 13, k) else if c = 96 then some (leaf 8, k) else if c = 39 then some (leaf 9, k)
    else if c = 119 ∨ c = 87 then some (setN (c = 87) wordS, k) else if c = 115 ∨ c = 83 then some (setN (c = 83) spaceS, k)
    else match singleF c with | none => none | some x => some (chrN x, k)

/-- A text's bytes, as they stand in the source. -/
def lit (l : List UInt8) : ByteArray := ⟨l.toArray⟩
def classTab : List (ByteArray × List (Int × Int)) :=
  [(lit [97, 108, 112, 104, 97], [(65, 90), (97, 122)]), (lit [100, 105, 103, 105, 116], [(48, 57)]), (lit [97, 108, 110, 117, 109], [(48, 57), (65, 90), (97, 122)]), (lit [117, 112, 112, 101, 114], [(65, 90)]),
   (lit [108, 111, 119, 101, 114], [(97, 122)]), (lit [115, 112, 97, 99, 101], [(9, 13), (32, 32)]), (lit [98, 108, 97, 110, 107], [(9, 9), (32, 32)]), (lit [112, 117, 110, 99, 116], [(33, 47), (58, 64), (91, 96), (123, 126)]),
   (lit [112, 114, 105, 110, 116], [(32, 126)]), (lit [103, 114, 97, 112, 104], [(33, 126)]), (lit [99, 110, 116, 114, 108], [(0, 31), (127, 127)]), (lit [120, 100, 105, 103, 105, 116], [(48, 57), (65, 70), (97, 102)])]
def lookF (n : ByteArray) : List (ByteArray × List (Int × Int)) → Option (List (Int × Int))
  | [] => none
  | x :: l => if n = x.1 then some x.2 else lookF n l
def classF (n : ByteArray) : Option (List (Int × Int)) := lookF n classTab

/-- The first ":]" from a place on. -/
def shutAt (s : ByteArray) : Nat → Nat → Option Nat
  | 0, _ => none
  | f + 1, k => if s.size ≤ k + 1 then none else if byt s k = 58 ∧ byt s (k + 1) = 93 then some k else shutAt s f (k + 1)
def namedF (s : ByteArray) (i : Nat) : Option (List (Int × Int) × Nat) :=
  match shutAt s s.size (i + 2) with
  | none => none
  | some k => match classF (s.extract (i + 2) k) with | none => none | some l => some (l, k + 2)
def memberF (s : ByteArray) (i : Nat) (bytes : Bool) : Option (Int × Nat) :=
  if (nextF s i bytes).2 = 0 then none
  else if (nextF s i bytes).1 ≠ 92 then some ((nextF s i bytes).1, i + (nextF s i bytes).2.toNat)
  else if (nextF s (i + 1) bytes).2 = 0 then none
  else match singleF (nextF s (i + 1) bytes).1 with | none => none | some x => some (x, i + 1 + (nextF s (i + 1) bytes).2.toNat)
def two (s : ByteArray) (i : Nat) (a b : Int) : Bool := decide (i + 1 < s.size ∧ byt s i = a ∧ byt s (i + 1) = b)
def one (s : ByteArray) (i : Nat) (a : Int) : Bool := decide (i < s.size ∧ byt s i = a)
/-- What a set's members are, one behind the other, and where it ends. -/
def setsF (s : ByteArray) (bytes : Bool) : Nat → Nat → Bool → List (Int × Int) → Option (List (Int × Int) × Nat)
  | 0, _, _, _ => none
  | f + 1, i, first, acc =>
    if first = false ∧ one s i 93 = true then some (acc, i + 1)
    else if two s i 91 58 = true then
      match namedF s i with
      | none => none
      | some (l, k) => setsF s bytes f k false (acc ++ l)
    else match memberF s i bytes with
      | none => none
      | some (lo, k) =>
        if one s k 45 = true ∧ k + 1 < s.size ∧ byt s (k + 1) ≠ 93 then
          if two s (k + 1) 91 58 = true then none
          else match memberF s (k + 1) bytes with
            | none => none
            | some (hi, k') => if hi < lo then none else setsF s bytes f k' false (acc ++ [(lo, hi)])
        else setsF s bytes f k false (acc ++ [(lo, lo)])
def setF (s : ByteArray) (i : Nat) (bytes : Bool) : Option (Rx × Nat) :=
  match setsF s bytes (s.size + 1) (if one s (i + 1) 94 = true then i + 2 else i + 1) true [] with
  | none => none
  | some (l, k) => some (setN (one s (i + 1) 94) (l.foldl withR []), k)

def plainF (c : Int) : Rx := if c = 46 then leaf 3 else if c = 94 then leaf 8 else if c = 36 then leaf 9 else chrN c

/-- How a group ends: in a fault, or where nothing of it goes on. -/
inductive Res where
  | fault (i : Nat) (e : Int)
  | stop (alts cat : List Rx) (i : Nat)

def initL : List Rx → List Rx
  | [] => []
  | [_] => []
  | x :: y :: l => x :: initL (y :: l)
def lastL : List Rx → Rx
  | [] => leaf 1
  | [x] => x
  | _ :: y :: l => lastL (y :: l)

/-- A group from a place on, with what it has so far. -/
def innerF (s : ByteArray) (bytes : Bool) : Nat → Nat → List Rx → List Rx → Nat → Option Res
  | 0, _, _, _, _ => none
  | f + 1, nest, alts, cat, i =>
    if s.size ≤ i then some (.stop alts cat i)
    else match (if cat = [] then Again.no else againF s i) with
      | .fault e => some (.fault i e)
      | .yes lo hi k => innerF s bytes f nest alts (initL cat ++ [repN lo hi (lastL cat)]) k
      | .no =>
        if byt s i = 124 then innerF s bytes f nest (alts ++ [joinF cat]) [] (i + 1)
        else if byt s i = 40 then
          if nest = 40 then some (.fault i 91)
          else match innerF s bytes f (nest + 1) [] [] (i + 1) with
            | none => none
            | some (.fault j e) => some (.fault j e)
            | some (.stop alts' cat' j) => if j < s.size then innerF s bytes f nest alts (cat ++ [shutF alts' cat']) (j + 1) else some (.fault i 90)
        else if byt s i = 41 then if nest = 0 then some (.fault i 90) else some (.stop alts cat i)
        else if byt s i = 91 then match setF s i bytes with | none => some (.fault i 90) | some (x, k) => innerF s bytes f nest alts (cat ++ [x]) k
        else if byt s i = 92 then match escF s i bytes with | none => some (.fault i 90) | some (x, k) => innerF s bytes f nest alts (cat ++ [x]) k
        else innerF s bytes f nest alts (cat ++ [plainF (nextF s i bytes).1]) (i + (nextF s i bytes).2.toNat)

/-! ### It ends -/
theorem dig_le (s : ByteArray) : ∀ (f i : Nat) (v : Int), i ≤ (digF s f i v).2 ∧ ((digF s f i v).2 ≤ s.size ∨ (digF s f i v).2 = i)
  | 0, i, v => by simp [digF]
  | f + 1, i, v => by
    simp only [digF]
    split
    · have := dig_le s f (i + 1) (min (10 * v + (byt s i - 48)) 1000)
      omega
    · simp
theorem itv_le {s : ByteArray} {i : Nat} {lo hi : Int} {k : Nat} (h : itvF s i = some (lo, hi, k)) : i < k ∧ k ≤ s.size := by
  have h1 := dig_le s s.size (i + 1) 0
  have h2 := dig_le s s.size ((digF s s.size (i + 1) 0).2 + 1) 0
  unfold itvF at h
  split at h
  · cases h
  · split at h
    · split at h
      · simp only [Option.some.injEq, Prod.mk.injEq] at h
        omega
      · cases h
    · split at h
      · simp only [Option.some.injEq, Prod.mk.injEq] at h
        omega
      · cases h
theorem again_le {s : ByteArray} {i : Nat} {lo hi : Int} {k : Nat} (hi0 : i < s.size) (h : againF s i = .yes lo hi k) : i < k ∧ k ≤ s.size := by
  unfold againF at h
  split at h
  · injection h; omega
  split at h
  · injection h; omega
  split at h
  · injection h; omega
  split at h
  · split at h
    · cases h
    · rename_i hit
      have := itv_le hit
      split at h
      · cases h
      · split at h
        · cases h
        · injection h; omega
  · cases h
theorem next_le {s : ByteArray} {i : Nat} {bytes : Bool} (hs : Sized s bytes) : 0 ≤ (nextF s i bytes).2 ∧ (i < s.size → 1 ≤ (nextF s i bytes).2 ∧ i + (nextF s i bytes).2.toNat ≤ s.size) ∧ (s.size ≤ i → (nextF s i bytes).2 = 0) := by
  rcases Nat.lt_or_ge i s.size with h | h
  · have := hs.at_ i h
    exact ⟨by omega, fun _ => by omega, fun h' => by omega⟩
  · have : nextF s i bytes = (0, 0) := by unfold nextF; rw [if_pos (by omega)]
    rw [this]
    exact ⟨by simp, fun h' => by omega, fun _ => rfl⟩
theorem esc_le {s : ByteArray} {i : Nat} {bytes : Bool} (hs : Sized s bytes) {x : Rx} {k : Nat} (h : escF s i bytes = some (x, k)) : i < k ∧ k ≤ s.size := by
  have hn := next_le (i := i + 1) hs
  have hc : ((i + 1 : Nat) : Int) = (i : Int) + 1 := by omega
  rw [hc] at hn
  unfold escF at h
  split at h
  · cases h
  · rename_i h0
    have hi : i + 1 < s.size := by
      rcases Nat.lt_or_ge (i + 1) s.size with h | h
      · exact h
      · exact absurd (hn.2.2 h) h0
    have hk := hn.2.1 hi
    have hfin : ∀ (y : Rx), some (y, i + 1 + (nextF s (i + 1) bytes).2.toNat) = some (x, k) → i < k ∧ k ≤ s.size := by
      intro y e
      simp only [Option.some.injEq, Prod.mk.injEq] at e
      omega
    simp only at h
    repeat' split at h
    all_goals first | exact hfin _ h | cases h
theorem shutAt_le {s : ByteArray} : ∀ (f k j : Nat), shutAt s f k = some j → k ≤ j ∧ j + 1 < s.size
  | 0, k, j, h => by simp [shutAt] at h
  | f + 1, k, j, h => by
    simp only [shutAt] at h
    split at h
    · cases h
    · split at h
      · injection h; omega
      · have := shutAt_le f (k + 1) j h
        omega
theorem named_le {s : ByteArray} {i k : Nat} {l : List (Int × Int)} (h : namedF s i = some (l, k)) : i < k ∧ k ≤ s.size := by
  unfold namedF at h
  split at h
  · cases h
  · rename_i hk
    have := shutAt_le _ _ _ hk
    split at h
    · cases h
    · simp only [Option.some.injEq, Prod.mk.injEq] at h
      omega
theorem member_le {s : ByteArray} {i k : Nat} {bytes : Bool} (hs : Sized s bytes) {x : Int} (h : memberF s i bytes = some (x, k)) : i < k ∧ k ≤ s.size := by
  have h1 := next_le (i := i) hs
  have h2 := next_le (i := i + 1) hs
  have hc : ((i + 1 : Nat) : Int) = (i : Int) + 1 := by omega
  rw [hc] at h2
  unfold memberF at h
  split at h
  · cases h
  · rename_i h0
    have hi : i < s.size := by
      rcases Nat.lt_or_ge i s.size with h | h
      · exact h
      · exact absurd (h1.2.2 h) h0
    split at h
    · simp only [Option.some.injEq, Prod.mk.injEq] at h
      have := h1.2.1 hi
      omega
    · split at h
      · cases h
      · rename_i h0'
        have hi' : i + 1 < s.size := by
          rcases Nat.lt_or_ge (i + 1) s.size with h | h
          · exact h
          · exact absurd (h2.2.2 h) h0'
        split at h
        · cases h
        · simp only [Option.some.injEq, Prod.mk.injEq] at h
          have := h2.2.1 hi'
          omega
theorem sets_le {s : ByteArray} {bytes : Bool} (hs : Sized s bytes) : ∀ (f i : Nat) (first : Bool) (acc : List (Int × Int)) (l : List (Int × Int)) (k : Nat), setsF s bytes f i first acc = some (l, k) → i < k ∧ k ≤ s.size
  | 0, i, first, acc, l, k, h => by simp [setsF] at h
  | f + 1, i, first, acc, l, k, h => by
    simp only [setsF] at h
    split at h
    · rename_i h1
      simp only [Option.some.injEq, Prod.mk.injEq] at h
      have : i < s.size := by have := h1.2; simp [one] at this; exact this.1
      omega
    · split at h
      · split at h
        · cases h
        · rename_i hn
          have := named_le hn
          have := sets_le hs f _ _ _ _ _ h
          omega
      · split at h
        · cases h
        · rename_i hm
          have h1 := member_le hs hm
          split at h
          · split at h
            · cases h
            · split at h
              · cases h
              · rename_i hm2
                have h2 := member_le hs hm2
                split at h
                · cases h
                · have := sets_le hs f _ _ _ _ _ h
                  omega
          · have := sets_le hs f _ _ _ _ _ h
            omega
theorem set_le {s : ByteArray} {i k : Nat} {bytes : Bool} (hs : Sized s bytes) {x : Rx} (h : setF s i bytes = some (x, k)) : i < k ∧ k ≤ s.size := by
  unfold setF at h
  split at h
  · cases h
  · rename_i hk
    have := sets_le hs _ _ _ _ _ _ hk
    simp only [Option.some.injEq, Prod.mk.injEq] at h
    split at this <;> omega
theorem inner_ends {s : ByteArray} {bytes : Bool} (hs : Sized s bytes) : ∀ (f nest : Nat) (alts cat : List Rx) (i : Nat), s.size - i < f → i ≤ s.size →
    ∃ r, innerF s bytes f nest alts cat i = some r ∧ ∀ a c j, r = .stop a c j → i ≤ j ∧ j ≤ s.size ∧ (j < s.size → byt s j = 41 ∧ 0 < nest)
  | 0, nest, alts, cat, i, h, hi => by omega
  | f + 1, nest, alts, cat, i, h, hi => by
    have go : ∀ (nest' : Nat) (alts' cat' : List Rx) (k : Nat), i < k → k ≤ s.size → ∃ r, innerF s bytes f nest' alts' cat' k = some r ∧ ∀ a c j, r = .stop a c j → i ≤ j ∧ j ≤ s.size ∧ (j < s.size → byt s j = 41 ∧ 0 < nest') := by
      intro nest' alts' cat' k h1 h2
      obtain ⟨r, hr, hp⟩ := inner_ends hs f nest' alts' cat' k (by omega) h2
      exact ⟨r, hr, fun a c j e => by have := hp a c j e; exact ⟨by omega, this.2⟩⟩
    simp only [innerF]
    by_cases hge : s.size ≤ i
    · rw [if_pos hge]
      exact ⟨_, rfl, fun a c j e => by injection e; omega⟩
    rw [if_neg hge]
    have hlt : i < s.size := by omega
    have hn := next_le (i := i) hs
    generalize hag : (if cat = [] then Again.no else againF s i) = ag
    cases ag with
    | fault e => exact ⟨_, rfl, fun a c j e => by cases e⟩
    | yes lo hi' k =>
      have hk : i < k ∧ k ≤ s.size := by
        split at hag
        · cases hag
        · exact again_le hlt hag
      exact go _ _ _ _ hk.1 hk.2
    | no =>
      simp only
      split
      · exact go _ _ _ _ (by omega) (by omega)
      split
      · split
        · exact ⟨_, rfl, fun a c j e => by cases e⟩
        · obtain ⟨r, hr, hp⟩ := go (nest + 1) [] [] (i + 1) (by omega) (by omega)
          rw [hr]
          cases r with
          | fault j e => exact ⟨_, rfl, fun a c j e => by cases e⟩
          | stop a c j =>
            have := hp a c j rfl
            simp only
            split
            · exact go _ _ _ _ (by omega) (by omega)
            · exact ⟨_, rfl, fun a c j e => by cases e⟩
      split
      · split
        · exact ⟨_, rfl, fun a c j e => by cases e⟩
        · rename_i h41 hnest
          exact ⟨_, rfl, fun a c j e => by injection e with _ _ e; subst e; exact ⟨by omega, by omega, fun _ => ⟨h41, by omega⟩⟩⟩
      split
      · split
        · exact ⟨_, rfl, fun a c j e => by cases e⟩
        · rename_i hx
          have := set_le hs hx
          exact go _ _ _ _ this.1 this.2
      split
      · split
        · exact ⟨_, rfl, fun a c j e => by cases e⟩
        · rename_i hx
          have := esc_le hs hx
          exact go _ _ _ _ this.1 this.2
      · have := hn.2.1 hlt
        exact go _ _ _ _ (by omega) (by omega)

/-- The answer: the tree, or where the fault is. -/
inductive Ans where
  | fault (i : Nat) (e : Int)
  | tree (t : Rx)
def topF : Res → Ans
  | .fault i e => .fault i e
  | .stop alts cat _ => if 200 < weightF (shutF alts cat) then .fault 0 91 else .tree (shutF alts cat)
def parseF (s : ByteArray) (bytes : Bool) : Ans :=
  if 1024 < s.size then .fault 0 3
  else match innerF s bytes (s.size + 1) 0 [] [] 0 with
    | none => .fault 0 0
    | some r => topF r
end Thr
