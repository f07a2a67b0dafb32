/- NfaChoice returns true of every two texts, every string and every place: no condition beyond the statement's own (a part of its proof). -/
import Derived.Test.YtanmlgliibgpcaaDoorKc06
import Derived.Test.YtanmlgliibgpcaaDoorKc03
import Derived.Test.YtanmlgliibgpcaaDoorRows
import Derived.Lib.LaidIn
import Derived.Lib.LaidU8T
import Derived.Lib.SmallJoins
import Derived.Deep.DeepHandedRow
import Derived.Deep.DeepWitnessRowRef
import Derived.ProofKit
import Derived.SizedLaws
import Derived.PinnedBridge
import Derived.OpenShut
import Derived.Test.YtanmlgliibgpcaaDoorTie
import Derived.Test.YtanmlgliibgpcaaDoorCards
import Derived.SevenTiedAt

/- The walks of ready and fixed (for a seat without strings.Index; XLawLit holds them too). -/
namespace Go.Proofs.YtanmlgliibgpcaaDoor
open Go.RowKit Thr
set_option linter.unusedVariables false
set_option linter.unusedSimpArgs false

set_option maxRecDepth 100000 in
set_option maxHeartbeats 16000000 in
theorem ready_good (s : ByteArray) (fold bytes : Bool) (t : Rx) (w : World) (hp : parseF s bytes = .tree t) (hG : Glob w) (hm : s.size ≤ 9000000000000000000) :
    Calls Tryd.prog 11 #[.string s, .agg #[.bool fold, .bool bytes]] w fun e w' => ∃ bp, e = .returned (.pointer (some ⟨bp, 0, none⟩)) ∧ Below w.heap.size w w' ∧ ProgAt w'.heap.size w' bp fold bytes (compiled t).2 (compiled t).1 := by
  have hgood := parse_good (sized_all s bytes) hp
  have hv : validTop t = true := by unfold validTop; simp [hgood.1, hgood.2]
  have hpc := fun W (h : Below w.heap.size w W) => Parse_calls s bytes W (hG.below h) hm
  simp only [hp, ParsePost] at hpc
  have hcm := fun (cs : List Value) (W : World) (ok : Nat → Prop) (h : TreeAt ok W t cs) => Compile_good t cs fold bytes W h hv
  have HPC := hide hpc; have HCM := hide hcm
  clear hpc hcm hp hG hgood hv
  go_enter Tryd.func11, Tryd.ntmps11
  go_wp2_with fail
  refine (unhide HPC _ (by repeat (first | exact Below.refl _ _ | assumption | refine below_drewN ?_ _ | refine Below.drew ?_ | refine below_alloc' ?_ _))).mono ?_
  rintro e w1 ⟨cs, rfl, ht, hb1⟩
  obtain ⟨k1, k2, k3, As, ls, cs', k5, k6, A, lk, cc, rfl⟩ := ht.form
  have d0 := ((bcell hb1).1 w.heap.size 0 (by simp)).trans (show _ = some (.bool fold) by go_simp)
  have d1 := ((bcell hb1).1 w.heap.size 1 (by simp)).trans (show _ = some (.bool bytes) by go_simp)
  have hz1 : w.heap.size < w1.heap.size := by have := hb1.size; simp at this; omega
  have HB1 := hide (below_then (w := w) (by repeat (first | exact Below.refl _ _ | assumption | refine below_drewN ?_ _ | refine Below.drew ?_ | refine below_alloc' ?_ _)) hb1)
  have HT := hide (ht.below ((Below.refl w1.heap.size w1).alloc (Nat.le_refl _) (.cells #[.int .i64 k1, .int .i64 k2, .bool k3, .slice As ls cs', .int .i64 k5, .int .i64 k6, .slice A lk cc] 26)))
  clear ht hb1
  go_wp2_with fail
  refine (unhide HCM _ _ _ (unhide HT)).mono ?_
  rintro e w2 ⟨bp, rfl, hb2, hbp, hpr⟩
  go_wp2_with fail
  go_ret
  exact ⟨bp, rfl, below_then (unhide HB1) (below_then ((Below.refl w1.heap.size w1).alloc (Nat.le_refl _) _) hb2), hpr⟩

theorem fixed_first_val : foundVal (place fixedS false) (some (1, 3)) = .tuple #[.int .i64 1, .int .i64 3, .bool true] := by
  simp [foundVal, fixed_place]
theorem fixed_second_val : foundVal (place fixedS false) (some (2, 5)) = .tuple #[.int .i64 2, .int .i64 5, .bool true] := by
  simp [foundVal, fixed_place]
set_option maxRecDepth 100000 in
set_option maxHeartbeats 16000000 in
theorem fixed_calls (w : World) (hG : Glob w) : Calls Tryd.prog 6 #[] w fun e w' => e = .returned (.bool true) ∧ Below w.heap.size w w' := by
  have hr := ready_good fixedP false false fixedT w fixed_parse hG (by decide)
  have hf := fun (W : World) (bp N : Nat) (hP : ProgAt N W bp false false (compiled fixedT).2 (compiled fixedT).1) (hN : N ≤ W.heap.size) (hb : Below w.heap.size w W) => Find_calls fixed_makes fixedS 0 (some (1, 3)) W hP hN (hG.below hb).tabs (by decide) (by omega) fixed_a
  have hf2 := fun (W : World) (bp N : Nat) (hP : ProgAt N W bp false false (compiled fixedT).2 (compiled fixedT).1) (hN : N ≤ W.heap.size) (hb : Below w.heap.size w W) => Find_calls fixed_makes fixedS 2 (some (2, 5)) W hP hN (hG.below hb).tabs (by decide) (by omega) fixed_b
  simp only [fixed_first_val] at hf
  simp only [fixed_second_val] at hf2
  have HR := hide hr; have HF := hide hf; have HF2 := hide hf2
  clear hr hf hf2 hG
  go_enter Tryd.func6, Tryd.ntmps6
  go_wp2_with fail
  refine (unhide HR).mono ?_
  rintro e w1 ⟨bp, rfl, hb1, hpr⟩
  have HB1 := hide hb1; have HPR := hide hpr
  clear hb1 hpr
  go_wp2_with fail
  refine (unhide HF w1 bp _ (unhide HPR) (Nat.le_refl _) (unhide HB1)).mono ?_
  rintro e w2 ⟨rfl, hb2⟩
  have HB2 := hide (below_then (unhide HB1) hb2); have HPR2 := hide ((unhide HPR).below hb2); have hz2 : w1.heap.size ≤ w2.heap.size := hb2.size
  clear hb2
  go_wp2_with fail
  refine (unhide HF2 w2 bp _ (unhide HPR2) hz2 (unhide HB2)).mono ?_
  rintro e w3 ⟨rfl, hb3⟩
  go_wp2_with fail
  go_ret
  exact ⟨rfl, below_then (unhide HB2) hb3⟩
end Go.Proofs.YtanmlgliibgpcaaDoor

/- Plain Lean: a pattern that stands within brackets in another one means there what it means alone. -/
namespace Thr
set_option linter.unusedVariables false

theorem byt_sub {s : ByteArray} {a b i : Nat} (hb : b ≤ s.size) (hi : a + i < b) : byt (s.extract a b) i = byt s (a + i) := by
  unfold byt
  have h : a + i < s.size := by omega
  have h' : i < (s.extract a b).size := by simp [ByteArray.size_extract]; omega
  rw [dif_pos h, dif_pos h']
  simp [ByteArray.getElem_extract]

/-- a stands in s from o on, a ')' behind it. -/
structure Ext (s a : ByteArray) (o : Nat) : Prop where
  lt : o + a.size < s.size
  sub : a = s.extract o (o + a.size)
  end_ : byt s (o + a.size) = 41

section
variable {s a : ByteArray} {o : Nat}
theorem Ext.at_ (h : Ext s a o) {i : Nat} (hi : i < a.size) : byt s (o + i) = byt a i := by
  have hs := h.sub
  have hlt := h.lt
  generalize hn : a.size = n at *
  rw [hs, byt_sub (by omega) (by omega)]

theorem tail_eq {s s' : ByteArray} : ∀ (k i i' : Nat) (r : Int), (∀ j, j < k → byt s (i + j) = byt s' (i' + j)) → tailF s k i r = tailF s' k i' r
  | 0, _, _, _, _ => rfl
  | k + 1, i, i', r, h => by
    simp only [tailF]
    have h0 := h 0 (by omega)
    simp only [Nat.add_zero] at h0
    rw [h0]
    split
    · rfl
    · exact tail_eq k (i + 1) (i' + 1) _ fun j hj => by
        have := h (j + 1) (by omega)
        rw [show i + 1 + j = i + (j + 1) by omega, show i' + 1 + j = i' + (j + 1) by omega]
        exact this
theorem tail_odd {s : ByteArray} : ∀ (k i m : Nat) (r : Int), i ≤ m → m < i + k → byt s m = 41 → tailF s k i r = none
  | 0, i, m, r, h1, h2, _ => by omega
  | k + 1, i, m, r, h1, h2, h => by
    simp only [tailF]
    by_cases e : i = m
    · subst e
      rw [if_pos (by omega)]
    · split
      · rfl
      · exact tail_odd k (i + 1) m _ (by omega) (by omega) h
theorem size_ext (h : Ext s a o) {i : Nat} (hi : i < a.size) : sizeF (s.extract (o + i) s.size) = sizeF (a.extract i a.size) := by
  have hlt := h.lt
  have h0 : byt (s.extract (o + i) s.size) 0 = byt (a.extract i a.size) 0 := by
    rw [byt_extract, byt_extract, Nat.add_zero, Nat.add_zero]
    exact h.at_ hi
  have hz1 : (s.extract (o + i) s.size).size = s.size - (o + i) := by simp [ByteArray.size_extract]
  have hz2 : (a.extract i a.size).size = a.size - i := by simp [ByteArray.size_extract]
  unfold sizeF
  rw [h0]
  by_cases c : byt (a.extract i a.size) 0 < 128
  · rw [if_pos c, if_pos c]
  rw [if_neg c, if_neg c, hz1, hz2]
  generalize leadF (byt (a.extract i a.size) 0) = L
  obtain ⟨n, r, least⟩ := L
  simp only
  by_cases hn : n = 0
  · rw [if_pos (.inl hn), if_pos (.inl hn)]
  by_cases hm : a.size - i < n
  · have g1 : n = 0 ∨ a.size - i < n := .inr hm
    rw [if_pos g1]
    by_cases hm2 : s.size - (o + i) < n
    · have g2 : n = 0 ∨ s.size - (o + i) < n := .inr hm2
      rw [if_pos g2]
    · have g2 : ¬ (n = 0 ∨ s.size - (o + i) < n) := by omega
      rw [if_neg g2, tail_odd (s := s.extract (o + i) s.size) (n - 1) 1 (a.size - i) r (by omega) (by omega) (by rw [byt_extract, show o + i + (a.size - i) = o + a.size by omega]; exact h.end_)]
      rfl
  · have g1 : ¬ (n = 0 ∨ a.size - i < n) := by omega
    have g2 : ¬ (n = 0 ∨ s.size - (o + i) < n) := by omega
    rw [if_neg g1, if_neg g2]
    congr 1
    refine tail_eq (n - 1) 1 1 r fun j hj => ?_
    rw [byt_extract, byt_extract, Nat.add_assoc]
    exact h.at_ (by omega)
theorem next_false {s : ByteArray} {i : Nat} (hi : i < s.size) : nextF s (i : Int) false = if (sizeF (s.extract i s.size)).1 = 0 then (1114112 + byt s i, 1) else ((sizeF (s.extract i s.size)).2, (sizeF (s.extract i s.size)).1) := by
  unfold nextF
  have g : ¬ ((i : Int) < 0 ∨ (s.size : Int) ≤ i) := by omega
  rw [if_neg g, if_neg (by simp), Int.toNat_natCast]
theorem next_ext (h : Ext s a o) {i : Nat} (hi : i < a.size) : nextF s ((o + i : Nat) : Int) false = nextF a (i : Int) false := by
  have hlt := h.lt
  rw [next_false (by omega), next_false hi, size_ext h hi, h.at_ hi]
theorem next_end {i : Nat} (hi : a.size ≤ i) : nextF a (i : Int) false = (0, 0) := by
  unfold nextF
  rw [if_pos (by omega)]
theorem dig_ext (h : Ext s a o) : ∀ (f f' i : Nat) (v : Int), i ≤ a.size → a.size - i ≤ f → s.size - (o + i) ≤ f' → digF s f' (o + i) v = ((digF a f i v).1, o + (digF a f i v).2)
  | f, 0, i, v, hi, hf, hf' => by have := h.lt; omega
  | 0, f' + 1, i, v, hi, hf, hf' => by
    obtain rfl : i = a.size := by omega
    simp only [digF]
    rw [if_neg (by rw [h.end_]; simp [isDig])]
  | f + 1, f' + 1, i, v, hi, hf, hf' => by
    have hlt := h.lt
    simp only [digF]
    by_cases hia : i < a.size
    · rw [h.at_ hia]
      by_cases hd : isDig (byt a i) = true
      · rw [if_pos ⟨by omega, hd⟩, if_pos ⟨hia, hd⟩]
        exact dig_ext h f f' (i + 1) _ (by omega) (by omega) (by omega)
      · rw [if_neg (fun x => hd x.2), if_neg (fun x => hd x.2)]
    · obtain rfl : i = a.size := by omega
      rw [if_neg (by rw [h.end_]; simp [isDig]), if_neg (fun x => hia x.1)]
theorem itv_ext (h : Ext s a o) {i : Nat} (hi : i < a.size) : itvF s (o + i) = (itvF a i).map fun r => (r.1, r.2.1, o + r.2.2) := by
  have hlt := h.lt
  have hd := dig_ext h a.size s.size (i + 1) 0 (by omega) (by omega) (by omega)
  have hl := dig_le a a.size (i + 1) 0
  unfold itvF
  rw [show o + i + 1 = o + (i + 1) by omega, hd]
  generalize digF a a.size (i + 1) 0 = D at *
  obtain ⟨v, d⟩ := D
  simp only at hl ⊢
  by_cases hc : d = i + 1 ∨ a.size ≤ d
  · rw [if_pos hc]
    by_cases hc1 : d = i + 1
    · rw [if_pos (.inl (by omega))]; rfl
    · obtain rfl : d = a.size := by omega
      rw [if_neg (by omega), h.end_, if_neg (by omega), if_neg (by omega)]
      rfl
  · rw [if_neg hc, if_neg (by omega), h.at_ (by omega)]
    have hd2 := dig_ext h a.size s.size (d + 1) 0 (by omega) (by omega) (by omega)
    have hl2 := dig_le a a.size (d + 1) 0
    rw [show o + d + 1 = o + (d + 1) by omega, hd2]
    generalize digF a a.size (d + 1) 0 = D2 at *
    obtain ⟨v2, d2⟩ := D2
    simp only at hl2 ⊢
    by_cases h44 : byt a d = 44
    · rw [if_pos h44, if_pos h44]
      by_cases hx : d2 < a.size
      · rw [h.at_ hx]
        by_cases h125 : byt a d2 = 125
        · have g1 : o + d2 < s.size ∧ byt a d2 = 125 := ⟨by omega, h125⟩
          have g2 : d2 < a.size ∧ byt a d2 = 125 := ⟨hx, h125⟩
          rw [if_pos g1, if_pos g2]
          simp only [Option.map_some]
          by_cases e : d2 = d + 1
          · have g3 : o + d2 = o + (d + 1) := by omega
            rw [if_pos e, if_pos g3]; rfl
          · have g3 : ¬ o + d2 = o + (d + 1) := by omega
            rw [if_neg e, if_neg g3]; rfl
        · have g1 : ¬ (o + d2 < s.size ∧ byt a d2 = 125) := fun x => h125 x.2
          have g2 : ¬ (d2 < a.size ∧ byt a d2 = 125) := fun x => h125 x.2
          rw [if_neg g1, if_neg g2]; rfl
      · obtain rfl : d2 = a.size := by omega
        have g1 : ¬ (o + a.size < s.size ∧ (41 : Int) = 125) := by omega
        have g2 : ¬ (a.size < a.size ∧ byt a a.size = 125) := by omega
        rw [h.end_, if_neg g1, if_neg g2]; rfl
    · rw [if_neg h44, if_neg h44]
      by_cases h125 : byt a d = 125
      · rw [if_pos h125, if_pos h125]; rfl
      · rw [if_neg h125, if_neg h125]; rfl

def moved (o : Nat) : Again → Again
  | .no => .no
  | .fault e => .fault e
  | .yes lo hi k => .yes lo hi (o + k)
theorem again_ext (h : Ext s a o) {i : Nat} (hi : i < a.size) : againF s (o + i) = moved o (againF a i) := by
  unfold againF
  rw [h.at_ hi, itv_ext h hi]
  by_cases e1 : byt a i = 42
  · rw [if_pos e1, if_pos e1]; rfl
  rw [if_neg e1, if_neg e1]
  by_cases e2 : byt a i = 43
  · rw [if_pos e2, if_pos e2]; rfl
  rw [if_neg e2, if_neg e2]
  by_cases e3 : byt a i = 63
  · rw [if_pos e3, if_pos e3]; rfl
  rw [if_neg e3, if_neg e3]
  by_cases e4 : byt a i = 123
  · rw [if_pos e4, if_pos e4]
    cases itvF a i with
    | none => rfl
    | some r =>
      obtain ⟨lo, hi', k⟩ := r
      simp only [Option.map_some]
      split
      · rfl
      · split <;> rfl
  rw [if_neg e4, if_neg e4]
  rfl
theorem cast_succ (i : Nat) : ((i : Int) + 1) = ((i + 1 : Nat) : Int) := by omega
def escG (c : Int) : Option Rx :=
  if c = 121 then some (leaf 10) else if c = 66 then some (leaf 11) else if c = 60 then some (leaf 12) else if c = 62 then some (leaf 13) else if c = 96 then some (leaf 8) else if c = 39 then some (leaf 9)
  else if c = 119 ∨ c = 87 then some (setN (c = 87) wordS) else if c = 115 ∨ c = 83 then some (setN (c = 83) spaceS)
  else (singleF c).map chrN
theorem esc_map (s : ByteArray) (i : Nat) (bytes : Bool) : escF s i bytes = if (nextF s ((i + 1 : Nat) : Int) bytes).2 = 0 then none else (escG (nextF s ((i + 1 : Nat) : Int) bytes).1).map fun x => (x, i + 1 + (nextF s ((i + 1 : Nat) : Int) bytes).2.toNat) := by
  unfold escF
  rw [cast_succ]
  generalize nextF s ((i + 1 : Nat) : Int) bytes = z
  obtain ⟨c, n⟩ := z
  simp only
  by_cases hn : n = 0
  · rw [if_pos hn, if_pos hn]
  rw [if_neg hn, if_neg hn]
  unfold escG
  cases hs : singleF c with
  | none => repeat' split
            all_goals first | rfl | (simp_all; done)
  | some x => repeat' split
              all_goals first | rfl | (simp_all; done)
theorem esc_ext (h : Ext s a o) {i k : Nat} {x : Rx} (he : escF a i false = some (x, k)) : escF s (o + i) false = some (x, o + k) := by
  rw [esc_map] at he ⊢
  by_cases hi : i + 1 < a.size
  · rw [show o + i + 1 = o + (i + 1) by omega, next_ext h hi]
    generalize nextF a ((i + 1 : Nat) : Int) false = z at *
    obtain ⟨c, n⟩ := z
    simp only at he ⊢
    by_cases hn : n = 0
    · rw [if_pos hn] at he; cases he
    rw [if_neg hn] at he ⊢
    cases hg : escG c with
    | none => rw [hg] at he; cases he
    | some y =>
      rw [hg] at he
      simp only [Option.map_some, Option.some.injEq, Prod.mk.injEq] at he ⊢
      exact ⟨he.1, by omega⟩
  · rw [next_end (by omega)] at he
    simp at he
theorem shut_ext (h : Ext s a o) : ∀ (f f' k m : Nat), shutAt a f k = some m → s.size ≤ o + k + f' → shutAt s f' (o + k) = some (o + m)
  | 0, f', k, m, hm, hf => by simp [shutAt] at hm
  | f + 1, 0, k, m, hm, hf => by
    have := shutAt_le _ _ _ hm
    have := h.lt
    omega
  | f + 1, f' + 1, k, m, hm, hf => by
    have hlt := h.lt
    simp only [shutAt] at hm ⊢
    split at hm
    · cases hm
    · rename_i h1
      rw [if_neg (by omega), h.at_ (by omega), show o + k + 1 = o + (k + 1) by omega, h.at_ (by omega)]
      split at hm
      · rename_i h2
        rw [if_pos h2]
        injection hm with hm
        rw [hm]
      · rename_i h2
        rw [if_neg h2]
        exact shut_ext h f f' (k + 1) m hm (by omega)
theorem named_ext (h : Ext s a o) {i k : Nat} {l : List (Int × Int)} (he : namedF a i = some (l, k)) : namedF s (o + i) = some (l, o + k) := by
  have hlt := h.lt
  unfold namedF at he ⊢
  cases hm : shutAt a a.size (i + 2) with
  | none => rw [hm] at he; cases he
  | some m =>
    have hle := shutAt_le _ _ _ hm
    rw [hm] at he
    rw [show o + i + 2 = o + (i + 2) by omega, shut_ext h _ s.size _ _ hm (by omega)]
    simp only at he ⊢
    have hx : s.extract (o + (i + 2)) (o + m) = a.extract (i + 2) m := by
      have hs := h.sub
      generalize a.size = n at *
      rw [hs]
      apply ByteArray.ext
      simp [ByteArray.data_extract, Array.extract_extract]
      congr 1
      omega
    rw [hx]
    cases hc : classF (a.extract (i + 2) m) with
    | none => rw [hc] at he; cases he
    | some l' =>
      rw [hc] at he
      simp only [Option.some.injEq, Prod.mk.injEq] at he ⊢
      exact ⟨he.1, by omega⟩
theorem member_ext (h : Ext s a o) {i k : Nat} {x : Int} (he : memberF a i false = some (x, k)) : memberF s (o + i) false = some (x, o + k) := by
  unfold memberF at he ⊢
  by_cases hi : i < a.size
  · rw [next_ext h hi]
    by_cases h0 : (nextF a (i : Int) false).2 = 0
    · rw [if_pos h0] at he; cases he
    rw [if_neg h0] at he ⊢
    by_cases h92 : (nextF a (i : Int) false).1 ≠ 92
    · rw [if_pos h92] at he ⊢
      simp only [Option.some.injEq, Prod.mk.injEq] at he ⊢
      exact ⟨he.1, by omega⟩
    rw [if_neg h92] at he ⊢
    rw [cast_succ] at he ⊢
    by_cases hi1 : i + 1 < a.size
    · rw [show o + i + 1 = o + (i + 1) by omega, next_ext h hi1]
      by_cases h1 : (nextF a ((i + 1 : Nat) : Int) false).2 = 0
      · rw [if_pos h1] at he; cases he
      rw [if_neg h1] at he ⊢
      cases hsg : singleF (nextF a ((i + 1 : Nat) : Int) false).1 with
      | none => rw [hsg] at he; cases he
      | some y =>
        rw [hsg] at he
        simp only [Option.some.injEq, Prod.mk.injEq] at he ⊢
        exact ⟨he.1, by omega⟩
    · rw [next_end (by omega)] at he
      simp at he
  · rw [next_end (by omega)] at he
    simp at he
theorem one_ext (h : Ext s a o) {i : Nat} (hi : i ≤ a.size) {c : Int} (hc : c ≠ 41) : one s (o + i) c = one a i c := by
  have hlt := h.lt
  unfold one
  rcases Nat.lt_or_ge i a.size with h1 | h1
  · rw [h.at_ h1]
    simp [h1]
    omega
  · obtain rfl : i = a.size := by omega
    rw [h.end_]
    simp
    omega
theorem two_ext (h : Ext s a o) {i : Nat} (hi : i ≤ a.size) {c d : Int} (hc : c ≠ 41) (hd : d ≠ 41) : two s (o + i) c d = two a i c d := by
  have hlt := h.lt
  unfold two
  rcases Nat.lt_or_ge (i + 1) a.size with h1 | h1
  · rw [h.at_ (by omega), show o + i + 1 = o + (i + 1) by omega, h.at_ h1]
    simp [h1]
    omega
  · rw [Bool.eq_iff_iff, decide_eq_true_eq, decide_eq_true_eq]
    refine ⟨fun x => ?_, fun x => by omega⟩
    rcases Nat.lt_or_ge i a.size with h2 | h2
    · have : o + i + 1 = o + a.size := by omega
      rw [this, h.end_] at x
      omega
    · have : o + i = o + a.size := by omega
      rw [this, h.end_] at x
      omega
/-- A '-' at the end ends no set. -/
theorem dash_end (hs : Sized a false) {f k : Nat} {acc : List (Int × Int)} (hk : one a k 45 = true) (hk1 : a.size ≤ k + 1) : setsF a false f k false acc = none := by
  have hk2 : k < a.size ∧ byt a k = 45 := by simpa [one] using hk
  cases f with
  | zero => rfl
  | succ f =>
    have h93 : one a k 93 = false := by simp [one]; omega
    have h91 : two a k 91 58 = false := by simp [two]; omega
    simp only [setsF, h93, h91]
    have hn := hs.at_ k hk2.1
    have hn2 : nextF a (k : Int) false = (45, 1) := by
      have hz : (a.extract k a.size).size = 1 := by simp [ByteArray.size_extract]; omega
      have hb : byt (a.extract k a.size) 0 = 45 := by rw [byt_extract, Nat.add_zero]; exact hk2.2
      unfold nextF sizeF
      rw [if_neg (by omega), if_neg (by simp), Int.toNat_natCast, hb]
      rfl
    have hm : memberF a k false = some (45, k + 1) := by
      unfold memberF
      rw [hn2]
      rfl
    rw [hm]
    have h45 : one a (k + 1) 45 = false := by simp [one]; omega
    simp only [h45]
    cases f with
    | zero => simp [setsF]
    | succ f =>
      have g93 : one a (k + 1) 93 = false := by simp [one]; omega
      have g91 : two a (k + 1) 91 58 = false := by simp [two]; omega
      have hm2 : memberF a (k + 1) false = none := by
        unfold memberF
        rw [next_end (i := k + 1) hk1]
        rfl
      simp [setsF, g93, g91, hm2]
theorem sets_ext (h : Ext s a o) (hs : Sized a false) : ∀ (f f' i : Nat) (first : Bool) (acc l : List (Int × Int)) (k : Nat), i ≤ a.size → s.size - (o + i) < f' → setsF a false f i first acc = some (l, k) → setsF s false f' (o + i) first acc = some (l, o + k)
  | 0, f', i, first, acc, l, k, hi, hf, he => by simp [setsF] at he
  | f + 1, 0, i, first, acc, l, k, hi, hf, he => by omega
  | f + 1, f' + 1, i, first, acc, l, k, hi, hf, he => by
    have hlt := h.lt
    simp only [setsF] at he ⊢
    rw [one_ext h hi (by omega), two_ext h hi (by omega) (by omega)]
    by_cases c1 : first = false ∧ one a i 93 = true
    · rw [if_pos c1] at he ⊢
      simp only [Option.some.injEq, Prod.mk.injEq] at he ⊢
      exact ⟨he.1, by omega⟩
    rw [if_neg c1] at he ⊢
    by_cases c2 : two a i 91 58 = true
    · rw [if_pos c2] at he ⊢
      cases hn : namedF a i with
      | none => rw [hn] at he; cases he
      | some p =>
        obtain ⟨l1, k1⟩ := p
        have hle := named_le hn
        rw [hn] at he
        rw [named_ext h hn]
        simp only at he ⊢
        exact sets_ext h hs f f' k1 false (acc ++ l1) l k hle.2 (by omega) he
    rw [if_neg c2] at he ⊢
    cases hm : memberF a i false with
    | none => rw [hm] at he; cases he
    | some p =>
      obtain ⟨lo, k1⟩ := p
      have hle := member_le hs hm
      rw [hm] at he
      rw [member_ext h hm]
      simp only at he ⊢
      rw [one_ext h hle.2 (by omega)]
      by_cases c3 : one a k1 45 = true
      · have hk1 : k1 < a.size ∧ byt a k1 = 45 := by simpa [one] using c3
        by_cases c4 : k1 + 1 < a.size
        · rw [show o + k1 + 1 = o + (k1 + 1) by omega, h.at_ c4, two_ext h (by omega) (by omega) (by omega)]
          by_cases c5 : byt a (k1 + 1) ≠ 93
          · rw [if_pos ⟨c3, c4, c5⟩] at he
            rw [if_pos ⟨c3, by omega, c5⟩]
            by_cases c6 : two a (k1 + 1) 91 58 = true
            · rw [if_pos c6] at he; cases he
            rw [if_neg c6] at he ⊢
            cases hm2 : memberF a (k1 + 1) false with
            | none => rw [hm2] at he; cases he
            | some p2 =>
              obtain ⟨hi2, k2⟩ := p2
              have hle2 := member_le hs hm2
              rw [hm2] at he
              rw [member_ext h hm2]
              simp only at he ⊢
              by_cases c7 : hi2 < lo
              · rw [if_pos c7] at he; cases he
              rw [if_neg c7] at he ⊢
              exact sets_ext h hs f f' k2 false _ l k hle2.2 (by omega) he
          · rw [if_neg (fun x => c5 x.2.2)] at he
            rw [if_neg (fun x => c5 x.2.2)]
            exact sets_ext h hs f f' k1 false _ l k hle.2 (by omega) he
        · rw [if_neg (fun x => c4 x.2.1), dash_end hs c3 (by omega)] at he
          cases he
      · rw [if_neg (fun x => c3 x.1)] at he ⊢
        exact sets_ext h hs f f' k1 false _ l k hle.2 (by omega) he
theorem set_ext (h : Ext s a o) (hs : Sized a false) {i k : Nat} {x : Rx} (hi : i < a.size) (he : setF a i false = some (x, k)) : setF s (o + i) false = some (x, o + k) := by
  have hlt := h.lt
  unfold setF at he ⊢
  rw [show o + i + 1 = o + (i + 1) by omega, one_ext h (by omega) (by omega)]
  have hst : (if one a (i + 1) 94 = true then o + i + 2 else o + (i + 1)) = o + (if one a (i + 1) 94 = true then i + 2 else i + 1) := by split <;> omega
  rw [hst]
  have hle : (if one a (i + 1) 94 = true then i + 2 else i + 1) ≤ a.size := by
    split
    · rename_i h1
      have : i + 1 < a.size := by simp [one] at h1; exact h1.1
      omega
    · omega
  generalize (if one a (i + 1) 94 = true then i + 2 else i + 1) = st at *
  cases hq : setsF a false (a.size + 1) st true [] with
  | none => rw [hq] at he; cases he
  | some p =>
    obtain ⟨l, k1⟩ := p
    rw [hq] at he
    rw [sets_ext h hs (a.size + 1) (s.size + 1) st true [] l k1 hle (by omega) hq]
    simp only [Option.some.injEq, Prod.mk.injEq] at he ⊢
    exact ⟨he.1, by omega⟩
/-- A group that stops alone stops there too, or is too deep. -/
theorem inner_ext (h : Ext s a o) (hs : Sized a false) (hS : Sized s false) : ∀ (f f' n : Nat) (alts cat : List Rx) (i : Nat) (A C : List Rx) (j : Nat), i ≤ a.size → a.size - i < f → s.size - (o + i) < f' → innerF a false f n alts cat i = some (.stop A C j) →
    innerF s false f' (n + 1) alts cat (o + i) = some (.stop A C (o + j)) ∨ ∃ p e, innerF s false f' (n + 1) alts cat (o + i) = some (.fault p e)
  | 0, f', n, alts, cat, i, A, C, j, hi, hf, hf', he => by omega
  | f + 1, 0, n, alts, cat, i, A, C, j, hi, hf, hf', he => by omega
  | f + 1, f' + 1, n, alts, cat, i, A, C, j, hi, hf, hf', he => by
    have hlt := h.lt
    simp only [innerF] at he ⊢
    rw [if_neg (by omega)]
    by_cases hge : a.size ≤ i
    · obtain rfl : i = a.size := by omega
      rw [if_pos hge] at he
      injection he with he
      injection he with h1 h2 h3
      subst h1; subst h2; subst h3
      have hag : (if alts.length = alts.length ∧ cat = [] then Again.no else againF s (o + a.size)) = .no := by
        split
        · rfl
        · unfold againF
          rw [h.end_]
          rfl
      simp only [true_and] at hag
      rw [hag]
      simp only
      rw [h.end_, if_neg (by omega), if_neg (by omega), if_pos rfl, if_neg (by omega)]
      exact .inl rfl
    rw [if_neg hge] at he
    have hil : i < a.size := by omega
    have hn := next_le (i := i) hs
    have hag : (if cat = [] then Again.no else againF s (o + i)) = moved o (if cat = [] then Again.no else againF a i) := by
      split
      · rfl
      · exact again_ext h hil
    rw [hag]
    generalize hag2 : (if cat = [] then Again.no else againF a i) = ag at *
    cases ag with
    | fault e => cases he
    | yes lo hi' k =>
      have hk : i < k ∧ k ≤ a.size := by
        split at hag2
        · cases hag2
        · exact again_le hil hag2
      simp only [moved] at he ⊢
      exact inner_ext h hs hS f f' n _ _ k A C j hk.2 (by omega) (by omega) he
    | no =>
      simp only [moved] at he ⊢
      rw [h.at_ hil]
      by_cases e124 : byt a i = 124
      · rw [if_pos e124] at he ⊢
        exact inner_ext h hs hS f f' n _ _ (i + 1) A C j (by omega) (by omega) (by omega) he
      rw [if_neg e124] at he ⊢
      by_cases e40 : byt a i = 40
      · rw [if_pos e40] at he ⊢
        by_cases h40 : n = 40
        · rw [if_pos h40] at he; cases he
        rw [if_neg h40] at he
        by_cases h41 : n + 1 = 40
        · rw [if_pos h41]
          exact .inr ⟨_, _, rfl⟩
        rw [if_neg h41]
        cases hq : innerF a false f (n + 1) [] [] (i + 1) with
        | none => rw [hq] at he; cases he
        | some q =>
          rw [hq] at he
          cases q with
          | fault p e => cases he
          | stop A1 C1 j1 =>
            simp only at he
            by_cases hj1 : j1 < a.size
            · rw [if_pos hj1] at he
              have hij : i + 1 ≤ j1 := by
                obtain ⟨r, hr, hp⟩ := inner_ends hs f (n + 1) [] [] (i + 1) (by omega) (by omega)
                rw [hq] at hr
                obtain rfl := Option.some.inj hr
                exact (hp _ _ _ rfl).1
              rcases inner_ext h hs hS f f' (n + 1) [] [] (i + 1) A1 C1 j1 (by omega) (by omega) (by omega) hq with hh | ⟨p, e, hh⟩
              · rw [show o + i + 1 = o + (i + 1) by omega, hh]
                simp only
                rw [if_pos (by omega)]
                exact inner_ext h hs hS f f' n _ _ (j1 + 1) A C j (by omega) (by omega) (by omega) he
              · rw [show o + i + 1 = o + (i + 1) by omega, hh]
                exact .inr ⟨_, _, rfl⟩
            · rw [if_neg hj1] at he; cases he
      rw [if_neg e40] at he ⊢
      by_cases e41 : byt a i = 41
      · rw [if_pos e41] at he ⊢
        by_cases hn0 : n = 0
        · rw [if_pos hn0] at he; cases he
        rw [if_neg hn0] at he
        rw [if_neg (by omega)]
        injection he with he
        injection he with h1 h2 h3
        subst h1; subst h2; subst h3
        exact .inl rfl
      rw [if_neg e41] at he ⊢
      by_cases e91 : byt a i = 91
      · rw [if_pos e91] at he ⊢
        cases hx : setF a i false with
        | none => rw [hx] at he; cases he
        | some p =>
          obtain ⟨x, k⟩ := p
          have hk := set_le hs hx
          rw [hx] at he
          rw [set_ext h hs hil hx]
          exact inner_ext h hs hS f f' n _ _ k A C j hk.2 (by omega) (by omega) he
      rw [if_neg e91] at he ⊢
      by_cases e92 : byt a i = 92
      · rw [if_pos e92] at he ⊢
        cases hx : escF a i false with
        | none => rw [hx] at he; cases he
        | some p =>
          obtain ⟨x, k⟩ := p
          have hk := esc_le hs hx
          rw [hx] at he
          rw [esc_ext h hx]
          exact inner_ext h hs hS f f' n _ _ k A C j hk.2 (by omega) (by omega) he
      rw [if_neg e92] at he ⊢
      have hk := hn.2.1 hil
      rw [next_ext h hil, show o + i + (nextF a (i : Int) false).2.toNat = o + (i + (nextF a (i : Int) false).2.toNat) by omega]
      exact inner_ext h hs hS f f' n _ _ _ A C j (by omega) (by omega) (by omega) he
end

/-- "(a)|(b)" means a or b, where it may be written. -/
theorem parse_choice {a b c : ByteArray} {ta tb tc : Rx} (hs : ∀ s : ByteArray, Sized s false) (ha : parseF a false = .tree ta) (hb : parseF b false = .tree tb) (hc : parseF c false = .tree tc)
    (h0 : byt c 0 = 40) (hea : Ext c a 1) (h2 : byt c (a.size + 2) = 124) (h3 : byt c (a.size + 3) = 40) (heb : Ext c b (a.size + 4)) (hz : c.size = a.size + b.size + 5) : tc = altN [ta, tb] := by
  have part : ∀ (x : ByteArray) (tx : Rx), parseF x false = .tree tx → ∃ A C, innerF x false (x.size + 1) 0 [] [] 0 = some (.stop A C x.size) ∧ tx = shutF A C := by
    intro x tx hx
    unfold parseF at hx
    split at hx
    · cases hx
    · obtain ⟨r, hr, hp⟩ := inner_ends (hs x) (x.size + 1) 0 [] [] 0 (by omega) (by omega)
      rw [hr] at hx
      cases r with
      | fault j e => simp only [topF] at hx; cases hx
      | stop A C j =>
        have hj := hp A C j rfl
        have : j = x.size := by
          rcases Nat.lt_or_ge j x.size with h | h
          · have := (hj.2.2 h).2; omega
          · omega
        subst this
        simp only [topF] at hx
        split at hx
        · cases hx
        · injection hx with hx
          exact ⟨A, C, hr, hx.symm⟩
  obtain ⟨A, C, hA, rfl⟩ := part a ta ha
  obtain ⟨B, D, hB, rfl⟩ := part b tb hb
  obtain ⟨U, V, hU, rfl⟩ := part c tc hc
  have hl1 := hea.lt
  have hl2 := heb.lt
  have top : ∀ (f : Nat) (alts : List Rx) (i : Nat) (x : ByteArray) (X Y : List Rx), i + 1 + x.size < c.size → byt c i = 40 → Ext c x (i + 1) → innerF x false (x.size + 1) 0 [] [] 0 = some (.stop X Y x.size) → c.size - i < f + 1 →
      innerF c false (f + 1) 0 alts [] i = innerF c false f 0 alts [shutF X Y] (i + 1 + x.size + 1) ∨ ∃ p e, innerF c false (f + 1) 0 alts [] i = some (.fault p e) := by
    intro f alts i x X Y h1 h2 hx hin hf
    have hext := inner_ext hx (hs x) (hs c) (x.size + 1) f 0 [] [] 0 X Y x.size (by omega) (by omega) (by omega) hin
    simp only [Nat.add_zero, Nat.zero_add] at hext
    simp only [innerF]
    rw [if_neg (by omega)]
    simp only [if_true]
    rw [if_neg (by omega), if_pos h2, if_neg (by omega)]
    rcases hext with hh | ⟨p, e, hh⟩
    · rw [hh]
      simp only [List.nil_append]
      rw [if_pos (by omega)]
      exact .inl rfl
    · rw [hh]
      exact .inr ⟨p, e, rfl⟩
  rcases top c.size [] 0 a A C (by omega) h0 (by simpa using hea) hA (by omega) with h | ⟨p, e, h⟩
  · rw [h] at hU
    rw [show 0 + 1 + a.size + 1 = a.size + 2 by omega] at hU
    obtain ⟨f, hf⟩ : ∃ f, c.size = f + 1 + 1 + 1 := ⟨c.size - 3, by omega⟩
    rw [hf] at hU
    rw [innerF] at hU
    rw [if_neg (by omega)] at hU
    have hag : againF c (a.size + 2) = .no := by
      unfold againF
      rw [h2]; rfl
    rw [hag] at hU
    simp only [ite_self] at hU
    rw [if_pos h2, List.nil_append] at hU
    rcases top (f + 1) [joinF [shutF A C]] (a.size + 2 + 1) b B D (by omega) h3 heb hB (by omega) with h | ⟨p, e, h⟩
    · rw [h] at hU
      rw [innerF] at hU
      rw [if_pos (by omega)] at hU
      injection hU with hU
      injection hU with h1 h2 h3
      subst h1; subst h2
      rfl
    · rw [h] at hU; cases hU
  · rw [h] at hU; cases hU
end Thr

/- Plain Lean: a fault has a number; the match of a choice. -/
namespace Thr
set_option linter.unusedVariables false

theorem again_code {s : ByteArray} {i : Nat} {e : Int} (h : againF s i = .fault e) : e = 90 ∨ e = 91 := by
  unfold againF at h
  split at h
  · cases h
  split at h
  · cases h
  split at h
  · cases h
  split at h
  · split at h
    · cases h
    · split at h
      · injection h; omega
      · split at h
        · injection h; omega
        · cases h
  · cases h
theorem inner_code {s : ByteArray} {bytes : Bool} : ∀ (f n : Nat) (alts cat : List Rx) (i j : Nat) (e : Int), innerF s bytes f n alts cat i = some (.fault j e) → e = 90 ∨ e = 91
  | 0, n, alts, cat, i, j, e, h => by simp [innerF] at h
  | f + 1, n, alts, cat, i, j, e, h => by
    simp only [innerF] at h
    split at h
    · cases h
    generalize hag : (if cat = [] then Again.no else againF s i) = ag at h
    cases ag with
    | fault e' =>
      simp only [Option.some.injEq, Res.fault.injEq] at h
      have : againF s i = .fault e' := by
        split at hag
        · cases hag
        · exact hag
      have := again_code this
      omega
    | yes lo hi k => exact inner_code f n _ _ _ _ _ h
    | no =>
      simp only at h
      split at h
      · exact inner_code f n _ _ _ _ _ h
      split at h
      · split at h
        · simp only [Option.some.injEq, Res.fault.injEq] at h; omega
        · cases hq : innerF s bytes f (n + 1) [] [] (i + 1) with
          | none => rw [hq] at h; cases h
          | some q =>
            rw [hq] at h
            cases q with
            | fault j' e' =>
              simp only [Option.some.injEq, Res.fault.injEq] at h
              have := inner_code f (n + 1) _ _ _ _ _ hq
              omega
            | stop a c j' =>
              simp only at h
              split at h
              · exact inner_code f n _ _ _ _ _ h
              · simp only [Option.some.injEq, Res.fault.injEq] at h; omega
      split at h
      · split at h
        · simp only [Option.some.injEq, Res.fault.injEq] at h; omega
        · cases h
      split at h
      · split at h
        · simp only [Option.some.injEq, Res.fault.injEq] at h; omega
        · exact inner_code f n _ _ _ _ _ h
      split at h
      · split at h
        · simp only [Option.some.injEq, Res.fault.injEq] at h; omega
        · exact inner_code f n _ _ _ _ _ h
      · exact inner_code f n _ _ _ _ _ h
/-- A fault's number. -/
theorem parse_code {s : ByteArray} {bytes : Bool} (hs : Sized s bytes) {i : Nat} {e : Int} (h : parseF s bytes = .fault i e) : e = 3 ∨ e = 90 ∨ e = 91 := by
  unfold parseF at h
  split at h
  · injection h; omega
  · obtain ⟨r, hr, -⟩ := inner_ends hs (s.size + 1) 0 [] [] 0 (by omega) (by omega)
    rw [hr] at h
    cases r with
    | fault j e' =>
      simp only [topF, Ans.fault.injEq] at h
      have := inner_code _ _ _ _ _ _ _ hr
      omega
    | stop a c j =>
      simp only [topF] at h
      split at h
      · injection h; omega
      · cases h

theorem den_or (T : Txt) (ta tb : Rx) (i j : Nat) : den T (altN [ta, tb]) i j ↔ den T ta i j ∨ den T tb i j := by
  simp [altN, den, denAlt]
end Thr

/- The walk of ready at a text that is no pattern; what a match looks like as a value. -/
namespace Go.Proofs.YtanmlgliibgpcaaDoor
open Go.RowKit Thr
set_option linter.unusedVariables false
set_option linter.unusedSimpArgs false

set_option maxRecDepth 100000 in
set_option maxHeartbeats 16000000 in
theorem ready_bad (s : ByteArray) (fold bytes : Bool) (i : Nat) (er : Int) (w : World) (hp : parseF s bytes = .fault i er) (hG : Glob w) (hm : s.size ≤ 9000000000000000000) :
    Calls Tryd.prog 11 #[.string s, .agg #[.bool fold, .bool bytes]] w fun e w' => e = .returned (.pointer none) ∧ Below w.heap.size w w' := by
  have hcode := parse_code (sized_all s bytes) hp
  have hpc := fun W (h : Below w.heap.size w W) => Parse_calls s bytes W (hG.below h) hm
  simp only [hp, ParsePost] at hpc
  have HPC := hide hpc
  clear hpc hp hG
  rcases hcode with rfl | rfl | rfl
  all_goals
    go_enter Tryd.func11, Tryd.ntmps11
    go_wp2_with fail
    refine (unhide HPC _ (by repeat (first | exact Below.refl _ _ | assumption | refine below_drewN ?_ _ | refine Below.drew ?_ | refine below_alloc' ?_ _))).mono ?_
    rintro e w1 ⟨rfl, hb1⟩
    have HB1 := hide (below_then (w := w) (by repeat (first | exact Below.refl _ _ | assumption | refine below_drewN ?_ _ | refine Below.drew ?_ | refine below_alloc' ?_ _)) hb1)
    clear hb1
    unfold zero7
    go_wp2_with fail
    go_ret
    exact ⟨rfl, below_alloc' (unhide HB1) _⟩
/-- ready, of whatever text. -/
theorem ready_any (s : ByteArray) (fold bytes : Bool) (w : World) (hG : Glob w) (hm : s.size ≤ 9000000000000000000) :
    Calls Tryd.prog 11 #[.string s, .agg #[.bool fold, .bool bytes]] w fun e w' => ∃ po, e = .returned (.pointer po) ∧ Below w.heap.size w w' ∧
      (po = none ∨ ∃ bp t, po = some ⟨bp, 0, none⟩ ∧ parseF s bytes = .tree t ∧ ProgAt w'.heap.size w' bp fold bytes (compiled t).2 (compiled t).1) := by
  cases hp : parseF s bytes with
  | fault i er =>
    refine (ready_bad s fold bytes i er w hp hG hm).mono ?_
    rintro e w' ⟨rfl, hb⟩
    exact ⟨none, rfl, hb, .inl rfl⟩
  | tree t =>
    refine (ready_good s fold bytes t w hp hG hm).mono ?_
    rintro e w' ⟨bp, rfl, hb, hpr⟩
    exact ⟨_, rfl, hb, .inr ⟨bp, t, rfl, rfl, hpr⟩⟩
/-- A match, told by its places. -/
def okB : Option (Nat × Nat) → Bool | some _ => true | none => false
def fstP (pl : Nat → Nat) : Option (Nat × Nat) → Nat | some p => pl p.1 | none => 0
def sndP (pl : Nat → Nat) : Option (Nat × Nat) → Nat | some p => pl p.2 | none => 0
theorem foundVal_eq (pl : Nat → Nat) (o : Option (Nat × Nat)) : foundVal pl o = .tuple #[.int .i64 (fstP pl o), .int .i64 (sndP pl o), .bool (okB o)] := by
  cases o <;> rfl
/-- Find, at whatever place. -/
theorem find_any {N bp : Nat} {fold bytes : Bool} {t : Rx} (ht : Makes t) (s : ByteArray) (from_ : Int) (w : World) (hP : ProgAt N w bp fold bytes (compiled t).2 (compiled t).1) (hN : N ≤ w.heap.size) (hT : Tabs w) (hm : s.size ≤ 300) :
    ∃ o, (0 ≤ from_ → Found (txt s fold bytes) (nCh s bytes) (place s bytes) t from_ o) ∧ (from_ < 0 → o = none) ∧
      Calls Tryd.prog 9 #[.pointer (some ⟨bp, 0, none⟩), .string s, .int .i64 from_] w fun e w' => e = .returned (.tuple #[.int .i64 (fstP (place s bytes) o), .int .i64 (sndP (place s bytes) o), .bool (okB o)]) ∧ Below w.heap.size w w' := by
  by_cases h0 : from_ < 0
  · refine ⟨none, fun h => by omega, fun _ => rfl, ?_⟩
    refine (Find_less bp s from_ w h0).mono ?_
    rintro e w' ⟨rfl, rfl⟩
    exact ⟨rfl, Below.refl _ _⟩
  · obtain ⟨o, ho⟩ := found_ends (txt_fine s fold bytes) (place s bytes) ht from_
    refine ⟨o, fun _ => ho, fun h => by omega, ?_⟩
    rw [← foundVal_eq]
    obtain ⟨n, rfl⟩ : ∃ n : Nat, from_ = n := ⟨from_.toNat, by omega⟩
    exact Find_calls ht s n o w hP hN hT (by omega) (by omega) ho
theorem place_top (s : ByteArray) (bytes : Bool) (k : Nat) : place s bytes k ≤ s.size := place_le (sized_all s bytes) k
theorem fst_le (s : ByteArray) (bytes : Bool) (o : Option (Nat × Nat)) : fstP (place s bytes) o ≤ s.size := by
  cases o with
  | none => exact Nat.zero_le _
  | some p => exact place_top s bytes p.1
theorem snd_le (s : ByteArray) (bytes : Bool) (o : Option (Nat × Nat)) : sndP (place s bytes) o ≤ s.size := by
  cases o with
  | none => exact Nat.zero_le _
  | some p => exact place_top s bytes p.2
end Go.Proofs.YtanmlgliibgpcaaDoor

/- The walk of NfaChoice. -/
namespace Go.Proofs.YtanmlgliibgpcaaDoor
open Go.RowKit Thr
set_option linter.unusedVariables false
set_option linter.unusedSimpArgs false

def choiceT (a b : ByteArray) : ByteArray := { data := #[40] } ++ a ++ { data := #[41, 124, 40] } ++ b ++ { data := #[41] }
theorem choice_list (a b : ByteArray) : (choiceT a b).data.toList = [40] ++ a.data.toList ++ [41, 124, 40] ++ b.data.toList ++ [41] := by
  simp [choiceT]
theorem choice_size (a b : ByteArray) : (choiceT a b).size = a.size + b.size + 5 := by
  have h : (choiceT a b).data.toList.length = (choiceT a b).size := Array.length_toList
  have h1 : a.data.toList.length = a.size := Array.length_toList
  have h2 : b.data.toList.length = b.size := Array.length_toList
  rw [← h, choice_list]
  simp only [List.length_append, List.length_cons, List.length_nil]
  omega
theorem choice_byt (a b : ByteArray) (i : Nat) (c : UInt8) (h : ([40] ++ a.data.toList ++ [41, 124, 40] ++ b.data.toList ++ [41])[i]? = some c) : byt (choiceT a b) i = c.toNat := by
  rw [← choice_list] at h
  exact ((byt_list _ _ _).1 h).2
theorem ext_of_list {s a : ByteArray} {o : Nat} {l r : List UInt8} (h : s.data.toList = l ++ a.data.toList ++ (41 :: r)) (hl : l.length = o) : Ext s a o := by
  have h0 : s.data.toList.length = s.size := Array.length_toList
  have h1 : a.data.toList.length = a.size := Array.length_toList
  have hz : s.size = o + a.size + (r.length + 1) := by
    rw [← h0, h]
    simp only [List.length_append, List.length_cons]
    omega
  refine ⟨by omega, ?_, ?_⟩
  · apply ByteArray.ext
    apply Array.toList_inj.1
    rw [ByteArray.data_extract, Array.toList_extract, h, List.extract]
    rw [List.append_assoc, List.drop_append_of_le_length (by omega), List.drop_of_length_le (l := l) (by omega), List.nil_append]
    rw [List.take_append_of_le_length (by omega), List.take_of_length_le (by omega)]
  · have : s.data.toList[o + a.size]? = some 41 := by
      rw [h, List.getElem?_append_right (by simp only [List.length_append]; omega)]
      simp only [List.length_append]
      rw [show o + a.size - (l.length + a.data.toList.length) = 0 by omega]
      rfl
    exact ((byt_list _ _ _).1 this).2
theorem choice_tree {a b : ByteArray} {ta tb tc : Rx} (ha : parseF a false = .tree ta) (hb : parseF b false = .tree tb) (hc : parseF (choiceT a b) false = .tree tc) : tc = altN [ta, tb] := by
  have h1 : a.data.toList.length = a.size := Array.length_toList
  refine parse_choice (fun s => sized_all s false) ha hb hc ?_ ?_ ?_ ?_ ?_ (choice_size a b)
  · exact choice_byt a b 0 40 (by simp)
  · exact ext_of_list (l := [40]) (r := [124, 40] ++ b.data.toList ++ [41]) (by rw [choice_list]; simp) rfl
  · refine choice_byt a b (a.size + 2) 124 ?_
    rw [List.append_assoc, List.append_assoc, List.getElem?_append_right (by simp <;> omega)]
    simp only [List.length_append, List.length_cons, List.length_nil]
    rw [show a.size + 2 - (0 + 1 + a.data.toList.length) = 1 by omega]
    rfl
  · refine choice_byt a b (a.size + 3) 40 ?_
    rw [List.append_assoc, List.append_assoc, List.getElem?_append_right (by simp <;> omega)]
    simp only [List.length_append, List.length_cons, List.length_nil]
    rw [show a.size + 3 - (0 + 1 + a.data.toList.length) = 2 by omega]
    rfl
  · exact ext_of_list (l := [40] ++ a.data.toList ++ [41, 124, 40]) (r := []) (by rw [choice_list]) (by simp <;> omega)

def pick : Option (Nat × Nat) → Option (Nat × Nat) → Option (Nat × Nat)
  | none, o => o
  | o, none => o
  | some (x, y), some (z, v) => if z < x ∨ z = x ∧ y < v then some (z, v) else some (x, y)
theorem found_pick {T : Txt} {n : Nat} {pl : Nat → Nat} {ta tb : Rx} {f : Int} {oa ob : Option (Nat × Nat)} (ha : Found T n pl ta f oa) (hb : Found T n pl tb f ob) : Found T n pl (altN [ta, tb]) f (pick oa ob) := by
  cases oa with
  | none =>
    cases ob with
    | none =>
      intro k hk hf j hd
      rcases (den_or T ta tb k j).1 hd with h | h
      · exact ha k hk hf j h
      · exact hb k hk hf j h
    | some q =>
      obtain ⟨z, v⟩ := q
      obtain ⟨b1, b2, b3, b4, b5, b6, b7⟩ := hb
      refine ⟨b1, b2, b3, b4, (den_or T ta tb z v).2 (.inr b5), fun j hd => ?_, fun k hk hf j hd => ?_⟩
      · rcases (den_or T ta tb z j).1 hd with h | h
        · exact absurd h (ha z b1 b4 j)
        · exact b6 j h
      · rcases (den_or T ta tb k j).1 hd with h | h
        · exact ha k (by omega) hf j h
        · exact b7 k hk hf j h
  | some p =>
    obtain ⟨x, y⟩ := p
    obtain ⟨a1, a2, a3, a4, a5, a6, a7⟩ := ha
    cases ob with
    | none =>
      refine ⟨a1, a2, a3, a4, (den_or T ta tb x y).2 (.inl a5), fun j hd => ?_, fun k hk hf j hd => ?_⟩
      · rcases (den_or T ta tb x j).1 hd with h | h
        · exact a6 j h
        · exact absurd h (hb x a1 a4 j)
      · rcases (den_or T ta tb k j).1 hd with h | h
        · exact a7 k hk hf j h
        · exact hb k (by omega) hf j h
    | some q =>
      obtain ⟨z, v⟩ := q
      obtain ⟨b1, b2, b3, b4, b5, b6, b7⟩ := hb
      simp only [pick]
      by_cases hc : z < x ∨ z = x ∧ y < v
      · rw [if_pos hc]
        refine ⟨b1, b2, b3, b4, (den_or T ta tb z v).2 (.inr b5), fun j hd => ?_, fun k hk hf j hd => ?_⟩
        · rcases (den_or T ta tb z j).1 hd with h | h
          · rcases hc with hc | ⟨rfl, hc⟩
            · exact absurd h (a7 z hc b4 j)
            · have := a6 j h; omega
          · exact b6 j h
        · rcases (den_or T ta tb k j).1 hd with h | h
          · exact a7 k (by omega) hf j h
          · exact b7 k hk hf j h
      · rw [if_neg hc]
        refine ⟨a1, a2, a3, a4, (den_or T ta tb x y).2 (.inl a5), fun j hd => ?_, fun k hk hf j hd => ?_⟩
        · rcases (den_or T ta tb x j).1 hd with h | h
          · exact a6 j h
          · by_cases e : z = x
            · subst e
              have := b6 j h; omega
            · exact absurd h (b7 x (by omega) a4 j)
        · rcases (den_or T ta tb k j).1 hd with h | h
          · exact a7 k hk hf j h
          · exact b7 k (by omega) hf j h

set_option maxRecDepth 100000 in
set_option maxHeartbeats 64000000 in
theorem choice_calls (a b S : ByteArray) (from_ : Int) (w : World) (hG : Glob w) (hf0 : -9223372036854775808 ≤ from_) (hf1 : from_ ≤ 9223372036854775807) (ha : a.size ≤ 140737488351232) (hb : b.size ≤ 140737488351232) (hS : S.size ≤ 9223372036854775807) :
    Calls Tryd.prog 4 #[.string a, .string b, .agg #[.string S, .int .i64 from_]] w fun e w' => e = .returned (.bool true) ∧ Below w.heap.size w w' := by
  have hfx := fun W (h : Below w.heap.size w W) => fixed_calls W (hG.below h)
  have HFX := hide hfx; have HG := hide hG
  clear hfx hG
  by_cases h300 : 300 < S.size
  · have c1 : decide ((300 : Int) < S.size) = true := decide_eq_true (by omega)
    have c2 : decide ((S.size : Int) > 300) = true := decide_eq_true (by omega)
    have c3 : decide (300 < S.size) = true := decide_eq_true (by omega)
    go_enter Tryd.func4, Tryd.ntmps4
    go_wp2_with fail
    refine (unhide HFX _ (by repeat (first | exact Below.refl _ _ | assumption | refine below_drewN ?_ _ | refine Below.drew ?_ | refine below_alloc' ?_ _))).mono ?_
    rintro e w1 ⟨rfl, hb1⟩
    have d0 := ((bcell hb1).1 w.heap.size 0 (by simp)).trans (show _ = some (.string S) by go_simp)
    have HB1 := hide (below_then (w := w) (by repeat (first | exact Below.refl _ _ | assumption | refine below_drewN ?_ _ | refine Below.drew ?_ | refine below_alloc' ?_ _)) hb1)
    clear hb1
    go_wp2_with fail
    go_ret
    exact ⟨rfl, unhide HB1⟩
  have c1 : decide ((300 : Int) < S.size) = false := decide_eq_false (by omega)
  have c2 : decide ((S.size : Int) > 300) = false := decide_eq_false (by omega)
  have c3 : decide (300 < S.size) = false := decide_eq_false (by omega)
  have hS3 : S.size ≤ 300 := by omega
  by_cases h500 : 500 < a.size + b.size
  · have e1 : decide ((500 : Int) < (a.size : Int) + b.size) = true := decide_eq_true (by omega)
    have e2 : decide ((a.size : Int) + b.size > 500) = true := decide_eq_true (by omega)
    have e3 : decide (500 < a.size + b.size) = true := decide_eq_true (by omega)
    have e4 : (500 : Int) < (a.size : Int) + b.size := by omega
    clear h300 hS
    go_enter Tryd.func4, Tryd.ntmps4
    go_wp2_with fail
    refine (unhide HFX _ (by repeat (first | exact Below.refl _ _ | assumption | refine below_drewN ?_ _ | refine Below.drew ?_ | refine below_alloc' ?_ _))).mono ?_
    rintro e w1 ⟨rfl, hb1⟩
    have d0 := ((bcell hb1).1 w.heap.size 0 (by simp)).trans (show _ = some (.string S) by go_simp)
    have HB1 := hide (below_then (w := w) (by repeat (first | exact Below.refl _ _ | assumption | refine below_drewN ?_ _ | refine Below.drew ?_ | refine below_alloc' ?_ _)) hb1)
    clear hb1
    go_wp2_with fail
    go_ret
    exact ⟨rfl, unhide HB1⟩
  have e1 : decide ((500 : Int) < (a.size : Int) + b.size) = false := decide_eq_false (by omega)
  have e2 : decide ((a.size : Int) + b.size > 500) = false := decide_eq_false (by omega)
  have e3 : decide (500 < a.size + b.size) = false := decide_eq_false (by omega)
  have e4 : ¬ (500 : Int) < (a.size : Int) + b.size := by omega
  have ha5 : a.size ≤ 500 := by omega
  have hb5 : b.size ≤ 500 := by omega
  clear h300 hS h500 ha hb
  go_enter Tryd.func4, Tryd.ntmps4
  go_wp2_with fail
  refine (unhide HFX _ (by repeat (first | exact Below.refl _ _ | assumption | refine below_drewN ?_ _ | refine Below.drew ?_ | refine below_alloc' ?_ _))).mono ?_
  rintro e w1 ⟨rfl, hb1⟩
  have d0 := ((bcell hb1).1 w.heap.size 0 (by simp)).trans (show _ = some (.string S) by go_simp)
  have d1 := ((bcell hb1).1 w.heap.size 1 (by simp)).trans (show _ = some (.int .i64 from_) by go_simp)
  have hz1 : w.heap.size < w1.heap.size := by have := hb1.size; simp at this; omega
  have HB1 := hide (below_then (w := w) (by repeat (first | exact Below.refl _ _ | assumption | refine below_drewN ?_ _ | refine Below.drew ?_ | refine below_alloc' ?_ _)) hb1)
  clear hb1
  have hr1 := ready_any a false false w1 ((unhide HG).below (unhide HB1)) (by omega)
  have HR1 := hide hr1
  clear hr1
  go_wp2_with fail
  refine (unhide HR1).mono ?_
  rintro e w2 ⟨po1, rfl, hb2, hp1⟩
  have HB2 := hide (below_then (unhide HB1) hb2); have HP1 := hide hp1
  have d0' := ((bcell hb2).1 w.heap.size 0 hz1).trans d0
  have d1' := ((bcell hb2).1 w.heap.size 1 hz1).trans d1
  have hz2 : w.heap.size < w2.heap.size := by have := hb2.size; omega
  have hr2 := ready_any b false false w2 ((unhide HG).below (unhide HB2)) (by omega)
  have HR2 := hide hr2; have HBB2 := hide hb2
  clear hb2 hp1 hr2
  go_wp2_with fail
  refine (unhide HR2).mono ?_
  rintro e w3 ⟨po2, rfl, hb3, hp2⟩
  have HB3 := hide (below_then (unhide HB2) hb3); have HP2 := hide hp2
  have d0'' := ((bcell hb3).1 w.heap.size 0 hz2).trans d0'
  have d1'' := ((bcell hb3).1 w.heap.size 1 hz2).trans d1'
  have hz3 : w.heap.size < w3.heap.size := by have := hb3.size; omega
  have HBB3 := hide hb3
  clear hb3 hp2 d0 d1 d0' d1'
  have hcz := choice_size a b
  have hr3 := ready_any (choiceT a b) false false w3 ((unhide HG).below (unhide HB3)) (by omega)
  have HR3 := hide hr3
  clear hr3 hcz
  go_wp2_with fail
  refine (unhide HR3).mono ?_
  rintro e w4 ⟨po3, rfl, hb4, hp3⟩
  have HB4 := hide (below_then (unhide HB3) hb4); have HP3 := hide hp3
  have d0 := ((bcell hb4).1 w.heap.size 0 hz3).trans d0''
  have d1 := ((bcell hb4).1 w.heap.size 1 hz3).trans d1''
  have hz4 : w.heap.size < w4.heap.size := by have := hb4.size; omega
  have HBB4 := hide hb4
  clear hb4 hp3 d0'' d1''
  rcases unhide HP1 with rfl | ⟨bp1, ta, rfl, hta, hpr1⟩
  · clear HP1
    go_wp2_with fail
    go_ret
    exact ⟨rfl, unhide HB4⟩
  rcases unhide HP2 with rfl | ⟨bp2, tb, rfl, htb, hpr2⟩
  · clear HP2 HP1 hpr1
    go_wp2_with fail
    go_ret
    exact ⟨rfl, unhide HB4⟩
  rcases unhide HP3 with rfl | ⟨bp3, tc, rfl, htc, hpr3⟩
  · clear HP3 HP2 HP1 hpr1 hpr2
    go_wp2_with fail
    go_ret
    exact ⟨rfl, unhide HB4⟩
  clear HP1 HP2 HP3
  have hmk : ∀ (x : ByteArray) (tx : Rx), parseF x false = .tree tx → Makes tx := fun x tx h => by
    have hgood := parse_good (sized_all x false) h
    exact valids_makes _ (validTop_valids (by unfold validTop; simp [hgood.1, hgood.2])).1
  obtain rfl := choice_tree hta htb htc
  have hmka := hmk a ta hta
  have hmkb := hmk b tb htb
  have hmkc := hmk _ _ htc
  have hpr1' := ((hpr1.below (unhide HBB3)).below ((unhide HBB4).mono (unhide HBB3).size))
  have hpr2' := hpr2.below (unhide HBB4)
  have hsz3 := (unhide HBB3).size
  have hsz4 := (unhide HBB4).size
  by_cases hneg : from_ < 0
  · have f1 := fun W => Find_less bp1 S from_ W hneg
    have f2 := fun W => Find_less bp2 S from_ W hneg
    have f3 := fun W => Find_less bp3 S from_ W hneg
    rw [show foundVal (place S true) none = .tuple #[.int .i64 0, .int .i64 0, .bool false] from rfl] at f1 f2 f3
    have F1 := hide f1; have F2 := hide f2; have F3 := hide f3
    clear f1 f2 f3 hpr1 hpr2 hpr3 hpr1' hpr2' hmk hmka hmkb hmkc
    go_wp2_with fail
    refine (unhide F1 _).mono ?_
    rintro e w5 ⟨rfl, hw⟩
    obtain rfl := hw.symm
    go_wp2_with fail
    refine (unhide F2 _).mono ?_
    rintro e w5 ⟨rfl, hw⟩
    obtain rfl := hw.symm
    go_wp2_with fail
    refine (unhide F3 _).mono ?_
    rintro e w5 ⟨rfl, hw⟩
    obtain rfl := hw.symm
    go_wp2_with fail
    go_ret
    exact ⟨rfl, unhide HB4⟩
  obtain ⟨n, rfl⟩ : ∃ n : Nat, from_ = n := ⟨from_.toNat, by omega⟩
  obtain ⟨oa, hoa⟩ := found_ends (txt_fine S false false) (place S false) hmka n
  obtain ⟨ob, hob⟩ := found_ends (txt_fine S false false) (place S false) hmkb n
  have hoc := found_pick hoa hob
  have f1 := fun (W : World) (hb : Below w4.heap.size w4 W) => Find_calls hmka S n oa W (hpr1'.below (hb.mono (by omega))) (by have := hb.size; omega) ((unhide HG).below (below_then (unhide HB4) hb)).tabs (by omega) (by omega) hoa
  have f2 := fun (W : World) (hb : Below w4.heap.size w4 W) => Find_calls hmkb S n ob W (hpr2'.below (hb.mono (by omega))) (by have := hb.size; omega) ((unhide HG).below (below_then (unhide HB4) hb)).tabs (by omega) (by omega) hob
  have f3 := fun (W : World) (hb : Below w4.heap.size w4 W) => Find_calls hmkc S n (pick oa ob) W (hpr3.below hb) hb.size ((unhide HG).below (below_then (unhide HB4) hb)).tabs (by omega) (by omega) hoc
  simp only [foundVal_eq] at f1 f2 f3
  have hpa := fst_le S false oa
  have hqa := snd_le S false oa
  have hpb := fst_le S false ob
  have hqb := snd_le S false ob
  have hval : (oa = none ∧ ob = none) ∨ (∃ pb, oa = none ∧ ob = some pb) ∨ (∃ pa, oa = some pa ∧ ob = none) ∨ (∃ pa pb, oa = some pa ∧ ob = some pb) := by
    cases oa <;> cases ob <;> simp
  have F1 := hide f1; have F2 := hide f2; have F3 := hide f3; have HOA := hide hoa; have HOB := hide hob
  clear f1 f2 f3 hpr1 hpr2 hpr3 hpr1' hpr2' hmk hmka hmkb hmkc hoc hneg hoa hob
  go_wp2_with fail
  refine (unhide F1 _ (Below.refl _ _)).mono ?_
  rintro e w5 ⟨rfl, hb5⟩
  have x0 := ((bcell hb5).1 w.heap.size 0 hz4).trans d0
  have x1 := ((bcell hb5).1 w.heap.size 1 hz4).trans d1
  have hz5 : w.heap.size < w5.heap.size := by have := hb5.size; omega
  have HB5 := hide hb5
  clear hb5 d0 d1
  go_wp2_with fail
  refine (unhide F2 _ (unhide HB5)).mono ?_
  rintro e w6 ⟨rfl, hb6⟩
  have y0 := ((bcell hb6).1 w.heap.size 0 hz5).trans x0
  have y1 := ((bcell hb6).1 w.heap.size 1 hz5).trans x1
  have hz6 : w.heap.size < w6.heap.size := by have := hb6.size; omega
  have HB6 := hide (below_then (unhide HB5) hb6)
  clear hb6 x0 x1
  go_wp2_with fail
  refine (unhide F3 _ (unhide HB6)).mono ?_
  rintro e w7 ⟨rfl, hb7⟩
  have HB7 := hide (below_then (unhide HB4) (below_then (unhide HB6) hb7))
  clear hb7 y0 y1
  rcases hval with ⟨rfl, rfl⟩ | ⟨pb, rfl, rfl⟩ | ⟨pa, rfl, rfl⟩ | ⟨pa, pb, rfl, rfl⟩
  · simp only [okB, fstP, sndP, pick]
    go_wp2_with fail
    go_ret
    exact ⟨rfl, unhide HB7⟩
  · simp only [okB, fstP, sndP, pick]
    go_wp2_with fail
    go_ret
    exact ⟨rfl, unhide HB7⟩
  · simp only [okB, fstP, sndP, pick]
    go_wp2_with fail
    go_ret
    exact ⟨rfl, unhide HB7⟩
  · obtain ⟨x, y⟩ := pa
    obtain ⟨z, v⟩ := pb
    obtain ⟨a1, a2, a3, -⟩ := unhide HOA
    obtain ⟨b1, b2, b3, -⟩ := unhide HOB
    have hZ := sized_all S false
    clear hpa hqa hpb hqb F1 F2 F3 HOA HOB
    rcases Nat.lt_trichotomy z x with hc | hc | hc
    · have h1 := place_mono hZ hc a1
      have hp : pick (some (x, y)) (some (z, v)) = some (z, v) := by simp only [pick]; rw [if_pos (.inl hc)]
      rw [hp]
      simp only [okB, fstP, sndP]
      generalize place S false x = px at *
      generalize place S false y = py at *
      generalize place S false z = pz at *
      generalize place S false v = pv at *
      have g1 : (pz : Int) < (px : Int) := by omega
      clear hc hp hZ
      go_wp2_with fail
      go_ret
      exact ⟨rfl, unhide HB7⟩
    · subst hc
      by_cases hv : y < v
      · have h1 := place_mono hZ hv b2
        have hp : pick (some (z, y)) (some (z, v)) = some (z, v) := by simp only [pick]; rw [if_pos (by simp [hv])]
        rw [hp]
        simp only [okB, fstP, sndP]
        generalize place S false y = py at *
        generalize place S false z = pz at *
        generalize place S false v = pv at *
        have g1 : (py : Int) < (pv : Int) := by omega
        clear hv hp hZ
        go_wp2_with fail
        go_ret
        exact ⟨rfl, unhide HB7⟩
      · have h1 : place S false v ≤ place S false y := by
          by_cases e : v = y
          · subst e; exact Nat.le_refl _
          · exact Nat.le_of_lt (place_mono hZ (by omega) a2)
        have hp : pick (some (z, y)) (some (z, v)) = some (z, y) := by simp only [pick]; rw [if_neg (by omega)]
        rw [hp]
        simp only [okB, fstP, sndP]
        generalize place S false y = py at *
        generalize place S false z = pz at *
        generalize place S false v = pv at *
        have g1 : (pv : Int) ≤ (py : Int) := by omega
        clear hv hp hZ
        go_wp2_with fail
        go_ret
        exact ⟨rfl, unhide HB7⟩
    · have h1 := place_mono hZ hc b1
      have hp : pick (some (x, y)) (some (z, v)) = some (x, y) := by simp only [pick]; rw [if_neg (by omega)]
      rw [hp]
      simp only [okB, fstP, sndP]
      generalize place S false x = px at *
      generalize place S false y = py at *
      generalize place S false z = pz at *
      generalize place S false v = pv at *
      have g1 : (px : Int) < (pz : Int) := by omega
      have g2 : ((pz : Int) == (px : Int)) = false := by simp; omega
      clear hc hp hZ
      go_wp2_with fail
      go_ret
      exact ⟨rfl, unhide HB7⟩
end Go.Proofs.YtanmlgliibgpcaaDoor

/- NfaChoice returns true of every two texts, every string and every place: no condition beyond the statement's own. -/
namespace Go.Proofs.YtanmlgliibgpcaaDoor
open Go.Shelf Go.ChangeShapes Go.WideShapes Go.ChangeAt Go.RowKit Go.Lib Thr
open Go.ChangeMaps (open_string shut_string)
set_option linter.unusedVariables false
set_option linter.unusedSimpArgs false

theorem own : ownKnob Tryd.prog.godebug = none := by kernel_rfl
/-- The witness: the settled world, the two tables holding what their initialisers lay. -/
noncomputable def laidWorld (os : Os) : World :=
  let w0 := World.holding Tryd.prog os ⟨#[], #[], []⟩
  let put (h : Array Obj) (g : Nat) (cs : Array Value) : Array Obj := h.modify g fun
    | .cells _ t frozen => .cells cs t frozen
    | o => o
  let h1 := put w0.heap 1 (Lib.firstTab.map fun z => Value.int .u8 z).toArray
  let h2 := put h1 2 ((List.range 16).flatMap fun i => [Value.int .u8 (Lib.accLo i), Value.int .u8 (Lib.accHi i)]).toArray
  { w0 with heap := h2 }
theorem accept_eq : (Rows.laid_unicode_utf8_acceptRanges : DataW Unit) = Lib.acceptData := by kernel_rfl
theorem first_eq : Rows.laid_unicode_utf8_first = Lib.firstData := Pinned.utf8First_eq
theorem laid_eq : Rows.nfaChoiceRow.laid = [("unicode/utf8.acceptRanges", Lib.acceptData), ("unicode/utf8.first", Lib.firstData)] := by
  show [("unicode/utf8.acceptRanges", Rows.laid_unicode_utf8_acceptRanges), ("unicode/utf8.first", Rows.laid_unicode_utf8_first)] = _
  rw [accept_eq, first_eq]
theorem laid_met (os : Os) (args : Array Value) : laidMet Tryd.prog Rows.nfaChoiceRow.laid ((laidWorld os).forCall (fun _ _ => 0) ⟨#[], args, []⟩).memory := by
  rw [laid_eq]
  exact (LaidIn.of_run (l := [("unicode/utf8.acceptRanges", Lib.acceptData), ("unicode/utf8.first", Lib.firstData)]) [2, 1] 8 (by kernel_rfl) (by kernel_rfl) (by kernel_rfl) (by kernel_rfl)).met
abbrev choSpec : OpenSpec := OpenSpec.ofChange Rows.nfaChoiceSpec
theorem witness_row (os : Os) {H : Type} (enc : TypeId × Value → H) :
    choSpec.preRow enc Tryd.prog Tryd.f4 Rows.nfaChoiceRow.domain false Rows.nfaChoiceRow.laid ((laidWorld os).forCall (fun _ _ => 0) ⟨#[], #[.string ⟨#[]⟩, .string ⟨#[]⟩, .agg #[.string ⟨#[]⟩, .int .i64 0]], []⟩).memory #[.string ⟨#[]⟩, .string ⟨#[]⟩, .agg #[.string ⟨#[]⟩, .int .i64 0]] := by
  have hw : (DataW.whole enc Tryd.prog ((laidWorld os).forCall (fun _ _ => 0) ⟨#[], #[.string ⟨#[]⟩, .string ⟨#[]⟩, .agg #[.string ⟨#[]⟩, .int .i64 0]], []⟩).memory Tryd.f4.params.toList choSpec.vars false #[Value.string ⟨#[]⟩, .string ⟨#[]⟩, .agg #[.string ⟨#[]⟩, .int .i64 0]].toList 8).map (fun x => (x.1, x.2.1)) =
      some ([.lit (.string []), .lit (.string []), .agg [.lit (.string []), .lit (.int .i64 0)]], []) := by kernel_rfl
  obtain ⟨⟨x1, x2, x3⟩, hx, hx1⟩ := Option.map_eq_some_iff.1 hw
  simp only [Prod.mk.injEq] at hx1
  obtain ⟨rfl, rfl⟩ := hx1
  exact OpenSpec.preRow_of_cond 8 hx (by kernel_rfl) (fun k hk => by cases hk) (by kernel_rfl) (laid_met os _)

set_option maxRecDepth 100000 in
set_option maxHeartbeats 2000000 in
theorem cho_lifted (os : Os) (started : os.Started) (H : Type) (enc : TypeId × Value → H) (F : Stop.Interp) :
    ReturnsInHanded {} Tryd.checked os 4 .any (choSpec.preRow enc Tryd.prog Tryd.f4 Rows.nfaChoiceRow.domain false Rows.nfaChoiceRow.laid) ((choSpec.at F).post enc Tryd.prog Tryd.f4 false true false false) := by
  refine returnsInHanded_of_row (C := Tryd.checked) (s := choSpec) own started (by kernel_rfl) Tryd.func4
    (witness_row_atRef (enc := enc) (C := Tryd.checked) false (laidWorld os) #[.string ⟨#[]⟩, .string ⟨#[]⟩, .agg #[.string ⟨#[]⟩, .int .i64 0]] rfl (by kernel_rfl) (by kernel_rfl) (by kernel_rfl) (witness_row os enc)) ?_
  intro W base args ds gs before hval0 hW _ _ hwt hL hsh _
  have hval : ∀ (j : Nat) t v, Tryd.f4.params[j]? = some t → args[j]? = some v → Value.okWide Tryd.prog W .any base t v := hval0
  have hW' := hW
  obtain ⟨p, q, hA0, hV0, rfl, _, _⟩ := hW
  have hA : DataW.TrodAll enc Tryd.prog W 0 (fun _ => true) true Tryd.f4.params.toList args.toList ds p := hA0
  rw [Tryd.params4] at hA hval
  obtain ⟨v0, v1, v2, d0, d1, d2, p0, p1, p2, rfl, rfl, rfl, h0, h1, h2⟩ := trodAll_three hA
  obtain ⟨rfl, rfl⟩ := trodVars_none hV0
  obtain ⟨s, rfl, rfl, rfl, ws⟩ := open_string Tryd.underlying9 (hval 0 9 v0 rfl rfl) h0
  obtain ⟨s2, rfl, rfl, rfl, ws2⟩ := open_string Tryd.underlying9 (hval 1 9 v1 rfl rfl) h1
  obtain ⟨c0, c1, y0, y1, m, rfl, rfl, rfl, hy0, hy1⟩ := Joins.open_agg2 Tryd.underlying28 (by kernel_rfl) (by kernel_rfl) (hval 2 28 v2 rfl rfl) h2
  obtain ⟨S, e0, rfl, wS⟩ := DataW.trod_string Tryd.underlying9 hy0
  obtain ⟨n, e1, rfl, wn⟩ := DataW.trod_int Tryd.underlying3 hy1
  simp at e0 e1
  subst e0 e1
  have hz1 : s.size ≤ 140737488351232 := by
    have := sized_string hwt (j := 0) (t := 9) (bytes := s.data.toList) (by rw [Tryd.params4]; rfl) rfl
    rw [Array.length_toList] at this
    exact this
  have hz2 : s2.size ≤ 140737488351232 := by
    have := sized_string hwt (j := 1) (t := 9) (bytes := s2.data.toList) (by rw [Tryd.params4]; rfl) rfl
    rw [Array.length_toList] at this
    exact this
  clear hA0 hV0 hval0
  rw [laid_eq] at hL
  have htab : Tabs W :=
    utf8Tabs_of_readsT (U8Types.of260 Tryd.lays260) ⟨by kernel_rfl, by kernel_rfl, by kernel_rfl, by kernel_rfl, by kernel_rfl, by kernel_rfl, by kernel_rfl⟩ (Lib.laidMet.reads hL (.tail _ (.head _))) (Lib.laidMet.reads hL (.head _))
  have hmax := Tryd.laysM143.s1_3 W hsh
  have structReads : ∀ (W' : World) (sp : Nat → Bool), DataW.Trod enc Tryd.prog W' 0 sp true 28 (.agg #[.string S, .int .i64 n]) (.agg [.lit (.string S.data.toList), .lit (.int .i64 n)]) [] := fun W' sp =>
    Joins.shut_agg2 (y0 := (.lit (.string S.data.toList), [])) (y1 := (.lit (.int .i64 n), [])) Tryd.underlying28 (by kernel_rfl) (by kernel_rfl) ⟨1, by simp [DataW.trod, Tryd.underlying9, wS]⟩ ⟨1, by simp [DataW.trod, Tryd.underlying3, wn]⟩
  have hn : -9223372036854775808 ≤ n ∧ n ≤ 9223372036854775807 := by
    have := wn
    have hmn : IntKind.i64.min = -9223372036854775808 := by decide
    have hmx : IntKind.i64.max = 9223372036854775807 := by decide
    simp [Lit.wf, IntKind.wrap_i64] at this
    omega
  refine (choice_calls s s2 S n W ⟨htab, hmax⟩ hn.1 hn.2 hz1 hz2 wS).mono ?_
  rintro e W' ⟨rfl, bel⟩
  have e1 : (choSpec.at F).fn H ([.lit (.string s.data.toList), .lit (.string s2.data.toList), .agg [.lit (.string S.data.toList), .lit (.int .i64 n)]] ++ []) = { results := [.lit (.bool true)], args := [.lit (.string s.data.toList), .lit (.string s2.data.toList), .agg [.lit (.string S.data.toList), .lit (.int .i64 n)]] } := rfl
  refine ⟨_, rfl, _, _, _, [], [], [], hW', ?_, ?_, ?_, bel.frame _, fun h => by cases h⟩
  · rw [e1]; exact trodAll_mk1 (shut_bool Tryd.underlying4 _)
  · rw [e1]; exact trodAll_mk3 (shut_string Tryd.underlying9 ws) (shut_string Tryd.underlying9 ws2) (structReads _ _)
  · rw [e1]; rfl

theorem choice_holds : Rows.NfaChoiceSaid :=
  OpenClaim.holds_of_cond 4 Tryd.f4 rfl rfl rfl rfl rfl rfl rfl ⟨rfl, rfl, rfl, rfl, rfl⟩ rfl rfl rfl rfl rfl (by kernel_rfl) Tryd.func4 (by kernel_rfl)
    (of_decide_eq_true (by kernel_rfl)) (by unfold Func.isWrapper; first | (rw [if_neg (of_decide_eq_false (by kernel_rfl))]; exact ⟨rfl, rfl⟩) | (rw [if_pos (of_decide_eq_true (by kernel_rfl))]; kernel_rfl))
    (fun os started H enc _ F0 => by rw [OpenClaim.pre_eq_preRow]; exact cho_lifted os started H enc F0)
#print axioms choice_holds
end Go.Proofs.YtanmlgliibgpcaaDoor

namespace Go.Proofs.YtanmlgliibgpcaaDoor
open Go

theorem choice_card : Rows.NfaChoiceCardSaid :=
  Claim7.holds_tied_plain_at .later [] [.data, .pinned] true (true, "a3710effdc1e3f0895447a8e8a768be1629044227cc9100b6371bab178515853") true
    choice_holds (fun _ h => by cases h) (by kernel_rfl) (fun _ h => by cases h) nfaChoice_row_tie rfl ⟨rfl, rfl⟩ (by kernel_rfl) rfl
    (fun f fn hf hfn => by
      obtain rfl : f = 4 := Option.some.inj ((show Tryd.prog.funcNamed "thresher/thresherlaw10.NfaChoice" = some 4 by kernel_rfl).symm.trans hf) |>.symm
      obtain rfl : fn = Tryd.f4 := (Option.some.inj (Tryd.func4.symm.trans hfn)).symm
      exact ⟨by kernel_rfl, fun j t ht => by
        rw [Tryd.params4] at ht
        have hm : t ∈ [9, 9, 28] := by simpa using Array.mem_of_getElem? ht
        have hall : ([9, 9, 28].all fun u => !Tryd.prog.wantsStandIn u) = true := by kernel_rfl
        exact (show Tryd.prog.wantsStandIn t = false by simpa using List.all_eq_true.1 hall t hm)⟩)
    (by kernel_rfl)
#print axioms choice_card
end Go.Proofs.YtanmlgliibgpcaaDoor
