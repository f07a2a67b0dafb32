/- The walks of ready, fixed and NfaLiteral. -/
import Derived.Test.YtanmlgliibgpcaaDoorRxV
import Derived.Test.YtanmlgliibgpcaaDoorFixed
namespace Go.Proofs.YtanmlgliibgpcaaDoor
open Go.RowKit Thr
set_option linter.unusedVariables false
set_option linter.unusedSimpArgs false

set_option maxRecDepth 100000 in
set_option maxHeartbeats 16000000 in
theorem ready_good (s : ByteArray) (fold bytes : Bool) (t : Rx) (w : World) (hp : parseF s bytes = .tree t) (hG : Glob w) (hm : s.size ≤ 9000000000000000000) :
    Calls Tryd.prog 11 #[.string s, .agg #[.bool fold, .bool bytes]] w fun e w' => ∃ bp, e = .returned (.pointer (some ⟨bp, 0, none⟩)) ∧ Below w.heap.size w w' ∧ ProgAt w'.heap.size w' bp fold bytes (compiled t).2 (compiled t).1 := by
  have hgood := parse_good (sized_all s bytes) hp
  have hv : validTop t = true := by unfold validTop; simp [hgood.1, hgood.2]
  have hpc := fun W (h : Below w.heap.size w W) => Parse_calls s bytes W (hG.below h) hm
  simp only [hp, ParsePost] at hpc
  have hcm := fun (cs : List Value) (W : World) (ok : Nat → Prop) (h : TreeAt ok W t cs) => Compile_good t cs fold bytes W h hv
  have HPC := hide hpc; have HCM := hide hcm
  clear hpc hcm hp hG hgood hv
  go_enter Tryd.func11, Tryd.ntmps11
  go_wp2_with fail
  refine (unhide HPC _ (by repeat (first | exact Below.refl _ _ | assumption | refine below_drewN ?_ _ | refine Below.drew ?_ | refine below_alloc' ?_ _))).mono ?_
  rintro e w1 ⟨cs, rfl, ht, hb1⟩
  obtain ⟨k1, k2, k3, As, ls, cs', k5, k6, A, lk, cc, rfl⟩ := ht.form
  have d0 := ((bcell hb1).1 w.heap.size 0 (by simp)).trans (show _ = some (.bool fold) by go_simp)
  have d1 := ((bcell hb1).1 w.heap.size 1 (by simp)).trans (show _ = some (.bool bytes) by go_simp)
  have hz1 : w.heap.size < w1.heap.size := by have := hb1.size; simp at this; omega
  have HB1 := hide (below_then (w := w) (by repeat (first | exact Below.refl _ _ | assumption | refine below_drewN ?_ _ | refine Below.drew ?_ | refine below_alloc' ?_ _)) hb1)
  have HT := hide (ht.below ((Below.refl w1.heap.size w1).alloc (Nat.le_refl _) (.cells #[.int .i64 k1, .int .i64 k2, .bool k3, .slice As ls cs', .int .i64 k5, .int .i64 k6, .slice A lk cc] 26)))
  clear ht hb1
  go_wp2_with fail
  refine (unhide HCM _ _ _ (unhide HT)).mono ?_
  rintro e w2 ⟨bp, rfl, hb2, hbp, hpr⟩
  go_wp2_with fail
  go_ret
  exact ⟨bp, rfl, below_then (unhide HB1) (below_then ((Below.refl w1.heap.size w1).alloc (Nat.le_refl _) _) hb2), hpr⟩

theorem fixed_first_val : foundVal (place fixedS false) (some (1, 3)) = .tuple #[.int .i64 1, .int .i64 3, .bool true] := by
  simp [foundVal, fixed_place]
theorem fixed_second_val : foundVal (place fixedS false) (some (2, 5)) = .tuple #[.int .i64 2, .int .i64 5, .bool true] := by
  simp [foundVal, fixed_place]
set_option maxRecDepth 100000 in
set_option maxHeartbeats 16000000 in
theorem fixed_calls (w : World) (hG : Glob w) : Calls Tryd.prog 6 #[] w fun e w' => e = .returned (.bool true) ∧ Below w.heap.size w w' := by
  have hr := ready_good fixedP false false fixedT w fixed_parse hG (by decide)
  have hf := fun (W : World) (bp N : Nat) (hP : ProgAt N W bp false false (compiled fixedT).2 (compiled fixedT).1) (hN : N ≤ W.heap.size) (hb : Below w.heap.size w W) => Find_calls fixed_makes fixedS 0 (some (1, 3)) W hP hN (hG.below hb).tabs (by decide) (by omega) fixed_a
  have hf2 := fun (W : World) (bp N : Nat) (hP : ProgAt N W bp false false (compiled fixedT).2 (compiled fixedT).1) (hN : N ≤ W.heap.size) (hb : Below w.heap.size w W) => Find_calls fixed_makes fixedS 2 (some (2, 5)) W hP hN (hG.below hb).tabs (by decide) (by omega) fixed_b
  simp only [fixed_first_val] at hf
  simp only [fixed_second_val] at hf2
  have HR := hide hr; have HF := hide hf; have HF2 := hide hf2
  clear hr hf hf2 hG
  go_enter Tryd.func6, Tryd.ntmps6
  go_wp2_with fail
  refine (unhide HR).mono ?_
  rintro e w1 ⟨bp, rfl, hb1, hpr⟩
  have HB1 := hide hb1; have HPR := hide hpr
  clear hb1 hpr
  go_wp2_with fail
  refine (unhide HF w1 bp _ (unhide HPR) (Nat.le_refl _) (unhide HB1)).mono ?_
  rintro e w2 ⟨rfl, hb2⟩
  have HB2 := hide (below_then (unhide HB1) hb2); have HPR2 := hide ((unhide HPR).below hb2); have hz2 : w1.heap.size ≤ w2.heap.size := hb2.size
  clear hb2
  go_wp2_with fail
  refine (unhide HF2 w2 bp _ (unhide HPR2) hz2 (unhide HB2)).mono ?_
  rintro e w3 ⟨rfl, hb3⟩
  go_wp2_with fail
  go_ret
  exact ⟨rfl, below_then (unhide HB2) hb3⟩
end Go.Proofs.YtanmlgliibgpcaaDoor

namespace Go.Proofs.YtanmlgliibgpcaaDoor
open Go.RowKit Thr
set_option linter.unusedVariables false
set_option linter.unusedSimpArgs false

theorem lit_found_val (S t : ByteArray) (n : Nat) (hn : n ≤ S.size) (hS : S.size ≤ 300) : (Lib.index (S.extract n S.size).data.toList t.data.toList < 0 ∧ foundVal (place S true) (litEnd S t n) = .tuple #[.int .i64 0, .int .i64 0, .bool false]) ∨
    ∃ k : Nat, Lib.index (S.extract n S.size).data.toList t.data.toList = k ∧ k ≤ 9223372036854775807 ∧ n + k ≤ S.size ∧ foundVal (place S true) (litEnd S t n) = .tuple #[.int .i64 ((n : Int) + k), .int .i64 ((n : Int) + k + t.size), .bool true] ∧ n + k + t.size ≤ S.size := by
  have hf := found_lit S t n hn
  unfold litEnd at hf ⊢
  by_cases h : Lib.index (S.extract n S.size).data.toList t.data.toList < 0
  · left
    refine ⟨h, ?_⟩
    rw [if_pos h]
    rfl
  · right
    rw [if_neg h] at hf ⊢
    obtain ⟨k, hk⟩ : ∃ k : Nat, Lib.index (S.extract n S.size).data.toList t.data.toList = k := ⟨(Lib.index (S.extract n S.size).data.toList t.data.toList).toNat, by omega⟩
    rw [hk] at hf ⊢
    rw [Int.toNat_natCast] at hf ⊢
    obtain ⟨h1, h2, h3, h4, h5, h6, h7⟩ := hf
    rw [nCh_bytes] at h1 h2
    refine ⟨k, rfl, ?_, h1, ?_, h2⟩
    · omega
    · simp only [foundVal]
      rw [place_bytes S h1, place_bytes S h2]
      simp

set_option maxRecDepth 100000 in
set_option maxHeartbeats 64000000 in
theorem literal_calls (t S : ByteArray) (from_ : Int) (w : World) (hG : Glob w) (hf0 : -9223372036854775808 ≤ from_) (hf1 : from_ ≤ 9223372036854775807) (ht : t.size ≤ 9223372036854775807) (hS : S.size ≤ 9223372036854775807) :
    Calls Tryd.prog 5 #[.string t, .agg #[.string S, .int .i64 from_]] w fun e w' => e = .returned (.bool true) ∧ Below w.heap.size w w' := by
  have hfx := fun W (h : Below w.heap.size w W) => fixed_calls W (hG.below h)
  have HFX := hide hfx; have HG := hide hG
  clear hfx hG
  by_cases h150 : 150 < t.size
  · have a1 : decide ((150 : Int) < t.size) = true := decide_eq_true (by omega)
    have a2 : decide ((t.size : Int) > 150) = true := decide_eq_true (by omega)
    have a3 : decide (150 < t.size) = true := decide_eq_true (by omega)
    go_enter Tryd.func5, Tryd.ntmps5
    go_wp2_with fail
    refine (unhide HFX _ (by repeat (first | exact Below.refl _ _ | assumption | refine below_drewN ?_ _ | refine Below.drew ?_ | refine below_alloc' ?_ _))).mono ?_
    rintro e w1 ⟨rfl, hb1⟩
    have HB1 := hide (below_then (w := w) (by repeat (first | exact Below.refl _ _ | assumption | refine below_drewN ?_ _ | refine Below.drew ?_ | refine below_alloc' ?_ _)) hb1)
    clear hb1
    go_wp2_with fail
    go_ret
    exact ⟨rfl, unhide HB1⟩
  have a1 : decide ((150 : Int) < t.size) = false := decide_eq_false (by omega)
  have a2 : decide ((t.size : Int) > 150) = false := decide_eq_false (by omega)
  have a3 : decide (150 < t.size) = false := decide_eq_false (by omega)
  by_cases h300 : 300 < S.size
  · have c1 : decide ((300 : Int) < S.size) = true := decide_eq_true (by omega)
    have c2 : decide ((S.size : Int) > 300) = true := decide_eq_true (by omega)
    have c3 : decide (300 < S.size) = true := decide_eq_true (by omega)
    go_enter Tryd.func5, Tryd.ntmps5
    go_wp2_with fail
    refine (unhide HFX _ (by repeat (first | exact Below.refl _ _ | assumption | refine below_drewN ?_ _ | refine Below.drew ?_ | refine below_alloc' ?_ _))).mono ?_
    rintro e w1 ⟨rfl, hb1⟩
    have d0 := ((bcell hb1).1 w.heap.size 0 (by simp)).trans (show _ = some (.string S) by go_simp)
    have HB1 := hide (below_then (w := w) (by repeat (first | exact Below.refl _ _ | assumption | refine below_drewN ?_ _ | refine Below.drew ?_ | refine below_alloc' ?_ _)) hb1)
    clear hb1
    go_wp2_with fail
    go_ret
    exact ⟨rfl, unhide HB1⟩
  have c1 : decide ((300 : Int) < S.size) = false := decide_eq_false (by omega)
  have c2 : decide ((S.size : Int) > 300) = false := decide_eq_false (by omega)
  have c3 : decide (300 < S.size) = false := decide_eq_false (by omega)
  have hS3 : S.size ≤ 300 := by omega
  have ht1 : t.size ≤ 150 := by omega
  clear h150 h300 ht hS
  go_enter Tryd.func5, Tryd.ntmps5
  go_wp2_with fail
  refine (unhide HFX _ (by repeat (first | exact Below.refl _ _ | assumption | refine below_drewN ?_ _ | refine Below.drew ?_ | refine below_alloc' ?_ _))).mono ?_
  rintro e w1 ⟨rfl, hb1⟩
  have d0 := ((bcell hb1).1 w.heap.size 0 (by simp)).trans (show _ = some (.string S) by go_simp)
  have d1 := ((bcell hb1).1 w.heap.size 1 (by simp)).trans (show _ = some (.int .i64 from_) by go_simp)
  have hz1 : w.heap.size < w1.heap.size := by have := hb1.size; simp at this; omega
  have HB1 := hide (below_then (w := w) (by repeat (first | exact Below.refl _ _ | assumption | refine below_drewN ?_ _ | refine Below.drew ?_ | refine below_alloc' ?_ _)) hb1)
  clear hb1
  go_wp2_with fail
  go_loop [5] (fun i_ => ∃ k : Nat, k ≤ t.size ∧ i_ = .int .i64 k ∧ Hid (∀ j, j < k → litByte (byt t j))) (fun i_ => t.size - (intOf i_).toNat)
  case atStart => exact ⟨0, by omega, rfl, hide (fun j hj => by omega)⟩
  case round =>
    obtain ⟨k, hk, rfl, HL⟩ := hrel
    by_cases hlt : k < t.size
    · have hb := byt_at hlt
      have hr := byt_range t k
      obtain ⟨b, hb0⟩ : ∃ b, byt t k = b := ⟨_, rfl⟩
      rw [hb0] at hb hr
      have HB0 := hide hb0
      clear hb0
      go_wp2_with fail
      all_goals first
        | (go_ret; exact ⟨rfl, unhide HB1⟩)
        | (go_round
           case rel => exact ⟨k + 1, by omega, by go_num, hide (fun j hj => by
             rcases Nat.lt_or_ge j k with h | h
             · exact unhide HL j h
             · obtain rfl : j = k := by omega
               rw [unhide HB0]
               unfold litByte
               clear HB0 HL HB1 HFX HG
               simp_all
               try omega)⟩
           case measure => simp [intOf]; omega)
    · obtain rfl : k = t.size := by omega
      have hp := parse_lit (unhide HL) ht1
      have hrd := ready_good t false true _ w1 hp ((unhide HG).below (unhide HB1)) (by omega)
      have hgood := parse_good (sized_all t true) hp
      have hmk : Makes (joinF (litCat t)) := valids_makes _ (validTop_valids (by unfold validTop; simp [hgood.1, hgood.2])).1
      have HRD := hide hrd; have HMK := hide hmk
      clear hrd hmk hgood hp
      go_wp2_with fail
      refine (unhide HRD).mono ?_
      rintro e w2 ⟨bp, rfl, hb2, hpr⟩
      have e0 := ((bcell hb2).1 w.heap.size 0 hz1).trans d0
      have e1 := ((bcell hb2).1 w.heap.size 1 hz1).trans d1
      have hz2 : w.heap.size < w2.heap.size := by have := hb2.size; omega
      have HB2 := hide (below_then (unhide HB1) hb2); have HPR := hide hpr
      clear hb2 hpr d0 d1
      by_cases hneg : from_ < 0
      · have hfl := fun W => Find_less bp S from_ W hneg
        rw [show foundVal (place S true) none = .tuple #[.int .i64 0, .int .i64 0, .bool false] from rfl] at hfl
        have n1 : decide (from_ < 0) = true := decide_eq_true hneg
        have HFL := hide hfl
        clear hfl hneg
        go_wp2_with fail
        refine (unhide HFL _).mono ?_
        rintro e w3 ⟨rfl, hw⟩
        obtain rfl := hw.symm
        go_wp2_with fail
        go_ret
        exact ⟨rfl, unhide HB2⟩
      have n1 : decide (from_ < 0) = false := decide_eq_false hneg
      obtain ⟨n, rfl⟩ : ∃ n : Nat, from_ = n := ⟨from_.toNat, by omega⟩
      have hfd := fun o (ho : Found (txt S false true) (nCh S true) (place S true) (joinF (litCat t)) n o) => Find_calls (unhide HMK) S n o w2 (unhide HPR) (Nat.le_refl _) ((unhide HG).below (unhide HB2)).tabs (by omega) (by omega) ho
      by_cases hpast : S.size < n
      · have hfp := hfd none (found_past S _ true false n (by omega))
        rw [show foundVal (place S true) none = .tuple #[.int .i64 0, .int .i64 0, .bool false] from rfl] at hfp
        have m1 : decide ((S.size : Int) < n) = true := decide_eq_true (by omega)
        have m2 : decide ((n : Int) > S.size) = true := decide_eq_true (by omega)
        have m3 : decide (S.size < n) = true := decide_eq_true (by omega)
        have HFP := hide hfp
        clear hfp hfd hpast hneg
        go_wp2_with fail
        refine (unhide HFP).mono ?_
        rintro e w3 ⟨rfl, hb3⟩
        have e0' := ((bcell hb3).1 w.heap.size 0 hz2).trans e0
        have e1' := ((bcell hb3).1 w.heap.size 1 hz2).trans e1
        have HB3 := hide (below_then (unhide HB2) hb3)
        clear hb3
        go_wp2_with fail
        go_ret
        exact ⟨rfl, unhide HB3⟩
      have hnS : n ≤ S.size := by omega
      have m1 : decide ((S.size : Int) < n) = false := decide_eq_false (by omega)
      have m2 : decide ((n : Int) > S.size) = false := decide_eq_false (by omega)
      have m3 : decide (S.size < n) = false := decide_eq_false (by omega)
      have b1 : (0 : Int) ≤ (n : Int) := by omega
      have b2 : (n : Int) ≤ S.size := by omega
      have b3 : ((n : Int)).toNat = n := by omega
      have b4 : IntKind.i64.wrap (n : Int) = (n : Int) := by rw [IntKind.wrap_i64]; omega
      have hfl := hfd _ (found_lit S t n hnS)
      obtain ⟨mx, hmx⟩ := (unhide HG).max
      have hix := fun W (hb : Below w.heap.size w W) => Tryd.strings_Index (S.extract n S.size) t mx W (by rw [tail_size]; omega) ((hb.cell (p := ⟨_, _, none⟩) (World.block_lt_of_cell? w _ hmx)).trans hmx)
      rcases lit_found_val S t n hnS hS3 with ⟨h1, h2⟩ | ⟨k, h1, h2, h3, h4, h5⟩
      · rw [h2] at hfl
        obtain ⟨ix, hixe⟩ : ∃ ix, Lib.index (S.extract n S.size).data.toList t.data.toList = ix := ⟨_, rfl⟩
        rw [hixe] at hix h1
        have p1 : decide (0 ≤ ix) = false := decide_eq_false (by omega)
        have HFL := hide hfl; have HIX := hide hix
        clear hfl hix hfd hmx h1 h2 hpast hneg hixe
        go_wp2_with fail
        refine (unhide HFL).mono ?_
        rintro e w3 ⟨rfl, hb3⟩
        have e0' := ((bcell hb3).1 w.heap.size 0 hz2).trans e0
        have e1' := ((bcell hb3).1 w.heap.size 1 hz2).trans e1
        have HB3 := hide (below_then (unhide HB2) hb3)
        clear hb3
        go_wp2_with fail
        refine (unhide HIX _ (unhide HB3)).mono ?_
        rintro e w4 ⟨rfl, hw⟩
        obtain rfl := hw.symm
        go_wp2_with fail
        go_ret
        exact ⟨rfl, unhide HB3⟩
      · rw [h4] at hfl
        rw [h1] at hix
        have p1 : decide ((0 : Int) ≤ (k : Int)) = true := decide_eq_true (by omega)
        have p2 : (n : Int) ≤ 300 := by omega
        have p3 : (k : Int) ≤ 300 := by omega
        have p4 : (t.size : Int) ≤ 150 := by omega
        have p5 : (0 : Int) ≤ (k : Int) := by omega
        have p6 : (0 : Int) ≤ (t.size : Int) := by omega
        have HFL := hide hfl; have HIX := hide hix
        clear hfl hix hfd hmx h1 h2 hpast hneg h4
        go_wp2_with fail
        refine (unhide HFL).mono ?_
        rintro e w3 ⟨rfl, hb3⟩
        have e0' := ((bcell hb3).1 w.heap.size 0 hz2).trans e0
        have e1' := ((bcell hb3).1 w.heap.size 1 hz2).trans e1
        have HB3 := hide (below_then (unhide HB2) hb3)
        clear hb3
        go_wp2_with fail
        refine (unhide HIX _ (unhide HB3)).mono ?_
        rintro e w4 ⟨rfl, hw⟩
        obtain rfl := hw.symm
        go_wp2_with fail
        go_ret
        exact ⟨rfl, unhide HB3⟩
end Go.Proofs.YtanmlgliibgpcaaDoor
