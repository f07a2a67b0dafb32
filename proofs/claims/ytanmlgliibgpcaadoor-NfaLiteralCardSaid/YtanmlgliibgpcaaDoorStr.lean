/- Walks: a string's characters, as the program and as the reference tell them. -/
import Derived.Test.YtanmlgliibgpcaaDoorBase
import Derived.Test.YtanmlgliibgpcaaDoorPureText
namespace Go.Proofs.YtanmlgliibgpcaaDoor
open Go.RowKit Thr
set_option linter.unusedVariables false
set_option linter.unusedVariables false

def tb : Nat → Int
  | 1 => 31
  | 2 => 2047
  | 3 => 131071
  | _ => 8388607
theorem tb_step {k : Nat} (h1 : 1 ≤ k) (h : k ≤ 3) : 64 * tb k + 63 ≤ tb (k + 1) := by
  rcases (by omega : k = 1 ∨ k = 2 ∨ k = 3) with rfl | rfl | rfl <;> simp [tb]
theorem tb_le (k : Nat) : tb k ≤ 8388607 := by unfold tb; split <;> omega
theorem ret_two {a b a' b' : Int} (h : (a', b') = (a, b)) : Ending.returned (.tuple #[.int .i64 a', .int .i64 b']) = .returned (.tuple #[.int .i64 a, .int .i64 b]) := by cases h; rfl

set_option maxHeartbeats 1000000 in
theorem size_ascii (s : ByteArray) (w : World) (hs : 0 < s.size) (hm : s.size ≤ 140737488351232) (c1 : byt s 0 < 128) :
    Calls Tryd.prog 46 #[.string s] w fun e w' => e = .returned (.tuple #[.int .i64 (sizeF s).1, .int .i64 (sizeF s).2]) ∧ w' = w := by
  obtain ⟨r1, h1⟩ : ∃ r1, (sizeF s).1 = r1 := ⟨_, rfl⟩
  obtain ⟨r2, h2⟩ : ∃ r2, (sizeF s).2 = r2 := ⟨_, rfl⟩
  rw [h1, h2]
  have hb := byt_at hs
  have hr := byt_range s 0
  obtain ⟨b0, hb0⟩ : ∃ b0, byt s 0 = b0 := ⟨_, rfl⟩
  rw [hb0] at hb hr c1
  have H1 := hide h1; have H2 := hide h2; have HB := hide hb0
  clear h1 h2 hb0
  go_enter Tryd.func46, Tryd.ntmps46
  go_wp2
  go_ret2
  refine ⟨ret_two ?_, rfl⟩
  have e : sizeF s = (1, b0) := by unfold sizeF; rw [unhide HB, if_pos c1]
  rw [← unhide H1, ← unhide H2, e]

set_option maxHeartbeats 2000000 in
theorem size_two (s : ByteArray) (w : World) (hs : 0 < s.size) (hm : s.size ≤ 140737488351232) (c2 : 194 ≤ byt s 0) (c3 : byt s 0 ≤ 223) :
    Calls Tryd.prog 46 #[.string s] w fun e w' => e = .returned (.tuple #[.int .i64 (sizeF s).1, .int .i64 (sizeF s).2]) ∧ w' = w := by
  have e0 : leadF (byt s 0) = (2, byt s 0 % 32, 128) := by
    unfold leadF
    rw [if_pos ⟨c2, c3⟩]
  have e : sizeF s = if s.size < 2 then (0, 0) else codeF 2 128 (tailF s 1 1 (byt s 0 % 32)) := by
    unfold sizeF
    rw [if_neg (by omega), e0]
    by_cases hl : s.size < 2
    · rw [if_pos (.inr hl), if_pos hl]
    · rw [if_neg (by simp only; omega), if_neg hl]
      rfl
  obtain ⟨r1, h1⟩ : ∃ r1, (sizeF s).1 = r1 := ⟨_, rfl⟩
  obtain ⟨r2, h2⟩ : ∃ r2, (sizeF s).2 = r2 := ⟨_, rfl⟩
  rw [h1, h2]
  rw [e] at h1 h2
  have hb := byt_at hs
  have hr := byt_range s 0
  obtain ⟨b0, hb0⟩ : ∃ b0, byt s 0 = b0 := ⟨_, rfl⟩
  rw [hb0] at hb hr c2 c3 h1 h2
  clear e e0
  by_cases hl : s.size < 2
  · rw [if_pos hl] at h1 h2
    subst h1; subst h2
    have HB := hide hb0
    clear hb0
    go_enter Tryd.func46, Tryd.ntmps46
    go_wp2
    go_ret2
    exact ⟨rfl, rfl⟩
  · rw [if_neg hl] at h1 h2
    obtain ⟨T, hT⟩ : ∃ T, tailF s 1 1 (b0 % 32) = T := ⟨_, rfl⟩
    rw [hT] at h1 h2
    have H1 := hide h1; have H2 := hide h2; have HB := hide hb0; have HT := hide hT
    clear h1 h2 hb0 hT
    go_enter Tryd.func46, Tryd.ntmps46
    go_wp2
    go_loop [6, 8] (fun r i => ∃ (k : Nat) (rv : Int), 1 ≤ k ∧ k ≤ 2 ∧ 0 ≤ rv ∧ Hid (rv ≤ tb k) ∧ i = .int .i64 k ∧ r = .int .i64 rv ∧ Hid (tailF s (2 - k) k rv = T)) (fun _ i => 2 - (intOf i).toNat)
    case atStart => exact ⟨1, b0 % 32, by omega, by omega, by omega, hide (by simp only [tb]; omega), rfl, rfl, HT⟩
    case round =>
      obtain ⟨k, rv, k1, k2, k3, k4, rfl, rfl, k5⟩ := hrel
      have k6 : rv ≤ 8388607 := Int.le_trans (unhide k4) (tb_le k)
      by_cases hlt : k < 2
      · have hks : k < s.size := by omega
        have hbk := byt_at hks
        have hrk := byt_range s k
        obtain ⟨bk, hbk0⟩ : ∃ bk, byt s k = bk := ⟨_, rfl⟩
        rw [hbk0] at hbk hrk
        have HBK := hide hbk0
        clear hbk0
        by_cases hc : bk < 128 ∨ 191 < bk
        · have hT0 : T = none := by
            rw [← unhide k5, show 2 - k = (2 - k - 1) + 1 by omega]
            simp only [tailF]; rw [unhide HBK, if_pos hc]
          have HT0 := hide hT0
          clear hT0
          rcases hc with hc | hc
          all_goals
            go_wp2
            go_ret2
            refine ⟨ret_two ?_, rfl⟩
            have h1 := unhide H1; have h2 := unhide H2
            rw [unhide HT0] at h1 h2
            rw [← h1, ← h2]; rfl
        · have hc1 : 128 ≤ bk := by omega
          have hc2 : bk ≤ 191 := by omega
          have hT1 : tailF s (2 - (k + 1)) (k + 1) (64 * rv + bk - 128) = T := by
            rw [← unhide k5, show 2 - k = (2 - (k + 1)) + 1 by omega]
            conv => rhs; simp only [tailF]
            rw [unhide HBK, if_neg hc]
          have HT1 := hide hT1
          have hst := tb_step k1 (by omega : k ≤ 3)
          have hst2 : 64 * rv + bk - 128 ≤ tb (k + 1) := by have := unhide k4; omega
          have HST := hide hst2
          clear hc hT1 hst hst2
          go_wp2
          go_round
          case rel => exact ⟨k + 1, 64 * rv + bk - 128, by omega, by omega, by omega, HST, by go_num, rfl, HT1⟩
          case measure => simp [intOf]; omega
      · obtain rfl : k = 2 := by omega
        have hT1 : T = some rv := by rw [← unhide k5]; rfl
        have h1 := unhide H1; have h2 := unhide H2
        rw [hT1] at h1 h2
        simp only [codeF] at h1 h2
        clear H1 H2 hT1 hlt
        by_cases q1 : rv < 128
        · rw [if_pos (.inl q1)] at h1 h2
          subst h1; subst h2
          go_wp2
          go_ret2
          exact ⟨rfl, rfl⟩
        by_cases q2 : 1114111 < rv
        · rw [if_pos (.inr (.inl q2))] at h1 h2
          subst h1; subst h2
          go_wp2
          go_ret2
          exact ⟨rfl, rfl⟩
        by_cases q3 : 55296 ≤ rv
        · by_cases q4 : rv ≤ 57343
          · rw [if_pos (.inr (.inr ⟨q3, q4⟩))] at h1 h2
            subst h1; subst h2
            go_wp2
            go_ret2
            exact ⟨rfl, rfl⟩
          · rw [if_neg (by omega)] at h1 h2
            subst h1; subst h2
            go_wp2
            go_ret2
            exact ⟨rfl, rfl⟩
        · rw [if_neg (by omega)] at h1 h2
          subst h1; subst h2
          go_wp2
          go_ret2
          exact ⟨rfl, rfl⟩

set_option maxHeartbeats 2000000 in
theorem size_three (s : ByteArray) (w : World) (hs : 0 < s.size) (hm : s.size ≤ 140737488351232) (c2 : 224 ≤ byt s 0) (c3 : byt s 0 ≤ 239) :
    Calls Tryd.prog 46 #[.string s] w fun e w' => e = .returned (.tuple #[.int .i64 (sizeF s).1, .int .i64 (sizeF s).2]) ∧ w' = w := by
  have e0 : leadF (byt s 0) = (3, byt s 0 % 16, 2048) := by
    unfold leadF
    rw [if_neg (by omega), if_pos ⟨c2, c3⟩]
  have e : sizeF s = if s.size < 3 then (0, 0) else codeF 3 2048 (tailF s 2 1 (byt s 0 % 16)) := by
    unfold sizeF
    rw [if_neg (by omega), e0]
    by_cases hl : s.size < 3
    · rw [if_pos (.inr hl), if_pos hl]
    · rw [if_neg (by simp only; omega), if_neg hl]
      rfl
  obtain ⟨r1, h1⟩ : ∃ r1, (sizeF s).1 = r1 := ⟨_, rfl⟩
  obtain ⟨r2, h2⟩ : ∃ r2, (sizeF s).2 = r2 := ⟨_, rfl⟩
  rw [h1, h2]
  rw [e] at h1 h2
  have hb := byt_at hs
  have hr := byt_range s 0
  obtain ⟨b0, hb0⟩ : ∃ b0, byt s 0 = b0 := ⟨_, rfl⟩
  rw [hb0] at hb hr c2 c3 h1 h2
  clear e e0
  by_cases hl : s.size < 3
  · rw [if_pos hl] at h1 h2
    subst h1; subst h2
    have HB := hide hb0
    clear hb0
    go_enter Tryd.func46, Tryd.ntmps46
    go_wp2
    go_ret2
    exact ⟨rfl, rfl⟩
  · rw [if_neg hl] at h1 h2
    obtain ⟨T, hT⟩ : ∃ T, tailF s 2 1 (b0 % 16) = T := ⟨_, rfl⟩
    rw [hT] at h1 h2
    have H1 := hide h1; have H2 := hide h2; have HB := hide hb0; have HT := hide hT
    clear h1 h2 hb0 hT
    go_enter Tryd.func46, Tryd.ntmps46
    go_wp2
    go_loop [6, 8] (fun r i => ∃ (k : Nat) (rv : Int), 1 ≤ k ∧ k ≤ 3 ∧ 0 ≤ rv ∧ Hid (rv ≤ tb k) ∧ i = .int .i64 k ∧ r = .int .i64 rv ∧ Hid (tailF s (3 - k) k rv = T)) (fun _ i => 3 - (intOf i).toNat)
    case atStart => exact ⟨1, b0 % 16, by omega, by omega, by omega, hide (by simp only [tb]; omega), rfl, rfl, HT⟩
    case round =>
      obtain ⟨k, rv, k1, k2, k3, k4, rfl, rfl, k5⟩ := hrel
      have k6 : rv ≤ 8388607 := Int.le_trans (unhide k4) (tb_le k)
      by_cases hlt : k < 3
      · have hks : k < s.size := by omega
        have hbk := byt_at hks
        have hrk := byt_range s k
        obtain ⟨bk, hbk0⟩ : ∃ bk, byt s k = bk := ⟨_, rfl⟩
        rw [hbk0] at hbk hrk
        have HBK := hide hbk0
        clear hbk0
        by_cases hc : bk < 128 ∨ 191 < bk
        · have hT0 : T = none := by
            rw [← unhide k5, show 3 - k = (3 - k - 1) + 1 by omega]
            simp only [tailF]; rw [unhide HBK, if_pos hc]
          have HT0 := hide hT0
          clear hT0
          rcases hc with hc | hc
          all_goals
            go_wp2
            go_ret2
            refine ⟨ret_two ?_, rfl⟩
            have h1 := unhide H1; have h2 := unhide H2
            rw [unhide HT0] at h1 h2
            rw [← h1, ← h2]; rfl
        · have hc1 : 128 ≤ bk := by omega
          have hc2 : bk ≤ 191 := by omega
          have hT1 : tailF s (3 - (k + 1)) (k + 1) (64 * rv + bk - 128) = T := by
            rw [← unhide k5, show 3 - k = (3 - (k + 1)) + 1 by omega]
            conv => rhs; simp only [tailF]
            rw [unhide HBK, if_neg hc]
          have HT1 := hide hT1
          have hst := tb_step k1 (by omega : k ≤ 3)
          have hst2 : 64 * rv + bk - 128 ≤ tb (k + 1) := by have := unhide k4; omega
          have HST := hide hst2
          clear hc hT1 hst hst2
          go_wp2
          go_round
          case rel => exact ⟨k + 1, 64 * rv + bk - 128, by omega, by omega, by omega, HST, by go_num, rfl, HT1⟩
          case measure => simp [intOf]; omega
      · obtain rfl : k = 3 := by omega
        have hT1 : T = some rv := by rw [← unhide k5]; rfl
        have h1 := unhide H1; have h2 := unhide H2
        rw [hT1] at h1 h2
        simp only [codeF] at h1 h2
        clear H1 H2 hT1 hlt
        by_cases q1 : rv < 2048
        · rw [if_pos (.inl q1)] at h1 h2
          subst h1; subst h2
          go_wp2
          go_ret2
          exact ⟨rfl, rfl⟩
        by_cases q2 : 1114111 < rv
        · rw [if_pos (.inr (.inl q2))] at h1 h2
          subst h1; subst h2
          go_wp2
          go_ret2
          exact ⟨rfl, rfl⟩
        by_cases q3 : 55296 ≤ rv
        · by_cases q4 : rv ≤ 57343
          · rw [if_pos (.inr (.inr ⟨q3, q4⟩))] at h1 h2
            subst h1; subst h2
            go_wp2
            go_ret2
            exact ⟨rfl, rfl⟩
          · rw [if_neg (by omega)] at h1 h2
            subst h1; subst h2
            go_wp2
            go_ret2
            exact ⟨rfl, rfl⟩
        · rw [if_neg (by omega)] at h1 h2
          subst h1; subst h2
          go_wp2
          go_ret2
          exact ⟨rfl, rfl⟩

set_option maxHeartbeats 2000000 in
theorem size_four (s : ByteArray) (w : World) (hs : 0 < s.size) (hm : s.size ≤ 140737488351232) (c2 : 240 ≤ byt s 0) (c3 : byt s 0 ≤ 244) :
    Calls Tryd.prog 46 #[.string s] w fun e w' => e = .returned (.tuple #[.int .i64 (sizeF s).1, .int .i64 (sizeF s).2]) ∧ w' = w := by
  have e0 : leadF (byt s 0) = (4, byt s 0 % 8, 65536) := by
    unfold leadF
    rw [if_neg (by omega), if_neg (by omega), if_pos ⟨c2, c3⟩]
  have e : sizeF s = if s.size < 4 then (0, 0) else codeF 4 65536 (tailF s 3 1 (byt s 0 % 8)) := by
    unfold sizeF
    rw [if_neg (by omega), e0]
    by_cases hl : s.size < 4
    · rw [if_pos (.inr hl), if_pos hl]
    · rw [if_neg (by simp only; omega), if_neg hl]
      rfl
  obtain ⟨r1, h1⟩ : ∃ r1, (sizeF s).1 = r1 := ⟨_, rfl⟩
  obtain ⟨r2, h2⟩ : ∃ r2, (sizeF s).2 = r2 := ⟨_, rfl⟩
  rw [h1, h2]
  rw [e] at h1 h2
  have hb := byt_at hs
  have hr := byt_range s 0
  obtain ⟨b0, hb0⟩ : ∃ b0, byt s 0 = b0 := ⟨_, rfl⟩
  rw [hb0] at hb hr c2 c3 h1 h2
  clear e e0
  by_cases hl : s.size < 4
  · rw [if_pos hl] at h1 h2
    subst h1; subst h2
    have HB := hide hb0
    clear hb0
    go_enter Tryd.func46, Tryd.ntmps46
    go_wp2
    go_ret2
    exact ⟨rfl, rfl⟩
  · rw [if_neg hl] at h1 h2
    obtain ⟨T, hT⟩ : ∃ T, tailF s 3 1 (b0 % 8) = T := ⟨_, rfl⟩
    rw [hT] at h1 h2
    have H1 := hide h1; have H2 := hide h2; have HB := hide hb0; have HT := hide hT
    clear h1 h2 hb0 hT
    go_enter Tryd.func46, Tryd.ntmps46
    go_wp2
    go_loop [6, 8] (fun r i => ∃ (k : Nat) (rv : Int), 1 ≤ k ∧ k ≤ 4 ∧ 0 ≤ rv ∧ Hid (rv ≤ tb k) ∧ i = .int .i64 k ∧ r = .int .i64 rv ∧ Hid (tailF s (4 - k) k rv = T)) (fun _ i => 4 - (intOf i).toNat)
    case atStart => exact ⟨1, b0 % 8, by omega, by omega, by omega, hide (by simp only [tb]; omega), rfl, rfl, HT⟩
    case round =>
      obtain ⟨k, rv, k1, k2, k3, k4, rfl, rfl, k5⟩ := hrel
      have k6 : rv ≤ 8388607 := Int.le_trans (unhide k4) (tb_le k)
      by_cases hlt : k < 4
      · have hks : k < s.size := by omega
        have hbk := byt_at hks
        have hrk := byt_range s k
        obtain ⟨bk, hbk0⟩ : ∃ bk, byt s k = bk := ⟨_, rfl⟩
        rw [hbk0] at hbk hrk
        have HBK := hide hbk0
        clear hbk0
        by_cases hc : bk < 128 ∨ 191 < bk
        · have hT0 : T = none := by
            rw [← unhide k5, show 4 - k = (4 - k - 1) + 1 by omega]
            simp only [tailF]; rw [unhide HBK, if_pos hc]
          have HT0 := hide hT0
          clear hT0
          rcases hc with hc | hc
          all_goals
            go_wp2
            go_ret2
            refine ⟨ret_two ?_, rfl⟩
            have h1 := unhide H1; have h2 := unhide H2
            rw [unhide HT0] at h1 h2
            rw [← h1, ← h2]; rfl
        · have hc1 : 128 ≤ bk := by omega
          have hc2 : bk ≤ 191 := by omega
          have hT1 : tailF s (4 - (k + 1)) (k + 1) (64 * rv + bk - 128) = T := by
            rw [← unhide k5, show 4 - k = (4 - (k + 1)) + 1 by omega]
            conv => rhs; simp only [tailF]
            rw [unhide HBK, if_neg hc]
          have HT1 := hide hT1
          have hst := tb_step k1 (by omega : k ≤ 3)
          have hst2 : 64 * rv + bk - 128 ≤ tb (k + 1) := by have := unhide k4; omega
          have HST := hide hst2
          clear hc hT1 hst hst2
          go_wp2
          go_round
          case rel => exact ⟨k + 1, 64 * rv + bk - 128, by omega, by omega, by omega, HST, by go_num, rfl, HT1⟩
          case measure => simp [intOf]; omega
      · obtain rfl : k = 4 := by omega
        have hT1 : T = some rv := by rw [← unhide k5]; rfl
        have h1 := unhide H1; have h2 := unhide H2
        rw [hT1] at h1 h2
        simp only [codeF] at h1 h2
        clear H1 H2 hT1 hlt
        by_cases q1 : rv < 65536
        · rw [if_pos (.inl q1)] at h1 h2
          subst h1; subst h2
          go_wp2
          go_ret2
          exact ⟨rfl, rfl⟩
        by_cases q2 : 1114111 < rv
        · rw [if_pos (.inr (.inl q2))] at h1 h2
          subst h1; subst h2
          go_wp2
          go_ret2
          exact ⟨rfl, rfl⟩
        by_cases q3 : 55296 ≤ rv
        · by_cases q4 : rv ≤ 57343
          · rw [if_pos (.inr (.inr ⟨q3, q4⟩))] at h1 h2
            subst h1; subst h2
            go_wp2
            go_ret2
            exact ⟨rfl, rfl⟩
          · rw [if_neg (by omega)] at h1 h2
            subst h1; subst h2
            go_wp2
            go_ret2
            exact ⟨rfl, rfl⟩
        · rw [if_neg (by omega)] at h1 h2
          subst h1; subst h2
          go_wp2
          go_ret2
          exact ⟨rfl, rfl⟩

set_option maxHeartbeats 1000000 in
theorem size_odd (s : ByteArray) (w : World) (hs : 0 < s.size) (hm : s.size ≤ 140737488351232) (c1 : 128 ≤ byt s 0) (c2 : byt s 0 ≤ 193 ∨ 245 ≤ byt s 0) :
    Calls Tryd.prog 46 #[.string s] w fun e w' => e = .returned (.tuple #[.int .i64 (sizeF s).1, .int .i64 (sizeF s).2]) ∧ w' = w := by
  have e : sizeF s = (0, 0) := by
    have e0 : leadF (byt s 0) = (0, 0, 0) := by unfold leadF; rw [if_neg (by omega), if_neg (by omega), if_neg (by omega)]
    unfold sizeF
    rw [if_neg (by omega), e0, if_pos (.inl rfl)]
  rw [e]
  have hb := byt_at hs
  have hr := byt_range s 0
  obtain ⟨b0, hb0⟩ : ∃ b0, byt s 0 = b0 := ⟨_, rfl⟩
  rw [hb0] at hb hr c1 c2
  have HB := hide hb0
  clear hb0 e
  rcases c2 with c2 | c2
  all_goals
    go_enter Tryd.func46, Tryd.ntmps46
    go_wp2
    go_ret2
    exact ⟨rfl, rfl⟩

theorem size_calls (s : ByteArray) (w : World) (hs : 0 < s.size) (hm : s.size ≤ 140737488351232) :
    Calls Tryd.prog 46 #[.string s] w fun e w' => e = .returned (.tuple #[.int .i64 (sizeF s).1, .int .i64 (sizeF s).2]) ∧ w' = w := by
  by_cases c1 : byt s 0 < 128
  · exact size_ascii s w hs hm c1
  by_cases c2 : 194 ≤ byt s 0 ∧ byt s 0 ≤ 223
  · exact size_two s w hs hm c2.1 c2.2
  by_cases c3 : 224 ≤ byt s 0 ∧ byt s 0 ≤ 239
  · exact size_three s w hs hm c3.1 c3.2
  by_cases c4 : 240 ≤ byt s 0 ∧ byt s 0 ≤ 244
  · exact size_four s w hs hm c4.1 c4.2
  exact size_odd s w hs hm (by omega) (by omega)
end Go.Proofs.YtanmlgliibgpcaaDoor
