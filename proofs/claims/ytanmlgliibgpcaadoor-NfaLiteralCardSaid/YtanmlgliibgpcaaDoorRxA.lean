/- The walks of Weight, valid, within, Valid. -/
import Derived.Test.YtanmlgliibgpcaaDoorNfaK
namespace Go.Proofs.YtanmlgliibgpcaaDoor
open Go.RowKit Thr
set_option linter.unusedVariables false
set_option linter.unusedSimpArgs false

mutual
theorem weight_range : ∀ t : Rx, 0 ≤ weightF t ∧ weightF t ≤ 1048576
  | .mk kind code neg set mn mx kids => by
    have h := weights_range kids 0 (by omega) (by omega)
    have hb : bigW = 1048576 := rfl
    simp only [weightF, hb]
    split
    · exact h
    · split
      · have h0 : 0 ≤ weightsF kids 0 * (if mx < 0 then min (max mn 0) 1048576 + 1 else min (max mx 0) 1048576) := by
          refine Int.mul_nonneg (by omega) ?_
          split <;> omega
        omega
      · omega
theorem weights_range : ∀ (ks : List Rx) (n : Int), 0 ≤ n → n ≤ 1048576 → 0 ≤ weightsF ks n ∧ weightsF ks n ≤ 1048576
  | [], n, h0, h1 => by simp only [weightsF]; omega
  | k :: ks, n, h0, h1 => by
    have h := weight_range k
    have hb : bigW = 1048576 := rfl
    simp only [weightsF, hb]
    exact weights_range ks _ (by omega) (by omega)
end
theorem weights_drop {ks : List Rx} {m : Nat} (hm : m < ks.length) (n : Int) : weightsF (ks.drop m) n = weightsF (ks.drop (m + 1)) (min (n + weightF ks[m]) 1048576) := by
  rw [List.drop_eq_getElem_cons hm, weightsF]
  rfl

def WeightOK (ok : Nat → Prop) (t : Rx) : Prop := ∀ (cs : List Value) (w : World), TreeAt ok w t cs → Calls Tryd.prog 25 #[.agg cs.toArray] w fun e w' => e = .returned (.int .i64 (weightF t)) ∧ Below w.heap.size w w'

theorem prod_range {a b : Int} (ha : 0 ≤ a) (ha1 : a ≤ 1048576) (hb : 0 ≤ b) (hb1 : b ≤ 1048577) : 0 ≤ a * b ∧ a * b ≤ 1099512676352 := by
  refine ⟨Int.mul_nonneg ha hb, ?_⟩
  have h1 : a * b ≤ 1048576 * b := Int.mul_le_mul_of_nonneg_right ha1 hb
  omega

set_option maxRecDepth 100000 in
set_option maxHeartbeats 4000000 in
theorem weight_one {ok : Nat → Prop} (kind code : Int) (neg : Bool) (set : List (Int × Int)) (mn mx : Int) (kids : List Rx) (hk : ∀ k ∈ kids, WeightOK ok k) : WeightOK ok (.mk kind code neg set mn mx kids) := by
  intro cs w ht
  have ht0 := ht
  simp only [TreeAt] at ht
  obtain ⟨vs, A, cc, rfl, ⟨As, cs', rfl, -⟩, hc1, hc2, hkids⟩ := ht
  obtain ⟨W, hW⟩ : ∃ W, weightsF kids 0 = W := ⟨_, rfl⟩
  have hWr := weights_range kids 0 (by omega) (by omega)
  rw [hW] at hWr
  have HT := hide ht0; have HK := hide hk; have HKI := hide hkids; have HW := hide hW
  clear ht0 hk hkids hW
  have hfin : weightF (.mk kind code neg set mn mx kids) = if kind = 5 then W else if kind = 7 then min (W * (if mx < 0 then min (max mn 0) 1048576 + 1 else min (max mx 0) 1048576) + 1) 1048576 else min (W + 1) 1048576 := by
    rw [weightF, unhide HW]; rfl
  rw [hfin]
  clear hfin
  obtain ⟨F, hF⟩ : ∃ F, (if kind = 5 then W else if kind = 7 then min (W * (if mx < 0 then min (max mn 0) 1048576 + 1 else min (max mx 0) 1048576) + 1) 1048576 else min (W + 1) 1048576) = F := ⟨_, rfl⟩
  rw [hF]
  have HFIN := hide hF
  clear hF
  go_enter Tryd.func25, Tryd.ntmps25
  go_wp2_with fail
  go_loopw [3, 10] (fun n_ m_ wr => ∃ (m : Nat) (n : Int), m ≤ kids.length ∧ m_ = .int .i64 m ∧ n_ = .int .i64 n ∧ 0 ≤ n ∧ n ≤ 1048576 ∧ Hid (weightsF (kids.drop m) n = W) ∧ Hid (Below w.heap.size w wr) ∧ Hid (wr.cell? ⟨w.heap.size, 0, none⟩ = some (.int .i64 kind) ∧ wr.cell? ⟨w.heap.size, 4, none⟩ = some (.int .i64 mn) ∧ wr.cell? ⟨w.heap.size, 5, none⟩ = some (.int .i64 mx) ∧ w.heap.size < wr.heap.size))
    (fun _ m_ _ => kids.length - (intOf m_).toNat)
  case atStart => exact ⟨0, 0, by omega, rfl, rfl, by omega, by omega, HW, hide (by repeat (first | exact Below.refl _ _ | assumption | refine below_drewN ?_ _ | refine Below.drew ?_ | refine below_alloc' ?_ _)), by go_simp, by go_simp, by go_simp, by simp⟩
  case round =>
    obtain ⟨m, n, hm, rfl, rfl, hn0, hn1, HR, HB, HF⟩ := hrel
    by_cases hlt : m < kids.length
    · obtain ⟨b, o, rfl, hb, csk, htk, hck⟩ := kid_cells (unhide HKI) m hlt
      have hok := (unhide HK) kids[m] (List.getElem_mem hlt)
      have hr := unhide HR
      rw [weights_drop hlt] at hr
      have hwk := weight_range kids[m]
      generalize kids[m] = kid at *
      obtain ⟨kind', code', neg', As', ls', cs'', mn', mx', A', lk', cc', rfl⟩ := htk.form
      have hbl : b < w.heap.size := World.block_lt_of_cell? w _ (hck 0 _ rfl)
      have fr : ∀ j, wr.cell? ⟨b, j, none⟩ = w.cell? ⟨b, j, none⟩ := fun j => (bcell (unhide HB)).1 _ _ hbl
      have e0 := (fr _).trans (hck 0 _ rfl)
      have e1 := (fr _).trans (hck 1 _ rfl)
      have e2 := (fr _).trans (hck 2 _ rfl)
      have e3 := (fr _).trans (hck 3 _ rfl)
      have e4 := (fr _).trans (hck 4 _ rfl)
      have e5 := (fr _).trans (hck 5 _ rfl)
      have e6 := (fr _).trans (hck 6 _ rfl)
      simp at e0
      have hlb : (m : Int) < kids.length := by omega
      have hblr : b < wr.heap.size := World.block_lt_of_cell? wr _ e0
      have hsz : w.heap.size < wr.heap.size := (unhide HF).2.2.2
      have HOK := hide hok; have HR' := hide hr; have HTK := hide htk
      clear hok hr htk hck fr HR
      go_wp2_with fail
      refine ((unhide HOK) _ _ (((unhide HTK).below (unhide HB)).below (by repeat (first | exact Below.refl _ _ | assumption | refine below_drewN ?_ _ | refine Below.drew ?_ | refine below_alloc' ?_ _)))).mono ?_
      rintro e w2 ⟨rfl, hb2⟩
      have HB2 := hide hb2
      clear hb2
      go_wp2_with fail
      go_roundw
      case rel =>
        refine ⟨m + 1, min (n + weightF kid) 1048576, by omega, by go_num, rfl, by omega, by omega, HR', ?_, ?_⟩
        · exact below_then (unhide HB) (below_then (by repeat (first | exact Below.refl _ _ | assumption | refine below_drewN ?_ _ | refine Below.drew ?_ | refine below_alloc' ?_ _)) (unhide HB2))
        · obtain ⟨f0, f4, f5, f6⟩ := unhide HF
          have hb3 := (bcell (below_then (w := wr) (by repeat (first | exact Below.refl _ _ | assumption | refine below_drewN ?_ _ | refine Below.drew ?_ | refine below_alloc' ?_ _)) (unhide HB2))).1
          exact ⟨(hb3 _ 0 f6).trans f0, (hb3 _ 4 f6).trans f4, (hb3 _ 5 f6).trans f5, by have := (unhide HB2).size; simp at this; omega⟩
      case measure => simp only [intOf]; omega
    · obtain rfl : m = kids.length := by omega
      obtain rfl : n = W := by have := unhide HR; rw [List.drop_length] at this; simpa [weightsF] using this
      obtain ⟨f0, f4, f5, f6⟩ := unhide HF
      by_cases k5 : kind = 5
      · subst k5
        have HFI : Hid (n = F) := by have := unhide HFIN; rw [if_pos rfl] at this; exact this
        go_wp2_with fail
        go_ret
        exact ⟨ret_int (unhide HFI), unhide HB⟩
      · have k5' : (kind == 5) = false := by simpa using k5
        by_cases k7 : kind = 7
        · subst k7
          by_cases hx : mx < 0
          · have hx' : decide (mx < 0) = true := by simpa using hx
            have HFI : Hid (min (n * (min (max mn 0) 1048576 + 1) + 1) 1048576 = F) := by have := unhide HFIN; rw [if_neg (by omega), if_pos rfl, if_pos hx] at this; exact this
            have hpr := prod_range (a := n) (b := min (max mn 0) 1048576 + 1) (by omega) (by omega) (by omega) (by omega)
            go_wp2_with fail
            go_ret
            exact ⟨ret_int (unhide HFI), unhide HB⟩
          · have hx' : decide (mx < 0) = false := by simpa using hx
            have HFI : Hid (min (n * min (max mx 0) 1048576 + 1) 1048576 = F) := by have := unhide HFIN; rw [if_neg (by omega), if_pos rfl, if_neg hx] at this; exact this
            have hpr := prod_range (a := n) (b := min (max mx 0) 1048576) (by omega) (by omega) (by omega) (by omega)
            go_wp2_with fail
            go_ret
            exact ⟨ret_int (unhide HFI), unhide HB⟩
        · have k7' : (kind == 7) = false := by simpa using k7
          have HFI : Hid (min (n + 1) 1048576 = F) := by have := unhide HFIN; rw [if_neg k5, if_neg k7] at this; exact this
          go_wp2_with fail
          go_ret
          exact ⟨ret_int (unhide HFI), unhide HB⟩
mutual
theorem Weight_calls {ok : Nat → Prop} : ∀ t : Rx, WeightOK ok t
  | .mk kind code neg set mn mx kids => weight_one kind code neg set mn mx kids (Weights_calls kids)
theorem Weights_calls {ok : Nat → Prop} : ∀ ks : List Rx, ∀ k ∈ ks, WeightOK ok k
  | [], k, hk => by simp at hk
  | k' :: ks, k, hk => by
    rcases List.mem_cons.1 hk with e | hk
    · rw [e]; exact Weight_calls k'
    · exact Weights_calls ks k hk
end
end Go.Proofs.YtanmlgliibgpcaaDoor
