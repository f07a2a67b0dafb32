/- The walks of within and Valid. -/
import Derived.Test.YtanmlgliibgpcaaDoorRxB
namespace Go.Proofs.YtanmlgliibgpcaaDoor
open Go.RowKit Thr
set_option linter.unusedVariables false
set_option linter.unusedSimpArgs false

/-- The number of the first that may not be so deep. -/
def badFrom (d : Nat) : List Rx → Int → Int
  | [], _ => -1
  | k :: ks, i => if withinF k d = true then badFrom d ks (i + 1) else i
theorem badFrom_iff (d : Nat) : ∀ (ks : List Rx) (i : Int), 0 ≤ i → (0 ≤ badFrom d ks i ↔ withinAll ks d = false)
  | [], i, h => by simp [badFrom, withinAll]
  | k :: ks, i, h => by
    have ih := badFrom_iff d ks (i + 1) (by omega)
    simp only [badFrom, withinAll]
    by_cases hk : withinF k d = true
    · rw [if_pos hk, hk, ih]; simp
    · rw [if_neg hk]
      simp only [Bool.not_eq_true] at hk
      rw [hk]; simp [h]
theorem badFrom_sign (d : Nat) (ks : List Rx) (i : Int) (h : 0 ≤ i) : decide (0 ≤ badFrom d ks i) = !withinAll ks d := by
  have := badFrom_iff d ks i h
  rw [Bool.eq_iff_iff, decide_eq_true_eq, this]; simp

def WithinOK (ok : Nat → Prop) (t : Rx) : Prop := ∀ (d : Nat) (cs : List Value) (w : World), d ≤ 100000 → TreeAt ok w t cs → Calls Tryd.prog 24 #[.agg cs.toArray, .int .i64 d] w fun e w' => e = .returned (.bool (withinF t d)) ∧ Below w.heap.size w w'

set_option maxHeartbeats 4000000 in
theorem within1_calls {ok : Nat → Prop} {t : Rx} (h : WithinOK ok t) (d : Nat) (hd : d ≤ 99999) (bd : Nat) (cs : List Value) (w : World) (ht : TreeAt ok w t cs) (hb : w.cell? ⟨bd, 0, none⟩ = some (.int .i64 ((d : Int) + 1))) :
    Calls Tryd.prog 41 #[.agg cs.toArray, .pointer (some ⟨bd, 0, none⟩)] w fun e w' => e = .returned (.bool (!withinF t d)) ∧ Below w.heap.size w w' := by
  obtain ⟨kind', code', neg', As', ls', cs'', mn', mx', A', lk', cc', rfl⟩ := ht.form
  have hbl := World.block_lt_of_cell? w _ hb
  have H := hide (h d _ (w.alloc _) (by omega) (ht.below (Below.refl _ _ |>.alloc (Nat.le_refl _) (.cells #[.int .i64 kind', .int .i64 code', .bool neg', .slice As' ls' cs'', .int .i64 mn', .int .i64 mx', .slice A' lk' cc'] 26))))
  clear h ht
  go_enter Tryd.func41, Tryd.ntmps41
  go_wp2_with fail
  refine (unhide H).mono ?_
  rintro e w1 ⟨rfl, hb1⟩
  go_wp2_with fail
  go_ret
  exact ⟨rfl, below_then (by repeat (first | exact Below.refl _ _ | assumption | refine below_drewN ?_ _ | refine Below.drew ?_ | refine below_alloc' ?_ _)) hb1⟩

set_option maxHeartbeats 4000000 in
theorem IndexFunc_calls {ok : Nat → Prop} (kids : List Rx) (hk : ∀ k ∈ kids, WithinOK ok k) (d : Nat) (hd : d ≤ 99999) (bd : Nat) (A : Option Addr) (cc : Nat) (w : World) (hc1 : kids.length ≤ cc) (hc2 : cc ≤ 9223372036854775807)
    (hkids : kids = [] ∨ ∃ b o, A = some ⟨b, o, none⟩ ∧ ok b ∧ KidsAt ok w kids b o) (hb : w.cell? ⟨bd, 0, none⟩ = some (.int .i64 ((d : Int) + 1))) :
    Calls Tryd.prog 54 #[.slice A kids.length cc, .func (.func 41) #[] #[.pointer (some ⟨bd, 0, none⟩)]] w fun e w' => e = .returned (.int .i64 (badFrom d kids 0)) ∧ Below w.heap.size w w' := by
  obtain ⟨F, hF⟩ : ∃ F, badFrom d kids 0 = F := ⟨_, rfl⟩
  rw [hF]
  have HK := hide hk; have HKI := hide hkids; have HF := hide hF
  have hbl := World.block_lt_of_cell? w _ hb
  clear hk hkids hF
  go_enter Tryd.func54, Tryd.ntmps54
  go_wp2_with fail
  go_loopw [8] (fun m_ wr => ∃ (m : Nat), m ≤ kids.length ∧ m_ = .int .i64 m ∧ Hid (badFrom d (kids.drop m) m = F) ∧ Hid (Below w.heap.size w wr))
    (fun m_ _ => kids.length - (intOf m_).toNat)
  case atStart => exact ⟨0, by omega, rfl, HF, Below.refl _ _⟩
  case round =>
    obtain ⟨m, hm, rfl, HR, HB⟩ := hrel
    by_cases hlt : m < kids.length
    · obtain ⟨b, o, rfl, hob, csk, htk, hck⟩ := kid_cells (unhide HKI) m hlt
      have hok := (unhide HK) kids[m] (List.getElem_mem hlt)
      have hr := unhide HR
      rw [List.drop_eq_getElem_cons hlt] at hr
      simp only [badFrom] at hr
      generalize kids[m] = kid at *
      obtain ⟨kind', code', neg', As', ls', cs'', mn', mx', A', lk', cc', rfl⟩ := htk.form
      have hbl2 : b < w.heap.size := World.block_lt_of_cell? w _ (hck 0 _ rfl)
      have fr : ∀ j, wr.cell? ⟨b, j, none⟩ = w.cell? ⟨b, j, none⟩ := fun j => (bcell (unhide HB)).1 _ _ hbl2
      have e0 := (fr _).trans (hck 0 _ rfl)
      have e1 := (fr _).trans (hck 1 _ rfl)
      have e2 := (fr _).trans (hck 2 _ rfl)
      have e3 := (fr _).trans (hck 3 _ rfl)
      have e4 := (fr _).trans (hck 4 _ rfl)
      have e5 := (fr _).trans (hck 5 _ rfl)
      have e6 := (fr _).trans (hck 6 _ rfl)
      simp at e0
      have hlb : (m : Int) < kids.length := by omega
      have hcall := within1_calls hok d hd bd _ wr (htk.below (unhide HB)) (((bcell (unhide HB)).1 bd 0 hbl).trans hb)
      have HTK := hide htk; have HOK := hide hok
      clear htk hck fr HR hok
      cases hq : withinF kid d with
      | true =>
        rw [hq, if_pos rfl] at hr
        rw [hq] at hcall
        have HCALL := hide hcall; have HR := hide hr
        clear hcall hr hq
        go_wp2_with fail
        refine (unhide HCALL).mono ?_
        rintro e w2 ⟨rfl, hb2⟩
        go_wp2_with fail
        go_roundw
        case rel => exact ⟨m + 1, by omega, by go_num, HR, below_then (unhide HB) hb2⟩
        case measure => simp only [intOf]; omega
      | false =>
        rw [hq, if_neg (by simp)] at hr
        rw [hq] at hcall
        have HCALL := hide hcall; have HR := hide hr
        clear hcall hr hq
        go_wp2_with fail
        refine (unhide HCALL).mono ?_
        rintro e w2 ⟨rfl, hb2⟩
        go_wp2_with fail
        go_ret
        exact ⟨ret_int (unhide HR), below_then (unhide HB) hb2⟩
    · obtain rfl : m = kids.length := by omega
      have hr := unhide HR
      rw [List.drop_length] at hr
      simp only [badFrom] at hr
      have HR := hide hr
      clear hr
      go_wp2_with fail
      go_ret
      exact ⟨ret_int (unhide HR), unhide HB⟩

set_option maxHeartbeats 4000000 in
theorem ContainsFunc_calls {ok : Nat → Prop} (kids : List Rx) (hk : ∀ k ∈ kids, WithinOK ok k) (d : Nat) (hd : d ≤ 99999) (bd : Nat) (A : Option Addr) (cc : Nat) (w : World) (hc1 : kids.length ≤ cc) (hc2 : cc ≤ 9223372036854775807)
    (hkids : kids = [] ∨ ∃ b o, A = some ⟨b, o, none⟩ ∧ ok b ∧ KidsAt ok w kids b o) (hb : w.cell? ⟨bd, 0, none⟩ = some (.int .i64 ((d : Int) + 1))) :
    Calls Tryd.prog 40 #[.slice A kids.length cc, .func (.func 41) #[] #[.pointer (some ⟨bd, 0, none⟩)]] w fun e w' => e = .returned (.bool (!withinAll kids d)) ∧ Below w.heap.size w w' := by
  have hs := badFrom_sign d kids 0 (by omega)
  have H := hide (IndexFunc_calls kids hk d hd bd A cc w hc1 hc2 hkids hb)
  have HS := hide hs
  clear hs hk hkids
  go_enter Tryd.func40, Tryd.ntmps40
  go_wp2_with fail
  refine (unhide H).mono ?_
  rintro e w1 ⟨rfl, hb1⟩
  go_wp2_with fail
  go_ret
  exact ⟨ret_bool (unhide HS), hb1⟩

theorem kids_below {ok : Nat → Prop} {W W' : World} {kids : List Rx} {b o : Nat} (h : KidsAt ok W kids b o) (hb : ok b) (k : Below W.heap.size W W') : KidsAt ok W' kids b o := KidsAt.step (fun j _ hlt => k.block j hlt) kids b o hb h
set_option maxHeartbeats 4000000 in
theorem within_one {ok : Nat → Prop} (kind code : Int) (neg : Bool) (set : List (Int × Int)) (mn mx : Int) (kids : List Rx) (hk : ∀ k ∈ kids, WithinOK ok k) : WithinOK ok (.mk kind code neg set mn mx kids) := by
  intro d cs w hd ht
  have hv := fun w1 hb => valid_calls (ok := ok) (.mk kind code neg set mn mx kids) cs w1 (ht.below hb)
  have ht0 := ht
  simp only [TreeAt] at ht
  obtain ⟨vs, A, cc, rfl, ⟨As, cs', rfl, -⟩, hc1, hc2, hkids⟩ := ht
  cases d with
  | zero =>
    simp only [withinF]
    clear hv ht0 hk hkids
    go_enter Tryd.func24, Tryd.ntmps24
    go_wp2_with fail
    go_ret
    exact ⟨rfl, (by repeat (first | exact Below.refl _ _ | assumption | refine below_drewN ?_ _ | refine Below.drew ?_ | refine below_alloc' ?_ _))⟩
  | succ d =>
    simp only [withinF]
    have HV := hide hv; have HK := hide hk; have HKI := hide hkids
    clear hv ht0 hk hkids
    cases hF : validF (.mk kind code neg set mn mx kids) with
    | false =>
      rw [hF] at HV
      clear hF
      go_enter Tryd.func24, Tryd.ntmps24
      go_wp2_with fail
      refine ((unhide HV) _ (by repeat (first | exact Below.refl _ _ | assumption | refine below_drewN ?_ _ | refine Below.drew ?_ | refine below_alloc' ?_ _))).mono ?_
      rintro e w1 ⟨rfl, hb1⟩
      go_wp2_with fail
      go_ret
      exact ⟨rfl, below_then (by repeat (first | exact Below.refl _ _ | assumption | refine below_drewN ?_ _ | refine Below.drew ?_ | refine below_alloc' ?_ _)) hb1⟩
    | true =>
      rw [hF] at HV
      clear hF
      go_enter Tryd.func24, Tryd.ntmps24
      go_wp2_with fail
      refine ((unhide HV) _ (by repeat (first | exact Below.refl _ _ | assumption | refine below_drewN ?_ _ | refine Below.drew ?_ | refine below_alloc' ?_ _))).mono ?_
      rintro e w1 ⟨rfl, hb1⟩
      have s6 : w1.cell? ⟨w.heap.size, 6, none⟩ = some (.slice A kids.length cc) := ((bcell hb1).1 _ _ (by simp; omega)).trans (by go_simp)
      have sd : w1.cell? ⟨w.heap.size + 1, 0, none⟩ = some (.int .i64 ((d : Int) + 1)) := ((bcell hb1).1 _ _ (by simp)).trans (by go_simp)
      have HB1 := hide (below_then (w := w) (by repeat (first | exact Below.refl _ _ | assumption | refine below_drewN ?_ _ | refine Below.drew ?_ | refine below_alloc' ?_ _)) hb1)
      have hcon := ContainsFunc_calls (ok := ok) kids (unhide HK) d (by omega) (w.heap.size + 1) A cc w1 hc1 hc2 ((unhide HKI).imp id (fun ⟨b, o, h1, h2, h3⟩ => ⟨b, o, h1, h2, kids_below h3 h2 (unhide HB1)⟩)) sd
      have HCON := hide hcon
      clear hb1 hcon
      go_wp2_with fail
      refine (unhide HCON).mono ?_
      rintro e w2 ⟨rfl, hb2⟩
      go_wp2_with fail
      go_ret
      exact ⟨ret_bool (by simp), below_then (unhide HB1) hb2⟩
mutual
theorem within_calls {ok : Nat → Prop} : ∀ t : Rx, WithinOK ok t
  | .mk kind code neg set mn mx kids => within_one kind code neg set mn mx kids (withins_calls kids)
theorem withins_calls {ok : Nat → Prop} : ∀ ks : List Rx, ∀ k ∈ ks, WithinOK ok k
  | [], k, hk => by simp at hk
  | k' :: ks, k, hk => by
    rcases List.mem_cons.1 hk with e | hk
    · rw [e]; exact within_calls k'
    · exact withins_calls ks k hk
end

def validTop (t : Rx) : Bool := withinF t 1024 && decide (weightF t ≤ 200)
set_option maxHeartbeats 4000000 in
theorem Valid_calls {ok : Nat → Prop} (t : Rx) (cs : List Value) (w : World) (ht : TreeAt ok w t cs) :
    Calls Tryd.prog 13 #[.agg cs.toArray] w fun e w' => e = .returned (.bool (validTop t)) ∧ Below w.heap.size w w' := by
  obtain ⟨kind', code', neg', As', ls', cs'', mn', mx', A', lk', cc', rfl⟩ := ht.form
  have HV := hide (fun w1 hb => within_calls t 1024 _ w1 (by omega) (ht.below hb))
  have HW := hide (fun w1 hb => Weight_calls t _ w1 (ht.below hb))
  clear ht
  unfold validTop
  obtain ⟨W, hW⟩ : ∃ W, weightF t = W := ⟨_, rfl⟩
  rw [hW] at HW ⊢
  clear hW
  cases hF : withinF t 1024 with
  | false =>
    rw [hF] at HV
    clear hF
    go_enter Tryd.func13, Tryd.ntmps13
    go_wp2_with fail
    refine ((unhide HV) _ (by repeat (first | exact Below.refl _ _ | assumption | refine below_drewN ?_ _ | refine Below.drew ?_ | refine below_alloc' ?_ _))).mono ?_
    rintro e w1 ⟨rfl, hb1⟩
    go_wp2_with fail
    go_ret
    exact ⟨rfl, below_then (by repeat (first | exact Below.refl _ _ | assumption | refine below_drewN ?_ _ | refine Below.drew ?_ | refine below_alloc' ?_ _)) hb1⟩
  | true =>
    rw [hF] at HV
    clear hF
    go_enter Tryd.func13, Tryd.ntmps13
    go_wp2_with fail
    refine ((unhide HV) _ (by repeat (first | exact Below.refl _ _ | assumption | refine below_drewN ?_ _ | refine Below.drew ?_ | refine below_alloc' ?_ _))).mono ?_
    rintro e w1 ⟨rfl, hb1⟩
    have k0 := (bcell hb1).1 w.heap.size
    have s0 := (k0 0 (by simp)).trans (show _ = some (.int .i64 kind') by go_simp)
    have s1 := (k0 1 (by simp)).trans (show _ = some (.int .i64 code') by go_simp)
    have s2 := (k0 2 (by simp)).trans (show _ = some (.bool neg') by go_simp)
    have s3 := (k0 3 (by simp)).trans (show _ = some (.slice As' ls' cs'') by go_simp)
    have s4 := (k0 4 (by simp)).trans (show _ = some (.int .i64 mn') by go_simp)
    have s5 := (k0 5 (by simp)).trans (show _ = some (.int .i64 mx') by go_simp)
    have s6 := (k0 6 (by simp)).trans (show _ = some (.slice A' lk' cc') by go_simp)
    have HB1 := hide (below_then (w := w) (by repeat (first | exact Below.refl _ _ | assumption | refine below_drewN ?_ _ | refine Below.drew ?_ | refine below_alloc' ?_ _)) hb1)
    have hsz := hb1.size
    simp at hsz
    clear hb1 k0
    go_wp2_with fail
    refine ((unhide HW) _ (unhide HB1)).mono ?_
    rintro e w2 ⟨rfl, hb2⟩
    go_wp2_with fail
    go_ret
    exact ⟨ret_bool (by simp), below_then (unhide HB1) hb2⟩
end Go.Proofs.YtanmlgliibgpcaaDoor
