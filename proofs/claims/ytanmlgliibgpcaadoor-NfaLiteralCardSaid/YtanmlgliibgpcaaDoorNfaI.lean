/- The walk of make: a choice. -/
import Derived.Test.YtanmlgliibgpcaaDoorNfaH
namespace Go.Proofs.YtanmlgliibgpcaaDoor
open Go.RowKit Thr
set_option linter.unusedVariables false
set_option linter.unusedSimpArgs false

theorem alt_last {ks : List Rx} {m : Nat} (hm : m + 1 = ks.length) (next : Int) (I : List Inst) : makeAlt (ks.drop m) next I = make (ks[m]'(by omega)) next I := by
  rw [List.drop_eq_getElem_cons (by omega)]
  simp only [makeAlt]
  rw [if_pos (List.drop_eq_nil_of_le (by omega))]
theorem alt_drop {ks : List Rx} {m : Nat} (hm : m + 1 < ks.length) (next : Int) (I : List Inst) : makeAlt (ks.drop m) next I =
    (((make (ks[m]'(by omega)) next (makeAlt (ks.drop (m + 1)) next I).2).2.length : Int), (make (ks[m]'(by omega)) next (makeAlt (ks.drop (m + 1)) next I).2).2 ++ [⟨2, noNode, (make (ks[m]'(by omega)) next (makeAlt (ks.drop (m + 1)) next I).2).1, (makeAlt (ks.drop (m + 1)) next I).1⟩]) := by
  rw [List.drop_eq_getElem_cons (show m < ks.length by omega)]
  simp only [makeAlt]
  rw [if_neg (by intro e; have := congrArg List.length e; simp at this; omega)]
theorem alt_in {ks : List Rx} (h : MakesAll ks) {next : Int} {I : List Inst} (h0 : 0 ≤ next) (h1 : next < I.length) (n : Nat) (hn : n < ks.length) :
    0 ≤ (makeAlt (ks.drop n) next I).1 ∧ (makeAlt (ks.drop n) next I).1 < (makeAlt (ks.drop n) next I).2.length ∧ I.length ≤ (makeAlt (ks.drop n) next I).2.length := by
  have := makeAlt_made (ks.drop n) next I (by intro e; have := congrArg List.length e; simp at this; omega) (makes_drop h n) h0 h1
  exact ⟨this.start.1, this.start.2, this.len⟩
theorem alt_mono {ks : List Rx} (h : MakesAll ks) {next : Int} {I : List Inst} (h0 : 0 ≤ next) (h1 : next < I.length) : ∀ n, n < ks.length → (makeAlt (ks.drop n) next I).2.length ≤ (makeAlt ks next I).2.length
  | 0, _ => by simp
  | n + 1, hn => by
    have ih := alt_mono h h0 h1 n (by omega)
    rw [alt_drop hn] at ih
    have c := alt_in h h0 h1 (n + 1) hn
    have := (make_made (ks[n]'(by omega)) next _ (h.get _ (List.getElem_mem (by omega))) h0 (show next < (makeAlt (ks.drop (n + 1)) next I).2.length by omega)).len
    simp at ih
    omega

set_option maxRecDepth 100000 in
set_option maxHeartbeats 8000000 in
theorem make_alt (code : Int) (neg : Bool) (set : List (Int × Int)) (mn mx : Int) (kids : List Rx) (hk : ∀ k ∈ kids, MakeOK k) (hv : MakesAll kids) (hne : 0 < kids.length) : MakeOK (.mk 6 code neg set mn mx kids) := by
  intro next I vI w base bp fold bytes cs hP ht h0 h1 hl
  simp only [TreeAt] at ht
  obtain ⟨vs, A, cc, rfl, ⟨As, cs', rfl, -⟩, hc1, hc2, hkids⟩ := ht
  have e0 : make (.mk 6 code neg set mn mx kids) next I = makeAlt kids next I := by simp [make]
  rw [e0] at hl ⊢
  obtain ⟨R, hR⟩ : ∃ R, makeAlt kids next I = R := ⟨_, rfl⟩
  rw [hR]
  rw [hR] at hl
  obtain ⟨l, hlk⟩ : ∃ l, kids.length = l + 1 := ⟨kids.length - 1, by omega⟩
  have HP := hide hP; have HK := hide hk; have HV := hide hv; have HR := hide hR; have HKI := hide hkids
  have hbp := hP.bp_lt
  have hbb := hP.lt
  clear hP e0 hk hv hR hkids hne
  have hll : l < kids.length := by omega
  obtain ⟨b, o, rfl, hb, csk, htk, hck⟩ := kid_cells (unhide HKI) l hll
  have hmo := alt_mono (unhide HV) h0 h1 l hll
  have hal := alt_last (by omega : l + 1 = kids.length) next I
  rw [unhide HR, hal] at hmo
  have hok := (unhide HK) kids[l] (List.getElem_mem hll)
  have hwrap : ((l + 1 : Nat) : Int) - 1 = (l : Int) := by omega
  generalize kids[l] = kid at *
  obtain ⟨kind', code', neg', set', mn', mx', kids'⟩ := kid
  have htk0 := htk
  simp only [TreeAt] at htk
  obtain ⟨vs', A', cc', rfl, ⟨As', cs'', rfl, -⟩, -⟩ := htk
  have hbl : b < w.heap.size := by omega
  have e0 := hck 0 _ rfl
  have e1 := hck 1 _ rfl
  have e2 := hck 2 _ rfl
  have e3 := hck 3 _ rfl
  have e4 := hck 4 _ rfl
  have e5 := hck 5 _ rfl
  have e6 := hck 6 _ rfl
  have HTW := hide (htk0.more (w' := w.alloc _) fun k _ hk => Below.heap_alloc w (.cells #[.int .i64 6, .int .i64 code, .bool neg, .slice As set.length cs', .int .i64 mn, .int .i64 mx, .slice (some ⟨b, o, none⟩) kids.length cc] 26) k hk)
  simp at e0
  have HOK := hide hok; have HAL := hide hal
  rw [hlk] at HTW ⊢
  clear hok hck htk0 hal
  go_enter Tryd.func14, Tryd.ntmps14
  go_wp2_with fail
  refine ((unhide HOK) _ _ vI _ base bp fold bytes _ ((unhide HP).alloc _) (unhide HTW) h0 h1 (by omega)).mono ?_
  rintro e w2 ⟨rfl, vI2, hP2, hK2, hA2⟩
  have t6 : w2.cell? ⟨w.heap.size, 6, none⟩ = some (.slice (some ⟨b, o, none⟩) (l + 1) cc) := (hK2.cell (by simp) ((unhide HP).new_not (Nat.le_refl _))).trans (by go_simp)
  rw [← unhide HAL] at hP2 ⊢
  have HP2 := hide hP2; have HK2 := hide hK2; have HA2 := hide hA2
  clear hP2 hK2 hA2 HTW HOK e0 e1 e2 e3 e4 e5 e6 hmo HAL
  go_wp2_with fail
  go_loopw [8, 9] (fun at_ i_ wr => ∃ (n : Nat) (vI' : Value), n ≤ l ∧ i_ = .int .i64 ((n : Int) - 1) ∧ at_ = .int .i64 (makeAlt (kids.drop n) next I).1 ∧ Hid (MkP wr base bp fold bytes (makeAlt (kids.drop n) next I).2 vI') ∧ Hid (Keeps (TurnP bp vI) (w.alloc (.cells #[.int .i64 6, .int .i64 code, .bool neg, .slice As set.length cs', .int .i64 mn, .int .i64 mx, .slice (some ⟨b, o, none⟩) (l + 1) cc] 26)) wr) ∧ Hid (At (w.alloc (.cells #[.int .i64 6, .int .i64 code, .bool neg, .slice As set.length cs', .int .i64 mn, .int .i64 mx, .slice (some ⟨b, o, none⟩) (l + 1) cc] 26)) vI vI'))
    (fun _ i_ _ => (intOf i_ + 1).toNat)
  case atStart =>
    refine ⟨l, vI2, Nat.le_refl _, ?_, rfl, HP2, HK2, HA2⟩
    go_num
  case round =>
    clear HP2 HK2 HA2 t6
    obtain ⟨n, vI', hn, rfl, rfl, HP1, HK1, HA1⟩ := hrel
    by_cases hn0 : n = 0
    · subst hn0
      rw [List.drop_zero, unhide HR] at HP1 ⊢
      go_wp2_with fail
      go_ret
      exact ⟨rfl, vI', unhide HP1, ((Keeps.refl _ _).alloc _).trans (unhide HK1) (fun _ _ h => h), At.later (unhide HA1) (by simp)⟩
    · obtain ⟨m, rfl⟩ : ∃ m, n = m + 1 := ⟨n - 1, by omega⟩
      have hm : m < kids.length := by omega
      obtain ⟨b2, o2, hA, hb2, csk, htk, hck⟩ := kid_cells (unhide HKI) m hm
      obtain ⟨rfl, rfl⟩ : b = b2 ∧ o = o2 := by cases hA; exact ⟨rfl, rfl⟩
      have hmem := List.getElem_mem hm
      have hd := alt_drop (show m + 1 < kids.length by omega) next I
      have hmo := alt_mono (unhide HV) h0 h1 m hm
      rw [unhide HR, hd] at hmo
      obtain ⟨i0, i1, i2⟩ := alt_in (unhide HV) h0 h1 (m + 1) (by omega)
      have hok := (unhide HK) kids[m] hmem
      rw [show (((m + 1 : Nat) : Int) - 1) = (m : Int) by omega]
      generalize kids[m] = kid at *
      obtain ⟨kind', code', neg', set', mn', mx', kids'⟩ := kid
      have htk0 := htk
      simp only [TreeAt] at htk
      obtain ⟨vs', A', cc', rfl, ⟨As', cs'', rfl, -⟩, -⟩ := htk
      have fr : ∀ j, wr.cell? ⟨b, j, none⟩ = w.cell? ⟨b, j, none⟩ := fun j => ((unhide HK1).cell (by simp; omega) ((unhide HP).old_not hb)).trans (by go_simp)
      have e0 := (fr _).trans (hck 0 _ rfl)
      have e1 := (fr _).trans (hck 1 _ rfl)
      have e2 := (fr _).trans (hck 2 _ rfl)
      have e3 := (fr _).trans (hck 3 _ rfl)
      have e4 := (fr _).trans (hck 4 _ rfl)
      have e5 := (fr _).trans (hck 5 _ rfl)
      have e6 := (fr _).trans (hck 6 _ rfl)
      have t6 : wr.cell? ⟨w.heap.size, 6, none⟩ = some (.slice (some ⟨b, o, none⟩) (l + 1) cc) := ((unhide HK1).cell (by simp) ((unhide HP).new_not (Nat.le_refl _))).trans (by go_simp)
      have htw : TreeAt (fun k => k < base) wr _ _ := ((htk0.more (w' := (w.alloc (.cells #[.int .i64 6, .int .i64 code, .bool neg, .slice As set.length cs', .int .i64 mn, .int .i64 mx, .slice (some ⟨b, o, none⟩) (l + 1) cc] 26))) fun k _ hk => Below.heap_alloc w _ k hk).more fun k hk1 hk2 => (unhide HK1).block k hk2 ((unhide HP).old_not hk1))
      simp at e0
      have HOK := hide hok; have HTW := hide htw; have HD := hide hd
      simp at hmo
      clear hok htw hd fr hck htk0 
      go_wp2_with fail
      refine ((unhide HOK) _ _ vI' _ base bp fold bytes _ (unhide HP1) (unhide HTW) h0 (by omega) (by omega)).mono ?_
      rintro e w2 ⟨rfl, vI2, hP2, hK2, hA2⟩
      have HP2 := hide hP2; have HK2 := hide hK2; have HA2 := hide hA2
      clear hP2 hK2 hA2
      go_wp2_with fail
      refine (add_calls ⟨2, noNode, _, _⟩ _ _ (unhide HP2) (no_tree _ _) (by omega)).mono ?_
      rintro e w3 ⟨rfl, vI3, hP3, hK3, hA3⟩
      have HP3 := hide hP3; have HK3 := hide hK3; have HA3 := hide hA3
      clear hP3 hK3 hA3
      go_wp2_with fail
      go_roundw
      case rel =>
        have hK4 := (unhide HK1).trans (unhide HK2) (fun k hk ht => Turnp.of_at (unhide HA1) k hk ht)
        have hA4 := At.trans (unhide HA1) (unhide HA2) (unhide HK1).size
        refine ⟨m, vI3, by omega, rfl, ?_, ?_, hK4.trans (unhide HK3) (fun k hk ht => Turnp.of_at hA4 k hk ht), At.trans hA4 (unhide HA3) hK4.size⟩
        · rw [unhide HD]
        · rw [unhide HD]; exact HP3
      case measure => simp [intOf]
end Go.Proofs.YtanmlgliibgpcaaDoor
