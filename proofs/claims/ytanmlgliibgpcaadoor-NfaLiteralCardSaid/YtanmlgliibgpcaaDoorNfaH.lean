/- The walk of make: the instructions of a node. -/
import Derived.Test.YtanmlgliibgpcaaDoorNfaG
import Derived.Test.YtanmlgliibgpcaaDoorPureValid
namespace Go.Proofs.YtanmlgliibgpcaaDoor
open Go.RowKit Thr
set_option linter.unusedVariables false
set_option linter.unusedSimpArgs false

def MakeOK (t : Rx) : Prop := ∀ (next : Int) (I : List Inst) (vI : Value) (w : World) (base bp : Nat) (fold bytes : Bool) (cs : List Value), MkP w base bp fold bytes I vI → TreeAt (fun k => k < base) w t cs → 0 ≤ next → next < I.length → (make t next I).2.length ≤ 1000 →
  Calls Tryd.prog 14 #[.pointer (some ⟨bp, 0, none⟩), .agg cs.toArray, .int .i64 next] w fun e w' => e = .returned (.int .i64 (make t next I).1) ∧ ∃ vI', MkP w' base bp fold bytes (make t next I).2 vI' ∧ Keeps (TurnP bp vI) w w' ∧ At w vI vI'

theorem TreeAt.more {B : Nat} {w w' : World} {t : Rx} {cs : List Value} (h : TreeAt (fun k => k < B) w t cs) (hb : ∀ k, k < B → k < w.heap.size → w'.heap[k]? = w.heap[k]?) : TreeAt (fun k => k < B) w' t cs := TreeAt.step (fun k hk hl => hb k hk hl) t cs h
theorem MkP.then_ {w w' : World} {base bp : Nat} {fold bytes : Bool} {I : List Inst} {vI : Value} (h : MkP w base bp fold bytes I vI) {t : Rx} {cs : List Value} (ht : TreeAt (fun k => k < base) w t cs) (hk : Keeps (TurnP bp vI) w w') : TreeAt (fun k => k < base) w' t cs :=
  ht.more fun k hk1 hk2 => hk.block k hk2 (h.old_not hk1)
theorem no_tree (ok : Nat → Prop) (w : World) : TreeAt ok w noNode [.int .i64 0, .int .i64 0, .bool false, .slice none 0 0, .int .i64 0, .int .i64 0, .slice none 0 0] := by
  simp only [noNode, TreeAt]
  refine ⟨_, none, 0, rfl, SetAt.nil _ _, Nat.le_refl _, by omega, .inl ?_⟩
  trivial

set_option maxHeartbeats 4000000 in
theorem make_empty (code : Int) (neg : Bool) (set : List (Int × Int)) (mn mx : Int) (kids : List Rx) : MakeOK (.mk 1 code neg set mn mx kids) := by
  intro next I vI w base bp fold bytes cs hP ht h0 h1 hl
  simp only [TreeAt] at ht
  obtain ⟨vs, A, cc, rfl, ⟨As, cs', rfl, -⟩, -⟩ := ht
  simp only [make, if_true] at hl ⊢
  have HP := hide hP
  clear hP
  go_enter Tryd.func14, Tryd.ntmps14
  go_wp2_with fail
  go_ret
  exact ⟨rfl, vI, (unhide HP).alloc _, (Keeps.refl _ _).alloc _, .inl rfl⟩

set_option maxHeartbeats 4000000 in
theorem make_char (kind code : Int) (neg : Bool) (set : List (Int × Int)) (mn mx : Int) (kids : List Rx) (hk : kind = 2 ∨ kind = 3 ∨ kind = 4) : MakeOK (.mk kind code neg set mn mx kids) := by
  intro next I vI w base bp fold bytes cs hP ht h0 h1 hl
  have ht0 := ht
  simp only [TreeAt] at ht
  obtain ⟨vs, A, cc, rfl, ⟨As, cs', rfl, -⟩, -⟩ := ht
  have e0 : make (.mk kind code neg set mn mx kids) next I = ((I.length : Int), I ++ [⟨0, .mk kind code neg set mn mx kids, next, 0⟩]) := by
    simp only [make]
    rw [if_neg (by omega), if_pos hk]
  rw [e0] at hl ⊢
  have HP := hide hP; have HT := hide ht0
  clear hP ht0 e0
  simp at hl
  rcases hk with rfl | rfl | rfl
  all_goals
    go_enter Tryd.func14, Tryd.ntmps14
    go_wp2_with fail
    refine (add_calls ⟨0, _, next, 0⟩ _ _ ((unhide HP).alloc _) ((unhide HT).more fun k _ hk => Below.heap_alloc _ _ _ hk) (by omega)).mono ?_
    rintro e w1 ⟨rfl, vI1, hP1, hK1, hA1⟩
    go_wp2_with fail
    go_ret
    exact ⟨rfl, vI1, hP1, ((Keeps.refl _ _).alloc _).trans hK1 (fun _ _ h => h), At.later hA1 (by simp)⟩

set_option maxHeartbeats 4000000 in
theorem make_check (kind code : Int) (neg : Bool) (set : List (Int × Int)) (mn mx : Int) (kids : List Rx) (hk : ¬ kind = 1 ∧ ¬ kind = 2 ∧ ¬ kind = 3 ∧ ¬ kind = 4 ∧ ¬ kind = 5 ∧ ¬ kind = 6 ∧ ¬ kind = 7) : MakeOK (.mk kind code neg set mn mx kids) := by
  intro next I vI w base bp fold bytes cs hP ht h0 h1 hl
  have ht0 := ht
  simp only [TreeAt] at ht
  obtain ⟨vs, A, cc, rfl, ⟨As, cs', rfl, -⟩, -⟩ := ht
  obtain ⟨k1, k2, k3, k4, k5, k6, k7⟩ := hk
  have e0 : make (.mk kind code neg set mn mx kids) next I = ((I.length : Int), I ++ [⟨1, .mk kind code neg set mn mx kids, next, 0⟩]) := by
    simp only [make]
    rw [if_neg k1, if_neg (by omega), if_neg k5, if_neg k6, if_neg k7]
  rw [e0] at hl ⊢
  have k1' : (kind == 1) = false := by simpa using k1
  have k2' : (kind == 2) = false := by simpa using k2
  have k3' : (kind == 3) = false := by simpa using k3
  have k4' : (kind == 4) = false := by simpa using k4
  have k5' : (kind == 5) = false := by simpa using k5
  have k6' : (kind == 6) = false := by simpa using k6
  have k7' : (kind == 7) = false := by simpa using k7
  have HP := hide hP; have HT := hide ht0
  clear hP ht0 e0 k1 k2 k3 k4 k5 k6 k7
  simp at hl
  go_enter Tryd.func14, Tryd.ntmps14
  go_wp2_with fail
  refine (add_calls ⟨1, _, next, 0⟩ _ _ ((unhide HP).alloc _) ((unhide HT).more fun k _ hk => Below.heap_alloc _ _ _ hk) (by omega)).mono ?_
  rintro e w1 ⟨rfl, vI1, hP1, hK1, hA1⟩
  go_wp2_with fail
  go_ret
  exact ⟨rfl, vI1, hP1, ((Keeps.refl _ _).alloc _).trans hK1 (fun _ _ h => h), At.later hA1 (by simp)⟩

theorem makes_drop {ks : List Rx} (h : MakesAll ks) : ∀ n, MakesAll (ks.drop n) := by
  induction ks with
  | nil => intro n; simpa using h
  | cons k ks ih =>
    intro n
    cases n with
    | zero => exact h
    | succ n => exact ih h.2 n
theorem _root_.Thr.MakesAll.get : ∀ {ks : List Rx}, MakesAll ks → ∀ k ∈ ks, Makes k
  | [], _, k, hk => by simp at hk
  | k' :: ks, h, k, hk => by
    rcases List.mem_cons.1 hk with rfl | hk
    · exact h.1
    · exact Thr.MakesAll.get h.2 k hk
theorem cat_drop {ks : List Rx} {m : Nat} (hm : m < ks.length) (next : Int) (I : List Inst) : makeCat (ks.drop m) next I = make ks[m] (makeCat (ks.drop (m + 1)) next I).1 (makeCat (ks.drop (m + 1)) next I).2 := by
  rw [List.drop_eq_getElem_cons hm, makeCat]
theorem cat_in {ks : List Rx} (h : MakesAll ks) {next : Int} {I : List Inst} (h0 : 0 ≤ next) (h1 : next < I.length) (n : Nat) :
    0 ≤ (makeCat (ks.drop n) next I).1 ∧ (makeCat (ks.drop n) next I).1 < (makeCat (ks.drop n) next I).2.length := (makeCat_made _ next I (makes_drop h n) h0 h1).start
theorem cat_mono {ks : List Rx} (h : MakesAll ks) {next : Int} {I : List Inst} (h0 : 0 ≤ next) (h1 : next < I.length) : ∀ n, (makeCat (ks.drop n) next I).2.length ≤ (makeCat ks next I).2.length
  | 0 => by simp
  | n + 1 => by
    have ih := cat_mono h h0 h1 n
    rcases Nat.lt_or_ge n ks.length with hn | hn
    · rw [cat_drop hn] at ih
      have c := cat_in h h0 h1 (n + 1)
      have := (make_made ks[n] _ _ (h.get _ (List.getElem_mem hn)) c.1 c.2).len
      omega
    · rw [List.drop_eq_nil_of_le hn] at ih
      rw [List.drop_eq_nil_of_le (by omega)]
      exact ih

theorem kid_cells {ok : Nat → Prop} {W : World} {kids : List Rx} {A : Option Addr} (h : kids = [] ∨ ∃ b o, A = some ⟨b, o, none⟩ ∧ ok b ∧ KidsAt ok W kids b o) (m : Nat) (hm : m < kids.length) :
    ∃ b o, A = some ⟨b, o, none⟩ ∧ ok b ∧ ∃ csk, TreeAt ok W kids[m] csk ∧ ∀ (j : Nat) (v : Value), csk[j]? = some v → W.cell? ⟨b, o + m * 7 + j, none⟩ = some v := by
  rcases h with rfl | ⟨b, o, hA, hb, hk⟩
  · simp at hm
  · obtain ⟨cs, h1, h2⟩ := hk.kid m kids[m] (List.getElem?_eq_getElem hm)
    exact ⟨b, o, hA, hb, cs, h1, h2⟩

set_option maxHeartbeats 4000000 in
theorem make_cat (code : Int) (neg : Bool) (set : List (Int × Int)) (mn mx : Int) (kids : List Rx) (hk : ∀ k ∈ kids, MakeOK k) (hv : MakesAll kids) : MakeOK (.mk 5 code neg set mn mx kids) := by
  intro next I vI w base bp fold bytes cs hP ht h0 h1 hl
  have ht0 := ht
  simp only [TreeAt] at ht
  obtain ⟨vs, A, cc, rfl, ⟨As, cs', rfl, -⟩, hc1, hc2, hkids⟩ := ht
  have e0 : make (.mk 5 code neg set mn mx kids) next I = makeCat kids next I := by simp [make]
  rw [e0] at hl ⊢
  obtain ⟨R, hR⟩ : ∃ R, makeCat kids next I = R := ⟨_, rfl⟩
  rw [hR]
  rw [hR] at hl
  have HP := hide hP; have HT := hide ht0; have HK := hide hk; have HV := hide hv; have HR := hide hR; have HKI := hide hkids
  have hbp := hP.bp_lt
  have hbb := hP.lt
  clear hP ht0 e0 hk hv hR hkids
  go_enter Tryd.func14, Tryd.ntmps14
  go_wp2_with fail
  go_loopw [2, 7] (fun next_ i_ wr => ∃ (n : Nat) (vI' : Value), n ≤ kids.length ∧ i_ = .int .i64 ((n : Int) - 1) ∧ next_ = .int .i64 (makeCat (kids.drop n) next I).1 ∧ Hid (MkP wr base bp fold bytes (makeCat (kids.drop n) next I).2 vI') ∧ Hid (Keeps (TurnP bp vI) (w.alloc (.cells #[.int .i64 5, .int .i64 code, .bool neg, .slice As set.length cs', .int .i64 mn, .int .i64 mx, .slice A kids.length cc] 26)) wr) ∧ Hid (At (w.alloc (.cells #[.int .i64 5, .int .i64 code, .bool neg, .slice As set.length cs', .int .i64 mn, .int .i64 mx, .slice A kids.length cc] 26)) vI vI'))
    (fun _ i_ _ => (intOf i_ + 1).toNat)
  case atStart =>
    refine ⟨kids.length, vI, Nat.le_refl _, rfl, ?_, ?_, Keeps.refl _ _, .inl rfl⟩
    · rw [List.drop_length]; rfl
    · rw [List.drop_length]; exact (unhide HP).alloc _
  case round =>
    obtain ⟨n, vI', hn, rfl, rfl, HP1, HK1, HA1⟩ := hrel
    by_cases hn0 : n = 0
    · subst hn0
      rw [List.drop_zero, unhide HR] at HP1 ⊢
      go_wp2_with fail
      go_ret
      exact ⟨rfl, vI', unhide HP1, ((Keeps.refl _ _).alloc _).trans (unhide HK1) (fun _ _ h => h), At.later (unhide HA1) (by simp)⟩
    · obtain ⟨m, rfl⟩ : ∃ m, n = m + 1 := ⟨n - 1, by omega⟩
      have hm : m < kids.length := by omega
      obtain ⟨b, o, rfl, hb, csk, htk, hck⟩ := kid_cells (unhide HKI) m hm
      have hmem := List.getElem_mem hm
      have hd := cat_drop hm next I
      have hmo := cat_mono (unhide HV) h0 h1 m
      rw [unhide HR, hd] at hmo
      obtain ⟨i0, i1⟩ := cat_in (unhide HV) h0 h1 (m + 1)
      have hok := (unhide HK) kids[m] hmem
      rw [show (((m + 1 : Nat) : Int) - 1) = (m : Int) by omega]
      have hds : ∀ x, (fun n => makeCat (List.drop n kids) next I) m = x → makeCat (List.drop m kids) next I = x := fun x h => h
      generalize kids[m] = kid at *
      obtain ⟨kind', code', neg', set', mn', mx', kids'⟩ := kid
      have htk0 := htk
      simp only [TreeAt] at htk
      obtain ⟨vs', A', cc', rfl, ⟨As', cs'', rfl, -⟩, -⟩ := htk
      have hbl : b < w.heap.size := by omega
      have fr : ∀ j, wr.cell? ⟨b, j, none⟩ = w.cell? ⟨b, j, none⟩ := fun j => ((unhide HK1).cell (by simp; omega) ((unhide HP).old_not hb)).trans (by go_simp)
      have e0 := (fr _).trans (hck 0 _ rfl)
      have e1 := (fr _).trans (hck 1 _ rfl)
      have e2 := (fr _).trans (hck 2 _ rfl)
      have e3 := (fr _).trans (hck 3 _ rfl)
      have e4 := (fr _).trans (hck 4 _ rfl)
      have e5 := (fr _).trans (hck 5 _ rfl)
      have e6 := (fr _).trans (hck 6 _ rfl)
      have t6 : wr.cell? ⟨w.heap.size, 6, none⟩ = some (.slice (some ⟨b, o, none⟩) kids.length cc) := ((unhide HK1).cell (by simp) ((unhide HP).new_not (Nat.le_refl _))).trans (by go_simp)
      have htw : TreeAt (fun k => k < base) wr _ _ := ((htk0.more (w' := w.alloc _) fun k _ hk => Below.heap_alloc w (.cells #[.int .i64 5, .int .i64 code, .bool neg, .slice As set.length cs', .int .i64 mn, .int .i64 mx, .slice (some ⟨b, o, none⟩) kids.length cc] 26) k hk).more fun k hk1 hk2 => (unhide HK1).block k hk2 ((unhide HP).old_not hk1))
      simp at e0
      have hlx : (makeCat (List.drop m kids) next I).2.length ≤ 1000 := by rw [hd]; omega
      have HOK := hide hok; have HTW := hide htw; have HD := hide hd
      clear hok htw hd fr hck htk0 hmo hds
      go_wp2_with fail
      refine ((unhide HOK) _ _ vI' _ base bp fold bytes _ (unhide HP1) (unhide HTW) i0 i1 (by rw [unhide HD] at hlx; exact hlx)).mono ?_
      rintro e w2 ⟨rfl, vI2, hP2, hK2, hA2⟩
      have HP2 := hide hP2; have HK2 := hide hK2; have HA2 := hide hA2
      clear hP2 hK2 hA2
      go_wp2_with fail
      go_roundw
      case rel =>
        refine ⟨m, vI2, by omega, rfl, ?_, ?_, (unhide HK1).trans (unhide HK2) (fun k hk ht => Turnp.of_at (unhide HA1) k hk ht), At.trans (unhide HA1) (unhide HA2) (unhide HK1).size⟩
        · rw [unhide HD]
        · rw [unhide HD]; exact HP2
      case measure => simp [intOf]
end Go.Proofs.YtanmlgliibgpcaaDoor
