/- NfaChoice returns true of every two texts, every string and every place: no condition beyond the statement's own (a part of its proof). -/
import Derived.Test.YtanmlgliibgpcaaDoorKc02
import Derived.Deep.RegionHeld3

/- The walk of repeat. -/
namespace Go.Proofs.YtanmlgliibgpcaaDoor
open Go.RowKit Thr
set_option linter.unusedVariables false
set_option linter.unusedSimpArgs false

theorem MkP.put {w : World} {base bp : Nat} {fold bytes : Bool} {I : List Inst} {vI : Value} (h : MkP w base bp fold bytes I vI) {n : Nat} (hn : n < I.length) (c : Int) :
    ∃ g cap u, vI = .slice (some ⟨g, 0, none⟩) I.length cap ∧ g ≠ bp ∧ g < w.heap.size ∧ w.cell? ⟨g, n * 10 + 8, none⟩ = some (.int .i64 u) ∧ w.frozen? ⟨g, n * 10 + 8, none⟩ = false ∧
      MkP (w.setCell ⟨g, n * 10 + 8, none⟩ (.int .i64 c)) base bp fold bytes (setX I n c) vI := by
  obtain ⟨xs, ho, hr⟩ := h.own
  have hne := h.ne
  rcases ho with ⟨hl, ⟨rfl, h0⟩ | ⟨g, cap, cur, rfl, hg, hh, hc1, hc2, hc3, hc4⟩⟩
  · omega
  have hgb : g ≠ bp := by rintro rfl; exact hne rfl
  obtain ⟨q, hq⟩ : ∃ q, I[n]? = some q := ⟨_, List.getElem?_eq_getElem hn⟩
  obtain ⟨cs, ht, hc⟩ := hr.2 n q hq
  have h8 := hc 8 (.int .i64 q.x) (by simp [instVals, List.getElem?_append, ht.len])
  have hsz : n * 10 + 8 < cur.size := by rw [hc3]; omega
  refine ⟨g, cap, q.x, rfl, hgb, (Array.getElem?_eq_some_iff.1 hh).1, ?_, by simp [World.frozen?, hh], ?_⟩
  · rw [cell_of_row w g _ cur _ (0, 0) hh, ← Array.getElem?_toList, ← h8, ← hc4, List.getElem?_take, if_pos (by omega)]
  · refine ⟨h.row.far (Ne.symm hgb) _, ⟨xs.set (n * 10 + 8) (.int .i64 c), ⟨?_, .inr ⟨g, cap, cur.setIfInBounds (n * 10 + 8) (.int .i64 c), ?_, hg, ?_, ?_, hc2, by simpa using hc3, ?_⟩⟩, ?_⟩, h.lt⟩
    · rw [List.length_set, setX_len]; exact hl
    · rw [setX_len]
    · exact Blk.set_ (w := w) hh _ _
    · rw [setX_len]; exact hc1
    · rw [setX_len, Array.toList_setIfInBounds, List.take_set, hc4]
    · exact (hr.put hn c).step (fun k hk hkl => Below.heap_setCell _ _ _ k (by simp only; omega))

theorem make_rep_eq (code : Int) (neg : Bool) (set : List (Int × Int)) (mn mx : Int) (k : Rx) (next : Int) (I : List Inst) : make (.mk 7 code neg set mn mx [k]) next I =
    timesF (make k) mn.toNat (optF (make k) (mx - mn).toNat (if mx < 0 then starF (make k) next I else (next, I)).1 (if mx < 0 then starF (make k) next I else (next, I)).2).1 (optF (make k) (mx - mn).toNat (if mx < 0 then starF (make k) next I else (next, I)).1 (if mx < 0 then starF (make k) next I else (next, I)).2).2 := by
  have e : (fun n J => makeHd [k] n J) = make k := by funext n J; simp [makeHd]
  simp only [make, if_neg (show ¬ (7 : Int) = 1 by omega), if_neg (show ¬ ((7 : Int) = 2 ∨ (7 : Int) = 3 ∨ (7 : Int) = 4) by omega), if_neg (show ¬ (7 : Int) = 5 by omega), if_neg (show ¬ (7 : Int) = 6 by omega), if_true, e]

theorem opt_in {k : Rx} (hk : Makes k) (m : Nat) {next : Int} {I : List Inst} (h0 : 0 ≤ next) (h1 : next < I.length) :
    0 ≤ (optF (make k) m next I).1 ∧ (optF (make k) m next I).1 < (optF (make k) m next I).2.length ∧ I.length ≤ (optF (make k) m next I).2.length := by
  have := opt_made (K := fun J => Frag J k) (F := make k) (fun n J a b => make_made k n J hk a b) m next I h0 h1
  exact ⟨this.start.1, this.start.2, this.len⟩
theorem times_in {k : Rx} (hk : Makes k) (m : Nat) {next : Int} {I : List Inst} (h0 : 0 ≤ next) (h1 : next < I.length) :
    0 ≤ (timesF (make k) m next I).1 ∧ (timesF (make k) m next I).1 < (timesF (make k) m next I).2.length ∧ I.length ≤ (timesF (make k) m next I).2.length := by
  have := times_made (K := fun J => Frag J k) (F := make k) (fun n J a b => make_made k n J hk a b) m next I h0 h1
  exact ⟨this.start.1, this.start.2, this.len⟩
theorem star_in {k : Rx} (hk : Makes k) {next : Int} {I : List Inst} (h0 : 0 ≤ next) (h1 : next < I.length) :
    0 ≤ (starF (make k) next I).1 ∧ (starF (make k) next I).1 < (starF (make k) next I).2.length ∧ I.length ≤ (starF (make k) next I).2.length := by
  have := star_made (K := fun J => Frag J k) (F := make k) (fun n J a b => make_made k n J hk a b) next I h0 h1
  exact ⟨this.start.1, this.start.2, this.len⟩
theorem TreeAt.form {ok : Nat → Prop} {W : World} {t : Rx} {cs : List Value} (h : TreeAt ok W t cs) : ∃ (kind code : Int) (neg : Bool) (As : Option Addr) (ls cs' : Nat) (mn mx : Int) (A : Option Addr) (lk cc : Nat), cs = [.int .i64 kind, .int .i64 code, .bool neg, .slice As ls cs', .int .i64 mn, .int .i64 mx, .slice A lk cc] := by
  obtain ⟨kind, code, neg, set, mn, mx, kids⟩ := t
  simp only [TreeAt] at h
  obtain ⟨vs, A, cc, rfl, ⟨As, cs', rfl, -⟩, -⟩ := h
  exact ⟨_, _, _, _, _, _, _, _, _, _, _, rfl⟩

/-REP-/
set_option maxRecDepth 100000 in
set_option maxHeartbeats 16000000 in
theorem repeat_calls (code : Int) (neg : Bool) (set : List (Int × Int)) (mn mx : Int) (kid : Rx) (hok : MakeOK kid) (hmk : Makes kid) (hmn : 0 ≤ mn) (hmx : -1 ≤ mx) (hmx1 : mx ≤ 1000) (hmn1 : mn ≤ 1000) (next : Int) (I : List Inst) (vI : Value) (w : World) (base bp : Nat) (fold bytes : Bool) (cs : List Value)
    (hP : MkP w base bp fold bytes I vI) (ht : TreeAt (fun k => k < base) w (.mk 7 code neg set mn mx [kid]) cs) (h0 : 0 ≤ next) (h1 : next < I.length) (hl : (make (.mk 7 code neg set mn mx [kid]) next I).2.length ≤ 1000) :
    Calls Tryd.prog 26 #[.pointer (some ⟨bp, 0, none⟩), .agg cs.toArray, .int .i64 next] w fun e w' => e = .returned (.int .i64 (make (.mk 7 code neg set mn mx [kid]) next I).1) ∧ ∃ vI', MkP w' base bp fold bytes (make (.mk 7 code neg set mn mx [kid]) next I).2 vI' ∧ Keeps (TurnP bp vI) w w' ∧ At w vI vI' := by
  rw [make_rep_eq] at hl ⊢
  obtain ⟨R0, hR0⟩ : ∃ R0, (if mx < 0 then starF (make kid) next I else (next, I)) = R0 := ⟨_, rfl⟩
  rw [hR0] at hl ⊢
  obtain ⟨R1, hR1⟩ : ∃ R1, optF (make kid) (mx - mn).toNat R0.1 R0.2 = R1 := ⟨_, rfl⟩
  rw [hR1] at hl ⊢
  obtain ⟨R, hRR⟩ : ∃ R, timesF (make kid) mn.toNat R1.1 R1.2 = R := ⟨_, rfl⟩
  rw [hRR] at hl ⊢
  have hR0in : 0 ≤ R0.1 ∧ R0.1 < R0.2.length ∧ I.length ≤ R0.2.length := by
    rw [← hR0]
    split
    · exact star_in hmk h0 h1
    · exact ⟨h0, h1, Nat.le_refl _⟩
  have hR1in := opt_in hmk (mx - mn).toNat hR0in.1 hR0in.2.1
  rw [hR1] at hR1in
  have hRin := times_in hmk mn.toNat hR1in.1 hR1in.2.1
  rw [hRR] at hRin
  simp only [TreeAt] at ht
  obtain ⟨vs, A, cc, rfl, ⟨As, cs', rfl, -⟩, hc1, hc2, hkids⟩ := ht
  obtain ⟨b, o, rfl, hb, csk, htk, hck⟩ := kid_cells hkids 0 (by simp)
  simp only [List.getElem_cons_zero] at htk
  have HP := hide hP; have HOK := hide hok; have HMK := hide hmk; have HRR := hide hRR; have HR1 := hide hR1
  have hbp := hP.bp_lt
  have hbb := hP.lt
  clear hP hok hRR hR1 hkids
  have htk0 := htk
  obtain ⟨kind', code', neg', As', ls', cs'', mn', mx', A', lk', cc', rfl⟩ := htk.form
  have hbl : b < w.heap.size := by omega
  have e0 := hck 0 _ rfl
  have e1 := hck 1 _ rfl
  have e2 := hck 2 _ rfl
  have e3 := hck 3 _ rfl
  have e4 := hck 4 _ rfl
  have e5 := hck 5 _ rfl
  have e6 := hck 6 _ rfl
  simp at e0 e1 e2 e3 e4 e5 e6
  have hfr : ∀ wr, Keeps (TurnP bp vI) ((w.alloc (.cells #[.int .i64 7, .int .i64 code, .bool neg, .slice As set.length cs', .int .i64 mn, .int .i64 mx, .slice (some ⟨b, o, none⟩) 1 cc] 26)).alloc (.cells #[.int .i64 kind', .int .i64 code', .bool neg', .slice As' ls' cs'', .int .i64 mn', .int .i64 mx', .slice A' lk' cc'] 26)) wr → wr.cell? ⟨w.heap.size, 4, none⟩ = some (.int .i64 mn) ∧ wr.cell? ⟨w.heap.size, 5, none⟩ = some (.int .i64 mx) ∧ wr.cell? ⟨w.heap.size + 1, 0, none⟩ = some (.int .i64 kind') ∧ wr.cell? ⟨w.heap.size + 1, 1, none⟩ = some (.int .i64 code') ∧
      wr.cell? ⟨w.heap.size + 1, 2, none⟩ = some (.bool neg') ∧ wr.cell? ⟨w.heap.size + 1, 3, none⟩ = some (.slice As' ls' cs'') ∧ wr.cell? ⟨w.heap.size + 1, 4, none⟩ = some (.int .i64 mn') ∧ wr.cell? ⟨w.heap.size + 1, 5, none⟩ = some (.int .i64 mx') ∧ wr.cell? ⟨w.heap.size + 1, 6, none⟩ = some (.slice A' lk' cc') ∧ w.heap.size + 1 < wr.heap.size := by
    intro wr hK
    have k0 : ∀ j, wr.cell? ⟨w.heap.size, j, none⟩ = ((w.alloc (.cells #[.int .i64 7, .int .i64 code, .bool neg, .slice As set.length cs', .int .i64 mn, .int .i64 mx, .slice (some ⟨b, o, none⟩) 1 cc] 26)).alloc (.cells #[.int .i64 kind', .int .i64 code', .bool neg', .slice As' ls' cs'', .int .i64 mn', .int .i64 mx', .slice A' lk' cc'] 26)).cell? ⟨w.heap.size, j, none⟩ := fun j => hK.cell (by simp; omega) ((unhide HP).new_not (Nat.le_refl _))
    have k1 : ∀ j, wr.cell? ⟨w.heap.size + 1, j, none⟩ = ((w.alloc (.cells #[.int .i64 7, .int .i64 code, .bool neg, .slice As set.length cs', .int .i64 mn, .int .i64 mx, .slice (some ⟨b, o, none⟩) 1 cc] 26)).alloc (.cells #[.int .i64 kind', .int .i64 code', .bool neg', .slice As' ls' cs'', .int .i64 mn', .int .i64 mx', .slice A' lk' cc'] 26)).cell? ⟨w.heap.size + 1, j, none⟩ := fun j => hK.cell (by simp) ((unhide HP).new_not (by omega))
    have hs := hK.size
    refine ⟨(k0 4).trans (by go_simp), (k0 5).trans (by go_simp), (k1 0).trans (by go_simp), (k1 1).trans (by go_simp), (k1 2).trans (by go_simp), (k1 3).trans (by go_simp), (k1 4).trans (by go_simp), (k1 5).trans (by go_simp), (k1 6).trans (by go_simp), by simp at hs; omega⟩
  have htr : ∀ wr, Keeps (TurnP bp vI) ((w.alloc (.cells #[.int .i64 7, .int .i64 code, .bool neg, .slice As set.length cs', .int .i64 mn, .int .i64 mx, .slice (some ⟨b, o, none⟩) 1 cc] 26)).alloc (.cells #[.int .i64 kind', .int .i64 code', .bool neg', .slice As' ls' cs'', .int .i64 mn', .int .i64 mx', .slice A' lk' cc'] 26)) wr → TreeAt (fun k => k < base) wr kid [.int .i64 kind', .int .i64 code', .bool neg', .slice As' ls' cs'', .int .i64 mn', .int .i64 mx', .slice A' lk' cc'] := by
    intro wr hK
    exact (((htk.more (fun k _ hk => Below.heap_alloc w _ k hk)).more (fun k hk1 hk => Below.heap_alloc _ _ k hk)).more fun k hk1 hk2 => hK.block k hk2 ((unhide HP).old_not hk1))
  have HFR := hide hfr; have HTR := hide htr
  clear hfr htr hck htk htk0
  by_cases hs : mx < 0
  · have hs' : decide (mx < 0) = true := by simpa using hs
    rw [if_pos hs] at hR0
    have e00 : (mx - mn).toNat = 0 := by omega
    have hR1b := unhide HR1
    rw [e00] at hR1b
    simp only [optF] at hR1b
    have hst := make_made kid I.length (I ++ [⟨2, noNode, 0, next⟩]) hmk (by omega) (by simp; omega)
    have hst0 := hst.start
    have hst1 := hst.len
    simp only [starF] at hR0
    have hln : (make kid I.length (I ++ [⟨2, noNode, 0, next⟩])).2.length = R0.2.length := by rw [← hR0]; simp only [setX_len]
    have hR0' := hR0
    simp at hst1
    have HR0 := hide hR0
    clear hR0 hR0' hst
    go_enter Tryd.func26, Tryd.ntmps26
    go_wp2_with fail
    refine (add_calls ⟨2, noNode, 0, next⟩ _ _ (((unhide HP).alloc _).alloc _) (no_tree _ _) (by omega)).mono ?_
    rintro e w1 ⟨rfl, vI1, hP1, hK1, hA1⟩
    obtain ⟨c4, c5, d0, d1, d2, d3, d4, d5, d6, hsz⟩ := (unhide HFR) w1 hK1
    have HTW := hide ((unhide HTR) w1 hK1)
    have HP1 := hide hP1; have HK1 := hide hK1; have HA1 := hide hA1
    clear hP1 hK1 hA1
    go_wp2_with fail
    refine ((unhide HOK) _ _ vI1 _ base bp fold bytes _ (unhide HP1) (unhide HTW) (by omega) (by simp; omega) (by omega)).mono ?_
    rintro e w2 ⟨rfl, vI2, hP2, hK2, hA2⟩
    have hK4 := (unhide HK1).trans hK2 (fun k hk ht => Turnp.of_at (unhide HA1) k hk ht)
    have hA4 := At.trans (unhide HA1) hA2 (unhide HK1).size
    obtain ⟨g, cap, u, rfl, hgb, hgl, hg1, hg2, hP3⟩ := hP2.put (n := I.length) (by omega) (make kid I.length (I ++ [⟨2, noNode, 0, next⟩])).1
    have p2 : w2.cell? ⟨bp, 2, none⟩ = some (.slice (some ⟨g, 0, none⟩) (make kid I.length (I ++ [⟨2, noNode, 0, next⟩])).2.length cap) := (hP2.row.cell 2).trans (by simp)
    have hbp2 := hP2.bp_lt
    have hgn : ¬ g < base := fun h => hP2.old_not h (.inr rfl)
    have hgT : TurnP bp vI g ∨ ((w.alloc (.cells #[.int .i64 7, .int .i64 code, .bool neg, .slice As set.length cs', .int .i64 mn, .int .i64 mx, .slice (some ⟨b, o, none⟩) 1 cc] 26)).alloc (.cells #[.int .i64 kind', .int .i64 code', .bool neg', .slice As' ls' cs'', .int .i64 mn', .int .i64 mx', .slice A' lk' cc'] 26)).heap.size ≤ g := by
      rcases hA4 with h | ⟨g', h, hg'⟩
      · exact .inl (.inr (by rw [← h]; rfl))
      · exact .inr (by have : g = g' := by simpa [Value.ownBlock] using h
                       omega)
    have hK5 : Keeps (TurnP bp vI) ((w.alloc (.cells #[.int .i64 7, .int .i64 code, .bool neg, .slice As set.length cs', .int .i64 mn, .int .i64 mx, .slice (some ⟨b, o, none⟩) 1 cc] 26)).alloc (.cells #[.int .i64 kind', .int .i64 code', .bool neg', .slice As' ls' cs'', .int .i64 mn', .int .i64 mx', .slice A' lk' cc'] 26)) (w2.setCell ⟨g, I.length * 10 + 8, none⟩ (.int .i64 (make kid I.length (I ++ [⟨2, noNode, 0, next⟩])).1)) := hK4.setCell hgT _
    obtain ⟨q4, q5, q0⟩ := (unhide HFR) _ hK5
    have e0R := unhide HR0
    have hfin : setX (make kid I.length (I ++ [⟨2, noNode, 0, next⟩])).2 I.length (make kid I.length (I ++ [⟨2, noNode, 0, next⟩])).1 = R0.2 := by rw [← e0R]
    have hfi2 : (I.length : Int) = R0.1 := by rw [← e0R]
    rw [hfin] at hP3
    have HP3 := hide hP3; have HK5 := hide hK5; have HA4 := hide hA4; have HFI := hide hfi2
    clear hfi2 hP2 hK2 hA2 hK4 hP3 hK5 hA4 hgT q0 e0R hfin
    go_wp2_with fail
    go_loopw [2, 10] (fun next_ i_ wr => ∃ (i cur : Int) (J : List Inst) (vI' : Value), i_ = .int .i64 i ∧ next_ = .int .i64 cur ∧ i ≤ mx ∧ -1 ≤ i ∧ 0 ≤ cur ∧ cur < J.length ∧ Hid (optF (make kid) (i - mn).toNat cur J = R1) ∧ Hid (MkP wr base bp fold bytes J vI') ∧ Hid (Keeps (TurnP bp vI) ((w.alloc (.cells #[.int .i64 7, .int .i64 code, .bool neg, .slice As set.length cs', .int .i64 mn, .int .i64 mx, .slice (some ⟨b, o, none⟩) 1 cc] 26)).alloc (.cells #[.int .i64 kind', .int .i64 code', .bool neg', .slice As' ls' cs'', .int .i64 mn', .int .i64 mx', .slice A' lk' cc'] 26)) wr) ∧ Hid (At ((w.alloc (.cells #[.int .i64 7, .int .i64 code, .bool neg, .slice As set.length cs', .int .i64 mn, .int .i64 mx, .slice (some ⟨b, o, none⟩) 1 cc] 26)).alloc (.cells #[.int .i64 kind', .int .i64 code', .bool neg', .slice As' ls' cs'', .int .i64 mn', .int .i64 mx', .slice A' lk' cc'] 26)) vI vI'))
      (fun _ i_ _ => (intOf i_ - mn).toNat)
    case atStart => exact ⟨mx, I.length, R0.2, _, rfl, rfl, Int.le_refl _, hmx, by omega, by have := unhide HFI; omega, hide (by have := unhide HR1; rw [← unhide HFI] at this; exact this), HP3, HK5, HA4⟩
    case round =>
      clear HP3 HK5 HA4 HP1 HK1 HA1 q4 q5 c4 c5 d0 d1 d2 d3 d4 d5 d6 hsz p2 hg1 hg2 HTW
      obtain ⟨i, cur, J, vI', rfl, rfl, hi1, hi2, hc0, hc1, HR, HP1, HK1, HA1⟩ := hrel
      have hb1 := (opt_in (unhide HMK) (i - mn).toNat hc0 hc1).2.2
      rw [unhide HR] at hb1
      obtain ⟨c4, c5, d0, d1, d2, d3, d4, d5, d6, hsz⟩ := (unhide HFR) wr (unhide HK1)
      have htw := (unhide HTR) wr (unhide HK1)
      have HTW := hide htw
      clear htw
      by_cases hgt : mn < i
      · exact absurd hgt (by omega)
      · have hz : (i - mn).toNat = 0 := by omega
        have hr := unhide HR
        rw [hz] at hr
        simp only [optF] at hr
        obtain rfl := hr
        clear HR hb1 hz
        go_wp2_with fail
        go_loopw [2, 53] (fun next_ c_ wr => ∃ (c : Nat) (cur : Int) (J : List Inst) (vI' : Value), c_ = .int .i64 c ∧ next_ = .int .i64 cur ∧ c ≤ mn ∧ 0 ≤ cur ∧ cur < J.length ∧ Hid (timesF (make kid) (mn.toNat - c) cur J = R) ∧ Hid (MkP wr base bp fold bytes J vI') ∧ Hid (Keeps (TurnP bp vI) ((w.alloc (.cells #[.int .i64 7, .int .i64 code, .bool neg, .slice As set.length cs', .int .i64 mn, .int .i64 mx, .slice (some ⟨b, o, none⟩) 1 cc] 26)).alloc (.cells #[.int .i64 kind', .int .i64 code', .bool neg', .slice As' ls' cs'', .int .i64 mn', .int .i64 mx', .slice A' lk' cc'] 26)) wr) ∧ Hid (At ((w.alloc (.cells #[.int .i64 7, .int .i64 code, .bool neg, .slice As set.length cs', .int .i64 mn, .int .i64 mx, .slice (some ⟨b, o, none⟩) 1 cc] 26)).alloc (.cells #[.int .i64 kind', .int .i64 code', .bool neg', .slice As' ls' cs'', .int .i64 mn', .int .i64 mx', .slice A' lk' cc'] 26)) vI vI'))
          (fun _ c_ _ => mn.toNat - (intOf c_).toNat)
        case atStart => exact ⟨0, cur, J, vI', rfl, rfl, by omega, hc0, hc1, hide (by rw [Nat.sub_zero]; exact unhide HRR), HP1, HK1, HA1⟩
        case round =>
          clear HP1 HK1 HA1 HTW c4 c5 d0 d1 d2 d3 d4 d5 d6 hsz HRR
          obtain ⟨c, cur, J, vI', rfl, rfl, hcm, hc0, hc1, HR, HP1, HK1, HA1⟩ := hrel
          have hb1 := (times_in (unhide HMK) (mn.toNat - c) hc0 hc1).2.2
          rw [unhide HR] at hb1
          obtain ⟨c4, c5, d0, d1, d2, d3, d4, d5, d6, hsz⟩ := (unhide HFR) wr (unhide HK1)
          have htw := (unhide HTR) wr (unhide HK1)
          have HTW := hide htw
          clear htw
          by_cases hlt : (c : Int) < mn
          · obtain ⟨d, hd⟩ : ∃ d : Nat, mn.toNat - c = d + 1 := ⟨mn.toNat - c - 1, by omega⟩
            have hr := unhide HR
            rw [hd] at hr
            simp only [timesF] at hr
            have hF := make_made kid cur J (unhide HMK) hc0 hc1
            have hf0 := hF.start
            have hfl := hF.len
            have hb2 := (times_in (unhide HMK) d hf0.1 hf0.2).2.2
            rw [hr] at hb2
            have HR' := hide hr
            clear hF hr
            go_wp2_with fail
            refine ((unhide HOK) _ _ vI' _ base bp fold bytes _ (unhide HP1) (unhide HTW) hc0 hc1 (by omega)).mono ?_
            rintro e w2 ⟨rfl, vI2, hP2, hK2, hA2⟩
            have hK4 := (unhide HK1).trans hK2 (fun k hk ht => Turnp.of_at (unhide HA1) k hk ht)
            have hA4 := At.trans (unhide HA1) hA2 (unhide HK1).size
            have HP2 := hide hP2; have HK4 := hide hK4; have HA4 := hide hA4
            clear hP2 hK2 hA2 hK4 hA4
            go_wp2_with fail
            go_roundw
            case rel =>
              refine ⟨c + 1, _, _, vI2, by go_num, rfl, by omega, hf0.1, hf0.2, ?_, HP2, HK4, HA4⟩
              rw [show mn.toNat - (c + 1) = d by omega]; exact HR'
            case measure => simp only [intOf]; omega
          · have hz : mn.toNat - c = 0 := by omega
            have hr := unhide HR
            rw [hz] at hr
            simp only [timesF] at hr
            obtain rfl := hr
            clear HR hb1 hz
            go_wp2_with fail
            go_ret
            exact ⟨rfl, vI', unhide HP1, (((Keeps.refl _ _).alloc _).alloc _).trans (unhide HK1) (fun _ _ h => h), At.later (unhide HA1) (by simp <;> omega)⟩
  · have hs' : decide (mx < 0) = false := by simpa using hs
    rw [if_neg hs] at hR0
    subst hR0
    obtain ⟨c4, c5, d0, d1, d2, d3, d4, d5, d6, hsz⟩ := (unhide HFR) _ (Keeps.refl _ _)
    have HPs := hide (((unhide HP).alloc (.cells #[.int .i64 7, .int .i64 code, .bool neg, .slice As set.length cs', .int .i64 mn, .int .i64 mx, .slice (some ⟨b, o, none⟩) 1 cc] 26)).alloc (.cells #[.int .i64 kind', .int .i64 code', .bool neg', .slice As' ls' cs'', .int .i64 mn', .int .i64 mx', .slice A' lk' cc'] 26))
    have HKs := hide (Keeps.refl (TurnP bp vI) ((w.alloc (.cells #[.int .i64 7, .int .i64 code, .bool neg, .slice As set.length cs', .int .i64 mn, .int .i64 mx, .slice (some ⟨b, o, none⟩) 1 cc] 26)).alloc (.cells #[.int .i64 kind', .int .i64 code', .bool neg', .slice As' ls' cs'', .int .i64 mn', .int .i64 mx', .slice A' lk' cc'] 26)))
    have HAs : Hid (At ((w.alloc (.cells #[.int .i64 7, .int .i64 code, .bool neg, .slice As set.length cs', .int .i64 mn, .int .i64 mx, .slice (some ⟨b, o, none⟩) 1 cc] 26)).alloc (.cells #[.int .i64 kind', .int .i64 code', .bool neg', .slice As' ls' cs'', .int .i64 mn', .int .i64 mx', .slice A' lk' cc'] 26)) vI vI) := .inl rfl
    go_enter Tryd.func26, Tryd.ntmps26
    go_wp2_with fail
    go_loopw [2, 10] (fun next_ i_ wr => ∃ (i cur : Int) (J : List Inst) (vI' : Value), i_ = .int .i64 i ∧ next_ = .int .i64 cur ∧ i ≤ mx ∧ -1 ≤ i ∧ 0 ≤ cur ∧ cur < J.length ∧ Hid (optF (make kid) (i - mn).toNat cur J = R1) ∧ Hid (MkP wr base bp fold bytes J vI') ∧ Hid (Keeps (TurnP bp vI) ((w.alloc (.cells #[.int .i64 7, .int .i64 code, .bool neg, .slice As set.length cs', .int .i64 mn, .int .i64 mx, .slice (some ⟨b, o, none⟩) 1 cc] 26)).alloc (.cells #[.int .i64 kind', .int .i64 code', .bool neg', .slice As' ls' cs'', .int .i64 mn', .int .i64 mx', .slice A' lk' cc'] 26)) wr) ∧ Hid (At ((w.alloc (.cells #[.int .i64 7, .int .i64 code, .bool neg, .slice As set.length cs', .int .i64 mn, .int .i64 mx, .slice (some ⟨b, o, none⟩) 1 cc] 26)).alloc (.cells #[.int .i64 kind', .int .i64 code', .bool neg', .slice As' ls' cs'', .int .i64 mn', .int .i64 mx', .slice A' lk' cc'] 26)) vI vI'))
      (fun _ i_ _ => (intOf i_ - mn).toNat)
    case atStart => exact ⟨mx, next, I, vI, rfl, rfl, Int.le_refl _, hmx, h0, h1, HR1, HPs, HKs, HAs⟩
    case round =>
      clear HPs HKs HAs c4 c5 d0 d1 d2 d3 d4 d5 d6 hsz
      obtain ⟨i, cur, J, vI', rfl, rfl, hi1, hi2, hc0, hc1, HR, HP1, HK1, HA1⟩ := hrel
      have hb1 := (opt_in (unhide HMK) (i - mn).toNat hc0 hc1).2.2
      rw [unhide HR] at hb1
      obtain ⟨c4, c5, d0, d1, d2, d3, d4, d5, d6, hsz⟩ := (unhide HFR) wr (unhide HK1)
      have htw := (unhide HTR) wr (unhide HK1)
      have HTW := hide htw
      clear htw
      by_cases hgt : mn < i
      · obtain ⟨d, hd⟩ : ∃ d : Nat, (i - mn).toNat = d + 1 := ⟨(i - mn).toNat - 1, by omega⟩
        have hr := unhide HR
        rw [hd] at hr
        simp only [optF] at hr
        have hF := make_made kid cur J (unhide HMK) hc0 hc1
        have hf0 := hF.start
        have hfl := hF.len
        have hb2 := (opt_in (unhide HMK) d (next := (make kid cur J).2.length) (I := (make kid cur J).2 ++ [⟨2, noNode, (make kid cur J).1, cur⟩]) (by omega) (by simp; omega)).2.2
        rw [hr] at hb2
        simp at hb2
        have HR' := hide hr
        clear hF hr
        go_wp2_with fail
        refine ((unhide HOK) _ _ vI' _ base bp fold bytes _ (unhide HP1) (unhide HTW) hc0 hc1 (by omega)).mono ?_
        rintro e w2 ⟨rfl, vI2, hP2, hK2, hA2⟩
        have HP2 := hide hP2; have HK2 := hide hK2; have HA2 := hide hA2
        clear hP2 hK2 hA2
        go_wp2_with fail
        refine (add_calls ⟨2, noNode, _, _⟩ _ _ (unhide HP2) (no_tree _ _) (by omega)).mono ?_
        rintro e w3 ⟨rfl, vI3, hP3, hK3, hA3⟩
        have hK4 := (unhide HK1).trans (unhide HK2) (fun k hk ht => Turnp.of_at (unhide HA1) k hk ht)
        have hA4 := At.trans (unhide HA1) (unhide HA2) (unhide HK1).size
        have hK5 := hK4.trans hK3 (fun k hk ht => Turnp.of_at hA4 k hk ht)
        have hA5 := At.trans hA4 hA3 hK4.size
        have HP3 := hide hP3; have HK5 := hide hK5; have HA5 := hide hA5
        clear hP3 hK3 hA3 hK4 hA4 hK5 hA5
        go_wp2_with fail
        go_roundw
        case rel =>
          refine ⟨i - 1, _, _, vI3, by go_num, rfl, by omega, by omega, by omega, ?_, ?_, HP3, HK5, HA5⟩
          · simp; omega
          · rw [show (i - 1 - mn).toNat = d by omega]; exact HR'
        case measure => simp only [intOf]; omega
      · have hz : (i - mn).toNat = 0 := by omega
        have hr := unhide HR
        rw [hz] at hr
        simp only [optF] at hr
        obtain rfl := hr
        clear HR hb1 hz
        go_wp2_with fail
        go_loopw [2, 53] (fun next_ c_ wr => ∃ (c : Nat) (cur : Int) (J : List Inst) (vI' : Value), c_ = .int .i64 c ∧ next_ = .int .i64 cur ∧ c ≤ mn ∧ 0 ≤ cur ∧ cur < J.length ∧ Hid (timesF (make kid) (mn.toNat - c) cur J = R) ∧ Hid (MkP wr base bp fold bytes J vI') ∧ Hid (Keeps (TurnP bp vI) ((w.alloc (.cells #[.int .i64 7, .int .i64 code, .bool neg, .slice As set.length cs', .int .i64 mn, .int .i64 mx, .slice (some ⟨b, o, none⟩) 1 cc] 26)).alloc (.cells #[.int .i64 kind', .int .i64 code', .bool neg', .slice As' ls' cs'', .int .i64 mn', .int .i64 mx', .slice A' lk' cc'] 26)) wr) ∧ Hid (At ((w.alloc (.cells #[.int .i64 7, .int .i64 code, .bool neg, .slice As set.length cs', .int .i64 mn, .int .i64 mx, .slice (some ⟨b, o, none⟩) 1 cc] 26)).alloc (.cells #[.int .i64 kind', .int .i64 code', .bool neg', .slice As' ls' cs'', .int .i64 mn', .int .i64 mx', .slice A' lk' cc'] 26)) vI vI'))
          (fun _ c_ _ => mn.toNat - (intOf c_).toNat)
        case atStart => exact ⟨0, cur, J, vI', rfl, rfl, by omega, hc0, hc1, hide (by rw [Nat.sub_zero]; exact unhide HRR), HP1, HK1, HA1⟩
        case round =>
          clear HP1 HK1 HA1 HTW c4 c5 d0 d1 d2 d3 d4 d5 d6 hsz HRR
          obtain ⟨c, cur, J, vI', rfl, rfl, hcm, hc0, hc1, HR, HP1, HK1, HA1⟩ := hrel
          have hb1 := (times_in (unhide HMK) (mn.toNat - c) hc0 hc1).2.2
          rw [unhide HR] at hb1
          obtain ⟨c4, c5, d0, d1, d2, d3, d4, d5, d6, hsz⟩ := (unhide HFR) wr (unhide HK1)
          have htw := (unhide HTR) wr (unhide HK1)
          have HTW := hide htw
          clear htw
          by_cases hlt : (c : Int) < mn
          · obtain ⟨d, hd⟩ : ∃ d : Nat, mn.toNat - c = d + 1 := ⟨mn.toNat - c - 1, by omega⟩
            have hr := unhide HR
            rw [hd] at hr
            simp only [timesF] at hr
            have hF := make_made kid cur J (unhide HMK) hc0 hc1
            have hf0 := hF.start
            have hfl := hF.len
            have hb2 := (times_in (unhide HMK) d hf0.1 hf0.2).2.2
            rw [hr] at hb2
            have HR' := hide hr
            clear hF hr
            go_wp2_with fail
            refine ((unhide HOK) _ _ vI' _ base bp fold bytes _ (unhide HP1) (unhide HTW) hc0 hc1 (by omega)).mono ?_
            rintro e w2 ⟨rfl, vI2, hP2, hK2, hA2⟩
            have hK4 := (unhide HK1).trans hK2 (fun k hk ht => Turnp.of_at (unhide HA1) k hk ht)
            have hA4 := At.trans (unhide HA1) hA2 (unhide HK1).size
            have HP2 := hide hP2; have HK4 := hide hK4; have HA4 := hide hA4
            clear hP2 hK2 hA2 hK4 hA4
            go_wp2_with fail
            go_roundw
            case rel =>
              refine ⟨c + 1, _, _, vI2, by go_num, rfl, by omega, hf0.1, hf0.2, ?_, HP2, HK4, HA4⟩
              rw [show mn.toNat - (c + 1) = d by omega]; exact HR'
            case measure => simp only [intOf]; omega
          · have hz : mn.toNat - c = 0 := by omega
            have hr := unhide HR
            rw [hz] at hr
            simp only [timesF] at hr
            obtain rfl := hr
            clear HR hb1 hz
            go_wp2_with fail
            go_ret
            exact ⟨rfl, vI', unhide HP1, (((Keeps.refl _ _).alloc _).alloc _).trans (unhide HK1) (fun _ _ h => h), At.later (unhide HA1) (by simp <;> omega)⟩
end Go.Proofs.YtanmlgliibgpcaaDoor

/- The walk of make, whole. -/
namespace Go.Proofs.YtanmlgliibgpcaaDoor
open Go.RowKit Thr
set_option linter.unusedVariables false
set_option linter.unusedSimpArgs false

set_option maxHeartbeats 4000000 in
theorem make_rep (code : Int) (neg : Bool) (set : List (Int × Int)) (mn mx : Int) (kid : Rx) (hok : MakeOK kid) (hmk : Makes kid) (hmn : 0 ≤ mn) (hmx : -1 ≤ mx) (hmx1 : mx ≤ 1000) (hmn1 : mn ≤ 1000) : MakeOK (.mk 7 code neg set mn mx [kid]) := by
  intro next I vI w base bp fold bytes cs hP ht h0 h1 hl
  have hrp := fun w1 h1' ht1 => repeat_calls code neg set mn mx kid hok hmk hmn hmx hmx1 hmn1 next I vI w1 base bp fold bytes cs h1' ht1 h0 h1 hl
  obtain ⟨kind', code', neg', As', ls', cs'', mn', mx', A', lk', cc', rfl⟩ := ht.form
  have hk : kind' = 7 := by
    simp only [TreeAt] at ht
    obtain ⟨_, _, _, h, _⟩ := ht
    simp at h; omega
  subst hk
  generalize make (.mk 7 code neg set mn mx [kid]) next I = R at *
  have HP := hide hP; have HT := hide ht; have HRP := hide hrp
  clear hP ht hrp hok hmk
  go_enter Tryd.func14, Tryd.ntmps14
  go_wp2_with fail
  refine ((unhide HRP) _ ((unhide HP).alloc _) ((unhide HT).more fun k _ hk => Below.heap_alloc _ _ _ hk)).mono ?_
  rintro e w1 ⟨rfl, vI1, hP1, hK1, hA1⟩
  go_wp2_with fail
  go_ret
  exact ⟨rfl, vI1, hP1, ((Keeps.refl _ _).alloc _).trans hK1 (fun _ _ h => h), At.later hA1 (by simp)⟩

mutual
theorem make_calls : ∀ t : Rx, Valids t → MakeOK t
  | .mk kind code neg set mn mx kids, h => by
    have hks := makes_calls kids h.2
    have hmk := validsAll_makes kids h.2
    by_cases k7 : kind = 7
    · subst k7
      obtain ⟨⟨k, rfl⟩, r1, r2, r3, r4, r5⟩ := valid_rep h.1
      exact make_rep code neg set mn mx k (hks k (by simp)) hmk.1 r1 r3 (by omega) (by omega)
    by_cases k5 : kind = 5
    · subst k5
      exact make_cat code neg set mn mx kids hks hmk
    by_cases k6 : kind = 6
    · subst k6
      exact make_alt code neg set mn mx kids hks hmk (by have := valid_many h.1 (.inr rfl); omega)
    by_cases k1 : kind = 1
    · subst k1
      exact make_empty code neg set mn mx kids
    by_cases k2 : kind = 2 ∨ kind = 3 ∨ kind = 4
    · exact make_char kind code neg set mn mx kids k2
    exact make_check kind code neg set mn mx kids ⟨k1, by omega, by omega, by omega, k5, k6, k7⟩
theorem makes_calls : ∀ ks : List Rx, ValidsAll ks → ∀ k ∈ ks, MakeOK k
  | [], _, k, hk => by simp at hk
  | k' :: ks, h, k, hk => by
    rcases List.mem_cons.1 hk with e | hk
    · rw [e]; exact make_calls k' h.1
    · exact makes_calls ks h.2 k hk
end
end Go.Proofs.YtanmlgliibgpcaaDoor

/- The walks of Weight, valid, within, Valid. -/
namespace Go.Proofs.YtanmlgliibgpcaaDoor
open Go.RowKit Thr
set_option linter.unusedVariables false
set_option linter.unusedSimpArgs false

mutual
theorem weight_range : ∀ t : Rx, 0 ≤ weightF t ∧ weightF t ≤ 1048576
  | .mk kind code neg set mn mx kids => by
    have h := weights_range kids 0 (by omega) (by omega)
    have hb : bigW = 1048576 := rfl
    simp only [weightF, hb]
    split
    · exact h
    · split
      · have h0 : 0 ≤ weightsF kids 0 * (if mx < 0 then min (max mn 0) 1048576 + 1 else min (max mx 0) 1048576) := by
          refine Int.mul_nonneg (by omega) ?_
          split <;> omega
        omega
      · omega
theorem weights_range : ∀ (ks : List Rx) (n : Int), 0 ≤ n → n ≤ 1048576 → 0 ≤ weightsF ks n ∧ weightsF ks n ≤ 1048576
  | [], n, h0, h1 => by simp only [weightsF]; omega
  | k :: ks, n, h0, h1 => by
    have h := weight_range k
    have hb : bigW = 1048576 := rfl
    simp only [weightsF, hb]
    exact weights_range ks _ (by omega) (by omega)
end
theorem weights_drop {ks : List Rx} {m : Nat} (hm : m < ks.length) (n : Int) : weightsF (ks.drop m) n = weightsF (ks.drop (m + 1)) (min (n + weightF ks[m]) 1048576) := by
  rw [List.drop_eq_getElem_cons hm, weightsF]
  rfl

def WeightOK (ok : Nat → Prop) (t : Rx) : Prop := ∀ (cs : List Value) (w : World), TreeAt ok w t cs → Calls Tryd.prog 25 #[.agg cs.toArray] w fun e w' => e = .returned (.int .i64 (weightF t)) ∧ Below w.heap.size w w'

theorem prod_range {a b : Int} (ha : 0 ≤ a) (ha1 : a ≤ 1048576) (hb : 0 ≤ b) (hb1 : b ≤ 1048577) : 0 ≤ a * b ∧ a * b ≤ 1099512676352 := by
  refine ⟨Int.mul_nonneg ha hb, ?_⟩
  have h1 : a * b ≤ 1048576 * b := Int.mul_le_mul_of_nonneg_right ha1 hb
  omega

set_option maxRecDepth 100000 in
set_option maxHeartbeats 4000000 in
theorem weight_one {ok : Nat → Prop} (kind code : Int) (neg : Bool) (set : List (Int × Int)) (mn mx : Int) (kids : List Rx) (hk : ∀ k ∈ kids, WeightOK ok k) : WeightOK ok (.mk kind code neg set mn mx kids) := by
  intro cs w ht
  have ht0 := ht
  simp only [TreeAt] at ht
  obtain ⟨vs, A, cc, rfl, ⟨As, cs', rfl, -⟩, hc1, hc2, hkids⟩ := ht
  obtain ⟨W, hW⟩ : ∃ W, weightsF kids 0 = W := ⟨_, rfl⟩
  have hWr := weights_range kids 0 (by omega) (by omega)
  rw [hW] at hWr
  have HT := hide ht0; have HK := hide hk; have HKI := hide hkids; have HW := hide hW
  clear ht0 hk hkids hW
  have hfin : weightF (.mk kind code neg set mn mx kids) = if kind = 5 then W else if kind = 7 then min (W * (if mx < 0 then min (max mn 0) 1048576 + 1 else min (max mx 0) 1048576) + 1) 1048576 else min (W + 1) 1048576 := by
    rw [weightF, unhide HW]; rfl
  rw [hfin]
  clear hfin
  obtain ⟨F, hF⟩ : ∃ F, (if kind = 5 then W else if kind = 7 then min (W * (if mx < 0 then min (max mn 0) 1048576 + 1 else min (max mx 0) 1048576) + 1) 1048576 else min (W + 1) 1048576) = F := ⟨_, rfl⟩
  rw [hF]
  have HFIN := hide hF
  clear hF
  go_enter Tryd.func25, Tryd.ntmps25
  go_wp2_with fail
  go_loopw [3, 10] (fun n_ m_ wr => ∃ (m : Nat) (n : Int), m ≤ kids.length ∧ m_ = .int .i64 m ∧ n_ = .int .i64 n ∧ 0 ≤ n ∧ n ≤ 1048576 ∧ Hid (weightsF (kids.drop m) n = W) ∧ Hid (Below w.heap.size w wr) ∧ Hid (wr.cell? ⟨w.heap.size, 0, none⟩ = some (.int .i64 kind) ∧ wr.cell? ⟨w.heap.size, 4, none⟩ = some (.int .i64 mn) ∧ wr.cell? ⟨w.heap.size, 5, none⟩ = some (.int .i64 mx) ∧ w.heap.size < wr.heap.size))
    (fun _ m_ _ => kids.length - (intOf m_).toNat)
  case atStart => exact ⟨0, 0, by omega, rfl, rfl, by omega, by omega, HW, hide (by repeat (first | exact Below.refl _ _ | assumption | refine below_drewN ?_ _ | refine Below.drew ?_ | refine below_alloc' ?_ _)), by go_simp, by go_simp, by go_simp, by simp⟩
  case round =>
    obtain ⟨m, n, hm, rfl, rfl, hn0, hn1, HR, HB, HF⟩ := hrel
    by_cases hlt : m < kids.length
    · obtain ⟨b, o, rfl, hb, csk, htk, hck⟩ := kid_cells (unhide HKI) m hlt
      have hok := (unhide HK) kids[m] (List.getElem_mem hlt)
      have hr := unhide HR
      rw [weights_drop hlt] at hr
      have hwk := weight_range kids[m]
      generalize kids[m] = kid at *
      obtain ⟨kind', code', neg', As', ls', cs'', mn', mx', A', lk', cc', rfl⟩ := htk.form
      have hbl : b < w.heap.size := World.block_lt_of_cell? w _ (hck 0 _ rfl)
      have fr : ∀ j, wr.cell? ⟨b, j, none⟩ = w.cell? ⟨b, j, none⟩ := fun j => (bcell (unhide HB)).1 _ _ hbl
      have e0 := (fr _).trans (hck 0 _ rfl)
      have e1 := (fr _).trans (hck 1 _ rfl)
      have e2 := (fr _).trans (hck 2 _ rfl)
      have e3 := (fr _).trans (hck 3 _ rfl)
      have e4 := (fr _).trans (hck 4 _ rfl)
      have e5 := (fr _).trans (hck 5 _ rfl)
      have e6 := (fr _).trans (hck 6 _ rfl)
      simp at e0
      have hlb : (m : Int) < kids.length := by omega
      have hblr : b < wr.heap.size := World.block_lt_of_cell? wr _ e0
      have hsz : w.heap.size < wr.heap.size := (unhide HF).2.2.2
      have HOK := hide hok; have HR' := hide hr; have HTK := hide htk
      clear hok hr htk hck fr HR
      go_wp2_with fail
      refine ((unhide HOK) _ _ (((unhide HTK).below (unhide HB)).below (by repeat (first | exact Below.refl _ _ | assumption | refine below_drewN ?_ _ | refine Below.drew ?_ | refine below_alloc' ?_ _)))).mono ?_
      rintro e w2 ⟨rfl, hb2⟩
      have HB2 := hide hb2
      clear hb2
      go_wp2_with fail
      go_roundw
      case rel =>
        refine ⟨m + 1, min (n + weightF kid) 1048576, by omega, by go_num, rfl, by omega, by omega, HR', ?_, ?_⟩
        · exact below_then (unhide HB) (below_then (by repeat (first | exact Below.refl _ _ | assumption | refine below_drewN ?_ _ | refine Below.drew ?_ | refine below_alloc' ?_ _)) (unhide HB2))
        · obtain ⟨f0, f4, f5, f6⟩ := unhide HF
          have hb3 := (bcell (below_then (w := wr) (by repeat (first | exact Below.refl _ _ | assumption | refine below_drewN ?_ _ | refine Below.drew ?_ | refine below_alloc' ?_ _)) (unhide HB2))).1
          exact ⟨(hb3 _ 0 f6).trans f0, (hb3 _ 4 f6).trans f4, (hb3 _ 5 f6).trans f5, by have := (unhide HB2).size; simp at this; omega⟩
      case measure => simp only [intOf]; omega
    · obtain rfl : m = kids.length := by omega
      obtain rfl : n = W := by have := unhide HR; rw [List.drop_length] at this; simpa [weightsF] using this
      obtain ⟨f0, f4, f5, f6⟩ := unhide HF
      by_cases k5 : kind = 5
      · subst k5
        have HFI : Hid (n = F) := by have := unhide HFIN; rw [if_pos rfl] at this; exact this
        go_wp2_with fail
        go_ret
        exact ⟨ret_int (unhide HFI), unhide HB⟩
      · have k5' : (kind == 5) = false := by simpa using k5
        by_cases k7 : kind = 7
        · subst k7
          by_cases hx : mx < 0
          · have hx' : decide (mx < 0) = true := by simpa using hx
            have HFI : Hid (min (n * (min (max mn 0) 1048576 + 1) + 1) 1048576 = F) := by have := unhide HFIN; rw [if_neg (by omega), if_pos rfl, if_pos hx] at this; exact this
            have hpr := prod_range (a := n) (b := min (max mn 0) 1048576 + 1) (by omega) (by omega) (by omega) (by omega)
            go_wp2_with fail
            go_ret
            exact ⟨ret_int (unhide HFI), unhide HB⟩
          · have hx' : decide (mx < 0) = false := by simpa using hx
            have HFI : Hid (min (n * min (max mx 0) 1048576 + 1) 1048576 = F) := by have := unhide HFIN; rw [if_neg (by omega), if_pos rfl, if_neg hx] at this; exact this
            have hpr := prod_range (a := n) (b := min (max mx 0) 1048576) (by omega) (by omega) (by omega) (by omega)
            go_wp2_with fail
            go_ret
            exact ⟨ret_int (unhide HFI), unhide HB⟩
        · have k7' : (kind == 7) = false := by simpa using k7
          have HFI : Hid (min (n + 1) 1048576 = F) := by have := unhide HFIN; rw [if_neg k5, if_neg k7] at this; exact this
          go_wp2_with fail
          go_ret
          exact ⟨ret_int (unhide HFI), unhide HB⟩
mutual
theorem Weight_calls {ok : Nat → Prop} : ∀ t : Rx, WeightOK ok t
  | .mk kind code neg set mn mx kids => weight_one kind code neg set mn mx kids (Weights_calls kids)
theorem Weights_calls {ok : Nat → Prop} : ∀ ks : List Rx, ∀ k ∈ ks, WeightOK ok k
  | [], k, hk => by simp at hk
  | k' :: ks, k, hk => by
    rcases List.mem_cons.1 hk with e | hk
    · rw [e]; exact Weight_calls k'
    · exact Weights_calls ks k hk
end
end Go.Proofs.YtanmlgliibgpcaaDoor

/- The walk of valid. -/
namespace Go.Proofs.YtanmlgliibgpcaaDoor
open Go.RowKit Thr
set_option linter.unusedVariables false
set_option linter.unusedSimpArgs false

theorem setOk_false {set : List (Int × Int)} {i : Nat} (hi : i < set.length) (h : badAt set i = true) : setOkF set = false := by
  rw [Bool.eq_false_iff]
  intro hs
  have := List.all_eq_true.1 hs i (List.mem_range.2 hi)
  rw [h] at this
  cases this
theorem setOk_true {set : List (Int × Int)} (h : ∀ i, i < set.length → badAt set i = false) : setOkF set = true :=
  List.all_eq_true.2 fun i hi => by rw [h i (List.mem_range.1 hi)]; rfl

set_option maxRecDepth 100000 in
set_option maxHeartbeats 16000000 in
theorem valid_calls {ok : Nat → Prop} (t : Rx) (cs : List Value) (w : World) (ht : TreeAt ok w t cs) :
    Calls Tryd.prog 39 #[.agg cs.toArray] w fun e w' => e = .returned (.bool (validF t)) ∧ Below w.heap.size w w' := by
  obtain ⟨kind, code, neg, set, mn, mx, kids⟩ := t
  simp only [TreeAt] at ht
  obtain ⟨vs, A, cc, rfl, hset, hc1, hc2, -⟩ := ht
  obtain ⟨F, hF⟩ : ∃ F, validF (.mk kind code neg set mn mx kids) = F := ⟨_, rfl⟩
  rw [hF]
  simp only [validF] at hF
  have HF := hide hF
  clear hF
  by_cases k5 : kind = 5
  · subst k5
    obtain ⟨As, cs', rfl, hl1, hl2, -⟩ := hset
    go_enter Tryd.func39, Tryd.ntmps39
    go_wp2_with fail
    go_ret
    refine ⟨ret_bool ?_, (by repeat (first | exact Below.refl _ _ | assumption | refine below_drewN ?_ _ | refine Below.drew ?_ | refine below_alloc' ?_ _))⟩
    rw [← unhide HF, if_pos (by simp), Bool.eq_iff_iff]; simp; omega
  have k5' : (kind == 5) = false := by simpa using k5
  by_cases k6 : kind = 6
  · subst k6
    obtain ⟨As, cs', rfl, hl1, hl2, -⟩ := hset
    go_enter Tryd.func39, Tryd.ntmps39
    go_wp2_with fail
    go_ret
    refine ⟨ret_bool ?_, (by repeat (first | exact Below.refl _ _ | assumption | refine below_drewN ?_ _ | refine Below.drew ?_ | refine below_alloc' ?_ _))⟩
    rw [← unhide HF, if_pos (by simp), Bool.eq_iff_iff]; simp; omega
  have k6' : (kind == 6) = false := by simpa using k6
  by_cases k7 : kind = 7
  · subst k7
    obtain ⟨As, cs', rfl, hl1, hl2, -⟩ := hset
    have hf := unhide HF
    rw [if_neg (by omega), if_pos rfl] at hf
    have HF2 := hide hf
    clear hf HF k5 k6 k5' k6'
    go_enter Tryd.func39, Tryd.ntmps39
    go_wp2_with fail
    all_goals
      go_ret
      refine ⟨ret_bool ?_, (by repeat (first | exact Below.refl _ _ | assumption | refine below_drewN ?_ _ | refine Below.drew ?_ | refine below_alloc' ?_ _))⟩
      rw [← unhide HF2]
      clear HF2
      rw [Bool.eq_iff_iff]
      simp_all <;> omega
  have k7' : (kind == 7) = false := by simpa using k7
  by_cases k4 : kind = 4
  · subst k4
    have hf := unhide HF
    rw [if_neg (by omega), if_neg (by omega), if_pos rfl] at hf
    have HF2 := hide hf
    have HS := hide hset
    obtain ⟨As, cs', rfl, hl1, hl2, hcs⟩ := hset
    have HCS := fun (k : Nat) (hk : k < set.length) => (show ∃ b o, As = some ⟨b, o, none⟩ ∧ w.cell? ⟨b, o + k * 2, none⟩ = some (.int .i64 set[k].1) ∧ w.cell? ⟨b, o + k * 2 + 1, none⟩ = some (.int .i64 set[k].2) by
      rcases hcs with rfl | ⟨b, o, hA, hb, h⟩
      · simp at hk
      · exact ⟨b, o, hA, h k set[k] (List.getElem?_eq_getElem hk)⟩)
    have HCS := hide HCS
    clear hf HF k5 k6 k5' k6' k7 k7' hcs
    go_enter Tryd.func39, Tryd.ntmps39
    go_wp2_with fail
    go_loopw [57] (fun i wr => ∃ m : Nat, m ≤ set.length ∧ i = .int .i64 m ∧ Hid (∀ i, i < m → badAt set i = false) ∧ Hid (Below w.heap.size w wr) ∧ wr.cell? ⟨w.heap.size, 0, none⟩ = some (.int .i64 4) ∧ wr.cell? ⟨w.heap.size, 3, none⟩ = some (.slice As set.length cs') ∧ wr.cell? ⟨w.heap.size, 6, none⟩ = some (.slice A kids.length cc) ∧ w.heap.size < wr.heap.size)
      (fun i _ => set.length - (intOf i).toNat)
    case atStart => exact ⟨0, by omega, rfl, hide (fun i hi => by omega), hide (by repeat (first | exact Below.refl _ _ | assumption | refine below_drewN ?_ _ | refine Below.drew ?_ | refine below_alloc' ?_ _)), by go_simp, by go_simp, by go_simp, by simp⟩
    case round =>
      obtain ⟨m, hm, rfl, HN, HB, f0, f3, f6, hsz⟩ := hrel
      by_cases hlt : m < set.length
      · obtain ⟨b, o, rfl, e0, e1⟩ := (unhide HCS) m hlt
        have hbl := World.block_lt_of_cell? w _ e0
        have e0' := ((bcell (unhide HB)).1 b _ hbl).trans e0
        have e1' := ((bcell (unhide HB)).1 b _ hbl).trans e1
        have hbw := World.block_lt_of_cell? wr _ e0'
        have hlt' : (m : Int) < set.length := by omega
        have hbad : badAt set m = (decide (set[m].1 < 0) || decide (set[m].1 > set[m].2) || decide (set[m].2 > 1114367) || (decide (0 < m) && nearF set[m].1 set[m - 1]?)) := by
          simp [badAt, List.getElem?_eq_getElem hlt]
        by_cases hm0 : m = 0
        · subst hm0
          simp only [show decide (0 < 0) = false from rfl, Bool.false_and, Bool.or_false] at hbad
          generalize set[0] = x at *
          obtain ⟨x1, x2⟩ := x
          simp only at hbad e0' e1'
          have HBAD := hide hbad
          clear hbad e0 e1
          simp at e0' e1'
          by_cases c0 : x1 < 0
          · have d0 : decide (x1 < 0) = true := by simpa using c0
            clear c0
            go_wp2_with fail
            go_quiet (fail)
            go_wp2_with fail
            go_ret
            refine ⟨ret_bool ?_, below_drewN ((unhide HB).alloc (by omega) _) _⟩
            rw [← unhide HF2, setOk_false hlt (by rw [unhide HBAD]; simp at d0; simp; omega), Bool.false_and]
          have d0 : decide (x1 < 0) = false := by simpa using c0
          clear c0
          by_cases c1 : x2 < x1
          · have d1 : decide (x2 < x1) = true := by simpa using c1
            clear c1
            go_wp2_with fail
            go_quiet (fail)
            go_wp2_with fail
            go_ret
            refine ⟨ret_bool ?_, below_drewN ((unhide HB).alloc (by omega) _) _⟩
            rw [← unhide HF2, setOk_false hlt (by rw [unhide HBAD]; simp at d1; simp; omega), Bool.false_and]
          have d1 : decide (x2 < x1) = false := by simpa using c1
          clear c1
          by_cases c2 : 1114367 < x2
          · have d2 : decide (1114367 < x2) = true := by simpa using c2
            clear c2
            go_wp2_with fail
            go_quiet (fail)
            go_wp2_with fail
            go_ret
            refine ⟨ret_bool ?_, below_drewN ((unhide HB).alloc (by omega) _) _⟩
            rw [← unhide HF2, setOk_false hlt (by rw [unhide HBAD]; simp at d2; simp; omega), Bool.false_and]
          have d2 : decide (1114367 < x2) = false := by simpa using c2
          clear c2
          go_wp2_with fail
          go_quiet (fail)
          go_wp2_with fail
          go_roundw
          case rel =>
            refine ⟨1, by omega, by go_num, hide ?_, hide (below_drewN ((unhide HB).alloc (by omega) _) _), by go_simp, by go_simp, by go_simp, by simp; omega⟩
            intro i hi
            rcases Nat.lt_or_ge i 0 with h | h
            · exact unhide HN i (by omega)
            · obtain rfl : i = 0 := by omega
              rw [unhide HBAD]
              simp_all
          case measure => simp [intOf]; omega
        · obtain ⟨k, rfl⟩ : ∃ k, m = k + 1 := ⟨m - 1, by omega⟩
          obtain ⟨b2, o2, hA, d0, d1⟩ := (unhide HCS) k (by omega)
          obtain ⟨rfl, rfl⟩ : b = b2 ∧ o = o2 := by cases hA; exact ⟨rfl, rfl⟩
          have d1' := ((bcell (unhide HB)).1 b _ hbl).trans d1
          rw [show k + 1 - 1 = k by omega, List.getElem?_eq_getElem (show k < set.length by omega), show decide (0 < k + 1) = true by simp] at hbad
          have hprev := unhide HN k (by omega)
          have hpb : set[k].2 ≤ 1114367 ∧ 0 ≤ set[k].1 ∧ set[k].1 ≤ set[k].2 := by
            simp only [badAt, List.getElem?_eq_getElem (show k < set.length by omega)] at hprev
            simp only [Bool.or_eq_false_iff, decide_eq_false_iff_not] at hprev
            omega
          generalize set[k + 1] = x at *
          generalize set[k] = y at *
          obtain ⟨x1, x2⟩ := x
          obtain ⟨y1, y2⟩ := y
          simp only [Bool.true_and, nearF] at hbad e0' e1' d1' hpb
          have HBAD := hide hbad
          clear hbad e0 e1 d0 d1 hprev
          by_cases c0 : x1 < 0
          · have d0 : decide (x1 < 0) = true := by simpa using c0
            clear c0
            go_wp2_with fail
            go_quiet (fail)
            go_wp2_with fail
            go_ret
            refine ⟨ret_bool ?_, below_drewN ((unhide HB).alloc (by omega) _) _⟩
            rw [← unhide HF2, setOk_false hlt (by rw [unhide HBAD]; simp at d0; simp; omega), Bool.false_and]
          have d0 : decide (x1 < 0) = false := by simpa using c0
          clear c0
          by_cases c1 : x2 < x1
          · have d1 : decide (x2 < x1) = true := by simpa using c1
            clear c1
            go_wp2_with fail
            go_quiet (fail)
            go_wp2_with fail
            go_ret
            refine ⟨ret_bool ?_, below_drewN ((unhide HB).alloc (by omega) _) _⟩
            rw [← unhide HF2, setOk_false hlt (by rw [unhide HBAD]; simp at d1; simp; omega), Bool.false_and]
          have d1 : decide (x2 < x1) = false := by simpa using c1
          clear c1
          by_cases c2 : 1114367 < x2
          · have d2 : decide (1114367 < x2) = true := by simpa using c2
            clear c2
            go_wp2_with fail
            go_quiet (fail)
            go_wp2_with fail
            go_ret
            refine ⟨ret_bool ?_, below_drewN ((unhide HB).alloc (by omega) _) _⟩
            rw [← unhide HF2, setOk_false hlt (by rw [unhide HBAD]; simp at d2; simp; omega), Bool.false_and]
          have d2 : decide (1114367 < x2) = false := by simpa using c2
          clear c2
          by_cases c3 : x1 ≤ y2 + 1
          · have d3 : decide (x1 ≤ y2 + 1) = true := by simpa using c3
            clear c3
            go_wp2_with fail
            go_quiet (fail)
            go_wp2_with fail
            go_ret
            refine ⟨ret_bool ?_, below_drewN ((unhide HB).alloc (by omega) _) _⟩
            rw [← unhide HF2, setOk_false hlt (by rw [unhide HBAD]; simp at d3; simp; omega), Bool.false_and]
          have d3 : decide (x1 ≤ y2 + 1) = false := by simpa using c3
          clear c3
          go_wp2_with fail
          go_quiet (fail)
          go_wp2_with fail
          go_roundw
          case rel =>
            refine ⟨(k + 2), by omega, by go_num, hide ?_, hide (below_drewN ((unhide HB).alloc (by omega) _) _), by go_simp, by go_simp, by go_simp, by simp; omega⟩
            intro i hi
            rcases Nat.lt_or_ge i (k + 1) with h | h
            · exact unhide HN i (by omega)
            · obtain rfl : i = (k + 1) := by omega
              rw [unhide HBAD]
              simp_all
          case measure => simp [intOf]; omega
      · obtain rfl : m = set.length := by omega
        go_wp2_with fail
        all_goals
          go_ret
          refine ⟨ret_bool ?_, unhide HB⟩
          rw [← unhide HF2, setOk_true (unhide HN)]
          rw [Bool.eq_iff_iff]
          simp_all
  · have k4' : (kind == 4) = false := by simpa using k4
    obtain ⟨As, cs', rfl, hl1, hl2, -⟩ := hset
    have hf := unhide HF
    rw [if_neg (by omega), if_neg (by omega), if_neg k4] at hf
    have HF2 := hide hf
    clear hf HF k5 k6 k7 k4
    go_enter Tryd.func39, Tryd.ntmps39
    go_wp2_with fail
    all_goals
      go_ret
      refine ⟨ret_bool ?_, (by repeat (first | exact Below.refl _ _ | assumption | refine below_drewN ?_ _ | refine Below.drew ?_ | refine below_alloc' ?_ _))⟩
      rw [← unhide HF2]
      clear HF2
      rw [Bool.eq_iff_iff]
      simp_all <;> omega
end Go.Proofs.YtanmlgliibgpcaaDoor

/- The walks of within and Valid. -/
namespace Go.Proofs.YtanmlgliibgpcaaDoor
open Go.RowKit Thr
set_option linter.unusedVariables false
set_option linter.unusedSimpArgs false

/-- The number of the first that may not be so deep. -/
def badFrom (d : Nat) : List Rx → Int → Int
  | [], _ => -1
  | k :: ks, i => if withinF k d = true then badFrom d ks (i + 1) else i
theorem badFrom_iff (d : Nat) : ∀ (ks : List Rx) (i : Int), 0 ≤ i → (0 ≤ badFrom d ks i ↔ withinAll ks d = false)
  | [], i, h => by simp [badFrom, withinAll]
  | k :: ks, i, h => by
    have ih := badFrom_iff d ks (i + 1) (by omega)
    simp only [badFrom, withinAll]
    by_cases hk : withinF k d = true
    · rw [if_pos hk, hk, ih]; simp
    · rw [if_neg hk]
      simp only [Bool.not_eq_true] at hk
      rw [hk]; simp [h]
theorem badFrom_sign (d : Nat) (ks : List Rx) (i : Int) (h : 0 ≤ i) : decide (0 ≤ badFrom d ks i) = !withinAll ks d := by
  have := badFrom_iff d ks i h
  rw [Bool.eq_iff_iff, decide_eq_true_eq, this]; simp

def WithinOK (ok : Nat → Prop) (t : Rx) : Prop := ∀ (d : Nat) (cs : List Value) (w : World), d ≤ 100000 → TreeAt ok w t cs → Calls Tryd.prog 24 #[.agg cs.toArray, .int .i64 d] w fun e w' => e = .returned (.bool (withinF t d)) ∧ Below w.heap.size w w'

set_option maxHeartbeats 4000000 in
theorem within1_calls {ok : Nat → Prop} {t : Rx} (h : WithinOK ok t) (d : Nat) (hd : d ≤ 99999) (bd : Nat) (cs : List Value) (w : World) (ht : TreeAt ok w t cs) (hb : w.cell? ⟨bd, 0, none⟩ = some (.int .i64 ((d : Int) + 1))) :
    Calls Tryd.prog 41 #[.agg cs.toArray, .pointer (some ⟨bd, 0, none⟩)] w fun e w' => e = .returned (.bool (!withinF t d)) ∧ Below w.heap.size w w' := by
  obtain ⟨kind', code', neg', As', ls', cs'', mn', mx', A', lk', cc', rfl⟩ := ht.form
  have hbl := World.block_lt_of_cell? w _ hb
  have H := hide (h d _ (w.alloc _) (by omega) (ht.below (Below.refl _ _ |>.alloc (Nat.le_refl _) (.cells #[.int .i64 kind', .int .i64 code', .bool neg', .slice As' ls' cs'', .int .i64 mn', .int .i64 mx', .slice A' lk' cc'] 26))))
  clear h ht
  go_enter Tryd.func41, Tryd.ntmps41
  go_wp2_with fail
  refine (unhide H).mono ?_
  rintro e w1 ⟨rfl, hb1⟩
  go_wp2_with fail
  go_ret
  exact ⟨rfl, below_then (by repeat (first | exact Below.refl _ _ | assumption | refine below_drewN ?_ _ | refine Below.drew ?_ | refine below_alloc' ?_ _)) hb1⟩

set_option maxHeartbeats 4000000 in
theorem IndexFunc_calls {ok : Nat → Prop} (kids : List Rx) (hk : ∀ k ∈ kids, WithinOK ok k) (d : Nat) (hd : d ≤ 99999) (bd : Nat) (A : Option Addr) (cc : Nat) (w : World) (hc1 : kids.length ≤ cc) (hc2 : cc ≤ 9223372036854775807)
    (hkids : kids = [] ∨ ∃ b o, A = some ⟨b, o, none⟩ ∧ ok b ∧ KidsAt ok w kids b o) (hb : w.cell? ⟨bd, 0, none⟩ = some (.int .i64 ((d : Int) + 1))) :
    Calls Tryd.prog 54 #[.slice A kids.length cc, .func (.func 41) #[] #[.pointer (some ⟨bd, 0, none⟩)]] w fun e w' => e = .returned (.int .i64 (badFrom d kids 0)) ∧ Below w.heap.size w w' := by
  obtain ⟨F, hF⟩ : ∃ F, badFrom d kids 0 = F := ⟨_, rfl⟩
  rw [hF]
  have HK := hide hk; have HKI := hide hkids; have HF := hide hF
  have hbl := World.block_lt_of_cell? w _ hb
  clear hk hkids hF
  go_enter Tryd.func54, Tryd.ntmps54
  go_wp2_with fail
  go_loopw [8] (fun m_ wr => ∃ (m : Nat), m ≤ kids.length ∧ m_ = .int .i64 m ∧ Hid (badFrom d (kids.drop m) m = F) ∧ Hid (Below w.heap.size w wr))
    (fun m_ _ => kids.length - (intOf m_).toNat)
  case atStart => exact ⟨0, by omega, rfl, HF, Below.refl _ _⟩
  case round =>
    obtain ⟨m, hm, rfl, HR, HB⟩ := hrel
    by_cases hlt : m < kids.length
    · obtain ⟨b, o, rfl, hob, csk, htk, hck⟩ := kid_cells (unhide HKI) m hlt
      have hok := (unhide HK) kids[m] (List.getElem_mem hlt)
      have hr := unhide HR
      rw [List.drop_eq_getElem_cons hlt] at hr
      simp only [badFrom] at hr
      generalize kids[m] = kid at *
      obtain ⟨kind', code', neg', As', ls', cs'', mn', mx', A', lk', cc', rfl⟩ := htk.form
      have hbl2 : b < w.heap.size := World.block_lt_of_cell? w _ (hck 0 _ rfl)
      have fr : ∀ j, wr.cell? ⟨b, j, none⟩ = w.cell? ⟨b, j, none⟩ := fun j => (bcell (unhide HB)).1 _ _ hbl2
      have e0 := (fr _).trans (hck 0 _ rfl)
      have e1 := (fr _).trans (hck 1 _ rfl)
      have e2 := (fr _).trans (hck 2 _ rfl)
      have e3 := (fr _).trans (hck 3 _ rfl)
      have e4 := (fr _).trans (hck 4 _ rfl)
      have e5 := (fr _).trans (hck 5 _ rfl)
      have e6 := (fr _).trans (hck 6 _ rfl)
      simp at e0
      have hlb : (m : Int) < kids.length := by omega
      have hcall := within1_calls hok d hd bd _ wr (htk.below (unhide HB)) (((bcell (unhide HB)).1 bd 0 hbl).trans hb)
      have HTK := hide htk; have HOK := hide hok
      clear htk hck fr HR hok
      cases hq : withinF kid d with
      | true =>
        rw [hq, if_pos rfl] at hr
        rw [hq] at hcall
        have HCALL := hide hcall; have HR := hide hr
        clear hcall hr hq
        go_wp2_with fail
        refine (unhide HCALL).mono ?_
        rintro e w2 ⟨rfl, hb2⟩
        go_wp2_with fail
        go_roundw
        case rel => exact ⟨m + 1, by omega, by go_num, HR, below_then (unhide HB) hb2⟩
        case measure => simp only [intOf]; omega
      | false =>
        rw [hq, if_neg (by simp)] at hr
        rw [hq] at hcall
        have HCALL := hide hcall; have HR := hide hr
        clear hcall hr hq
        go_wp2_with fail
        refine (unhide HCALL).mono ?_
        rintro e w2 ⟨rfl, hb2⟩
        go_wp2_with fail
        go_ret
        exact ⟨ret_int (unhide HR), below_then (unhide HB) hb2⟩
    · obtain rfl : m = kids.length := by omega
      have hr := unhide HR
      rw [List.drop_length] at hr
      simp only [badFrom] at hr
      have HR := hide hr
      clear hr
      go_wp2_with fail
      go_ret
      exact ⟨ret_int (unhide HR), unhide HB⟩

set_option maxHeartbeats 4000000 in
theorem ContainsFunc_calls {ok : Nat → Prop} (kids : List Rx) (hk : ∀ k ∈ kids, WithinOK ok k) (d : Nat) (hd : d ≤ 99999) (bd : Nat) (A : Option Addr) (cc : Nat) (w : World) (hc1 : kids.length ≤ cc) (hc2 : cc ≤ 9223372036854775807)
    (hkids : kids = [] ∨ ∃ b o, A = some ⟨b, o, none⟩ ∧ ok b ∧ KidsAt ok w kids b o) (hb : w.cell? ⟨bd, 0, none⟩ = some (.int .i64 ((d : Int) + 1))) :
    Calls Tryd.prog 40 #[.slice A kids.length cc, .func (.func 41) #[] #[.pointer (some ⟨bd, 0, none⟩)]] w fun e w' => e = .returned (.bool (!withinAll kids d)) ∧ Below w.heap.size w w' := by
  have hs := badFrom_sign d kids 0 (by omega)
  have H := hide (IndexFunc_calls kids hk d hd bd A cc w hc1 hc2 hkids hb)
  have HS := hide hs
  clear hs hk hkids
  go_enter Tryd.func40, Tryd.ntmps40
  go_wp2_with fail
  refine (unhide H).mono ?_
  rintro e w1 ⟨rfl, hb1⟩
  go_wp2_with fail
  go_ret
  exact ⟨ret_bool (unhide HS), hb1⟩

theorem kids_below {ok : Nat → Prop} {W W' : World} {kids : List Rx} {b o : Nat} (h : KidsAt ok W kids b o) (hb : ok b) (k : Below W.heap.size W W') : KidsAt ok W' kids b o := KidsAt.step (fun j _ hlt => k.block j hlt) kids b o hb h
set_option maxHeartbeats 4000000 in
theorem within_one {ok : Nat → Prop} (kind code : Int) (neg : Bool) (set : List (Int × Int)) (mn mx : Int) (kids : List Rx) (hk : ∀ k ∈ kids, WithinOK ok k) : WithinOK ok (.mk kind code neg set mn mx kids) := by
  intro d cs w hd ht
  have hv := fun w1 hb => valid_calls (ok := ok) (.mk kind code neg set mn mx kids) cs w1 (ht.below hb)
  have ht0 := ht
  simp only [TreeAt] at ht
  obtain ⟨vs, A, cc, rfl, ⟨As, cs', rfl, -⟩, hc1, hc2, hkids⟩ := ht
  cases d with
  | zero =>
    simp only [withinF]
    clear hv ht0 hk hkids
    go_enter Tryd.func24, Tryd.ntmps24
    go_wp2_with fail
    go_ret
    exact ⟨rfl, (by repeat (first | exact Below.refl _ _ | assumption | refine below_drewN ?_ _ | refine Below.drew ?_ | refine below_alloc' ?_ _))⟩
  | succ d =>
    simp only [withinF]
    have HV := hide hv; have HK := hide hk; have HKI := hide hkids
    clear hv ht0 hk hkids
    cases hF : validF (.mk kind code neg set mn mx kids) with
    | false =>
      rw [hF] at HV
      clear hF
      go_enter Tryd.func24, Tryd.ntmps24
      go_wp2_with fail
      refine ((unhide HV) _ (by repeat (first | exact Below.refl _ _ | assumption | refine below_drewN ?_ _ | refine Below.drew ?_ | refine below_alloc' ?_ _))).mono ?_
      rintro e w1 ⟨rfl, hb1⟩
      go_wp2_with fail
      go_ret
      exact ⟨rfl, below_then (by repeat (first | exact Below.refl _ _ | assumption | refine below_drewN ?_ _ | refine Below.drew ?_ | refine below_alloc' ?_ _)) hb1⟩
    | true =>
      rw [hF] at HV
      clear hF
      go_enter Tryd.func24, Tryd.ntmps24
      go_wp2_with fail
      refine ((unhide HV) _ (by repeat (first | exact Below.refl _ _ | assumption | refine below_drewN ?_ _ | refine Below.drew ?_ | refine below_alloc' ?_ _))).mono ?_
      rintro e w1 ⟨rfl, hb1⟩
      have s6 : w1.cell? ⟨w.heap.size, 6, none⟩ = some (.slice A kids.length cc) := ((bcell hb1).1 _ _ (by simp; omega)).trans (by go_simp)
      have sd : w1.cell? ⟨w.heap.size + 1, 0, none⟩ = some (.int .i64 ((d : Int) + 1)) := ((bcell hb1).1 _ _ (by simp)).trans (by go_simp)
      have HB1 := hide (below_then (w := w) (by repeat (first | exact Below.refl _ _ | assumption | refine below_drewN ?_ _ | refine Below.drew ?_ | refine below_alloc' ?_ _)) hb1)
      have hcon := ContainsFunc_calls (ok := ok) kids (unhide HK) d (by omega) (w.heap.size + 1) A cc w1 hc1 hc2 ((unhide HKI).imp id (fun ⟨b, o, h1, h2, h3⟩ => ⟨b, o, h1, h2, kids_below h3 h2 (unhide HB1)⟩)) sd
      have HCON := hide hcon
      clear hb1 hcon
      go_wp2_with fail
      refine (unhide HCON).mono ?_
      rintro e w2 ⟨rfl, hb2⟩
      go_wp2_with fail
      go_ret
      exact ⟨ret_bool (by simp), below_then (unhide HB1) hb2⟩
mutual
theorem within_calls {ok : Nat → Prop} : ∀ t : Rx, WithinOK ok t
  | .mk kind code neg set mn mx kids => within_one kind code neg set mn mx kids (withins_calls kids)
theorem withins_calls {ok : Nat → Prop} : ∀ ks : List Rx, ∀ k ∈ ks, WithinOK ok k
  | [], k, hk => by simp at hk
  | k' :: ks, k, hk => by
    rcases List.mem_cons.1 hk with e | hk
    · rw [e]; exact within_calls k'
    · exact withins_calls ks k hk
end

def validTop (t : Rx) : Bool := withinF t 1024 && decide (weightF t ≤ 200)
set_option maxHeartbeats 4000000 in
theorem Valid_calls {ok : Nat → Prop} (t : Rx) (cs : List Value) (w : World) (ht : TreeAt ok w t cs) :
    Calls Tryd.prog 13 #[.agg cs.toArray] w fun e w' => e = .returned (.bool (validTop t)) ∧ Below w.heap.size w w' := by
  obtain ⟨kind', code', neg', As', ls', cs'', mn', mx', A', lk', cc', rfl⟩ := ht.form
  have HV := hide (fun w1 hb => within_calls t 1024 _ w1 (by omega) (ht.below hb))
  have HW := hide (fun w1 hb => Weight_calls t _ w1 (ht.below hb))
  clear ht
  unfold validTop
  obtain ⟨W, hW⟩ : ∃ W, weightF t = W := ⟨_, rfl⟩
  rw [hW] at HW ⊢
  clear hW
  cases hF : withinF t 1024 with
  | false =>
    rw [hF] at HV
    clear hF
    go_enter Tryd.func13, Tryd.ntmps13
    go_wp2_with fail
    refine ((unhide HV) _ (by repeat (first | exact Below.refl _ _ | assumption | refine below_drewN ?_ _ | refine Below.drew ?_ | refine below_alloc' ?_ _))).mono ?_
    rintro e w1 ⟨rfl, hb1⟩
    go_wp2_with fail
    go_ret
    exact ⟨rfl, below_then (by repeat (first | exact Below.refl _ _ | assumption | refine below_drewN ?_ _ | refine Below.drew ?_ | refine below_alloc' ?_ _)) hb1⟩
  | true =>
    rw [hF] at HV
    clear hF
    go_enter Tryd.func13, Tryd.ntmps13
    go_wp2_with fail
    refine ((unhide HV) _ (by repeat (first | exact Below.refl _ _ | assumption | refine below_drewN ?_ _ | refine Below.drew ?_ | refine below_alloc' ?_ _))).mono ?_
    rintro e w1 ⟨rfl, hb1⟩
    have k0 := (bcell hb1).1 w.heap.size
    have s0 := (k0 0 (by simp)).trans (show _ = some (.int .i64 kind') by go_simp)
    have s1 := (k0 1 (by simp)).trans (show _ = some (.int .i64 code') by go_simp)
    have s2 := (k0 2 (by simp)).trans (show _ = some (.bool neg') by go_simp)
    have s3 := (k0 3 (by simp)).trans (show _ = some (.slice As' ls' cs'') by go_simp)
    have s4 := (k0 4 (by simp)).trans (show _ = some (.int .i64 mn') by go_simp)
    have s5 := (k0 5 (by simp)).trans (show _ = some (.int .i64 mx') by go_simp)
    have s6 := (k0 6 (by simp)).trans (show _ = some (.slice A' lk' cc') by go_simp)
    have HB1 := hide (below_then (w := w) (by repeat (first | exact Below.refl _ _ | assumption | refine below_drewN ?_ _ | refine Below.drew ?_ | refine below_alloc' ?_ _)) hb1)
    have hsz := hb1.size
    simp at hsz
    clear hb1 k0
    go_wp2_with fail
    refine ((unhide HW) _ (unhide HB1)).mono ?_
    rintro e w2 ⟨rfl, hb2⟩
    go_wp2_with fail
    go_ret
    exact ⟨ret_bool (by simp), below_then (unhide HB1) hb2⟩
end Go.Proofs.YtanmlgliibgpcaaDoor

/- Plain Lean: sets of codes as rising ranges that stand apart: two ways to come to the same list. -/
namespace Thr
abbrev Rng := Int × Int

def mem (l : List Rng) (c : Int) : Prop := ∃ r ∈ l, r.1 ≤ c ∧ c ≤ r.2

/-- Rising, and apart; from lo on. -/
def NS : Int → List Rng → Prop
  | _, [] => True
  | lo, r :: l => lo ≤ r.1 ∧ r.1 ≤ r.2 ∧ NS (r.2 + 2) l

theorem NS.lower {a b : Int} (h : a ≤ b) : ∀ {l : List Rng}, NS b l → NS a l
  | [], _ => trivial
  | _ :: _, hn => ⟨Int.le_trans h hn.1, hn.2⟩

theorem NS.mem_lo {a c : Int} : ∀ {l : List Rng}, NS a l → mem l c → a ≤ c
  | [], _, h => by obtain ⟨r, hr, _⟩ := h; cases hr
  | r :: l, hn, h => by
    obtain ⟨x, hx, h1, h2⟩ := h
    rcases List.mem_cons.1 hx with rfl | hx
    · exact Int.le_trans hn.1 h1
    · have := NS.mem_lo hn.2.2 ⟨x, hx, h1, h2⟩
      have := hn.1; have := hn.2.1; omega

theorem NS.each {a : Int} : ∀ {l : List Rng}, NS a l → ∀ y ∈ l, a ≤ y.1 ∧ y.1 ≤ y.2
  | [], _, y, h => by cases h
  | r :: l, hn, y, h => by
    rcases List.mem_cons.1 h with rfl | h
    · exact ⟨hn.1, hn.2.1⟩
    · have := NS.each hn.2.2 y h
      have := hn.1; have := hn.2.1; omega

theorem mem_cons {r : Rng} {l : List Rng} {c : Int} : mem (r :: l) c ↔ (r.1 ≤ c ∧ c ≤ r.2) ∨ mem l c := by
  unfold mem
  constructor
  · rintro ⟨x, hx, h⟩
    rcases List.mem_cons.1 hx with rfl | hx
    · exact .inl h
    · exact .inr ⟨x, hx, h⟩
  · rintro (h | ⟨x, hx, h⟩)
    · exact ⟨r, by simp, h⟩
    · exact ⟨x, by simp [hx], h⟩

/-- One list alone tells a set. -/
theorem NS.unique : ∀ {a b : List Rng} {x y : Int}, NS x a → NS y b → (∀ c, mem a c ↔ mem b c) → a = b
  | [], [], _, _, _, _, _ => rfl
  | [], r :: l, x, y, ha, hb, h => by
    obtain ⟨z, hz, _⟩ := (h r.1).2 ⟨r, by simp, Int.le_refl _, hb.2.1⟩
    cases hz
  | r :: l, [], x, y, ha, hb, h => by
    obtain ⟨z, hz, _⟩ := (h r.1).1 ⟨r, by simp, Int.le_refl _, ha.2.1⟩
    cases hz
  | r :: l, s :: k, x, y, ha, hb, h => by
    obtain ⟨_, ha1, ha2⟩ := ha
    obtain ⟨_, hb1, hb2⟩ := hb
    have e1 : r.1 = s.1 := by
      have h1 : s.1 ≤ r.1 := by
        rcases mem_cons.1 ((h r.1).1 ⟨r, by simp, Int.le_refl _, ha1⟩) with h1 | h1
        · exact h1.1
        · have := hb2.mem_lo h1; omega
      have h2 : r.1 ≤ s.1 := by
        rcases mem_cons.1 ((h s.1).2 ⟨s, by simp, Int.le_refl _, hb1⟩) with h1 | h1
        · exact h1.1
        · have := ha2.mem_lo h1; omega
      omega
    have e2 : r.2 = s.2 := by
      have h1 : r.2 ≤ s.2 := by
        by_cases hc : r.2 ≤ s.2
        · exact hc
        · rcases mem_cons.1 ((h (s.2 + 1)).1 ⟨r, by simp, by omega, by omega⟩) with h1 | h1
          · omega
          · have := hb2.mem_lo h1; omega
      have h2 : s.2 ≤ r.2 := by
        by_cases hc : s.2 ≤ r.2
        · exact hc
        · rcases mem_cons.1 ((h (r.2 + 1)).2 ⟨s, by simp, by omega, by omega⟩) with h1 | h1
          · omega
          · have := ha2.mem_lo h1; omega
      omega
    obtain ⟨r1, r2⟩ := r
    obtain ⟨s1, s2⟩ := s
    simp only at e1 e2
    subst e1; subst e2
    refine congrArg _ (NS.unique ha2 hb2 fun c => ?_)
    constructor
    · intro hc
      have := ha2.mem_lo hc
      rcases mem_cons.1 ((h c).1 (mem_cons.2 (.inr hc))) with h1 | h1
      · simp only at h1 this; omega
      · exact h1
    · intro hc
      have := hb2.mem_lo hc
      rcases mem_cons.1 ((h c).2 (mem_cons.2 (.inr hc))) with h1 | h1
      · simp only at h1 this; omega
      · exact h1

/-- A range taken in, with all that it meets or touches. -/
def absorb : List Rng → Rng → List Rng
  | [], r => [r]
  | x :: l, r => if x.1 ≤ r.2 + 1 then absorb l (min r.1 x.1, max r.2 x.2) else r :: x :: l
def withR : List Rng → Rng → List Rng
  | [], r => [r]
  | x :: l, r => if x.2 + 1 < r.1 then x :: withR l r else absorb (x :: l) r

theorem absorb_ns : ∀ (l : List Rng) (r : Rng) (a : Int), NS a l → r.1 ≤ r.2 → (∀ x ∈ l, r.1 ≤ x.2 + 1) → NS (min a r.1) (absorb l r) ∧ ∀ c, mem (absorb l r) c ↔ (r.1 ≤ c ∧ c ≤ r.2) ∨ mem l c
  | [], r, a, hn, hr, _ => by
    refine ⟨⟨by omega, hr, trivial⟩, fun c => ?_⟩
    simp only [absorb]; rw [mem_cons]
  | x :: l, r, a, hn, hr, hm => by
    obtain ⟨h1, h2, h3⟩ := hn
    simp only [absorb]
    by_cases hx : x.1 ≤ r.2 + 1
    · rw [if_pos hx]
      have hx0 : r.1 ≤ x.2 + 1 := hm x (by simp)
      obtain ⟨i1, i2⟩ := absorb_ns l (min r.1 x.1, max r.2 x.2) (x.2 + 2) h3 (by simp only; omega) (fun y hy => by have := hm y (by simp [hy]); simp only; omega)
      refine ⟨i1.lower (by simp only; omega), fun c => ?_⟩
      rw [i2 c, mem_cons]
      simp only
      constructor
      · rintro (h | h)
        · by_cases hc : c ≤ r.2
          · by_cases hc' : r.1 ≤ c
            · exact .inl ⟨hc', hc⟩
            · exact .inr (.inl ⟨by omega, by omega⟩)
          · exact .inr (.inl ⟨by omega, by omega⟩)
        · exact .inr (.inr h)
      · rintro (h | h | h)
        · exact .inl ⟨by omega, by omega⟩
        · exact .inl ⟨by omega, by omega⟩
        · exact .inr h
    · rw [if_neg hx]
      refine ⟨⟨by omega, hr, by omega, h2, h3⟩, fun c => ?_⟩
      rw [mem_cons]

theorem with_ns : ∀ (l : List Rng) (r : Rng) (a : Int), NS a l → r.1 ≤ r.2 → NS (min a r.1) (withR l r) ∧ ∀ c, mem (withR l r) c ↔ (r.1 ≤ c ∧ c ≤ r.2) ∨ mem l c
  | [], r, a, hn, hr => by
    refine ⟨⟨by omega, hr, trivial⟩, fun c => ?_⟩
    simp only [withR]; rw [mem_cons]
  | x :: l, r, a, hn, hr => by
    simp only [withR]
    by_cases hx : x.2 + 1 < r.1
    · rw [if_pos hx]
      obtain ⟨h1, h2, h3⟩ := hn
      obtain ⟨i1, i2⟩ := with_ns l r (x.2 + 2) h3 hr
      refine ⟨⟨by omega, h2, i1.lower (by omega)⟩, fun c => ?_⟩
      rw [mem_cons, i2 c, mem_cons]
      constructor
      · rintro (h | h | h)
        · exact .inr (.inl h)
        · exact .inl h
        · exact .inr (.inr h)
      · rintro (h | h | h)
        · exact .inr (.inl h)
        · exact .inl h
        · exact .inr (.inr h)
    · rw [if_neg hx]
      refine absorb_ns (x :: l) r a hn hr fun y hy => ?_
      rcases List.mem_cons.1 hy with rfl | hy
      · omega
      · obtain ⟨h1, h2⟩ := hn.2.2.each y hy
        omega

/-- What is at hand, and the rest of a list that rises by where its ranges begin. -/
def mergeGo : Rng → List Rng → List Rng
  | cur, [] => [cur]
  | cur, r :: l => if r.1 ≤ cur.2 + 1 then mergeGo (cur.1, max cur.2 r.2) l else cur :: mergeGo r l
def mergeAll : List Rng → List Rng
  | [] => []
  | r :: l => mergeGo r l

/-- Rising by where they begin. -/
def Rising : Int → List Rng → Prop
  | _, [] => True
  | lo, r :: l => lo ≤ r.1 ∧ r.1 ≤ r.2 ∧ Rising r.1 l

theorem mergeGo_ns : ∀ (l : List Rng) (cur : Rng), cur.1 ≤ cur.2 → Rising cur.1 l → NS cur.1 (mergeGo cur l) ∧ ∀ c, mem (mergeGo cur l) c ↔ (cur.1 ≤ c ∧ c ≤ cur.2) ∨ mem l c
  | [], cur, h, _ => by
    refine ⟨⟨Int.le_refl _, h, trivial⟩, fun c => ?_⟩
    simp only [mergeGo]; rw [mem_cons]
  | r :: l, cur, h, hr => by
    obtain ⟨h1, h2, h3⟩ := hr
    simp only [mergeGo]
    by_cases hx : r.1 ≤ cur.2 + 1
    · rw [if_pos hx]
      have hl : ∀ {a b : Int} {l : List Rng}, a ≤ b → Rising b l → Rising a l := by
        intro a b l hab hh
        cases l with
        | nil => trivial
        | cons x l => exact ⟨Int.le_trans hab hh.1, hh.2⟩
      obtain ⟨i1, i2⟩ := mergeGo_ns l (cur.1, max cur.2 r.2) (by simp only; omega) (hl h1 h3)
      refine ⟨i1, fun c => ?_⟩
      rw [i2 c, mem_cons]
      simp only
      constructor
      · rintro (h | h)
        · by_cases hc : c ≤ cur.2
          · exact .inl ⟨h.1, hc⟩
          · exact .inr (.inl ⟨by omega, by omega⟩)
        · exact .inr (.inr h)
      · rintro (h | h | h)
        · exact .inl ⟨by omega, by omega⟩
        · exact .inl ⟨by omega, by omega⟩
        · exact .inr h
    · rw [if_neg hx]
      obtain ⟨i1, i2⟩ := mergeGo_ns l r h2 h3
      refine ⟨⟨Int.le_refl _, h, i1.lower (by omega)⟩, fun c => ?_⟩
      rw [mem_cons, i2 c, mem_cons]

theorem mergeAll_ns : ∀ (l : List Rng) (a : Int), Rising a l → NS a (mergeAll l) ∧ ∀ c, mem (mergeAll l) c ↔ mem l c
  | [], a, _ => ⟨trivial, fun c => Iff.rfl⟩
  | r :: l, a, h => by
    obtain ⟨h1, h2, h3⟩ := h
    obtain ⟨i1, i2⟩ := mergeGo_ns l r h2 h3
    exact ⟨i1.lower h1, fun c => by simp only [mergeAll]; rw [i2 c, mem_cons]⟩

theorem foldl_with_ns : ∀ (l acc : List Rng) (a : Int), NS a acc → (∀ r ∈ l, r.1 ≤ r.2) → (∃ b, NS b (l.foldl withR acc)) ∧ ∀ c, mem (l.foldl withR acc) c ↔ mem acc c ∨ mem l c
  | [], acc, a, hn, _ => ⟨⟨a, hn⟩, fun c => by simp [mem]⟩
  | r :: l, acc, a, hn, h => by
    obtain ⟨i1, i2⟩ := with_ns acc r a hn (h r (by simp))
    obtain ⟨j1, j2⟩ := foldl_with_ns l _ _ i1 (fun x hx => h x (by simp [hx]))
    refine ⟨j1, fun c => ?_⟩
    simp only [List.foldl_cons]
    rw [j2 c, i2 c, mem_cons]
    constructor
    · rintro ((h | h) | h)
      · exact .inr (.inl h)
      · exact .inl h
      · exact .inr (.inr h)
    · rintro (h | h | h)
      · exact .inl (.inr h)
      · exact .inl (.inl h)
      · exact .inr h

theorem rising_of_pairwise : ∀ (l : List Rng) (a : Int), (∀ r ∈ l, a ≤ r.1 ∧ r.1 ≤ r.2) → l.Pairwise (fun x y => x.1 ≤ y.1) → Rising a l
  | [], _, _, _ => trivial
  | r :: l, a, h, hp => by
    obtain ⟨h1, h2⟩ := List.pairwise_cons.1 hp
    exact ⟨(h r (by simp)).1, (h r (by simp)).2, rising_of_pairwise l r.1 (fun x hx => ⟨h1 x hx, (h x (by simp [hx])).2⟩) h2⟩

/-- The ranges sorted and made one are those taken in one by one. -/
theorem sets_same {l l' : List Rng} (hp : l'.Perm l) (hs : l'.Pairwise (fun x y => x.1 ≤ y.1)) (h : ∀ r ∈ l, r.1 ≤ r.2) : mergeAll l' = l.foldl withR [] := by
  obtain ⟨⟨b, hb⟩, hm⟩ := foldl_with_ns l [] 0 trivial h
  have hr : ∃ a, Rising a l' := by
    cases l' with
    | nil => exact ⟨0, trivial⟩
    | cons x t =>
      refine ⟨x.1, rising_of_pairwise _ _ (fun r hr => ⟨?_, h r (hp.mem_iff.1 hr)⟩) hs⟩
      rcases List.mem_cons.1 hr with rfl | hr
      · exact Int.le_refl _
      · exact (List.pairwise_cons.1 hs).1 r hr
  obtain ⟨a, ha⟩ := hr
  obtain ⟨i1, i2⟩ := mergeAll_ns l' a ha
  refine NS.unique i1 hb fun c => ?_
  rw [i2 c, hm c]
  constructor
  · rintro ⟨r, hr, h⟩; exact .inr ⟨r, hp.mem_iff.1 hr, h⟩
  · rintro (⟨r, hr, _⟩ | ⟨r, hr, h⟩)
    · cases hr
    · exact ⟨r, hp.mem_iff.2 hr, h⟩
end Thr

/- Plain Lean: what a pattern means: one answer for the descent and for the stack. -/
namespace Thr

def leaf (k : Int) : Rx := .mk k 0 false [] 0 0 []
def chrN (c : Int) : Rx := .mk 2 c false [] 0 0 []
def setN (neg : Bool) (set : List (Int × Int)) : Rx := .mk 4 0 neg set 0 0 []
def catN (ks : List Rx) : Rx := .mk 5 0 false [] 0 0 ks
def altN (ks : List Rx) : Rx := .mk 6 0 false [] 0 0 ks
def repN (lo hi : Int) (k : Rx) : Rx := .mk 7 0 false [] lo hi [k]
def joinF : List Rx → Rx
  | [] => leaf 1
  | [x] => x
  | x :: y :: l => catN (x :: y :: l)
def oneF : List Rx → Rx
  | [x] => x
  | l => altN l
def shutF (alts cat : List Rx) : Rx := oneF (alts ++ [joinF cat])

def isDig (c : Int) : Bool := decide (48 ≤ c ∧ c ≤ 57)
/-- The number at a place, and where it ends. -/
def digF (s : ByteArray) : Nat → Nat → Int → Int × Nat
  | 0, i, v => (v, i)
  | f + 1, i, v => if i < s.size ∧ isDig (byt s i) = true then digF s f (i + 1) (min (10 * v + (byt s i - 48)) 1000) else (v, i)
/-- What stands behind a '{': its numbers, where it ends. -/
def itvF (s : ByteArray) (i : Nat) : Option (Int × Int × Nat) :=
  if (digF s s.size (i + 1) 0).2 = i + 1 ∨ s.size ≤ (digF s s.size (i + 1) 0).2 then none
  else if byt s (digF s s.size (i + 1) 0).2 = 44 then
    if (digF s s.size ((digF s s.size (i + 1) 0).2 + 1) 0).2 < s.size ∧ byt s (digF s s.size ((digF s s.size (i + 1) 0).2 + 1) 0).2 = 125 then
      some ((digF s s.size (i + 1) 0).1, if (digF s s.size ((digF s s.size (i + 1) 0).2 + 1) 0).2 = (digF s s.size (i + 1) 0).2 + 1 then -1 else (digF s s.size ((digF s s.size (i + 1) 0).2 + 1) 0).1, (digF s s.size ((digF s s.size (i + 1) 0).2 + 1) 0).2 + 1)
    else none
  else if byt s (digF s s.size (i + 1) 0).2 = 125 then some ((digF s s.size (i + 1) 0).1, (digF s s.size (i + 1) 0).1, (digF s s.size (i + 1) 0).2 + 1)
  else none

inductive Again where
  | no
  | fault (e : Int)
  | yes (lo hi : Int) (k : Nat)
def againF (s : ByteArray) (i : Nat) : Again :=
  if byt s i = 42 then .yes 0 (-1) (i + 1)
  else if byt s i = 43 then .yes 1 (-1) (i + 1)
  else if byt s i = 63 then .yes 0 1 (i + 1)
  else if byt s i = 123 then
    match itvF s i with
    | none => .no
    | some (lo, hi, k) => if 30 < lo ∨ 30 < hi then .fault 91 else if 0 ≤ hi ∧ hi < lo then .fault 90 else .yes lo hi k
  else .no

def isLet (c : Int) : Bool := decide (48 ≤ c ∧ c ≤ 57 ∨ 97 ≤ c ∧ c ≤ 122 ∨ 65 ≤ c ∧ c ≤ 90)
/-- What a character behind a backslash stands for. -/
def singleF (c : Int) : Option Int :=
  if c = 110 then some 10 else if c = 116 then some 9 else if c = 114 then some 13 else if c = 102 then some 12 else if c = 118 then some 11 else if c = 97 then some 7 else if c = 98 then some 8
  else if isLet c = true then none else some c

def wordS : List (Int × Int) := [(48, 57), (65, 90), (95, 95), (97, 122)]
def spaceS : List (Int × Int) := [(9, 13), (32, 32)]
def escF (s : ByteArray) (i : Nat) (bytes : Bool) : Option (Rx × Nat) :=
  if (nextF s (i + 1) bytes).2 = 0 then none
  else
    let k := i + 1 + (nextF s (i + 1) bytes).2.toNat
    let c := (nextF s (i + 1) bytes).1
    if c = 121 then some (leaf 10, k) else if c = 66 then some (leaf 11, k) else if c = 60 then some (leaf 12, k) else if c = 62 then some (leaf 13, k) else if c = 96 then some (leaf 8, k) else if c = 39 then some (leaf 9, k)
    else if c = 119 ∨ c = 87 then some (setN (c = 87) wordS, k) else if c = 115 ∨ c = 83 then some (setN (c = 83) spaceS, k)
    else match singleF c with | none => none | some x => some (chrN x, k)

/-- A text's bytes, as they stand in the source. -/
def lit (l : List UInt8) : ByteArray := ⟨l.toArray⟩
def classTab : List (ByteArray × List (Int × Int)) :=
  [(lit [97, 108, 112, 104, 97], [(65, 90), (97, 122)]), (lit [100, 105, 103, 105, 116], [(48, 57)]), (lit [97, 108, 110, 117, 109], [(48, 57), (65, 90), (97, 122)]), (lit [117, 112, 112, 101, 114], [(65, 90)]),
   (lit [108, 111, 119, 101, 114], [(97, 122)]), (lit [115, 112, 97, 99, 101], [(9, 13), (32, 32)]), (lit [98, 108, 97, 110, 107], [(9, 9), (32, 32)]), (lit [112, 117, 110, 99, 116], [(33, 47), (58, 64), (91, 96), (123, 126)]),
   (lit [112, 114, 105, 110, 116], [(32, 126)]), (lit [103, 114, 97, 112, 104], [(33, 126)]), (lit [99, 110, 116, 114, 108], [(0, 31), (127, 127)]), (lit [120, 100, 105, 103, 105, 116], [(48, 57), (65, 70), (97, 102)])]
def lookF (n : ByteArray) : List (ByteArray × List (Int × Int)) → Option (List (Int × Int))
  | [] => none
  | x :: l => if n = x.1 then some x.2 else lookF n l
def classF (n : ByteArray) : Option (List (Int × Int)) := lookF n classTab

/-- The first ":]" from a place on. -/
def shutAt (s : ByteArray) : Nat → Nat → Option Nat
  | 0, _ => none
  | f + 1, k => if s.size ≤ k + 1 then none else if byt s k = 58 ∧ byt s (k + 1) = 93 then some k else shutAt s f (k + 1)
def namedF (s : ByteArray) (i : Nat) : Option (List (Int × Int) × Nat) :=
  match shutAt s s.size (i + 2) with
  | none => none
  | some k => match classF (s.extract (i + 2) k) with | none => none | some l => some (l, k + 2)
def memberF (s : ByteArray) (i : Nat) (bytes : Bool) : Option (Int × Nat) :=
  if (nextF s i bytes).2 = 0 then none
  else if (nextF s i bytes).1 ≠ 92 then some ((nextF s i bytes).1, i + (nextF s i bytes).2.toNat)
  else if (nextF s (i + 1) bytes).2 = 0 then none
  else match singleF (nextF s (i + 1) bytes).1 with | none => none | some x => some (x, i + 1 + (nextF s (i + 1) bytes).2.toNat)
def two (s : ByteArray) (i : Nat) (a b : Int) : Bool := decide (i + 1 < s.size ∧ byt s i = a ∧ byt s (i + 1) = b)
def one (s : ByteArray) (i : Nat) (a : Int) : Bool := decide (i < s.size ∧ byt s i = a)
/-- What a set's members are, one behind the other, and where it ends. -/
def setsF (s : ByteArray) (bytes : Bool) : Nat → Nat → Bool → List (Int × Int) → Option (List (Int × Int) × Nat)
  | 0, _, _, _ => none
  | f + 1, i, first, acc =>
    if first = false ∧ one s i 93 = true then some (acc, i + 1)
    else if two s i 91 58 = true then
      match namedF s i with
      | none => none
      | some (l, k) => setsF s bytes f k false (acc ++ l)
    else match memberF s i bytes with
      | none => none
      | some (lo, k) =>
        if one s k 45 = true ∧ k + 1 < s.size ∧ byt s (k + 1) ≠ 93 then
          if two s (k + 1) 91 58 = true then none
          else match memberF s (k + 1) bytes with
            | none => none
            | some (hi, k') => if hi < lo then none else setsF s bytes f k' false (acc ++ [(lo, hi)])
        else setsF s bytes f k false (acc ++ [(lo, lo)])
def setF (s : ByteArray) (i : Nat) (bytes : Bool) : Option (Rx × Nat) :=
  match setsF s bytes (s.size + 1) (if one s (i + 1) 94 = true then i + 2 else i + 1) true [] with
  | none => none
  | some (l, k) => some (setN (one s (i + 1) 94) (l.foldl withR []), k)

def plainF (c : Int) : Rx := if c = 46 then leaf 3 else if c = 94 then leaf 8 else if c = 36 then leaf 9 else chrN c

/-- How a group ends: in a fault, or where nothing of it goes on. -/
inductive Res where
  | fault (i : Nat) (e : Int)
  | stop (alts cat : List Rx) (i : Nat)

def initL : List Rx → List Rx
  | [] => []
  | [_] => []
  | x :: y :: l => x :: initL (y :: l)
def lastL : List Rx → Rx
  | [] => leaf 1
  | [x] => x
  | _ :: y :: l => lastL (y :: l)

/-- A group from a place on, with what it has so far. -/
def innerF (s : ByteArray) (bytes : Bool) : Nat → Nat → List Rx → List Rx → Nat → Option Res
  | 0, _, _, _, _ => none
  | f + 1, nest, alts, cat, i =>
    if s.size ≤ i then some (.stop alts cat i)
    else match (if cat = [] then Again.no else againF s i) with
      | .fault e => some (.fault i e)
      | .yes lo hi k => innerF s bytes f nest alts (initL cat ++ [repN lo hi (lastL cat)]) k
      | .no =>
        if byt s i = 124 then innerF s bytes f nest (alts ++ [joinF cat]) [] (i + 1)
        else if byt s i = 40 then
          if nest = 40 then some (.fault i 91)
          else match innerF s bytes f (nest + 1) [] [] (i + 1) with
            | none => none
            | some (.fault j e) => some (.fault j e)
            | some (.stop alts' cat' j) => if j < s.size then innerF s bytes f nest alts (cat ++ [shutF alts' cat']) (j + 1) else some (.fault i 90)
        else if byt s i = 41 then if nest = 0 then some (.fault i 90) else some (.stop alts cat i)
        else if byt s i = 91 then match setF s i bytes with | none => some (.fault i 90) | some (x, k) => innerF s bytes f nest alts (cat ++ [x]) k
        else if byt s i = 92 then match escF s i bytes with | none => some (.fault i 90) | some (x, k) => innerF s bytes f nest alts (cat ++ [x]) k
        else innerF s bytes f nest alts (cat ++ [plainF (nextF s i bytes).1]) (i + (nextF s i bytes).2.toNat)

/-! ### It ends -/
theorem dig_le (s : ByteArray) : ∀ (f i : Nat) (v : Int), i ≤ (digF s f i v).2 ∧ ((digF s f i v).2 ≤ s.size ∨ (digF s f i v).2 = i)
  | 0, i, v => by simp [digF]
  | f + 1, i, v => by
    simp only [digF]
    split
    · have := dig_le s f (i + 1) (min (10 * v + (byt s i - 48)) 1000)
      omega
    · simp
theorem itv_le {s : ByteArray} {i : Nat} {lo hi : Int} {k : Nat} (h : itvF s i = some (lo, hi, k)) : i < k ∧ k ≤ s.size := by
  have h1 := dig_le s s.size (i + 1) 0
  have h2 := dig_le s s.size ((digF s s.size (i + 1) 0).2 + 1) 0
  unfold itvF at h
  split at h
  · cases h
  · split at h
    · split at h
      · simp only [Option.some.injEq, Prod.mk.injEq] at h
        omega
      · cases h
    · split at h
      · simp only [Option.some.injEq, Prod.mk.injEq] at h
        omega
      · cases h
theorem again_le {s : ByteArray} {i : Nat} {lo hi : Int} {k : Nat} (hi0 : i < s.size) (h : againF s i = .yes lo hi k) : i < k ∧ k ≤ s.size := by
  unfold againF at h
  split at h
  · injection h; omega
  split at h
  · injection h; omega
  split at h
  · injection h; omega
  split at h
  · split at h
    · cases h
    · rename_i hit
      have := itv_le hit
      split at h
      · cases h
      · split at h
        · cases h
        · injection h; omega
  · cases h
theorem next_le {s : ByteArray} {i : Nat} {bytes : Bool} (hs : Sized s bytes) : 0 ≤ (nextF s i bytes).2 ∧ (i < s.size → 1 ≤ (nextF s i bytes).2 ∧ i + (nextF s i bytes).2.toNat ≤ s.size) ∧ (s.size ≤ i → (nextF s i bytes).2 = 0) := by
  rcases Nat.lt_or_ge i s.size with h | h
  · have := hs.at_ i h
    exact ⟨by omega, fun _ => by omega, fun h' => by omega⟩
  · have : nextF s i bytes = (0, 0) := by unfold nextF; rw [if_pos (by omega)]
    rw [this]
    exact ⟨by simp, fun h' => by omega, fun _ => rfl⟩
theorem esc_le {s : ByteArray} {i : Nat} {bytes : Bool} (hs : Sized s bytes) {x : Rx} {k : Nat} (h : escF s i bytes = some (x, k)) : i < k ∧ k ≤ s.size := by
  have hn := next_le (i := i + 1) hs
  have hc : ((i + 1 : Nat) : Int) = (i : Int) + 1 := by omega
  rw [hc] at hn
  unfold escF at h
  split at h
  · cases h
  · rename_i h0
    have hi : i + 1 < s.size := by
      rcases Nat.lt_or_ge (i + 1) s.size with h | h
      · exact h
      · exact absurd (hn.2.2 h) h0
    have hk := hn.2.1 hi
    have hfin : ∀ (y : Rx), some (y, i + 1 + (nextF s (i + 1) bytes).2.toNat) = some (x, k) → i < k ∧ k ≤ s.size := by
      intro y e
      simp only [Option.some.injEq, Prod.mk.injEq] at e
      omega
    simp only at h
    repeat' split at h
    all_goals first | exact hfin _ h | cases h
theorem shutAt_le {s : ByteArray} : ∀ (f k j : Nat), shutAt s f k = some j → k ≤ j ∧ j + 1 < s.size
  | 0, k, j, h => by simp [shutAt] at h
  | f + 1, k, j, h => by
    simp only [shutAt] at h
    split at h
    · cases h
    · split at h
      · injection h; omega
      · have := shutAt_le f (k + 1) j h
        omega
theorem named_le {s : ByteArray} {i k : Nat} {l : List (Int × Int)} (h : namedF s i = some (l, k)) : i < k ∧ k ≤ s.size := by
  unfold namedF at h
  split at h
  · cases h
  · rename_i hk
    have := shutAt_le _ _ _ hk
    split at h
    · cases h
    · simp only [Option.some.injEq, Prod.mk.injEq] at h
      omega
theorem member_le {s : ByteArray} {i k : Nat} {bytes : Bool} (hs : Sized s bytes) {x : Int} (h : memberF s i bytes = some (x, k)) : i < k ∧ k ≤ s.size := by
  have h1 := next_le (i := i) hs
  have h2 := next_le (i := i + 1) hs
  have hc : ((i + 1 : Nat) : Int) = (i : Int) + 1 := by omega
  rw [hc] at h2
  unfold memberF at h
  split at h
  · cases h
  · rename_i h0
    have hi : i < s.size := by
      rcases Nat.lt_or_ge i s.size with h | h
      · exact h
      · exact absurd (h1.2.2 h) h0
    split at h
    · simp only [Option.some.injEq, Prod.mk.injEq] at h
      have := h1.2.1 hi
      omega
    · split at h
      · cases h
      · rename_i h0'
        have hi' : i + 1 < s.size := by
          rcases Nat.lt_or_ge (i + 1) s.size with h | h
          · exact h
          · exact absurd (h2.2.2 h) h0'
        split at h
        · cases h
        · simp only [Option.some.injEq, Prod.mk.injEq] at h
          have := h2.2.1 hi'
          omega
theorem sets_le {s : ByteArray} {bytes : Bool} (hs : Sized s bytes) : ∀ (f i : Nat) (first : Bool) (acc : List (Int × Int)) (l : List (Int × Int)) (k : Nat), setsF s bytes f i first acc = some (l, k) → i < k ∧ k ≤ s.size
  | 0, i, first, acc, l, k, h => by simp [setsF] at h
  | f + 1, i, first, acc, l, k, h => by
    simp only [setsF] at h
    split at h
    · rename_i h1
      simp only [Option.some.injEq, Prod.mk.injEq] at h
      have : i < s.size := by have := h1.2; simp [one] at this; exact this.1
      omega
    · split at h
      · split at h
        · cases h
        · rename_i hn
          have := named_le hn
          have := sets_le hs f _ _ _ _ _ h
          omega
      · split at h
        · cases h
        · rename_i hm
          have h1 := member_le hs hm
          split at h
          · split at h
            · cases h
            · split at h
              · cases h
              · rename_i hm2
                have h2 := member_le hs hm2
                split at h
                · cases h
                · have := sets_le hs f _ _ _ _ _ h
                  omega
          · have := sets_le hs f _ _ _ _ _ h
            omega
theorem set_le {s : ByteArray} {i k : Nat} {bytes : Bool} (hs : Sized s bytes) {x : Rx} (h : setF s i bytes = some (x, k)) : i < k ∧ k ≤ s.size := by
  unfold setF at h
  split at h
  · cases h
  · rename_i hk
    have := sets_le hs _ _ _ _ _ _ hk
    simp only [Option.some.injEq, Prod.mk.injEq] at h
    split at this <;> omega
theorem inner_ends {s : ByteArray} {bytes : Bool} (hs : Sized s bytes) : ∀ (f nest : Nat) (alts cat : List Rx) (i : Nat), s.size - i < f → i ≤ s.size →
    ∃ r, innerF s bytes f nest alts cat i = some r ∧ ∀ a c j, r = .stop a c j → i ≤ j ∧ j ≤ s.size ∧ (j < s.size → byt s j = 41 ∧ 0 < nest)
  | 0, nest, alts, cat, i, h, hi => by omega
  | f + 1, nest, alts, cat, i, h, hi => by
    have go : ∀ (nest' : Nat) (alts' cat' : List Rx) (k : Nat), i < k → k ≤ s.size → ∃ r, innerF s bytes f nest' alts' cat' k = some r ∧ ∀ a c j, r = .stop a c j → i ≤ j ∧ j ≤ s.size ∧ (j < s.size → byt s j = 41 ∧ 0 < nest') := by
      intro nest' alts' cat' k h1 h2
      obtain ⟨r, hr, hp⟩ := inner_ends hs f nest' alts' cat' k (by omega) h2
      exact ⟨r, hr, fun a c j e => by have := hp a c j e; exact ⟨by omega, this.2⟩⟩
    simp only [innerF]
    by_cases hge : s.size ≤ i
    · rw [if_pos hge]
      exact ⟨_, rfl, fun a c j e => by injection e; omega⟩
    rw [if_neg hge]
    have hlt : i < s.size := by omega
    have hn := next_le (i := i) hs
    generalize hag : (if cat = [] then Again.no else againF s i) = ag
    cases ag with
    | fault e => exact ⟨_, rfl, fun a c j e => by cases e⟩
    | yes lo hi' k =>
      have hk : i < k ∧ k ≤ s.size := by
        split at hag
        · cases hag
        · exact again_le hlt hag
      exact go _ _ _ _ hk.1 hk.2
    | no =>
      simp only
      split
      · exact go _ _ _ _ (by omega) (by omega)
      split
      · split
        · exact ⟨_, rfl, fun a c j e => by cases e⟩
        · obtain ⟨r, hr, hp⟩ := go (nest + 1) [] [] (i + 1) (by omega) (by omega)
          rw [hr]
          cases r with
          | fault j e => exact ⟨_, rfl, fun a c j e => by cases e⟩
          | stop a c j =>
            have := hp a c j rfl
            simp only
            split
            · exact go _ _ _ _ (by omega) (by omega)
            · exact ⟨_, rfl, fun a c j e => by cases e⟩
      split
      · split
        · exact ⟨_, rfl, fun a c j e => by cases e⟩
        · rename_i h41 hnest
          exact ⟨_, rfl, fun a c j e => by injection e with _ _ e; subst e; exact ⟨by omega, by omega, fun _ => ⟨h41, by omega⟩⟩⟩
      split
      · split
        · exact ⟨_, rfl, fun a c j e => by cases e⟩
        · rename_i hx
          have := set_le hs hx
          exact go _ _ _ _ this.1 this.2
      split
      · split
        · exact ⟨_, rfl, fun a c j e => by cases e⟩
        · rename_i hx
          have := esc_le hs hx
          exact go _ _ _ _ this.1 this.2
      · have := hn.2.1 hlt
        exact go _ _ _ _ (by omega) (by omega)

/-- The answer: the tree, or where the fault is. -/
inductive Ans where
  | fault (i : Nat) (e : Int)
  | tree (t : Rx)
def topF : Res → Ans
  | .fault i e => .fault i e
  | .stop alts cat _ => if 200 < weightF (shutF alts cat) then .fault 0 91 else .tree (shutF alts cat)
def parseF (s : ByteArray) (bytes : Bool) : Ans :=
  if 1024 < s.size then .fault 0 3
  else match innerF s bytes (s.size + 1) 0 [] [] 0 with
    | none => .fault 0 0
    | some r => topF r
end Thr

/- The walks of fail, see, char, figure, interval. -/
namespace Go.Proofs.YtanmlgliibgpcaaDoor
open Go.RowKit Thr
set_option linter.unusedVariables false
set_option linter.unusedSimpArgs false

/-- The parser: its text, where it is, how characters are told, how deep. -/
def PAt (w : World) (bp : Nat) (s : ByteArray) (at_ : Nat) (bytes : Bool) (nest : Nat) : Prop := Blk w bp 80 #[.string s, .int .i64 at_, .bool bytes, .int .i64 nest]

def faultV (at_ e : Int) : List PanicEntry := [{ v := .iface 77 (.agg #[.int .i64 at_, .int .i64 e]), recovered := false }]

set_option maxHeartbeats 2000000 in
theorem fail_calls (vp : Value) (at_ e : Int) (w : World) : Calls Tryd.prog 66 #[vp, .int .i64 at_, .int .i64 e] w fun e' w' => e' = .panicked (faultV at_ e) ∧ w' = w := by
  unfold faultV
  go_enter Tryd.func66, Tryd.ntmps66
  go_wp2_with fail
  exact ⟨rfl, rfl, rfl⟩

def seeF (s : ByteArray) (i : Nat) (t : ByteArray) : Bool := Lib.hasPrefix (s.extract i s.size).data.toList t.data.toList

set_option maxHeartbeats 4000000 in
theorem see_calls {bp : Nat} {s : ByteArray} {i : Nat} {bytes : Bool} {nest : Nat} (t : ByteArray) (w : World) (hP : PAt w bp s i bytes nest) (hi : i ≤ s.size) (hm : s.size ≤ 1024) :
    Calls Tryd.prog 51 #[.pointer (some ⟨bp, 0, none⟩), .string t] w fun e w' => e = .returned (.bool (seeF s i t)) ∧ Below w.heap.size w w' := by
  have c0 := hP.cell 0
  have c1 := hP.cell 1
  have hbp := hP.lt
  simp at c0 c1
  have hpre := fun w => Tryd.strings_HasPrefix (s.extract i s.size) t w
  unfold seeF
  obtain ⟨F, hF⟩ : ∃ F, Lib.hasPrefix (s.extract i s.size).data.toList t.data.toList = F := ⟨_, rfl⟩
  rw [hF]
  rw [hF] at hpre
  have HPRE := hide hpre
  clear hP hpre hF
  go_enter Tryd.func51, Tryd.ntmps51
  go_wp2_with fail
  go_quiet ((go_at_call 63; exact Calls.quiet_of_same (unhide HPRE _)))
  go_wp2_with fail
  go_ret
  exact ⟨rfl, (by repeat (first | exact Below.refl _ _ | assumption | refine below_drewN ?_ _ | refine Below.drew ?_ | refine below_alloc' ?_ _))⟩

theorem PAt.go_on {w : World} {bp : Nat} {s : ByteArray} {i : Nat} {bytes : Bool} {nest : Nat} (h : PAt w bp s i bytes nest) (k : Nat) : PAt (w.setCell ⟨bp, 1, none⟩ (.int .i64 k)) bp s k bytes nest := h.set_ 1 _
theorem PAt.below {w w' : World} {bp : Nat} {s : ByteArray} {i : Nat} {bytes : Bool} {nest : Nat} (h : PAt w bp s i bytes nest) (hb : Below w.heap.size w w') : PAt w' bp s i bytes nest := Blk.below h hb h.lt
theorem PAt.deep {w : World} {bp : Nat} {s : ByteArray} {i : Nat} {bytes : Bool} {nest : Nat} (h : PAt w bp s i bytes nest) (k : Nat) : PAt (w.setCell ⟨bp, 3, none⟩ (.int .i64 k)) bp s i bytes k := h.set_ 3 _

set_option maxHeartbeats 4000000 in
theorem char_calls {bp : Nat} {s : ByteArray} {i : Nat} {bytes : Bool} {nest : Nat} (w : World) (hP : PAt w bp s i bytes nest) (hT : Tabs w) (hi : i ≤ s.size) (hm : s.size ≤ 1024) :
    Calls Tryd.prog 67 #[.pointer (some ⟨bp, 0, none⟩)] w fun e w' => e = .returned (.int .i64 (nextF s i bytes).1) ∧ PAt w' bp s (i + (nextF s i bytes).2.toNat) bytes nest ∧ Keeps (fun k => k = bp) w w' := by
  have c0 := hP.cell 0
  have c1 := hP.cell 1
  have c2 := hP.cell 2
  have f1 := hP.frozen 1
  have hbp := hP.lt
  simp at c0 c1 c2
  have hn := fun (w1 : World) (hb : Below w.heap.size w w1) => next_calls s i bytes w1 (hT.below hb) (by omega)
  have hle := next_le (s := s) (i := i) (sized_all s bytes)
  have hle2 : 0 ≤ (nextF s i bytes).2 ∧ (i : Int) + (nextF s i bytes).2 ≤ 1024 := by
    rcases Nat.lt_or_ge i s.size with h | h
    · have := hle.2.1 h; omega
    · have := hle.2.2 h; omega
  generalize nextF s i bytes = z at *
  obtain ⟨c, n⟩ := z
  simp only at hn hle hle2
  obtain ⟨h0, h1⟩ := hle2
  have HN := hide hn; have HP := hide hP
  clear hP hn hT hle
  go_enter Tryd.func67, Tryd.ntmps67
  go_wp2_with fail
  go_region_held3 (fun w' => w'.cell? ⟨bp, 0, none⟩ = some (.string s) ∧ w'.cell? ⟨bp, 1, none⟩ = some (.int .i64 i) ∧ w'.cell? ⟨bp, 2, none⟩ = some (.bool bytes)) (go_keep) ((go_at_call 29; refine (unhide HN _ (by repeat (first | exact Below.refl _ _ | assumption | refine below_drewN ?_ _ | refine Below.drew ?_ | refine below_alloc' ?_ _))).mono ?_; rintro e w1 ⟨rfl, hb1⟩; have q0 := ((bcell hb1).1 bp 0 (by simp; omega)).trans c0; have qq := ((bcell hb1).1 bp 2 (by simp; omega)).trans c2; have q1 := ((bcell hb1).1 bp 1 (by simp; omega)).trans c1; have q2 := ((bcell hb1).2 bp 1 (by simp; omega)).trans f1; have hbp1 : bp < w1.heap.size := by have := hb1.size; simp at this; omega))
  all_goals
    have HB1 := hide (below_then (w := w) (by repeat (first | exact Below.refl _ _ | assumption | refine below_drewN ?_ _ | refine Below.drew ?_ | refine below_alloc' ?_ _)) hb1)
    clear hb1
    go_wp2_with fail
    go_ret
    refine ⟨rfl, ?_, Keeps.setCell (S := fun k => k = bp) (p := ⟨bp, 1, none⟩) (Keeps.of_below (unhide HB1) _) (.inl rfl) _⟩
    have := ((unhide HP).below (unhide HB1)).go_on (i + n.toNat)
    rw [show ((i + n.toNat : Nat) : Int) = i + n by omega] at this
    exact this

set_option maxHeartbeats 4000000 in
theorem figure_calls (s : ByteArray) (w : World) (hm : s.size ≤ 1024) :
    Calls Tryd.prog 72 #[.string s] w fun e w' => e = .returned (.tuple #[.int .i64 (digF s s.size 0 0).1, .int .i64 (digF s s.size 0 0).2]) ∧ w' = w := by
  obtain ⟨D, hD⟩ : ∃ D, digF s s.size 0 0 = D := ⟨_, rfl⟩
  rw [hD]
  have HD := hide hD
  clear hD
  go_enter Tryd.func72, Tryd.ntmps72
  go_wp2_with fail
  go_loop [4, 5] (fun v_ i_ => ∃ (i : Nat) (v : Int), i ≤ s.size ∧ i_ = .int .i64 i ∧ v_ = .int .i64 v ∧ 0 ≤ v ∧ v ≤ 1000 ∧ Hid (digF s (s.size - i) i v = D)) (fun _ i_ => s.size - (intOf i_).toNat)
  case atStart => exact ⟨0, 0, by omega, rfl, rfl, by omega, by omega, HD⟩
  case round =>
    obtain ⟨i, v, hi, rfl, rfl, hv0, hv1, HR⟩ := hrel
    by_cases hlt : i < s.size
    · have hb := byt_at hlt
      have hr := byt_range s i
      have hd := unhide HR
      rw [show s.size - i = (s.size - (i + 1)) + 1 by omega] at hd
      simp only [digF] at hd
      obtain ⟨b, hb0⟩ : ∃ b, byt s i = b := ⟨_, rfl⟩
      rw [hb0] at hb hr hd
      by_cases h48 : 48 ≤ b
      · by_cases h57 : b ≤ 57
        · rw [if_pos ⟨hlt, by simp [isDig]; omega⟩] at hd
          have HR' := hide hd
          clear hd HR hb0
          go_wp2_with fail
          go_round
          case rel => exact ⟨i + 1, min (10 * v + (b - 48)) 1000, by omega, by go_num, rfl, by omega, by omega, HR'⟩
          case measure => simp [intOf]; omega
        · rw [if_neg (by simp [isDig]; omega)] at hd
          subst hd
          clear HR hb0
          go_wp2_with fail
          go_ret2
          exact ⟨rfl, rfl⟩
      · rw [if_neg (by simp [isDig]; omega)] at hd
        subst hd
        clear HR hb0
        go_wp2_with fail
        go_ret2
        exact ⟨rfl, rfl⟩
    · have hd := unhide HR
      rw [show s.size - i = 0 by omega] at hd
      simp only [digF] at hd
      subst hd
      clear HR
      go_wp2_with fail
      go_ret2
      exact ⟨rfl, rfl⟩
end Go.Proofs.YtanmlgliibgpcaaDoor

/- The walk of interval. -/
namespace Go.Proofs.YtanmlgliibgpcaaDoor
open Go.RowKit Thr
set_option linter.unusedVariables false
set_option linter.unusedSimpArgs false

theorem tail_tail (s : ByteArray) (a b : Nat) (ha : a ≤ s.size) : (s.extract a s.size).extract b (s.extract a s.size).size = s.extract (a + b) s.size := by
  apply ByteArray.ext
  simp [ByteArray.data_extract, Array.extract_extract, ByteArray.size_extract]
  congr 1
  omega
theorem tail_size (s : ByteArray) (a : Nat) : (s.extract a s.size).size = s.size - a := by simp [ByteArray.size_extract]
theorem dig_fuel (s : ByteArray) : ∀ (f i : Nat) (v : Int), s.size - i ≤ f → digF s f i v = digF s (s.size - i) i v
  | 0, i, v, h => by rw [show s.size - i = 0 by omega]
  | f + 1, i, v, h => by
    simp only [digF]
    rcases Nat.lt_or_ge i s.size with hi | hi
    · rw [show s.size - i = (s.size - (i + 1)) + 1 by omega]
      simp only [digF]
      rw [dig_fuel s f (i + 1) _ (by omega)]
    · rw [show s.size - i = 0 by omega, if_neg (by omega)]
      simp [digF]
theorem dig_tail (s : ByteArray) (a : Nat) : ∀ (f j : Nat) (v : Int), a + j ≤ s.size → digF (s.extract a s.size) f j v = ((digF s f (a + j) v).1, (digF s f (a + j) v).2 - a)
  | 0, j, v, h => by simp [digF]
  | f + 1, j, v, h => by
    simp only [digF, tail_size, byt_extract]
    by_cases hc : a + j < s.size ∧ isDig (byt s (a + j)) = true
    · rw [if_pos hc, if_pos ⟨by omega, hc.2⟩, dig_tail s a f (j + 1) _ (by omega)]
      rfl
    · rw [if_neg hc, if_neg (by intro h'; exact hc ⟨by omega, h'.2⟩)]
      simp
theorem dig_sub (s : ByteArray) (a : Nat) (ha : a ≤ s.size) : digF (s.extract a s.size) (s.extract a s.size).size 0 0 = ((digF s s.size a 0).1, (digF s s.size a 0).2 - a) := by
  rw [tail_size, dig_tail s a _ 0 0 (by omega), Nat.add_zero, ← dig_fuel s s.size a 0 (by omega)]
theorem dig_range (s : ByteArray) : ∀ (f i : Nat) (v : Int), 0 ≤ v → v ≤ 1000 → 0 ≤ (digF s f i v).1 ∧ (digF s f i v).1 ≤ 1000
  | 0, i, v, h0, h1 => by simp only [digF]; omega
  | f + 1, i, v, h0, h1 => by
    simp only [digF]
    split
    · rename_i h
      have : 48 ≤ byt s i ∧ byt s i ≤ 57 := by simpa [isDig] using h.2
      exact dig_range s f (i + 1) _ (by omega) (by omega)
    · exact ⟨h0, h1⟩

theorem ret_three {a a' b b' c c' : Int} (h1 : a = a') (h2 : b = b') (h3 : c = c') : Ending.returned (.tuple #[.int .i64 a, .int .i64 b, .int .i64 c]) = .returned (.tuple #[.int .i64 a', .int .i64 b', .int .i64 c']) := by rw [h1, h2, h3]
def itvV : Option (Int × Int × Nat) → Value
  | none => .tuple #[.int .i64 0, .int .i64 0, .int .i64 0]
  | some (lo, hi, k) => .tuple #[.int .i64 lo, .int .i64 hi, .int .i64 k]

set_option maxRecDepth 100000 in
set_option maxHeartbeats 8000000 in
theorem interval_calls (t : ByteArray) (w : World) (h1 : 1 ≤ t.size) (hm : t.size ≤ 1024) :
    Calls Tryd.prog 65 #[.string t] w fun e w' => e = .returned (itvV (itvF t 0)) ∧ w' = w := by
  have hd1 := dig_le t t.size 1 0
  have hv1 := dig_range t t.size 1 0 (by omega) (by omega)
  have hf1 := fun w => figure_calls (t.extract 1 t.size) w (by rw [tail_size]; omega)
  rw [dig_sub t 1 h1] at hf1
  have hit : itvF t 0 = itvF t 0 := rfl
  conv at hit => rhs; unfold itvF
  simp only [Nat.zero_add] at hit
  have hf2 : ∀ k, k ≤ t.size → ∀ w, Calls Tryd.prog 72 #[.string (t.extract k t.size)] w fun e w' => e = .returned (.tuple #[.int .i64 (digF t t.size k 0).1, .int .i64 ((digF t t.size k 0).2 - k : Nat)]) ∧ w' = w := fun k hk w => by
    have := figure_calls (t.extract k t.size) w (by rw [tail_size]; omega)
    rw [dig_sub t k hk] at this
    exact this
  generalize digF t t.size 1 0 = D at *
  obtain ⟨v1, k1⟩ := D
  simp only at hd1 hv1 hf1 hit
  obtain ⟨n, rfl⟩ : ∃ n, k1 = 1 + n := ⟨k1 - 1, by omega⟩
  rw [show 1 + n - 1 = n by omega] at hf1
  obtain ⟨F, hF⟩ : ∃ F, itvF t 0 = F := ⟨_, rfl⟩
  rw [hF] at hit ⊢
  have HF1 := hide hf1; have HF2 := hide hf2; have HIT := hide hit
  clear hf1 hf2 hit hF
  by_cases hn0 : n = 0
  · subst hn0
    obtain rfl : F = none := by rw [unhide HIT, if_pos (.inl rfl)]
    go_enter Tryd.func65, Tryd.ntmps65
    go_wp2_with fail
    refine (unhide HF1 _).mono ?_
    rintro e w' ⟨rfl, hw⟩
    obtain rfl := hw.symm
    go_wp2_with fail
    go_ret3
    exact ⟨rfl, rfl⟩
  have hn0' : ((n : Int) == 0) = false := by simp; omega
  by_cases hge : t.size ≤ 1 + n
  · obtain rfl : F = none := by rw [unhide HIT, if_pos (.inr hge)]
    go_enter Tryd.func65, Tryd.ntmps65
    go_wp2_with fail
    refine (unhide HF1 _).mono ?_
    rintro e w' ⟨rfl, hw⟩
    obtain rfl := hw.symm
    go_wp2_with fail
    go_ret3
    exact ⟨rfl, rfl⟩
  have hlt : 1 + n < t.size := by omega
  have hb := byt_at hlt
  have hr := byt_range t (1 + n)
  have hit := unhide HIT
  rw [if_neg (by omega)] at hit
  obtain ⟨b, hb0⟩ : ∃ b, byt t (1 + n) = b := ⟨_, rfl⟩
  rw [hb0] at hb hr hit
  have HIT2 := hide hit
  clear hit HIT hb0
  by_cases h44 : b = 44
  · have h44' : (b == 44) = true := by simpa using h44
    have hf := unhide HF2 (1 + n + 1) (by omega)
    have hit := unhide HIT2
    rw [if_pos h44] at hit
    have hd2 := dig_le t t.size (1 + n + 1) 0
    have hv2 := dig_range t t.size (1 + n + 1) 0 (by omega) (by omega)
    generalize digF t t.size (1 + n + 1) 0 = D at *
    obtain ⟨v2, k2⟩ := D
    simp only at hd2 hv2 hf hit
    have hd2' : 1 + n + 1 ≤ t.size := by omega
    by_cases hm0 : k2 = 1 + n + 1
    · subst hm0
      rw [show 1 + n + 1 - (1 + n + 1) = 0 by omega] at hf
      have HF := hide hf
      clear hf HIT2 h44 hd2'
      have hk2 : 1 + n + 1 ≤ t.size := by omega
      by_cases hge2 : t.size ≤ 1 + n + 1
      · obtain rfl : F = none := by rw [hit, if_neg (by omega)]
        have HK := hide hk2
        clear hk2 hit hd2
        · go_enter Tryd.func65, Tryd.ntmps65
          go_wp2_with fail
          refine (unhide HF1 _).mono ?_
          rintro e w' ⟨rfl, hw⟩
          obtain rfl := hw.symm
          go_wp2_with fail
          refine (unhide HF _).mono ?_
          rintro e w' ⟨rfl, hw⟩
          obtain rfl := hw.symm
          go_wp2_with fail
          go_ret3
          exact ⟨rfl, rfl⟩
      · have hlt2 : 1 + n + 1 < t.size := by omega
        have hb2 := byt_at hlt2
        have hr2 := byt_range t (1 + n + 1)
        obtain ⟨b2, hb20⟩ : ∃ b, byt t (1 + n + 1) = b := ⟨_, rfl⟩
        rw [hb20] at hb2 hr2 hit
        clear hb20 hge2 hd2 hk2
        by_cases h125 : b2 = 125
        · have h125' : (b2 == 125) = true := by simpa using h125
          have h126' : (b2 != 125) = false := by simpa using h125
          obtain rfl : F = some (v1, -1, 1 + n + 1 + 1) := by rw [hit, if_pos ⟨hlt2, h125⟩, if_pos rfl]
          clear h125 hit
          go_enter Tryd.func65, Tryd.ntmps65
          go_wp2_with fail
          refine (unhide HF1 _).mono ?_
          rintro e w' ⟨rfl, hw⟩
          obtain rfl := hw.symm
          go_wp2_with fail
          refine (unhide HF _).mono ?_
          rintro e w' ⟨rfl, hw⟩
          obtain rfl := hw.symm
          go_wp2_with fail
          go_ret3
          exact ⟨ret_three rfl rfl (by omega), rfl⟩
        · have h125' : (b2 == 125) = false := by simpa using h125
          have h126' : (b2 != 125) = true := by simpa using h125
          obtain rfl : F = none := by rw [hit, if_neg (by omega)]
          clear h125 hit
          go_enter Tryd.func65, Tryd.ntmps65
          go_wp2_with fail
          refine (unhide HF1 _).mono ?_
          rintro e w' ⟨rfl, hw⟩
          obtain rfl := hw.symm
          go_wp2_with fail
          refine (unhide HF _).mono ?_
          rintro e w' ⟨rfl, hw⟩
          obtain rfl := hw.symm
          go_wp2_with fail
          go_ret3
          exact ⟨rfl, rfl⟩
    · obtain ⟨m, rfl⟩ : ∃ m, k2 = 1 + n + (1 + m) := ⟨k2 - (1 + n + 1), by omega⟩
      rw [show 1 + n + (1 + m) - (1 + n + 1) = m by omega] at hf
      have HF := hide hf
      have hm1 : 0 < m := by omega
      have hm2 : ((m : Int) == 0) = false := by simp; omega
      have hnm : ¬ 1 + n + (1 + m) = 1 + n + 1 := by omega
      have hnm2 : n + m ≤ 3000 := by omega
      have HNM := hide hnm
      clear hf HIT2 h44 hd2' hm0 hnm
      have hk2 : 1 + n + (1 + m) ≤ t.size := by omega
      by_cases hge2 : t.size ≤ 1 + n + (1 + m)
      · obtain rfl : F = none := by rw [hit, if_neg (by omega)]
        have HK := hide hk2
        clear hk2 hit hd2
        · go_enter Tryd.func65, Tryd.ntmps65
          go_wp2_with fail
          refine (unhide HF1 _).mono ?_
          rintro e w' ⟨rfl, hw⟩
          obtain rfl := hw.symm
          go_wp2_with fail
          refine (unhide HF _).mono ?_
          rintro e w' ⟨rfl, hw⟩
          obtain rfl := hw.symm
          go_wp2_with fail
          go_ret3
          exact ⟨rfl, rfl⟩
      · have hlt2 : 1 + n + (1 + m) < t.size := by omega
        have hb2 := byt_at hlt2
        have hr2 := byt_range t (1 + n + (1 + m))
        obtain ⟨b2, hb20⟩ : ∃ b, byt t (1 + n + (1 + m)) = b := ⟨_, rfl⟩
        rw [hb20] at hb2 hr2 hit
        clear hb20 hge2 hd2 hk2
        by_cases h125 : b2 = 125
        · have h125' : (b2 == 125) = true := by simpa using h125
          have h126' : (b2 != 125) = false := by simpa using h125
          obtain rfl : F = some (v1, v2, 1 + n + (1 + m) + 1) := by rw [hit, if_pos ⟨hlt2, h125⟩, if_neg (unhide HNM)]
          clear h125 hit
          go_enter Tryd.func65, Tryd.ntmps65
          go_wp2_with fail
          refine (unhide HF1 _).mono ?_
          rintro e w' ⟨rfl, hw⟩
          obtain rfl := hw.symm
          go_wp2_with fail
          refine (unhide HF _).mono ?_
          rintro e w' ⟨rfl, hw⟩
          obtain rfl := hw.symm
          go_wp2_with fail
          go_ret3
          exact ⟨ret_three rfl rfl (by omega), rfl⟩
        · have h125' : (b2 == 125) = false := by simpa using h125
          have h126' : (b2 != 125) = true := by simpa using h125
          obtain rfl : F = none := by rw [hit, if_neg (by omega)]
          clear h125 hit
          go_enter Tryd.func65, Tryd.ntmps65
          go_wp2_with fail
          refine (unhide HF1 _).mono ?_
          rintro e w' ⟨rfl, hw⟩
          obtain rfl := hw.symm
          go_wp2_with fail
          refine (unhide HF _).mono ?_
          rintro e w' ⟨rfl, hw⟩
          obtain rfl := hw.symm
          go_wp2_with fail
          go_ret3
          exact ⟨rfl, rfl⟩
  · have h44' : (b == 44) = false := by simpa using h44
    have hit := unhide HIT2
    rw [if_neg h44] at hit
    clear HIT2 h44
    by_cases h125 : b = 125
    · have h125' : (b == 125) = true := by simpa using h125
      have h126' : (b != 125) = false := by simpa using h125
      rw [if_pos h125] at hit
      clear h125
      subst hit
      go_enter Tryd.func65, Tryd.ntmps65
      go_wp2_with fail
      refine (unhide HF1 _).mono ?_
      rintro e w' ⟨rfl, hw⟩
      obtain rfl := hw.symm
      go_wp2_with fail
      go_ret3
      exact ⟨ret_three rfl rfl (by omega), rfl⟩
    · have h125' : (b == 125) = false := by simpa using h125
      have h126' : (b != 125) = true := by simpa using h125
      rw [if_neg h125] at hit
      clear h125
      subst hit
      go_enter Tryd.func65, Tryd.ntmps65
      go_wp2_with fail
      refine (unhide HF1 _).mono ?_
      rintro e w' ⟨rfl, hw⟩
      obtain rfl := hw.symm
      go_wp2_with fail
      go_ret3
      exact ⟨rfl, rfl⟩

/-- Of a text's tail. -/
theorem itv_tail (s : ByteArray) (i : Nat) (hi : i < s.size) : itvF (s.extract i s.size) 0 = (itvF s i).map fun r => (r.1, r.2.1, r.2.2 - i) := by
  have hd : ∀ k, i + k ≤ s.size → digF (s.extract i s.size) (s.size - i) k 0 = ((digF s s.size (i + k) 0).1, (digF s s.size (i + k) 0).2 - i) := fun k hk => by
    rw [dig_tail s i _ k 0 hk, dig_fuel s s.size (i + k) 0 (by omega), dig_fuel s (s.size - i) (i + k) 0 (by omega)]
  have h1 := dig_le s s.size (i + 1) 0
  unfold itvF
  simp only [tail_size]
  rw [Nat.zero_add, hd 1 (by omega)]
  generalize digF s s.size (i + 1) 0 = D at *
  obtain ⟨v1, k1⟩ := D
  simp only at h1 ⊢
  by_cases hc : k1 = i + 1 ∨ s.size ≤ k1
  · rw [if_pos hc, if_pos (by omega)]; rfl
  · rw [if_neg hc, if_neg (by omega), byt_extract, show i + (k1 - i) = k1 by omega]
    by_cases h44 : byt s k1 = 44
    · rw [if_pos h44, if_pos h44, hd (k1 - i + 1) (by omega), show i + (k1 - i + 1) = k1 + 1 by omega]
      have h2 := dig_le s s.size (k1 + 1) 0
      generalize digF s s.size (k1 + 1) 0 = D2 at *
      obtain ⟨v2, k2⟩ := D2
      simp only at h2 ⊢
      rw [byt_extract, show i + (k2 - i) = k2 by omega]
      by_cases hc2 : k2 < s.size ∧ byt s k2 = 125
      · rw [if_pos hc2, if_pos ⟨by omega, hc2.2⟩]
        simp only [Option.map_some]
        congr 3
        · by_cases hk : k2 = k1 + 1
          · rw [if_pos hk, if_pos (by omega)]
          · rw [if_neg hk, if_neg (by omega)]
        · omega
      · rw [if_neg hc2, if_neg (by omega)]; rfl
    · rw [if_neg h44, if_neg h44]
      by_cases h125 : byt s k1 = 125
      · rw [if_pos h125, if_pos h125]
        simp only [Option.map_some]
        congr 3
        omega
      · rw [if_neg h125, if_neg h125]; rfl
end Go.Proofs.YtanmlgliibgpcaaDoor

/- The walks of single, word, space, class. -/
namespace Go.Proofs.YtanmlgliibgpcaaDoor
open Go.RowKit Thr
set_option linter.unusedVariables false
set_option linter.unusedSimpArgs false

def singleV (c : Int) : Value := match singleF c with
  | some x => .tuple #[.int .i64 x, .bool true]
  | none => .tuple #[.int .i64 c, .bool false]

theorem ret_ib {a b : Int} {p q : Bool} (h : a = b) (k : p = q) : Ending.returned (.tuple #[.int .i64 a, .bool p]) = .returned (.tuple #[.int .i64 b, .bool q]) := by rw [h, k]
theorem wrap_byte (b : UInt8) : wrap64 (b.toNat : Int) = (b.toNat : Int) := by
  have := b.toNat_lt
  unfold wrap64
  omega
theorem indexByte_out : ∀ (l : List UInt8) (c : UInt8), (∀ k ∈ l, k ≠ c) → Lib.indexByte l c = -1
  | [], c, _ => rfl
  | b :: l, c, h => by
    have ih := indexByte_out l c (fun k hk => h k (by simp [hk]))
    unfold Lib.indexByte
    rw [if_neg (by simpa using h b (by simp)), if_pos (by rw [ih]; rfl)]
theorem index_none (c : Int) (h0 : 0 ≤ c) (h : c ≠ 110 ∧ c ≠ 116 ∧ c ≠ 114 ∧ c ≠ 102 ∧ c ≠ 118 ∧ c ≠ 97 ∧ c ≠ 98) :
    Lib.indexByte (lit [110, 116, 114, 102, 118, 97, 98]).data.toList (min c 255).toNat.toUInt8 = -1 := by
  have hm : ∀ k : UInt8, (k.toNat : Int) ≠ c → k.toNat < 128 → (k == (min c 255).toNat.toUInt8) = false := by
    intro k hk hk2
    rw [beq_eq_false_iff_ne]
    intro e
    have := congrArg UInt8.toNat e
    have h2 : ((min c 255).toNat.toUInt8).toNat = (min c 255).toNat := by
      rw [Nat.toUInt8, UInt8.toNat_ofNat']
      omega
    rw [h2] at this
    omega
  refine indexByte_out _ _ fun k hk => ?_
  have : k = 110 ∨ k = 116 ∨ k = 114 ∨ k = 102 ∨ k = 118 ∨ k = 97 ∨ k = 98 := by simpa [lit] using hk
  intro e
  have hx : (k == (min c 255).toNat.toUInt8) = false := by
    rcases this with rfl | rfl | rfl | rfl | rfl | rfl | rfl
    all_goals exact hm _ (by simp; omega) (by decide)
  rw [← e] at hx
  simp at hx

set_option maxHeartbeats 4000000 in
theorem single_calls (c : Int) (w : World) (h0 : 0 ≤ c) (h1 : c ≤ 2000000) :
    Calls Tryd.prog 78 #[.int .i64 c] w fun e w' => e = .returned (singleV c) ∧ w' = w := by
  have hI := fun (b : Int) w => Tryd.strings_IndexByte (lit [110, 116, 114, 102, 118, 97, 98]) b w
  by_cases hc : c = 110 ∨ c = 116 ∨ c = 114 ∨ c = 102 ∨ c = 118 ∨ c = 97 ∨ c = 98
  · rcases hc with rfl | rfl | rfl | rfl | rfl | rfl | rfl
    · have hk : ∀ w, Calls Tryd.prog 84 #[.string (lit [110, 116, 114, 102, 118, 97, 98]), .int .u8 110] w fun e w' => e = .returned (.int .i64 0) ∧ w' = w := fun w => by
        have := hI 110 w
        rw [show Lib.indexByte (lit [110, 116, 114, 102, 118, 97, 98]).data.toList (110 : Int).toNat.toUInt8 = 0 from by decide] at this
        exact this
      have HK := hide hk
      clear hk hI
      go_enter Tryd.func78, Tryd.ntmps78
      go_wp2_with fail
      refine (unhide HK _).mono ?_
      rintro e w' ⟨rfl, hw⟩
      obtain rfl := hw.symm
      go_wp2_with fail
      go_ret2
      exact ⟨ret_ib ((wrap_byte _).trans (by first | rfl | decide)) rfl, rfl⟩
    · have hk : ∀ w, Calls Tryd.prog 84 #[.string (lit [110, 116, 114, 102, 118, 97, 98]), .int .u8 116] w fun e w' => e = .returned (.int .i64 1) ∧ w' = w := fun w => by
        have := hI 116 w
        rw [show Lib.indexByte (lit [110, 116, 114, 102, 118, 97, 98]).data.toList (116 : Int).toNat.toUInt8 = 1 from by decide] at this
        exact this
      have HK := hide hk
      clear hk hI
      go_enter Tryd.func78, Tryd.ntmps78
      go_wp2_with fail
      refine (unhide HK _).mono ?_
      rintro e w' ⟨rfl, hw⟩
      obtain rfl := hw.symm
      go_wp2_with fail
      go_ret2
      exact ⟨ret_ib ((wrap_byte _).trans (by first | rfl | decide)) rfl, rfl⟩
    · have hk : ∀ w, Calls Tryd.prog 84 #[.string (lit [110, 116, 114, 102, 118, 97, 98]), .int .u8 114] w fun e w' => e = .returned (.int .i64 2) ∧ w' = w := fun w => by
        have := hI 114 w
        rw [show Lib.indexByte (lit [110, 116, 114, 102, 118, 97, 98]).data.toList (114 : Int).toNat.toUInt8 = 2 from by decide] at this
        exact this
      have HK := hide hk
      clear hk hI
      go_enter Tryd.func78, Tryd.ntmps78
      go_wp2_with fail
      refine (unhide HK _).mono ?_
      rintro e w' ⟨rfl, hw⟩
      obtain rfl := hw.symm
      go_wp2_with fail
      go_ret2
      exact ⟨ret_ib ((wrap_byte _).trans (by first | rfl | decide)) rfl, rfl⟩
    · have hk : ∀ w, Calls Tryd.prog 84 #[.string (lit [110, 116, 114, 102, 118, 97, 98]), .int .u8 102] w fun e w' => e = .returned (.int .i64 3) ∧ w' = w := fun w => by
        have := hI 102 w
        rw [show Lib.indexByte (lit [110, 116, 114, 102, 118, 97, 98]).data.toList (102 : Int).toNat.toUInt8 = 3 from by decide] at this
        exact this
      have HK := hide hk
      clear hk hI
      go_enter Tryd.func78, Tryd.ntmps78
      go_wp2_with fail
      refine (unhide HK _).mono ?_
      rintro e w' ⟨rfl, hw⟩
      obtain rfl := hw.symm
      go_wp2_with fail
      go_ret2
      exact ⟨ret_ib ((wrap_byte _).trans (by first | rfl | decide)) rfl, rfl⟩
    · have hk : ∀ w, Calls Tryd.prog 84 #[.string (lit [110, 116, 114, 102, 118, 97, 98]), .int .u8 118] w fun e w' => e = .returned (.int .i64 4) ∧ w' = w := fun w => by
        have := hI 118 w
        rw [show Lib.indexByte (lit [110, 116, 114, 102, 118, 97, 98]).data.toList (118 : Int).toNat.toUInt8 = 4 from by decide] at this
        exact this
      have HK := hide hk
      clear hk hI
      go_enter Tryd.func78, Tryd.ntmps78
      go_wp2_with fail
      refine (unhide HK _).mono ?_
      rintro e w' ⟨rfl, hw⟩
      obtain rfl := hw.symm
      go_wp2_with fail
      go_ret2
      exact ⟨ret_ib ((wrap_byte _).trans (by first | rfl | decide)) rfl, rfl⟩
    · have hk : ∀ w, Calls Tryd.prog 84 #[.string (lit [110, 116, 114, 102, 118, 97, 98]), .int .u8 97] w fun e w' => e = .returned (.int .i64 5) ∧ w' = w := fun w => by
        have := hI 97 w
        rw [show Lib.indexByte (lit [110, 116, 114, 102, 118, 97, 98]).data.toList (97 : Int).toNat.toUInt8 = 5 from by decide] at this
        exact this
      have HK := hide hk
      clear hk hI
      go_enter Tryd.func78, Tryd.ntmps78
      go_wp2_with fail
      refine (unhide HK _).mono ?_
      rintro e w' ⟨rfl, hw⟩
      obtain rfl := hw.symm
      go_wp2_with fail
      go_ret2
      exact ⟨ret_ib ((wrap_byte _).trans (by first | rfl | decide)) rfl, rfl⟩
    · have hk : ∀ w, Calls Tryd.prog 84 #[.string (lit [110, 116, 114, 102, 118, 97, 98]), .int .u8 98] w fun e w' => e = .returned (.int .i64 6) ∧ w' = w := fun w => by
        have := hI 98 w
        rw [show Lib.indexByte (lit [110, 116, 114, 102, 118, 97, 98]).data.toList (98 : Int).toNat.toUInt8 = 6 from by decide] at this
        exact this
      have HK := hide hk
      clear hk hI
      go_enter Tryd.func78, Tryd.ntmps78
      go_wp2_with fail
      refine (unhide HK _).mono ?_
      rintro e w' ⟨rfl, hw⟩
      obtain rfl := hw.symm
      go_wp2_with fail
      go_ret2
      exact ⟨ret_ib ((wrap_byte _).trans (by first | rfl | decide)) rfl, rfl⟩
  · have hn := index_none c h0 (by omega)
    have hI' := fun w => hI (min c 255) w
    simp only [hn] at hI'
    have hs : singleF c = if isLet c = true then none else some c := by
      unfold singleF
      rw [if_neg (by omega), if_neg (by omega), if_neg (by omega), if_neg (by omega), if_neg (by omega), if_neg (by omega), if_neg (by omega)]
    have hv : singleV c = .tuple #[.int .i64 c, .bool (!isLet c)] := by
      unfold singleV
      rw [hs]
      cases hl : isLet c <;> simp
    rw [hv]
    obtain ⟨L, hL⟩ : ∃ L, (!isLet c) = L := ⟨_, rfl⟩
    rw [hL]
    have HL := hide hL
    have HI := hide hI'
    clear hI hI' hs hc hn hv hL
    go_enter Tryd.func78, Tryd.ntmps78
    go_wp2_with fail
    refine (unhide HI _).mono ?_
    rintro e w' ⟨rfl, hw⟩
    obtain rfl := hw.symm
    go_wp2_with fail
    all_goals
      go_ret2
      refine ⟨ret_ib rfl ?_, rfl⟩
      rw [← unhide HL]
      clear HL HI
      rw [Bool.eq_iff_iff]
      simp_all [isLet] <;> omega

/-- A set that was laid just now. -/
def NewSet (w w' : World) (e : Ending) (l : List (Int × Int)) : Prop := ∃ b, e = .returned (.slice (some ⟨b, 0, none⟩) l.length l.length) ∧ w.heap.size ≤ b ∧ SetAt (fun k => w.heap.size ≤ k) w' (.slice (some ⟨b, 0, none⟩) l.length l.length) l ∧ Below w.heap.size w w'

/-- A block of ranges is a set. -/
def rangeCells : List (Int × Int) → List Value
  | [] => []
  | r :: l => .int .i64 r.1 :: .int .i64 r.2 :: rangeCells l
theorem rangeCells_get : ∀ (l : List (Int × Int)) (i : Nat) (x : Int × Int), l[i]? = some x → (rangeCells l)[i * 2]? = some (.int .i64 x.1) ∧ (rangeCells l)[i * 2 + 1]? = some (.int .i64 x.2)
  | [], i, x, h => by simp at h
  | r :: l, 0, x, h => by
    simp at h; subst h
    simp [rangeCells]
  | r :: l, i + 1, x, h => by
    have := rangeCells_get l i x (by simpa using h)
    rw [show (i + 1) * 2 = i * 2 + 1 + 1 by omega, show i * 2 + 1 + 1 + 1 = (i * 2 + 1) + 1 + 1 by omega]
    simp only [rangeCells, List.getElem?_cons_succ]
    exact this
theorem set_of_block {ok : Nat → Prop} {W : World} {b c : Nat} {t : TypeId} {l : List (Int × Int)} (h : W.heap[b]? = some (.cells (rangeCells l).toArray t (0, 0))) (hb : ok b) (hc : l.length ≤ c) (hc2 : c ≤ 1000000) : SetAt ok W (.slice (some ⟨b, 0, none⟩) l.length c) l := by
  refine ⟨_, _, rfl, hc, by omega, .inr ⟨b, 0, rfl, hb, fun i x hx => ?_⟩⟩
  obtain ⟨h1, h2⟩ := rangeCells_get l i x hx
  rw [cell_of_row W b _ _ t (0, 0) h, cell_of_row W b _ _ t (0, 0) h]
  simpa using ⟨h1, h2⟩

set_option maxHeartbeats 4000000 in
theorem word_calls (w : World) : Calls Tryd.prog 76 #[] w fun e w' => NewSet w w' e wordS := by
  go_enter Tryd.func76, Tryd.ntmps76
  go_wp2_with fail
  go_ret
  exact ⟨w.heap.size, rfl, Nat.le_refl _, set_of_block (l := wordS) (t := 65) (heap_alloc_new w _) (Nat.le_refl _) (by decide) (by decide), (by repeat (first | exact Below.refl _ _ | assumption | refine below_drewN ?_ _ | refine Below.drew ?_ | refine below_alloc' ?_ _))⟩
set_option maxHeartbeats 4000000 in
theorem space_calls (w : World) : Calls Tryd.prog 77 #[] w fun e w' => NewSet w w' e spaceS := by
  go_enter Tryd.func77, Tryd.ntmps77
  go_wp2_with fail
  go_ret
  exact ⟨w.heap.size, rfl, Nat.le_refl _, set_of_block (l := spaceS) (t := 65) (heap_alloc_new w _) (Nat.le_refl _) (by decide) (by decide), (by repeat (first | exact Below.refl _ _ | assumption | refine below_drewN ?_ _ | refine Below.drew ?_ | refine below_alloc' ?_ _))⟩

theorem lit_of {n : ByteArray} {l : List UInt8} (h : (n.toList == l) = true) : n = lit l := by
  have := eq_of_beq h
  rw [ByteArray.toList_eq] at this
  apply ByteArray.ext
  apply Array.toList_inj.1
  rw [this]
  rfl
theorem not_lit {n : ByteArray} {l : List UInt8} (h : ¬ (n.toList == l) = true) : ¬ n = lit l := by
  rintro rfl
  apply h
  rw [ByteArray.toList_eq]
  simp [lit]

theorem class_alpha : classF (lit [97, 108, 112, 104, 97]) = some [(65, 90), (97, 122)] := by decide
theorem class_digit : classF (lit [100, 105, 103, 105, 116]) = some [(48, 57)] := by decide
theorem class_alnum : classF (lit [97, 108, 110, 117, 109]) = some [(48, 57), (65, 90), (97, 122)] := by decide
theorem class_upper : classF (lit [117, 112, 112, 101, 114]) = some [(65, 90)] := by decide
theorem class_lower : classF (lit [108, 111, 119, 101, 114]) = some [(97, 122)] := by decide
theorem class_space : classF (lit [115, 112, 97, 99, 101]) = some [(9, 13), (32, 32)] := by decide
theorem class_blank : classF (lit [98, 108, 97, 110, 107]) = some [(9, 9), (32, 32)] := by decide
theorem class_punct : classF (lit [112, 117, 110, 99, 116]) = some [(33, 47), (58, 64), (91, 96), (123, 126)] := by decide
theorem class_print : classF (lit [112, 114, 105, 110, 116]) = some [(32, 126)] := by decide
theorem class_graph : classF (lit [103, 114, 97, 112, 104]) = some [(33, 126)] := by decide
theorem class_cntrl : classF (lit [99, 110, 116, 114, 108]) = some [(0, 31), (127, 127)] := by decide
theorem class_xdigit : classF (lit [120, 100, 105, 103, 105, 116]) = some [(48, 57), (65, 70), (97, 102)] := by decide
theorem new_fourth (w : World) (a b c d : Obj) : ((((w.alloc a).alloc b).alloc c).alloc d).heap[w.heap.size + 1 + 1 + 1]? = some d := by
  have h : (((w.alloc a).alloc b).alloc c).heap.size = w.heap.size + 1 + 1 + 1 := by simp
  have := heap_alloc_new (((w.alloc a).alloc b).alloc c) d
  rw [h] at this
  exact this

def ClassPost (w w' : World) (e : Ending) : Option (List (Int × Int)) → Prop
  | none => e = .returned (.slice none 0 0) ∧ Below w.heap.size w w'
  | some l => NewSet w w' e l

set_option maxRecDepth 100000 in
set_option maxHeartbeats 16000000 in
theorem class_calls (n : ByteArray) (w : World) : Calls Tryd.prog 80 #[.string n] w fun e w' => ClassPost w w' e (classF n) := by
  obtain ⟨C, hC⟩ : ∃ C, classF n = C := ⟨_, rfl⟩
  rw [hC]
  have HC := hide hC
  have HSP := hide space_calls
  clear hC
  go_enter Tryd.func80, Tryd.ntmps80
  go_wp2_with fail
  · have hn := lit_of (by assumption)
    subst hn
    rw [class_alpha] at HC
    obtain rfl := unhide HC
    go_ret
    exact ⟨w.heap.size + 1 + 1 + 1, rfl, by omega, set_of_block (l := [(65, 90), (97, 122)]) (t := 65) (new_fourth _ _ _ _ _) (by omega) (by decide) (by decide), (by repeat (first | exact Below.refl _ _ | assumption | refine below_drewN ?_ _ | refine Below.drew ?_ | refine below_alloc' ?_ _))⟩
  · have hn := lit_of (by assumption)
    subst hn
    rw [class_digit] at HC
    obtain rfl := unhide HC
    go_ret
    exact ⟨w.heap.size + 1 + 1 + 1, rfl, by omega, set_of_block (l := [(48, 57)]) (t := 65) (new_fourth _ _ _ _ _) (by omega) (by decide) (by decide), (by repeat (first | exact Below.refl _ _ | assumption | refine below_drewN ?_ _ | refine Below.drew ?_ | refine below_alloc' ?_ _))⟩
  · have hn := lit_of (by assumption)
    subst hn
    rw [class_alnum] at HC
    obtain rfl := unhide HC
    go_ret
    exact ⟨w.heap.size + 1 + 1 + 1, rfl, by omega, set_of_block (l := [(48, 57), (65, 90), (97, 122)]) (t := 65) (new_fourth _ _ _ _ _) (by omega) (by decide) (by decide), (by repeat (first | exact Below.refl _ _ | assumption | refine below_drewN ?_ _ | refine Below.drew ?_ | refine below_alloc' ?_ _))⟩
  · have hn := lit_of (by assumption)
    subst hn
    rw [class_upper] at HC
    obtain rfl := unhide HC
    go_ret
    exact ⟨w.heap.size + 1 + 1 + 1, rfl, by omega, set_of_block (l := [(65, 90)]) (t := 65) (new_fourth _ _ _ _ _) (by omega) (by decide) (by decide), (by repeat (first | exact Below.refl _ _ | assumption | refine below_drewN ?_ _ | refine Below.drew ?_ | refine below_alloc' ?_ _))⟩
  · have hn := lit_of (by assumption)
    subst hn
    rw [class_lower] at HC
    obtain rfl := unhide HC
    go_ret
    exact ⟨w.heap.size + 1 + 1 + 1, rfl, by omega, set_of_block (l := [(97, 122)]) (t := 65) (new_fourth _ _ _ _ _) (by omega) (by decide) (by decide), (by repeat (first | exact Below.refl _ _ | assumption | refine below_drewN ?_ _ | refine Below.drew ?_ | refine below_alloc' ?_ _))⟩
  · have hn := lit_of (by assumption)
    subst hn
    rw [class_space] at HC
    obtain rfl := unhide HC
    refine (unhide HSP _).mono ?_
    rintro e w1 ⟨b, rfl, hb, hs, hb1⟩
    go_wp2_with fail
    go_ret
    simp at hb
    exact ⟨b, rfl, by omega, hs.mono (fun k hk => by simp at hk; omega), below_then (by repeat (first | exact Below.refl _ _ | assumption | refine below_drewN ?_ _ | refine Below.drew ?_ | refine below_alloc' ?_ _)) hb1⟩
  · have hn := lit_of (by assumption)
    subst hn
    rw [class_blank] at HC
    obtain rfl := unhide HC
    go_ret
    exact ⟨w.heap.size + 1 + 1 + 1, rfl, by omega, set_of_block (l := [(9, 9), (32, 32)]) (t := 65) (new_fourth _ _ _ _ _) (by omega) (by decide) (by decide), (by repeat (first | exact Below.refl _ _ | assumption | refine below_drewN ?_ _ | refine Below.drew ?_ | refine below_alloc' ?_ _))⟩
  · have hn := lit_of (by assumption)
    subst hn
    rw [class_punct] at HC
    obtain rfl := unhide HC
    go_ret
    exact ⟨w.heap.size + 1 + 1 + 1, rfl, by omega, set_of_block (l := [(33, 47), (58, 64), (91, 96), (123, 126)]) (t := 65) (new_fourth _ _ _ _ _) (by omega) (by decide) (by decide), (by repeat (first | exact Below.refl _ _ | assumption | refine below_drewN ?_ _ | refine Below.drew ?_ | refine below_alloc' ?_ _))⟩
  · have hn := lit_of (by assumption)
    subst hn
    rw [class_print] at HC
    obtain rfl := unhide HC
    go_ret
    exact ⟨w.heap.size + 1 + 1 + 1, rfl, by omega, set_of_block (l := [(32, 126)]) (t := 65) (new_fourth _ _ _ _ _) (by omega) (by decide) (by decide), (by repeat (first | exact Below.refl _ _ | assumption | refine below_drewN ?_ _ | refine Below.drew ?_ | refine below_alloc' ?_ _))⟩
  · have hn := lit_of (by assumption)
    subst hn
    rw [class_graph] at HC
    obtain rfl := unhide HC
    go_ret
    exact ⟨w.heap.size + 1 + 1 + 1, rfl, by omega, set_of_block (l := [(33, 126)]) (t := 65) (new_fourth _ _ _ _ _) (by omega) (by decide) (by decide), (by repeat (first | exact Below.refl _ _ | assumption | refine below_drewN ?_ _ | refine Below.drew ?_ | refine below_alloc' ?_ _))⟩
  · have hn := lit_of (by assumption)
    subst hn
    rw [class_cntrl] at HC
    obtain rfl := unhide HC
    go_ret
    exact ⟨w.heap.size + 1 + 1 + 1, rfl, by omega, set_of_block (l := [(0, 31), (127, 127)]) (t := 65) (new_fourth _ _ _ _ _) (by omega) (by decide) (by decide), (by repeat (first | exact Below.refl _ _ | assumption | refine below_drewN ?_ _ | refine Below.drew ?_ | refine below_alloc' ?_ _))⟩
  · have hn := lit_of (by assumption)
    subst hn
    rw [class_xdigit] at HC
    obtain rfl := unhide HC
    go_ret
    exact ⟨w.heap.size + 1 + 1 + 1, rfl, by omega, set_of_block (l := [(48, 57), (65, 70), (97, 102)]) (t := 65) (new_fourth _ _ _ _ _) (by omega) (by decide) (by decide), (by repeat (first | exact Below.refl _ _ | assumption | refine below_drewN ?_ _ | refine Below.drew ?_ | refine below_alloc' ?_ _))⟩
  · obtain rfl : C = none := by
      rw [← unhide HC]
      simp only [classF, classTab, lookF]
      repeat rw [if_neg (not_lit (by simp [*]))]
    go_ret
    exact ⟨rfl, (by repeat (first | exact Below.refl _ _ | assumption | refine below_drewN ?_ _ | refine Below.drew ?_ | refine below_alloc' ?_ _))⟩
end Go.Proofs.YtanmlgliibgpcaaDoor
