/- The walk of repeat. -/
import Derived.Test.YtanmlgliibgpcaaDoorNfaI
namespace Go.Proofs.YtanmlgliibgpcaaDoor
open Go.RowKit Thr
set_option linter.unusedVariables false
set_option linter.unusedSimpArgs false

theorem MkP.put {w : World} {base bp : Nat} {fold bytes : Bool} {I : List Inst} {vI : Value} (h : MkP w base bp fold bytes I vI) {n : Nat} (hn : n < I.length) (c : Int) :
    ∃ g cap u, vI = .slice (some ⟨g, 0, none⟩) I.length cap ∧ g ≠ bp ∧ g < w.heap.size ∧ w.cell? ⟨g, n * 10 + 8, none⟩ = some (.int .i64 u) ∧ w.frozen? ⟨g, n * 10 + 8, none⟩ = false ∧
      MkP (w.setCell ⟨g, n * 10 + 8, none⟩ (.int .i64 c)) base bp fold bytes (setX I n c) vI := by
  obtain ⟨xs, ho, hr⟩ := h.own
  have hne := h.ne
  rcases ho with ⟨hl, ⟨rfl, h0⟩ | ⟨g, cap, cur, rfl, hg, hh, hc1, hc2, hc3, hc4⟩⟩
  · omega
  have hgb : g ≠ bp := by rintro rfl; exact hne rfl
  obtain ⟨q, hq⟩ : ∃ q, I[n]? = some q := ⟨_, List.getElem?_eq_getElem hn⟩
  obtain ⟨cs, ht, hc⟩ := hr.2 n q hq
  have h8 := hc 8 (.int .i64 q.x) (by simp [instVals, List.getElem?_append, ht.len])
  have hsz : n * 10 + 8 < cur.size := by rw [hc3]; omega
  refine ⟨g, cap, q.x, rfl, hgb, (Array.getElem?_eq_some_iff.1 hh).1, ?_, by simp [World.frozen?, hh], ?_⟩
  · rw [cell_of_row w g _ cur _ (0, 0) hh, ← Array.getElem?_toList, ← h8, ← hc4, List.getElem?_take, if_pos (by omega)]
  · refine ⟨h.row.far (Ne.symm hgb) _, ⟨xs.set (n * 10 + 8) (.int .i64 c), ⟨?_, .inr ⟨g, cap, cur.setIfInBounds (n * 10 + 8) (.int .i64 c), ?_, hg, ?_, ?_, hc2, by simpa using hc3, ?_⟩⟩, ?_⟩, h.lt⟩
    · rw [List.length_set, setX_len]; exact hl
    · rw [setX_len]
    · exact Blk.set_ (w := w) hh _ _
    · rw [setX_len]; exact hc1
    · rw [setX_len, Array.toList_setIfInBounds, List.take_set, hc4]
    · exact (hr.put hn c).step (fun k hk hkl => Below.heap_setCell _ _ _ k (by simp only; omega))

theorem make_rep_eq (code : Int) (neg : Bool) (set : List (Int × Int)) (mn mx : Int) (k : Rx) (next : Int) (I : List Inst) : make (.mk 7 code neg set mn mx [k]) next I =
    timesF (make k) mn.toNat (optF (make k) (mx - mn).toNat (if mx < 0 then starF (make k) next I else (next, I)).1 (if mx < 0 then starF (make k) next I else (next, I)).2).1 (optF (make k) (mx - mn).toNat (if mx < 0 then starF (make k) next I else (next, I)).1 (if mx < 0 then starF (make k) next I else (next, I)).2).2 := by
  have e : (fun n J => makeHd [k] n J) = make k := by funext n J; simp [makeHd]
  simp only [make, if_neg (show ¬ (7 : Int) = 1 by omega), if_neg (show ¬ ((7 : Int) = 2 ∨ (7 : Int) = 3 ∨ (7 : Int) = 4) by omega), if_neg (show ¬ (7 : Int) = 5 by omega), if_neg (show ¬ (7 : Int) = 6 by omega), if_true, e]

theorem opt_in {k : Rx} (hk : Makes k) (m : Nat) {next : Int} {I : List Inst} (h0 : 0 ≤ next) (h1 : next < I.length) :
    0 ≤ (optF (make k) m next I).1 ∧ (optF (make k) m next I).1 < (optF (make k) m next I).2.length ∧ I.length ≤ (optF (make k) m next I).2.length := by
  have := opt_made (K := fun J => Frag J k) (F := make k) (fun n J a b => make_made k n J hk a b) m next I h0 h1
  exact ⟨this.start.1, this.start.2, this.len⟩
theorem times_in {k : Rx} (hk : Makes k) (m : Nat) {next : Int} {I : List Inst} (h0 : 0 ≤ next) (h1 : next < I.length) :
    0 ≤ (timesF (make k) m next I).1 ∧ (timesF (make k) m next I).1 < (timesF (make k) m next I).2.length ∧ I.length ≤ (timesF (make k) m next I).2.length := by
  have := times_made (K := fun J => Frag J k) (F := make k) (fun n J a b => make_made k n J hk a b) m next I h0 h1
  exact ⟨this.start.1, this.start.2, this.len⟩
theorem star_in {k : Rx} (hk : Makes k) {next : Int} {I : List Inst} (h0 : 0 ≤ next) (h1 : next < I.length) :
    0 ≤ (starF (make k) next I).1 ∧ (starF (make k) next I).1 < (starF (make k) next I).2.length ∧ I.length ≤ (starF (make k) next I).2.length := by
  have := star_made (K := fun J => Frag J k) (F := make k) (fun n J a b => make_made k n J hk a b) next I h0 h1
  exact ⟨this.start.1, this.start.2, this.len⟩
theorem TreeAt.form {ok : Nat → Prop} {W : World} {t : Rx} {cs : List Value} (h : TreeAt ok W t cs) : ∃ (kind code : Int) (neg : Bool) (As : Option Addr) (ls cs' : Nat) (mn mx : Int) (A : Option Addr) (lk cc : Nat), cs = [.int .i64 kind, .int .i64 code, .bool neg, .slice As ls cs', .int .i64 mn, .int .i64 mx, .slice A lk cc] := by
  obtain ⟨kind, code, neg, set, mn, mx, kids⟩ := t
  simp only [TreeAt] at h
  obtain ⟨vs, A, cc, rfl, ⟨As, cs', rfl, -⟩, -⟩ := h
  exact ⟨_, _, _, _, _, _, _, _, _, _, _, rfl⟩

/-REP-/
set_option maxRecDepth 100000 in
set_option maxHeartbeats 16000000 in
theorem repeat_calls (code : Int) (neg : Bool) (set : List (Int × Int)) (mn mx : Int) (kid : Rx) (hok : MakeOK kid) (hmk : Makes kid) (hmn : 0 ≤ mn) (hmx : -1 ≤ mx) (hmx1 : mx ≤ 1000) (hmn1 : mn ≤ 1000) (next : Int) (I : List Inst) (vI : Value) (w : World) (base bp : Nat) (fold bytes : Bool) (cs : List Value)
    (hP : MkP w base bp fold bytes I vI) (ht : TreeAt (fun k => k < base) w (.mk 7 code neg set mn mx [kid]) cs) (h0 : 0 ≤ next) (h1 : next < I.length) (hl : (make (.mk 7 code neg set mn mx [kid]) next I).2.length ≤ 1000) :
    Calls Tryd.prog 26 #[.pointer (some ⟨bp, 0, none⟩), .agg cs.toArray, .int .i64 next] w fun e w' => e = .returned (.int .i64 (make (.mk 7 code neg set mn mx [kid]) next I).1) ∧ ∃ vI', MkP w' base bp fold bytes (make (.mk 7 code neg set mn mx [kid]) next I).2 vI' ∧ Keeps (TurnP bp vI) w w' ∧ At w vI vI' := by
  rw [make_rep_eq] at hl ⊢
  obtain ⟨R0, hR0⟩ : ∃ R0, (if mx < 0 then starF (make kid) next I else (next, I)) = R0 := ⟨_, rfl⟩
  rw [hR0] at hl ⊢
  obtain ⟨R1, hR1⟩ : ∃ R1, optF (make kid) (mx - mn).toNat R0.1 R0.2 = R1 := ⟨_, rfl⟩
  rw [hR1] at hl ⊢
  obtain ⟨R, hRR⟩ : ∃ R, timesF (make kid) mn.toNat R1.1 R1.2 = R := ⟨_, rfl⟩
  rw [hRR] at hl ⊢
  have hR0in : 0 ≤ R0.1 ∧ R0.1 < R0.2.length ∧ I.length ≤ R0.2.length := by
    rw [← hR0]
    split
    · exact star_in hmk h0 h1
    · exact ⟨h0, h1, Nat.le_refl _⟩
  have hR1in := opt_in hmk (mx - mn).toNat hR0in.1 hR0in.2.1
  rw [hR1] at hR1in
  have hRin := times_in hmk mn.toNat hR1in.1 hR1in.2.1
  rw [hRR] at hRin
  simp only [TreeAt] at ht
  obtain ⟨vs, A, cc, rfl, ⟨As, cs', rfl, -⟩, hc1, hc2, hkids⟩ := ht
  obtain ⟨b, o, rfl, hb, csk, htk, hck⟩ := kid_cells hkids 0 (by simp)
  simp only [List.getElem_cons_zero] at htk
  have HP := hide hP; have HOK := hide hok; have HMK := hide hmk; have HRR := hide hRR; have HR1 := hide hR1
  have hbp := hP.bp_lt
  have hbb := hP.lt
  clear hP hok hRR hR1 hkids
  have htk0 := htk
  obtain ⟨kind', code', neg', As', ls', cs'', mn', mx', A', lk', cc', rfl⟩ := htk.form
  have hbl : b < w.heap.size := by omega
  have e0 := hck 0 _ rfl
  have e1 := hck 1 _ rfl
  have e2 := hck 2 _ rfl
  have e3 := hck 3 _ rfl
  have e4 := hck 4 _ rfl
  have e5 := hck 5 _ rfl
  have e6 := hck 6 _ rfl
  simp at e0 e1 e2 e3 e4 e5 e6
  have hfr : ∀ wr, Keeps (TurnP bp vI) ((w.alloc (.cells #[.int .i64 7, .int .i64 code, .bool neg, .slice As set.length cs', .int .i64 mn, .int .i64 mx, .slice (some ⟨b, o, none⟩) 1 cc] 26)).alloc (.cells #[.int .i64 kind', .int .i64 code', .bool neg', .slice As' ls' cs'', .int .i64 mn', .int .i64 mx', .slice A' lk' cc'] 26)) wr → wr.cell? ⟨w.heap.size, 4, none⟩ = some (.int .i64 mn) ∧ wr.cell? ⟨w.heap.size, 5, none⟩ = some (.int .i64 mx) ∧ wr.cell? ⟨w.heap.size + 1, 0, none⟩ = some (.int .i64 kind') ∧ wr.cell? ⟨w.heap.size + 1, 1, none⟩ = some (.int .i64 code') ∧
      wr.cell? ⟨w.heap.size + 1, 2, none⟩ = some (.bool neg') ∧ wr.cell? ⟨w.heap.size + 1, 3, none⟩ = some (.slice As' ls' cs'') ∧ wr.cell? ⟨w.heap.size + 1, 4, none⟩ = some (.int .i64 mn') ∧ wr.cell? ⟨w.heap.size + 1, 5, none⟩ = some (.int .i64 mx') ∧ wr.cell? ⟨w.heap.size + 1, 6, none⟩ = some (.slice A' lk' cc') ∧ w.heap.size + 1 < wr.heap.size := by
    intro wr hK
    have k0 : ∀ j, wr.cell? ⟨w.heap.size, j, none⟩ = ((w.alloc (.cells #[.int .i64 7, .int .i64 code, .bool neg, .slice As set.length cs', .int .i64 mn, .int .i64 mx, .slice (some ⟨b, o, none⟩) 1 cc] 26)).alloc (.cells #[.int .i64 kind', .int .i64 code', .bool neg', .slice As' ls' cs'', .int .i64 mn', .int .i64 mx', .slice A' lk' cc'] 26)).cell? ⟨w.heap.size, j, none⟩ := fun j => hK.cell (by simp; omega) ((unhide HP).new_not (Nat.le_refl _))
    have k1 : ∀ j, wr.cell? ⟨w.heap.size + 1, j, none⟩ = ((w.alloc (.cells #[.int .i64 7, .int .i64 code, .bool neg, .slice As set.length cs', .int .i64 mn, .int .i64 mx, .slice (some ⟨b, o, none⟩) 1 cc] 26)).alloc (.cells #[.int .i64 kind', .int .i64 code', .bool neg', .slice As' ls' cs'', .int .i64 mn', .int .i64 mx', .slice A' lk' cc'] 26)).cell? ⟨w.heap.size + 1, j, none⟩ := fun j => hK.cell (by simp) ((unhide HP).new_not (by omega))
    have hs := hK.size
    refine ⟨(k0 4).trans (by go_simp), (k0 5).trans (by go_simp), (k1 0).trans (by go_simp), (k1 1).trans (by go_simp), (k1 2).trans (by go_simp), (k1 3).trans (by go_simp), (k1 4).trans (by go_simp), (k1 5).trans (by go_simp), (k1 6).trans (by go_simp), by simp at hs; omega⟩
  have htr : ∀ wr, Keeps (TurnP bp vI) ((w.alloc (.cells #[.int .i64 7, .int .i64 code, .bool neg, .slice As set.length cs', .int .i64 mn, .int .i64 mx, .slice (some ⟨b, o, none⟩) 1 cc] 26)).alloc (.cells #[.int .i64 kind', .int .i64 code', .bool neg', .slice As' ls' cs'', .int .i64 mn', .int .i64 mx', .slice A' lk' cc'] 26)) wr → TreeAt (fun k => k < base) wr kid [.int .i64 kind', .int .i64 code', .bool neg', .slice As' ls' cs'', .int .i64 mn', .int .i64 mx', .slice A' lk' cc'] := by
    intro wr hK
    exact (((htk.more (fun k _ hk => Below.heap_alloc w _ k hk)).more (fun k hk1 hk => Below.heap_alloc _ _ k hk)).more fun k hk1 hk2 => hK.block k hk2 ((unhide HP).old_not hk1))
  have HFR := hide hfr; have HTR := hide htr
  clear hfr htr hck htk htk0
  by_cases hs : mx < 0
  · have hs' : decide (mx < 0) = true := by simpa using hs
    rw [if_pos hs] at hR0
    have e00 : (mx - mn).toNat = 0 := by omega
    have hR1b := unhide HR1
    rw [e00] at hR1b
    simp only [optF] at hR1b
    have hst := make_made kid I.length (I ++ [⟨2, noNode, 0, next⟩]) hmk (by omega) (by simp; omega)
    have hst0 := hst.start
    have hst1 := hst.len
    simp only [starF] at hR0
    have hln : (make kid I.length (I ++ [⟨2, noNode, 0, next⟩])).2.length = R0.2.length := by rw [← hR0]; simp only [setX_len]
    have hR0' := hR0
    simp at hst1
    have HR0 := hide hR0
    clear hR0 hR0' hst
    go_enter Tryd.func26, Tryd.ntmps26
    go_wp2_with fail
    refine (add_calls ⟨2, noNode, 0, next⟩ _ _ (((unhide HP).alloc _).alloc _) (no_tree _ _) (by omega)).mono ?_
    rintro e w1 ⟨rfl, vI1, hP1, hK1, hA1⟩
    obtain ⟨c4, c5, d0, d1, d2, d3, d4, d5, d6, hsz⟩ := (unhide HFR) w1 hK1
    have HTW := hide ((unhide HTR) w1 hK1)
    have HP1 := hide hP1; have HK1 := hide hK1; have HA1 := hide hA1
    clear hP1 hK1 hA1
    go_wp2_with fail
    refine ((unhide HOK) _ _ vI1 _ base bp fold bytes _ (unhide HP1) (unhide HTW) (by omega) (by simp; omega) (by omega)).mono ?_
    rintro e w2 ⟨rfl, vI2, hP2, hK2, hA2⟩
    have hK4 := (unhide HK1).trans hK2 (fun k hk ht => Turnp.of_at (unhide HA1) k hk ht)
    have hA4 := At.trans (unhide HA1) hA2 (unhide HK1).size
    obtain ⟨g, cap, u, rfl, hgb, hgl, hg1, hg2, hP3⟩ := hP2.put (n := I.length) (by omega) (make kid I.length (I ++ [⟨2, noNode, 0, next⟩])).1
    have p2 : w2.cell? ⟨bp, 2, none⟩ = some (.slice (some ⟨g, 0, none⟩) (make kid I.length (I ++ [⟨2, noNode, 0, next⟩])).2.length cap) := (hP2.row.cell 2).trans (by simp)
    have hbp2 := hP2.bp_lt
    have hgn : ¬ g < base := fun h => hP2.old_not h (.inr rfl)
    have hgT : TurnP bp vI g ∨ ((w.alloc (.cells #[.int .i64 7, .int .i64 code, .bool neg, .slice As set.length cs', .int .i64 mn, .int .i64 mx, .slice (some ⟨b, o, none⟩) 1 cc] 26)).alloc (.cells #[.int .i64 kind', .int .i64 code', .bool neg', .slice As' ls' cs'', .int .i64 mn', .int .i64 mx', .slice A' lk' cc'] 26)).heap.size ≤ g := by
      rcases hA4 with h | ⟨g', h, hg'⟩
      · exact .inl (.inr (by rw [← h]; rfl))
      · exact .inr (by have : g = g' := by simpa [Value.ownBlock] using h
                       omega)
    have hK5 : Keeps (TurnP bp vI) ((w.alloc (.cells #[.int .i64 7, .int .i64 code, .bool neg, .slice As set.length cs', .int .i64 mn, .int .i64 mx, .slice (some ⟨b, o, none⟩) 1 cc] 26)).alloc (.cells #[.int .i64 kind', .int .i64 code', .bool neg', .slice As' ls' cs'', .int .i64 mn', .int .i64 mx', .slice A' lk' cc'] 26)) (w2.setCell ⟨g, I.length * 10 + 8, none⟩ (.int .i64 (make kid I.length (I ++ [⟨2, noNode, 0, next⟩])).1)) := hK4.setCell hgT _
    obtain ⟨q4, q5, q0⟩ := (unhide HFR) _ hK5
    have e0R := unhide HR0
    have hfin : setX (make kid I.length (I ++ [⟨2, noNode, 0, next⟩])).2 I.length (make kid I.length (I ++ [⟨2, noNode, 0, next⟩])).1 = R0.2 := by rw [← e0R]
    have hfi2 : (I.length : Int) = R0.1 := by rw [← e0R]
    rw [hfin] at hP3
    have HP3 := hide hP3; have HK5 := hide hK5; have HA4 := hide hA4; have HFI := hide hfi2
    clear hfi2 hP2 hK2 hA2 hK4 hP3 hK5 hA4 hgT q0 e0R hfin
    go_wp2_with fail
    go_loopw [2, 10] (fun next_ i_ wr => ∃ (i cur : Int) (J : List Inst) (vI' : Value), i_ = .int .i64 i ∧ next_ = .int .i64 cur ∧ i ≤ mx ∧ -1 ≤ i ∧ 0 ≤ cur ∧ cur < J.length ∧ Hid (optF (make kid) (i - mn).toNat cur J = R1) ∧ Hid (MkP wr base bp fold bytes J vI') ∧ Hid (Keeps (TurnP bp vI) ((w.alloc (.cells #[.int .i64 7, .int .i64 code, .bool neg, .slice As set.length cs', .int .i64 mn, .int .i64 mx, .slice (some ⟨b, o, none⟩) 1 cc] 26)).alloc (.cells #[.int .i64 kind', .int .i64 code', .bool neg', .slice As' ls' cs'', .int .i64 mn', .int .i64 mx', .slice A' lk' cc'] 26)) wr) ∧ Hid (At ((w.alloc (.cells #[.int .i64 7, .int .i64 code, .bool neg, .slice As set.length cs', .int .i64 mn, .int .i64 mx, .slice (some ⟨b, o, none⟩) 1 cc] 26)).alloc (.cells #[.int .i64 kind', .int .i64 code', .bool neg', .slice As' ls' cs'', .int .i64 mn', .int .i64 mx', .slice A' lk' cc'] 26)) vI vI'))
      (fun _ i_ _ => (intOf i_ - mn).toNat)
    case atStart => exact ⟨mx, I.length, R0.2, _, rfl, rfl, Int.le_refl _, hmx, by omega, by have := unhide HFI; omega, hide (by have := unhide HR1; rw [← unhide HFI] at this; exact this), HP3, HK5, HA4⟩
    case round =>
      clear HP3 HK5 HA4 HP1 HK1 HA1 q4 q5 c4 c5 d0 d1 d2 d3 d4 d5 d6 hsz p2 hg1 hg2 HTW
      obtain ⟨i, cur, J, vI', rfl, rfl, hi1, hi2, hc0, hc1, HR, HP1, HK1, HA1⟩ := hrel
      have hb1 := (opt_in (unhide HMK) (i - mn).toNat hc0 hc1).2.2
      rw [unhide HR] at hb1
      obtain ⟨c4, c5, d0, d1, d2, d3, d4, d5, d6, hsz⟩ := (unhide HFR) wr (unhide HK1)
      have htw := (unhide HTR) wr (unhide HK1)
      have HTW := hide htw
      clear htw
      by_cases hgt : mn < i
      · exact absurd hgt (by omega)
      · have hz : (i - mn).toNat = 0 := by omega
        have hr := unhide HR
        rw [hz] at hr
        simp only [optF] at hr
        obtain rfl := hr
        clear HR hb1 hz
        go_wp2_with fail
        go_loopw [2, 53] (fun next_ c_ wr => ∃ (c : Nat) (cur : Int) (J : List Inst) (vI' : Value), c_ = .int .i64 c ∧ next_ = .int .i64 cur ∧ c ≤ mn ∧ 0 ≤ cur ∧ cur < J.length ∧ Hid (timesF (make kid) (mn.toNat - c) cur J = R) ∧ Hid (MkP wr base bp fold bytes J vI') ∧ Hid (Keeps (TurnP bp vI) ((w.alloc (.cells #[.int .i64 7, .int .i64 code, .bool neg, .slice As set.length cs', .int .i64 mn, .int .i64 mx, .slice (some ⟨b, o, none⟩) 1 cc] 26)).alloc (.cells #[.int .i64 kind', .int .i64 code', .bool neg', .slice As' ls' cs'', .int .i64 mn', .int .i64 mx', .slice A' lk' cc'] 26)) wr) ∧ Hid (At ((w.alloc (.cells #[.int .i64 7, .int .i64 code, .bool neg, .slice As set.length cs', .int .i64 mn, .int .i64 mx, .slice (some ⟨b, o, none⟩) 1 cc] 26)).alloc (.cells #[.int .i64 kind', .int .i64 code', .bool neg', .slice As' ls' cs'', .int .i64 mn', .int .i64 mx', .slice A' lk' cc'] 26)) vI vI'))
          (fun _ c_ _ => mn.toNat - (intOf c_).toNat)
        case atStart => exact ⟨0, cur, J, vI', rfl, rfl, by omega, hc0, hc1, hide (by rw [Nat.sub_zero]; exact unhide HRR), HP1, HK1, HA1⟩
        case round =>
          clear HP1 HK1 HA1 HTW c4 c5 d0 d1 d2 d3 d4 d5 d6 hsz HRR
          obtain ⟨c, cur, J, vI', rfl, rfl, hcm, hc0, hc1, HR, HP1, HK1, HA1⟩ := hrel
          have hb1 := (times_in (unhide HMK) (mn.toNat - c) hc0 hc1).2.2
          rw [unhide HR] at hb1
          obtain ⟨c4, c5, d0, d1, d2, d3, d4, d5, d6, hsz⟩ := (unhide HFR) wr (unhide HK1)
          have htw := (unhide HTR) wr (unhide HK1)
          have HTW := hide htw
          clear htw
          by_cases hlt : (c : Int) < mn
          · obtain ⟨d, hd⟩ : ∃ d : Nat, mn.toNat - c = d + 1 := ⟨mn.toNat - c - 1, by omega⟩
            have hr := unhide HR
            rw [hd] at hr
            simp only [timesF] at hr
            have hF := make_made kid cur J (unhide HMK) hc0 hc1
            have hf0 := hF.start
            have hfl := hF.len
            have hb2 := (times_in (unhide HMK) d hf0.1 hf0.2).2.2
            rw [hr] at hb2
            have HR' := hide hr
            clear hF hr
            go_wp2_with fail
            refine ((unhide HOK) _ _ vI' _ base bp fold bytes _ (unhide HP1) (unhide HTW) hc0 hc1 (by omega)).mono ?_
            rintro e w2 ⟨rfl, vI2, hP2, hK2, hA2⟩
            have hK4 := (unhide HK1).trans hK2 (fun k hk ht => Turnp.of_at (unhide HA1) k hk ht)
            have hA4 := At.trans (unhide HA1) hA2 (unhide HK1).size
            have HP2 := hide hP2; have HK4 := hide hK4; have HA4 := hide hA4
            clear hP2 hK2 hA2 hK4 hA4
            go_wp2_with fail
            go_roundw
            case rel =>
              refine ⟨c + 1, _, _, vI2, by go_num, rfl, by omega, hf0.1, hf0.2, ?_, HP2, HK4, HA4⟩
              rw [show mn.toNat - (c + 1) = d by omega]; exact HR'
            case measure => simp only [intOf]; omega
          · have hz : mn.toNat - c = 0 := by omega
            have hr := unhide HR
            rw [hz] at hr
            simp only [timesF] at hr
            obtain rfl := hr
            clear HR hb1 hz
            go_wp2_with fail
            go_ret
            exact ⟨rfl, vI', unhide HP1, (((Keeps.refl _ _).alloc _).alloc _).trans (unhide HK1) (fun _ _ h => h), At.later (unhide HA1) (by simp <;> omega)⟩
  · have hs' : decide (mx < 0) = false := by simpa using hs
    rw [if_neg hs] at hR0
    subst hR0
    obtain ⟨c4, c5, d0, d1, d2, d3, d4, d5, d6, hsz⟩ := (unhide HFR) _ (Keeps.refl _ _)
    have HPs := hide (((unhide HP).alloc (.cells #[.int .i64 7, .int .i64 code, .bool neg, .slice As set.length cs', .int .i64 mn, .int .i64 mx, .slice (some ⟨b, o, none⟩) 1 cc] 26)).alloc (.cells #[.int .i64 kind', .int .i64 code', .bool neg', .slice As' ls' cs'', .int .i64 mn', .int .i64 mx', .slice A' lk' cc'] 26))
    have HKs := hide (Keeps.refl (TurnP bp vI) ((w.alloc (.cells #[.int .i64 7, .int .i64 code, .bool neg, .slice As set.length cs', .int .i64 mn, .int .i64 mx, .slice (some ⟨b, o, none⟩) 1 cc] 26)).alloc (.cells #[.int .i64 kind', .int .i64 code', .bool neg', .slice As' ls' cs'', .int .i64 mn', .int .i64 mx', .slice A' lk' cc'] 26)))
    have HAs : Hid (At ((w.alloc (.cells #[.int .i64 7, .int .i64 code, .bool neg, .slice As set.length cs', .int .i64 mn, .int .i64 mx, .slice (some ⟨b, o, none⟩) 1 cc] 26)).alloc (.cells #[.int .i64 kind', .int .i64 code', .bool neg', .slice As' ls' cs'', .int .i64 mn', .int .i64 mx', .slice A' lk' cc'] 26)) vI vI) := .inl rfl
    go_enter Tryd.func26, Tryd.ntmps26
    go_wp2_with fail
    go_loopw [2, 10] (fun next_ i_ wr => ∃ (i cur : Int) (J : List Inst) (vI' : Value), i_ = .int .i64 i ∧ next_ = .int .i64 cur ∧ i ≤ mx ∧ -1 ≤ i ∧ 0 ≤ cur ∧ cur < J.length ∧ Hid (optF (make kid) (i - mn).toNat cur J = R1) ∧ Hid (MkP wr base bp fold bytes J vI') ∧ Hid (Keeps (TurnP bp vI) ((w.alloc (.cells #[.int .i64 7, .int .i64 code, .bool neg, .slice As set.length cs', .int .i64 mn, .int .i64 mx, .slice (some ⟨b, o, none⟩) 1 cc] 26)).alloc (.cells #[.int .i64 kind', .int .i64 code', .bool neg', .slice As' ls' cs'', .int .i64 mn', .int .i64 mx', .slice A' lk' cc'] 26)) wr) ∧ Hid (At ((w.alloc (.cells #[.int .i64 7, .int .i64 code, .bool neg, .slice As set.length cs', .int .i64 mn, .int .i64 mx, .slice (some ⟨b, o, none⟩) 1 cc] 26)).alloc (.cells #[.int .i64 kind', .int .i64 code', .bool neg', .slice As' ls' cs'', .int .i64 mn', .int .i64 mx', .slice A' lk' cc'] 26)) vI vI'))
      (fun _ i_ _ => (intOf i_ - mn).toNat)
    case atStart => exact ⟨mx, next, I, vI, rfl, rfl, Int.le_refl _, hmx, h0, h1, HR1, HPs, HKs, HAs⟩
    case round =>
      clear HPs HKs HAs c4 c5 d0 d1 d2 d3 d4 d5 d6 hsz
      obtain ⟨i, cur, J, vI', rfl, rfl, hi1, hi2, hc0, hc1, HR, HP1, HK1, HA1⟩ := hrel
      have hb1 := (opt_in (unhide HMK) (i - mn).toNat hc0 hc1).2.2
      rw [unhide HR] at hb1
      obtain ⟨c4, c5, d0, d1, d2, d3, d4, d5, d6, hsz⟩ := (unhide HFR) wr (unhide HK1)
      have htw := (unhide HTR) wr (unhide HK1)
      have HTW := hide htw
      clear htw
      by_cases hgt : mn < i
      · obtain ⟨d, hd⟩ : ∃ d : Nat, (i - mn).toNat = d + 1 := ⟨(i - mn).toNat - 1, by omega⟩
        have hr := unhide HR
        rw [hd] at hr
        simp only [optF] at hr
        have hF := make_made kid cur J (unhide HMK) hc0 hc1
        have hf0 := hF.start
        have hfl := hF.len
        have hb2 := (opt_in (unhide HMK) d (next := (make kid cur J).2.length) (I := (make kid cur J).2 ++ [⟨2, noNode, (make kid cur J).1, cur⟩]) (by omega) (by simp; omega)).2.2
        rw [hr] at hb2
        simp at hb2
        have HR' := hide hr
        clear hF hr
        go_wp2_with fail
        refine ((unhide HOK) _ _ vI' _ base bp fold bytes _ (unhide HP1) (unhide HTW) hc0 hc1 (by omega)).mono ?_
        rintro e w2 ⟨rfl, vI2, hP2, hK2, hA2⟩
        have HP2 := hide hP2; have HK2 := hide hK2; have HA2 := hide hA2
        clear hP2 hK2 hA2
        go_wp2_with fail
        refine (add_calls ⟨2, noNode, _, _⟩ _ _ (unhide HP2) (no_tree _ _) (by omega)).mono ?_
        rintro e w3 ⟨rfl, vI3, hP3, hK3, hA3⟩
        have hK4 := (unhide HK1).trans (unhide HK2) (fun k hk ht => Turnp.of_at (unhide HA1) k hk ht)
        have hA4 := At.trans (unhide HA1) (unhide HA2) (unhide HK1).size
        have hK5 := hK4.trans hK3 (fun k hk ht => Turnp.of_at hA4 k hk ht)
        have hA5 := At.trans hA4 hA3 hK4.size
        have HP3 := hide hP3; have HK5 := hide hK5; have HA5 := hide hA5
        clear hP3 hK3 hA3 hK4 hA4 hK5 hA5
        go_wp2_with fail
        go_roundw
        case rel =>
          refine ⟨i - 1, _, _, vI3, by go_num, rfl, by omega, by omega, by omega, ?_, ?_, HP3, HK5, HA5⟩
          · simp; omega
          · rw [show (i - 1 - mn).toNat = d by omega]; exact HR'
        case measure => simp only [intOf]; omega
      · have hz : (i - mn).toNat = 0 := by omega
        have hr := unhide HR
        rw [hz] at hr
        simp only [optF] at hr
        obtain rfl := hr
        clear HR hb1 hz
        go_wp2_with fail
        go_loopw [2, 53] (fun next_ c_ wr => ∃ (c : Nat) (cur : Int) (J : List Inst) (vI' : Value), c_ = .int .i64 c ∧ next_ = .int .i64 cur ∧ c ≤ mn ∧ 0 ≤ cur ∧ cur < J.length ∧ Hid (timesF (make kid) (mn.toNat - c) cur J = R) ∧ Hid (MkP wr base bp fold bytes J vI') ∧ Hid (Keeps (TurnP bp vI) ((w.alloc (.cells #[.int .i64 7, .int .i64 code, .bool neg, .slice As set.length cs', .int .i64 mn, .int .i64 mx, .slice (some ⟨b, o, none⟩) 1 cc] 26)).alloc (.cells #[.int .i64 kind', .int .i64 code', .bool neg', .slice As' ls' cs'', .int .i64 mn', .int .i64 mx', .slice A' lk' cc'] 26)) wr) ∧ Hid (At ((w.alloc (.cells #[.int .i64 7, .int .i64 code, .bool neg, .slice As set.length cs', .int .i64 mn, .int .i64 mx, .slice (some ⟨b, o, none⟩) 1 cc] 26)).alloc (.cells #[.int .i64 kind', .int .i64 code', .bool neg', .slice As' ls' cs'', .int .i64 mn', .int .i64 mx', .slice A' lk' cc'] 26)) vI vI'))
          (fun _ c_ _ => mn.toNat - (intOf c_).toNat)
        case atStart => exact ⟨0, cur, J, vI', rfl, rfl, by omega, hc0, hc1, hide (by rw [Nat.sub_zero]; exact unhide HRR), HP1, HK1, HA1⟩
        case round =>
          clear HP1 HK1 HA1 HTW c4 c5 d0 d1 d2 d3 d4 d5 d6 hsz HRR
          obtain ⟨c, cur, J, vI', rfl, rfl, hcm, hc0, hc1, HR, HP1, HK1, HA1⟩ := hrel
          have hb1 := (times_in (unhide HMK) (mn.toNat - c) hc0 hc1).2.2
          rw [unhide HR] at hb1
          obtain ⟨c4, c5, d0, d1, d2, d3, d4, d5, d6, hsz⟩ := (unhide HFR) wr (unhide HK1)
          have htw := (unhide HTR) wr (unhide HK1)
          have HTW := hide htw
          clear htw
          by_cases hlt : (c : Int) < mn
          · obtain ⟨d, hd⟩ : ∃ d : Nat, mn.toNat - c = d + 1 := ⟨mn.toNat - c - 1, by omega⟩
            have hr := unhide HR
            rw [hd] at hr
            simp only [timesF] at hr
            have hF := make_made kid cur J (unhide HMK) hc0 hc1
            have hf0 := hF.start
            have hfl := hF.len
            have hb2 := (times_in (unhide HMK) d hf0.1 hf0.2).2.2
            rw [hr] at hb2
            have HR' := hide hr
            clear hF hr
            go_wp2_with fail
            refine ((unhide HOK) _ _ vI' _ base bp fold bytes _ (unhide HP1) (unhide HTW) hc0 hc1 (by omega)).mono ?_
            rintro e w2 ⟨rfl, vI2, hP2, hK2, hA2⟩
            have hK4 := (unhide HK1).trans hK2 (fun k hk ht => Turnp.of_at (unhide HA1) k hk ht)
            have hA4 := At.trans (unhide HA1) hA2 (unhide HK1).size
            have HP2 := hide hP2; have HK4 := hide hK4; have HA4 := hide hA4
            clear hP2 hK2 hA2 hK4 hA4
            go_wp2_with fail
            go_roundw
            case rel =>
              refine ⟨c + 1, _, _, vI2, by go_num, rfl, by omega, hf0.1, hf0.2, ?_, HP2, HK4, HA4⟩
              rw [show mn.toNat - (c + 1) = d by omega]; exact HR'
            case measure => simp only [intOf]; omega
          · have hz : mn.toNat - c = 0 := by omega
            have hr := unhide HR
            rw [hz] at hr
            simp only [timesF] at hr
            obtain rfl := hr
            clear HR hb1 hz
            go_wp2_with fail
            go_ret
            exact ⟨rfl, vI', unhide HP1, (((Keeps.refl _ _).alloc _).alloc _).trans (unhide HK1) (fun _ _ h => h), At.later (unhide HA1) (by simp <;> omega)⟩
end Go.Proofs.YtanmlgliibgpcaaDoor
