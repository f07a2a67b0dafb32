/- The walk of alt. -/
import Derived.Test.YtanmlgliibgpcaaDoorRxS
namespace Go.Proofs.YtanmlgliibgpcaaDoor
open Go.RowKit Thr
set_option linter.unusedVariables false
set_option linter.unusedSimpArgs false

theorem inner_bar {s : ByteArray} {bytes : Bool} {f nest j : Nat} {alts cat : List Rx} {r : Res} (h : innerF s bytes (f + 1) nest alts cat j = some r) (hj : j < s.size) (hb : byt s j = 124) : innerF s bytes f nest (alts ++ [joinF cat]) [] (j + 1) = some r := by
  simp only [innerF] at h
  have ha : againF s j = .no := by
    unfold againF
    rw [if_neg (by omega), if_neg (by omega), if_neg (by omega), if_neg (by omega)]
  rw [if_neg (by omega), ha, ite_self] at h
  simp only at h
  rw [if_pos hb] at h
  exact h
theorem inner_stop {s : ByteArray} {bytes : Bool} {f nest j : Nat} {alts cat : List Rx} {r : Res} (h : innerF s bytes f nest alts cat j = some r) (hf : 0 < f) (hj : s.size ≤ j ∨ (0 < nest ∧ byt s j = 41)) : r = .stop alts cat j := by
  obtain ⟨f, rfl⟩ : ∃ f0, f = f0 + 1 := ⟨f - 1, by omega⟩
  simp only [innerF] at h
  by_cases hge : s.size ≤ j
  · rw [if_pos hge] at h
    injection h with h
    exact h.symm
  · obtain ⟨h0, hb⟩ := hj.resolve_left hge
    have ha : againF s j = .no := by
      unfold againF
      rw [if_neg (by omega), if_neg (by omega), if_neg (by omega), if_neg (by omega)]
    rw [if_neg hge, ha, ite_self] at h
    simp only at h
    rw [if_neg (by omega), if_neg (by omega), if_pos hb, if_neg (by omega)] at h
    injection h with h
    exact h.symm

set_option maxRecDepth 100000 in
set_option maxHeartbeats 64000000 in
theorem alt_step {bp : Nat} {s : ByteArray} {bytes : Bool} {nest : Nat} (F : Nat) (hA : ∀ f', f' < F → nest < 40 → ∀ (i : Nat) (r : Res) (w1 : World), innerF s bytes f' (nest + 1) [] [] i = some r → i ≤ s.size → s.size - i < f' → PAt w1 bp s i bytes (nest + 1) → Glob w1 →
      Calls Tryd.prog 34 #[.pointer (some ⟨bp, 0, none⟩)] w1 fun e w' => AltPost bp s bytes (nest + 1) w1 w' e r)
    (i : Nat) (r : Res) (w : World) (hfi : s.size - i < F) (hin : innerF s bytes F nest [] [] i = some r) (hP : PAt w bp s i bytes nest) (hG : Glob w) (hi : i ≤ s.size) (hm : s.size ≤ 1024) (hn : nest ≤ 40) (hF : F ≤ 2000) :
    Calls Tryd.prog 34 #[.pointer (some ⟨bp, 0, none⟩)] w fun e w' => AltPost bp s bytes nest w w' e r := by
  have hbp := hP.lt
  have hGl : ∀ W, Keeps (fun k => k = bp) w W → Glob W := fun W hk => hG.keeps hk hP
  obtain ⟨i0, hi0, hz0, hz1, hz2⟩ := info_parts Tryd.infoRx
  have hcat := fun (alts : List Rx) (j f : Nat) (W : World) (h1 : f ≤ F) (h2 : s.size - j < f) (h3 : innerF s bytes f nest alts [] j = some r) (h4 : PAt W bp s j bytes nest) (h5 : Keeps (fun k => k = bp) w W) (h6 : j ≤ s.size) => cat_calls F hA alts j f r W h1 h2 h3 h4 (hGl W h5) h6 hm hn
  have HCAT := hide hcat; have HIN := hide hin; have HP := hide hP
  clear hA hcat hin hP hG hGl
  go_enter Tryd.func34, Tryd.ntmps34
  go_wp2_with fail
  refine ((unhide HCAT) [] i F _ (Nat.le_refl _) hfi (unhide HIN) (Blk.alloc (unhide HP) _) ((Keeps.refl _ _).alloc _) hi).mono ?_
  rintro e w1 (⟨j, er, rfl, rfl, hk1⟩ | ⟨cat, j, f', cs, rfl, ht, hP1, hk1, hj, hf', hjf, hin1, hstop⟩)
  · exact ⟨rfl, rfl, ((Keeps.refl _ _).alloc _).trans hk1 (fun _ _ h => h)⟩
  obtain ⟨k1, k2, k3, As, ls, cs', k5, k6, A, lk, cc, rfl⟩ := ht.form
  have hrow : RowW w (w1.alloc (.cells #[.int .i64 k1, .int .i64 k2, .bool k3, .slice As ls cs', .int .i64 k5, .int .i64 k6, .slice A lk cc] 26)) bp s bytes nest j (.slice (some ⟨w1.heap.size, 0, none⟩) 1 1) [joinF cat] [.int .i64 k1, .int .i64 k2, .bool k3, .slice As ls cs', .int .i64 k5, .int .i64 k6, .slice A lk cc] := by
    have hz := hk1.size
    simp at hz
    refine ⟨(Blk.keeps (Blk.new w 26 zero7) hk1 (by omega)).alloc _, Blk.alloc hP1 _, ⟨by simp, .inr ⟨w1.heap.size, 1, _, rfl, by omega, heap_alloc_new w1 _, by simp, by simp [maxLen], by simp, by simp⟩⟩, ?_, (((Keeps.refl _ _).alloc _).trans hk1 (fun _ _ h => h)).alloc _, hbp⟩
    have h1 := TreesRow.snoc (TreesRow.nil (fun k => w.heap.size + 1 ≤ k ∧ (Value.slice (some ⟨w1.heap.size, 0, none⟩) 1 1).ownBlock ≠ some k) (w1.alloc (.cells #[.int .i64 k1, .int .i64 k2, .bool k3, .slice As ls cs', .int .i64 k5, .int .i64 k6, .slice A lk cc] 26)))
      (TreeAt.mono (fun k hk => ⟨by have := hk.1; simp at this; omega, by simp [Value.ownBlock]; have := hk.2; omega⟩) _ _ (TreeAt.step (W' := w1.alloc (.cells #[.int .i64 k1, .int .i64 k2, .bool k3, .slice As ls cs', .int .i64 k5, .int .i64 k6, .slice A lk cc] 26)) (fun k _ hl => Below.heap_alloc w1 _ k hl) _ _ (TreeAt.bound _ _ ht)))
    exact h1
  have HROW := hide hrow; have HIN1 := hide hin1; have HSTOP := hide hstop
  clear hrow ht hP1 hk1 hin1 hstop
  go_wp2_with fail
  go_loopg [3] (F + 1) (fun kx vK wr => ∃ (j : Nat) (alts cat : List Rx) (f' : Nat) (xs : List Value), j ≤ s.size ∧ f' < kx ∧ f' ≤ F ∧ s.size - j < f' ∧ Hid (innerF s bytes f' nest alts cat j = some r) ∧ Hid (s.size ≤ j ∨ byt s j = 124 ∨ (0 < nest ∧ byt s j = 41)) ∧ alts.length + f' ≤ F ∧ Hid (RowW w wr bp s bytes nest j vK (alts ++ [joinF cat]) xs))
  case atStart => exact ⟨j, [], cat, f', _, hj, by omega, hf', hjf, HIN1, HSTOP, by simp; exact hf', HROW⟩
  case round =>
    clear HROW HIN1 HSTOP hj hf' hjf
    obtain ⟨j, alts, cat, f', xs, hj, hfk, hfF, hjf, HIN1, HSTOP, hlen, HW⟩ := hrel
    have hW := unhide HW
    have hs124 := see_quiet (lit [124]) wr hW.at_ hj hm
    rw [see_one, show ((124 : UInt8).toNat : Int) = 124 from rfl] at hs124
    have hl : (alts ++ [joinF cat]).length = alts.length + 1 := by simp
    obtain ⟨g, cap, rfl, hg1, hg2⟩ := hW.own.form (by omega)
    rw [hl] at hW HW ⊢
    have HL := hide hl
    by_cases hbar : j < s.size ∧ byt s j = 124
    · have ho : Thr.one s j 124 = true := by simp [Thr.one]; exact hbar
      rw [ho] at hs124
      have hf0 : 0 < f' := by omega
      obtain ⟨f0, rfl⟩ : ∃ f0, f' = f0 + 1 := ⟨f' - 1, by omega⟩
      have hnx := inner_bar (unhide HIN1) hbar.1 hbar.2
      have HNX := hide hnx; have HS := hide hs124
      have hjl := hbar.1
      clear hs124 hnx ho hbar hW hl
      go_wp2_with fail
      refine (unhide HS).mono ?_
      rintro e w2 ⟨rfl, m2, hw2⟩
      have hW2 := (unhide HW).below (show Below wr.heap.size wr w2 by rw [hw2]; exact below_drewN (Below.refl _ _) _)
      have q1 := hW2.at_.cell 1
      have g1 := hW2.at_.frozen 1
      have hbp2 := hW2.at_.lt
      simp at q1
      have hW3 := hW2.move (W' := w2.setCell ⟨bp, 1, none⟩ (.int .i64 ((j : Int) + 1))) ((Keeps.refl (fun k => k = bp) _).setCell (p := ⟨bp, 1, none⟩) (.inl rfl) _) (PAt.go_on hW2.at_ (j + 1))
      have HW3 := hide hW3
      clear hW2 hW3 hw2
      go_wp2_with fail
      refine ((unhide HCAT) (alts ++ [joinF cat]) (j + 1) f0 _ (by omega) (by omega) (unhide HNX) (unhide HW3).at_ (unhide HW3).kept (by omega)).mono ?_
      rintro e w4 (⟨j', er, hre, rfl, hk4⟩ | ⟨cat', j', f2, cs, rfl, ht, hP4, hk4, hj4, hf4, hjf4, hin4, hstop4⟩)
      · subst hre
        exact ⟨rfl, rfl, (unhide HW3).kept.trans hk4 (fun _ _ h => h)⟩
      obtain ⟨k1, k2, k3, As, ls, cs', k5, k6, A, lk, cc, rfl⟩ := ht.form
      have hW4 := (unhide HW3).move hk4 hP4
      have hjj : j + 1 ≤ j' ∨ j' < j + 1 := by omega
      have hown := hW4.own
      rw [unhide HL] at hown
      have hW3' := unhide HW3
      have h1w : w.heap.size < (w2.setCell ⟨bp, 1, none⟩ (.int .i64 ((j : Int) + 1))).heap.size := hW3'.res.lt
      have h2w : ∀ k, (Value.slice (some ⟨g, 0, none⟩) (alts.length + 1) cap).ownBlock = some k → k < (w2.setCell ⟨bp, 1, none⟩ (.int .i64 ((j : Int) + 1))).heap.size := fun k hk => (own_lt hW3'.own k hk).2
      have HW4 := hide hW4; have HT := hide ht; have HOWN := hide hown; have H1 := hide h1w; have H2 := hide h2w; have HIN4 := hide hin4; have HST4 := hide hstop4
      have hz4 : w.heap.size < w4.heap.size := hW4.res.lt
      clear hW4 ht hP4 hk4 hown h1w h2w hin4 hstop4 hW3'
      go_wp2_with
       ((at_builtin; refine wpList_append_lies _ (by rfl) _ _ _ (by rfl) (w.heap.size + 1) 26 i0 _ 7 88 Tryd.underlying24 hi0 hz0 hz1 hz2 rfl (by omega) (.slice (some ⟨g, 0, none⟩) (alts.length + 1) cap) (alts.length + 1) xs (by rfl)
            (by exact (unhide HOWN).alloc _) ⟨w4.heap.size, 0, none⟩ 1 _ [.int .i64 k1, .int .i64 k2, .bool k3, .slice As ls cs', .int .i64 k5, .int .i64 k6, .slice A lk cc]
            (by rfl) (by rfl) (by exact World.news_of_block (cs := #[.int .i64 k1, .int .i64 k2, .bool k3, .slice As ls cs', .int .i64 k5, .int .i64 k6, .slice A lk cc]) (heap_alloc_new _ _))
            (by simp [Value.oneCell']) (by omega) (by simp only [maxLen]; omega) (by omega) (by first | omega | (simp; omega)) _ (by rfl) ?_; intro go cap5 w5 hown5 hgrow hat5 hlt5))
      have hW5 := (unhide HW4).app (go := go) (cap := cap5) (unhide HT) (unhide H1) (unhide H2) (below_alloc' (Below.refl w4.heap.size w4) _) hgrow (by rw [unhide HL]; exact hown5) hat5
      rw [unhide HL] at hW5
      have HW5 := hide hW5
      clear hW5 hown5 hgrow hat5
      go_roundg (f0 + 1)
      case measure => omega
      case rel => exact ⟨j', alts ++ [joinF cat], cat', f2, _, hj4, by omega, by omega, hjf4, HIN4, HST4, by simp only [List.length_append, List.length_cons, List.length_nil]; omega, HW5⟩
    · have ho : Thr.one s j 124 = false := by simp [Thr.one]; exact fun h1 h2 => hbar ⟨h1, h2⟩
      rw [ho] at hs124
      have hend : s.size ≤ j ∨ (0 < nest ∧ byt s j = 41) := by
        rcases unhide HSTOP with h | h | h
        · exact .inl h
        · rcases Nat.lt_or_ge j s.size with h' | h'
          · exact absurd ⟨h', h⟩ hbar
          · exact .inl h'
        · exact .inr h
      obtain rfl := inner_stop (unhide HIN1) (by omega) hend
      have HS := hide hs124
      clear hs124 ho hend hbar
      cases alts with
      | nil =>
        obtain ⟨cs, ht, hc⟩ := hW.elem (k := 0) (t := joinF cat) rfl
        obtain ⟨k1, k2, k3, As, ls, cs', k5, k6, A, lk, cc, rfl⟩ := ht.form
        have e0 := (hc 0 _ rfl).1
        have e1 := (hc 1 _ rfl).1
        have e2 := (hc 2 _ rfl).1
        have e3 := (hc 3 _ rfl).1
        have e4 := (hc 4 _ rfl).1
        have e5 := (hc 5 _ rfl).1
        have e6 := (hc 6 _ rfl).1
        simp only [Nat.zero_mul, Nat.zero_add] at e0 e1 e2 e3 e4 e5 e6
        obtain ⟨⟨b0, b1, b2, b3, b4, b5, b6⟩, y0, y1, y2, y3, y4, y5, y6⟩ := hW.res.seven
        have hzr : w.heap.size < wr.heap.size := hW.res.lt
        have HT := hide ht
        simp only [List.length_nil, Nat.zero_add] at hW HW ⊢
        clear hW hc ht hl
        go_wp2_with fail
        refine (unhide HS).mono ?_
        rintro e w2 ⟨rfl, m2, hw2⟩
        subst hw2
        go_wp2_with fail
        refine bodyPost_ret (results_cell rfl rfl (load7 (Blk.put7 (Blk.drewN (unhide HW).res _)))) rfl ?_
        exact ⟨_, rfl, TreeAt.mono (fun k hk => (by have := hk.1; omega : w.heap.size ≤ k)) _ _ (TreeAt.step (W := wr) (fun k hk _ => heap_put7 (wr.drewN m2) _ _ _ _ _ _ _ _ k (by have := hk.1; omega)) _ _ (unhide HT)), PAt.put7 (Blk.drewN (unhide HW).at_ _) (by omega) _ _ _ _ _ _ _, ((unhide HW).kept.drewN _).put7 (.inr (Nat.le_refl _)) _ _ _ _ _ _ _⟩
      | cons a l =>
        have hln : l.length ≤ 2000 := by simp at hlen; omega
        have htk := tree_kids (ok' := fun k => w.heap.size + 1 ≤ k) 6 hW.own hW.row (fun k hk => hk.1) (fun k hk => hk)
        have esh : shutF (a :: l) cat = altN (a :: l ++ [joinF cat]) := by
          unfold shutF oneF
          cases l <;> rfl
        have HT := hide htk
        obtain ⟨⟨b0, b1, b2, b3, b4, b5, b6⟩, y0, y1, y2, y3, y4, y5, y6⟩ := hW.res.seven
        have hzr : w.heap.size < wr.heap.size := hW.res.lt
        have l1 : ((l.length : Int) + 1 + 1 == 1) = false := by simp; omega
        simp only [List.length_cons] at hW HW ⊢
        have HESH := hide esh
        clear hW htk hl esh
        go_wp2_with fail
        refine (unhide HS).mono ?_
        rintro e w2 ⟨rfl, m2, hw2⟩
        subst hw2
        go_wp2_with fail
        refine bodyPost_ret (results_cell rfl rfl (load7 (Blk.put7 (Blk.drewN (unhide HW).res _)))) rfl ?_
        refine ⟨_, rfl, ?_, PAt.put7 (Blk.drewN (unhide HW).at_ _) (by omega) _ _ _ _ _ _ _, ((unhide HW).kept.drewN _).put7 (.inr (Nat.le_refl _)) _ _ _ _ _ _ _⟩
        rw [unhide HESH]
        exact TreeAt.mono (fun k hk => (by have : w.heap.size + 1 ≤ k := hk; omega : w.heap.size ≤ k)) _ _ (TreeAt.step (W := wr) (fun k hk _ => heap_put7 (wr.drewN m2) _ _ _ _ _ _ _ _ k (by have : w.heap.size + 1 ≤ k := hk; omega)) _ _ (unhide HT))

/-- alt, at every depth. -/
theorem alt_calls {bp : Nat} {s : ByteArray} {bytes : Bool} (hm : s.size ≤ 1024) : ∀ (F : Nat), F ≤ 2000 → ∀ (nest i : Nat) (r : Res) (w : World), innerF s bytes F nest [] [] i = some r → i ≤ s.size → s.size - i < F → nest ≤ 40 → PAt w bp s i bytes nest → Glob w →
    Calls Tryd.prog 34 #[.pointer (some ⟨bp, 0, none⟩)] w fun e w' => AltPost bp s bytes nest w w' e r := by
  intro F
  induction F using Nat.strongRecOn with
  | _ F ih =>
    intro hF nest i r w hin hi hfi hn hP hG
    exact alt_step F (fun f' hf' hn' i' r' w1 h1 h2 h3 h4 h5 => ih f' hf' (by omega) (nest + 1) i' r' w1 h1 h2 h3 (by omega) h4 h5) i r w hfi hin hP hG hi hm hn hF
end Go.Proofs.YtanmlgliibgpcaaDoor
