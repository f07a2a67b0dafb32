/- NfaChoice returns true of every two texts, every string and every place: no condition beyond the statement's own (a part of its proof). -/
import Derived.Test.YtanmlgliibgpcaaDoorKc08

/- The walks of group and atom. -/
namespace Go.Proofs.YtanmlgliibgpcaaDoor
open Go.RowKit Thr
set_option linter.unusedVariables false
set_option linter.unusedSimpArgs false

set_option maxRecDepth 100000 in
set_option maxHeartbeats 16000000 in
theorem group_many {bp : Nat} {s : ByteArray} {i : Nat} {bytes : Bool} (at_ : Nat) (w : World) (hP : PAt w bp s at_ bytes 40) :
    Calls Tryd.prog 68 #[.pointer (some ⟨bp, 0, none⟩), .int .i64 i] w fun e w' => Gives bp i 91 w w' e := by
  have c3 := hP.cell 3
  have hbp := hP.lt
  simp at c3
  clear hP
  go_enter Tryd.func68, Tryd.ntmps68
  go_wp2_with fail
  refine (fail_calls _ _ _ _).mono ?_
  rintro e w' ⟨rfl, hw⟩
  obtain rfl := hw.symm
  exact ⟨rfl, rfl, (Keeps.refl _ _).alloc _⟩

set_option maxRecDepth 100000 in
set_option maxHeartbeats 16000000 in
theorem group_calls {bp : Nat} {s : ByteArray} {i : Nat} {bytes : Bool} {nest : Nat} (r : Res) (w : World) (hP : PAt w bp s (i + 1) bytes nest) (hG : Glob w) (hm : s.size ≤ 1024) (hn : nest < 40)
    (hr : ∀ a c j, r = .stop a c j → j ≤ s.size ∧ (j < s.size → byt s j = 41))
    (hA : ∀ w1, PAt w1 bp s (i + 1) bytes (nest + 1) → Glob w1 → Calls Tryd.prog 34 #[.pointer (some ⟨bp, 0, none⟩)] w1 fun e w' => AltPost bp s bytes (nest + 1) w1 w' e r) :
    Calls Tryd.prog 68 #[.pointer (some ⟨bp, 0, none⟩), .int .i64 i] w fun e w' => OnePost bp s bytes nest w w' e (groupR s i r) := by
  obtain ⟨G, hGr⟩ : ∃ G, groupR s i r = G := ⟨_, rfl⟩
  rw [hGr]
  have HGR := hide hGr
  clear hGr
  have c3 := hP.cell 3
  have f3 := hP.frozen 3
  have hbp := hP.lt
  simp at c3
  have hn40 : ((nest : Int) == 40) = false := by simp; omega
  have hn1 : (nest : Int) ≤ 40 := by omega
  have hdeep : ∀ W : World, PAt W bp s (i + 1) bytes nest → PAt (W.setCell ⟨bp, 3, none⟩ (.int .i64 ((nest : Int) + 1))) bp s (i + 1) bytes (nest + 1) := fun W h => h.deep (nest + 1)
  have hGl : ∀ W, Keeps (fun k => k = bp) w W → Glob W := fun W hk => hG.keeps hk hP
  have hKw : ∀ o (v : Value), Keeps (fun k => k = bp) w ((w.setCell ⟨bp, 3, none⟩ v).alloc o) := fun o v => ((Keeps.refl (fun k => k = bp) w).setCell (p := ⟨bp, 3, none⟩) (.inl rfl) v).alloc o
  have HA := hide hA; have HP := hide hP; have HD := hide hdeep; have HG := hide hGl; have HK := hide hKw; have HR := hide hr
  clear hA hP hdeep hGl hKw hG hr
  go_enter Tryd.func68, Tryd.ntmps68
  go_wp2_with fail
  refine ((unhide HA) _ (Blk.alloc ((unhide HD) _ (unhide HP)) _) ((unhide HG) _ ((unhide HK) _ _))).mono ?_
  cases r with
  | fault j er =>
    obtain rfl : One.fault j er = G := unhide HGR
    rintro e w1 ⟨rfl, hk1⟩
    exact ⟨rfl, rfl, ((unhide HK) _ _).trans hk1 (fun _ _ h => h)⟩
  | stop a c j =>
    rintro e w1 ⟨cs, rfl, ht, hP1, hk1⟩
    obtain ⟨hj, hj41⟩ := (unhide HR) a c j rfl
    obtain ⟨k1, k2, k3, As, ls, cs', k5, k6, A, lk, cc, rfl⟩ := ht.form
    have hK1 := ((unhide HK) (.cells zero7 26) (.int .i64 ((nest : Int) + 1))).trans hk1 (fun _ _ h => h)
    have hB1 : Blk w1 w.heap.size 26 zero7 := by
      have hb := Blk.new (w.setCell ⟨bp, 3, none⟩ (.int .i64 ((nest : Int) + 1))) 26 zero7
      rw [World.size_setCell] at hb
      exact hb.keeps hk1 (by omega)
    have d3 := hP1.cell 3
    have g3 := hP1.frozen 3
    have hbp1 := hP1.lt
    have hz1 : w.heap.size < w1.heap.size := hB1.lt
    simp at d3
    have ht0 : TreeAt (fun k => w.heap.size < k) w1 (shutF a c) _ := TreeAt.mono (fun k hk => by simp at hk; omega) _ _ ht
    -- behind the node's own block and the depth taken back
    have hP2 : ∀ o, PAt ((w1.setCell ⟨bp, 3, none⟩ (.int .i64 nest)).alloc o) bp s j bytes nest := fun o => Blk.alloc (PAt.deep hP1 nest) o
    have HT := hide ht0; have HP2 := hide hP2; have HK1 := hide hK1; have HB1 := hide hB1
    clear ht ht0 hP1 hk1 hK1 hB1 hP2
    go_wp2_with fail
    refine (see_quiet (lit [41]) _ ((unhide HP2) _) hj hm).mono ?_
    rw [see_one, show ((41 : UInt8).toNat : Int) = 41 from rfl]
    rintro e w2 ⟨rfl, m2, hw2⟩
    have hP3 : PAt w2 bp s j bytes nest := by rw [hw2]; exact Blk.drewN ((unhide HP2) _) _
    have hB2 : Blk w2 w.heap.size 26 zero7 := by rw [hw2]; exact Blk.drewN (Blk.alloc ((unhide HB1).far (p := ⟨bp, 3, none⟩) (by simp only; omega) _) _) _
    have hX : Blk w2 w1.heap.size 26 #[.int .i64 k1, .int .i64 k2, .bool k3, .slice As ls cs', .int .i64 k5, .int .i64 k6, .slice A lk cc] := by
      rw [hw2]
      have hb := Blk.new (w1.setCell ⟨bp, 3, none⟩ (.int .i64 nest)) 26 #[.int .i64 k1, .int .i64 k2, .bool k3, .slice As ls cs', .int .i64 k5, .int .i64 k6, .slice A lk cc]
      rw [World.size_setCell] at hb
      exact Blk.drewN hb _
    have hk2 : Keeps (fun k => k = bp) w1 w2 := by rw [hw2]; exact (((Keeps.refl (fun k => k = bp) w1).setCell (p := ⟨bp, 3, none⟩) (.inl rfl) _).alloc _).drewN _
    have hK2 := (unhide HK1).trans hk2 (fun _ _ h => h)
    have ht2 : TreeAt (fun k => w.heap.size < k) w2 (shutF a c) _ := TreeAt.step (fun k hk hl => hk2.block k hl (by omega)) _ _ (unhide HT)
    have HP3 := hide hP3; have HB2 := hide hB2; have HK2 := hide hK2; have HT2 := hide ht2
    have q1 := hP3.cell 1
    have g1 := hP3.frozen 1
    have hbp2 := hP3.lt
    simp at q1
    obtain ⟨⟨x0, x1, x2, x3, x4, x5, x6⟩, -⟩ := hX.seven
    obtain ⟨⟨b0, b1, b2, b3, b4, b5, b6⟩, y0, y1, y2, y3, y4, y5, y6⟩ := hB2.seven
    have hz2 : w.heap.size < w2.heap.size := hB2.lt
    have hz3 : w1.heap.size < w2.heap.size := hX.lt
    have hbx : bp ≠ w1.heap.size := by omega
    clear hw2 hP3 hB2 hX hk2 hK2 ht2
    by_cases hj2 : j < s.size
    · have ho : Thr.one s j 41 = true := by simp [Thr.one]; exact ⟨hj2, hj41 hj2⟩
      rw [ho]
      obtain rfl : One.node (shutF a c) (j + 1) = G := by rw [← unhide HGR]; simp only [groupR, if_pos hj2]
      clear ho hj2 hj41 d3 g3
      go_wp2_with fail
      refine bodyPost_ret (results_cell rfl rfl (load7 (Blk.put7 (Blk.far (unhide HB2) (p := ⟨bp, 1, none⟩) (by simp only; omega) _)))) rfl ?_
      refine ⟨_, rfl, TreeAt.mono (fun k hk => Nat.le_of_lt hk) _ _ (TreeAt.step (W := w2) (fun k hk _ => ?_) _ _ (unhide HT2)), PAt.put7 (PAt.go_on (unhide HP3) (j + 1)) (by omega) _ _ _ _ _ _ _, ((unhide HK2).setCell (p := ⟨bp, 1, none⟩) (.inl rfl) _).put7 (.inr (Nat.le_refl _)) _ _ _ _ _ _ _⟩
      have : w.heap.size < k := hk
      exact (heap_put7 _ _ _ _ _ _ _ _ _ k (by omega)).trans (Below.heap_setCell _ _ _ k (by simp only; omega))
    · have ho : Thr.one s j 41 = false := by simp [Thr.one]; intro h; exact absurd h hj2
      rw [ho]
      obtain rfl : One.fault i 90 = G := by rw [← unhide HGR]; simp only [groupR, if_neg hj2]
      clear ho hj2 hj41 d3 g3
      go_wp2_with fail
      refine (fail_calls _ _ _ _).mono ?_
      rintro e w3 ⟨rfl, hw⟩
      obtain rfl := hw.symm
      exact ⟨rfl, rfl, unhide HK2⟩
end Go.Proofs.YtanmlgliibgpcaaDoor

/- The walk of atom. -/
namespace Go.Proofs.YtanmlgliibgpcaaDoor
open Go.RowKit Thr
set_option linter.unusedVariables false
set_option linter.unusedSimpArgs false

theorem node_one {bp : Nat} {s : ByteArray} {bytes : Bool} {nest : Nat} {i : Nat} {w w' : World} {e : Ending} {o : Option (Rx × Nat)} (h : NodePost bp s bytes nest i w w' e o) : OnePost bp s bytes nest w w' e (oneOf i o) := by
  cases o with
  | none => exact h
  | some q => exact h

set_option maxRecDepth 100000 in
set_option maxHeartbeats 64000000 in
theorem atom_calls {bp : Nat} {s : ByteArray} {i : Nat} {bytes : Bool} {nest f : Nat} (o : One) (w : World) (hP : PAt w bp s i bytes nest) (hG : Glob w) (hi : i < s.size) (hm : s.size ≤ 1024) (hn : nest ≤ 40) (hf : s.size - (i + 1) < f)
    (ho : atomF s bytes f nest i = some o)
    (hA : nest < 40 → ∀ r w1, innerF s bytes f (nest + 1) [] [] (i + 1) = some r → PAt w1 bp s (i + 1) bytes (nest + 1) → Glob w1 → Calls Tryd.prog 34 #[.pointer (some ⟨bp, 0, none⟩)] w1 fun e w' => AltPost bp s bytes (nest + 1) w1 w' e r) :
    Calls Tryd.prog 62 #[.pointer (some ⟨bp, 0, none⟩)] w fun e w' => OnePost bp s bytes nest w w' e o := by
  have c1 := hP.cell 1
  have hbp := hP.lt
  simp at c1
  have hch := fun w1 hP1 hT1 => char_calls (bp := bp) (s := s) (i := i) (bytes := bytes) (nest := nest) w1 hP1 hT1 (by omega) hm
  have hGl : ∀ W, Keeps (fun k => k = bp) w W → Glob W := fun W hk => hG.keeps hk hP
  have hrest : ∀ (w1 : World), Keeps (fun k => k = bp) (w.alloc (.cells zero7 26)) w1 → Blk w1 w.heap.size 26 zero7 := fun w1 hk => (Blk.new w 26 zero7).keeps hk (by omega)
  have hends := inner_ends (sized_all s bytes) f (nest + 1) [] [] (i + 1) hf (by omega)
  have HEN := hide hends
  have HP := hide hP; have HG := hide hGl; have HA := hide hA; have HRES := hide hrest; have hT := hG.tabs; have HT := hide hT
  clear hP hG hGl hA hrest hT hends
  unfold atomF at ho
  by_cases e40 : byt s i = 40
  · rw [if_pos e40] at ho
    have hz := next_byte (bytes := bytes) hi (by omega : byt s i < 128)
    rw [e40] at hz
    rw [hz] at hch
    rw [show i + (((40 : Int), (1 : Int)).2).toNat = i + 1 from rfl] at hch
    have HC := hide hch
    clear hch hz
    by_cases hn40 : nest = 40
    · rw [if_pos hn40] at ho
      simp only [Option.some.injEq] at ho
      subst ho; subst hn40
      clear e40
      go_enter Tryd.func62, Tryd.ntmps62
      go_wp2_with fail
      refine (unhide HC _ ((unhide HP).below (by repeat (first | exact Below.refl _ _ | assumption | refine below_drewN ?_ _ | refine Below.drew ?_ | refine below_alloc' ?_ _))) ((unhide HT).below (by repeat (first | exact Below.refl _ _ | assumption | refine below_drewN ?_ _ | refine Below.drew ?_ | refine below_alloc' ?_ _)))).mono ?_
      rintro e w1 ⟨rfl, hP1, hK1⟩
      have hB := (unhide HRES) _ hK1
      obtain ⟨⟨b0, b1, b2, b3, b4, b5, b6⟩, f0, f1, f2, f3, f4, f5, f6⟩ := hB.seven
      have hk1 := ((Keeps.refl (fun k => k = bp) w).alloc (.cells zero7 26)).trans hK1 (fun _ _ h => h)
      have HB := hide hB; have HP1 := hide hP1; have HK1 := hide hk1; have HG1 := hide ((unhide HG) _ hk1)
      have hz1 : w.heap.size < w1.heap.size := hB.lt
      clear hP1 hK1 hB hk1 HRES
      go_wp2_with fail
      refine (group_many (i + 1) w1 (unhide HP1)).mono ?_
      rintro e w2 ⟨rfl, hk2⟩
      exact ⟨rfl, rfl, (unhide HK1).trans hk2 (fun _ _ h => h)⟩
    · rw [if_neg hn40] at ho
      cases hin : innerF s bytes f (nest + 1) [] [] (i + 1) with
      | none => rw [hin] at ho; cases ho
      | some r =>
        rw [hin] at ho
        simp only [Option.map_some, Option.some.injEq] at ho
        have hr : ∀ a c j, r = .stop a c j → j ≤ s.size ∧ (j < s.size → byt s j = 41) := by
          obtain ⟨r', h1, h2⟩ := unhide HEN
          rw [hin] at h1
          injection h1 with h1
          subst h1
          intro a c j e
          have := h2 a c j e
          exact ⟨this.2.1, fun h => (this.2.2 h).1⟩
        have HR := hide hr; have HIN := hide hin
        clear e40 hr hin
        go_enter Tryd.func62, Tryd.ntmps62
        go_wp2_with fail
        refine (unhide HC _ ((unhide HP).below (by repeat (first | exact Below.refl _ _ | assumption | refine below_drewN ?_ _ | refine Below.drew ?_ | refine below_alloc' ?_ _))) ((unhide HT).below (by repeat (first | exact Below.refl _ _ | assumption | refine below_drewN ?_ _ | refine Below.drew ?_ | refine below_alloc' ?_ _)))).mono ?_
        rintro e w1 ⟨rfl, hP1, hK1⟩
        have hB := (unhide HRES) _ hK1
        obtain ⟨⟨b0, b1, b2, b3, b4, b5, b6⟩, f0, f1, f2, f3, f4, f5, f6⟩ := hB.seven
        have hk1 := ((Keeps.refl (fun k => k = bp) w).alloc (.cells zero7 26)).trans hK1 (fun _ _ h => h)
        have HB := hide hB; have HP1 := hide hP1; have HK1 := hide hk1; have HG1 := hide ((unhide HG) _ hk1)
        have hz1 : w.heap.size < w1.heap.size := hB.lt
        clear hP1 hK1 hB hk1 HRES
        go_wp2_with fail
        refine (group_calls r w1 (unhide HP1) (unhide HG1) hm (by omega) (unhide HR) (fun w2 h1 h2 => (unhide HA) (by omega) r w2 (unhide HIN) h1 h2)).mono ?_
        clear b0 b1 b2 b3 b4 b5 b6 f0 f1 f2 f3 f4 f5 f6
        generalize groupR s i r = Gx at ho ⊢
        subst ho
        cases Gx with
        | fault j er =>
          rintro e w2 ⟨rfl, hk2⟩
          exact ⟨rfl, rfl, (unhide HK1).trans hk2 (fun _ _ h => h)⟩
        | node x k =>
          rintro e w2 ⟨cs, rfl, ht, hP2, hk2⟩
          obtain ⟨k1, k2, k3, As, ls, cs', k5, k6, A, lk, cc, rfl⟩ := ht.form
          have hB2 := (unhide HB).keeps hk2 (by omega)
          obtain ⟨⟨b0, b1, b2, b3, b4, b5, b6⟩, f0, f1, f2, f3, f4, f5, f6⟩ := hB2.seven
          have hz2 : w.heap.size < w2.heap.size := hB2.lt
          have HB2 := hide hB2; have HT2 := hide ht; have HP2 := hide hP2; have HK2 := hide ((unhide HK1).trans hk2 (fun _ _ h => h))
          clear hB2 ht hP2 hk2
          go_wp2_with fail
          refine bodyPost_ret (results_cell rfl rfl (load7 (Blk.put7 (unhide HB2)))) rfl ?_
          refine ⟨_, rfl, TreeAt.mono (fun k hk => ?_) _ _ (TreeAt.step (W := w2) (fun k hk _ => ?_) _ _ (unhide HT2)), PAt.put7 (unhide HP2) (by omega) _ _ _ _ _ _ _, (unhide HK2).put7 (.inr (Nat.le_refl _)) _ _ _ _ _ _ _⟩
          · have : w1.heap.size ≤ k := hk
            show w.heap.size ≤ k
            omega
          · have : w1.heap.size ≤ k := hk
            exact heap_put7 _ _ _ _ _ _ _ _ _ k (by omega)
  rw [if_neg e40] at ho
  by_cases e41 : byt s i = 41
  · rw [if_pos e41] at ho
    simp only [Option.some.injEq] at ho
    subst ho
    have hz := next_byte (bytes := bytes) hi (by omega : byt s i < 128)
    rw [e41] at hz
    rw [hz] at hch
    rw [show i + (((41 : Int), (1 : Int)).2).toNat = i + 1 from rfl] at hch
    have HC := hide hch
    clear hch hz
    clear e41 e40
    go_enter Tryd.func62, Tryd.ntmps62
    go_wp2_with fail
    refine (unhide HC _ ((unhide HP).below (by repeat (first | exact Below.refl _ _ | assumption | refine below_drewN ?_ _ | refine Below.drew ?_ | refine below_alloc' ?_ _))) ((unhide HT).below (by repeat (first | exact Below.refl _ _ | assumption | refine below_drewN ?_ _ | refine Below.drew ?_ | refine below_alloc' ?_ _)))).mono ?_
    rintro e w1 ⟨rfl, hP1, hK1⟩
    have hB := (unhide HRES) _ hK1
    obtain ⟨⟨b0, b1, b2, b3, b4, b5, b6⟩, f0, f1, f2, f3, f4, f5, f6⟩ := hB.seven
    have hk1 := ((Keeps.refl (fun k => k = bp) w).alloc (.cells zero7 26)).trans hK1 (fun _ _ h => h)
    have HB := hide hB; have HP1 := hide hP1; have HK1 := hide hk1; have HG1 := hide ((unhide HG) _ hk1)
    have hz1 : w.heap.size < w1.heap.size := hB.lt
    clear hP1 hK1 hB hk1 HRES
    go_wp2_with fail
    refine (fail_calls _ _ _ _).mono ?_
    rintro e w2 ⟨rfl, hw⟩
    obtain rfl := hw.symm
    exact ⟨rfl, rfl, unhide HK1⟩
  rw [if_neg e41] at ho
  by_cases e91 : byt s i = 91
  · rw [if_pos e91] at ho
    simp only [Option.some.injEq] at ho
    have hz := next_byte (bytes := bytes) hi (by omega : byt s i < 128)
    rw [e91] at hz
    rw [hz] at hch
    rw [show i + (((91 : Int), (1 : Int)).2).toNat = i + 1 from rfl] at hch
    have HC := hide hch
    clear hch hz
    clear e40 e41 e91
    go_enter Tryd.func62, Tryd.ntmps62
    go_wp2_with fail
    refine (unhide HC _ ((unhide HP).below (by repeat (first | exact Below.refl _ _ | assumption | refine below_drewN ?_ _ | refine Below.drew ?_ | refine below_alloc' ?_ _))) ((unhide HT).below (by repeat (first | exact Below.refl _ _ | assumption | refine below_drewN ?_ _ | refine Below.drew ?_ | refine below_alloc' ?_ _)))).mono ?_
    rintro e w1 ⟨rfl, hP1, hK1⟩
    have hB := (unhide HRES) _ hK1
    obtain ⟨⟨b0, b1, b2, b3, b4, b5, b6⟩, f0, f1, f2, f3, f4, f5, f6⟩ := hB.seven
    have hk1 := ((Keeps.refl (fun k => k = bp) w).alloc (.cells zero7 26)).trans hK1 (fun _ _ h => h)
    have HB := hide hB; have HP1 := hide hP1; have HK1 := hide hk1; have HG1 := hide ((unhide HG) _ hk1)
    have hz1 : w.heap.size < w1.heap.size := hB.lt
    clear hP1 hK1 hB hk1 HRES
    go_wp2_with fail
    refine ((set_calls (i := i) (i : Int) w1 (unhide HP1) (unhide HG1) (by omega) hm).mono fun e w' h => node_one h).mono ?_
    clear b0 b1 b2 b3 b4 b5 b6 f0 f1 f2 f3 f4 f5 f6
    generalize oneOf i (setF s i bytes) = Gx at ho ⊢
    subst ho
    cases Gx with
    | fault j er =>
      rintro e w2 ⟨rfl, hk2⟩
      exact ⟨rfl, rfl, (unhide HK1).trans hk2 (fun _ _ h => h)⟩
    | node x k =>
      rintro e w2 ⟨cs, rfl, ht, hP2, hk2⟩
      obtain ⟨k1, k2, k3, As, ls, cs', k5, k6, A, lk, cc, rfl⟩ := ht.form
      have hB2 := (unhide HB).keeps hk2 (by omega)
      obtain ⟨⟨b0, b1, b2, b3, b4, b5, b6⟩, f0, f1, f2, f3, f4, f5, f6⟩ := hB2.seven
      have hz2 : w.heap.size < w2.heap.size := hB2.lt
      have HB2 := hide hB2; have HT2 := hide ht; have HP2 := hide hP2; have HK2 := hide ((unhide HK1).trans hk2 (fun _ _ h => h))
      clear hB2 ht hP2 hk2
      go_wp2_with fail
      refine bodyPost_ret (results_cell rfl rfl (load7 (Blk.put7 (unhide HB2)))) rfl ?_
      refine ⟨_, rfl, TreeAt.mono (fun k hk => ?_) _ _ (TreeAt.step (W := w2) (fun k hk _ => ?_) _ _ (unhide HT2)), PAt.put7 (unhide HP2) (by omega) _ _ _ _ _ _ _, (unhide HK2).put7 (.inr (Nat.le_refl _)) _ _ _ _ _ _ _⟩
      · have : w1.heap.size ≤ k := hk
        show w.heap.size ≤ k
        omega
      · have : w1.heap.size ≤ k := hk
        exact heap_put7 _ _ _ _ _ _ _ _ _ k (by omega)
  rw [if_neg e91] at ho
  by_cases e92 : byt s i = 92
  · rw [if_pos e92] at ho
    simp only [Option.some.injEq] at ho
    have hz := next_byte (bytes := bytes) hi (by omega : byt s i < 128)
    rw [e92] at hz
    rw [hz] at hch
    rw [show i + (((92 : Int), (1 : Int)).2).toNat = i + 1 from rfl] at hch
    have HC := hide hch
    clear hch hz
    clear e40 e41 e91 e92
    go_enter Tryd.func62, Tryd.ntmps62
    go_wp2_with fail
    refine (unhide HC _ ((unhide HP).below (by repeat (first | exact Below.refl _ _ | assumption | refine below_drewN ?_ _ | refine Below.drew ?_ | refine below_alloc' ?_ _))) ((unhide HT).below (by repeat (first | exact Below.refl _ _ | assumption | refine below_drewN ?_ _ | refine Below.drew ?_ | refine below_alloc' ?_ _)))).mono ?_
    rintro e w1 ⟨rfl, hP1, hK1⟩
    have hB := (unhide HRES) _ hK1
    obtain ⟨⟨b0, b1, b2, b3, b4, b5, b6⟩, f0, f1, f2, f3, f4, f5, f6⟩ := hB.seven
    have hk1 := ((Keeps.refl (fun k => k = bp) w).alloc (.cells zero7 26)).trans hK1 (fun _ _ h => h)
    have HB := hide hB; have HP1 := hide hP1; have HK1 := hide hk1; have HG1 := hide ((unhide HG) _ hk1)
    have hz1 : w.heap.size < w1.heap.size := hB.lt
    clear hP1 hK1 hB hk1 HRES
    go_wp2_with fail
    refine ((escape_calls (i := i) (i : Int) w1 (unhide HP1) (unhide HG1).tabs (by omega) hm).mono fun e w' h => node_one h).mono ?_
    clear b0 b1 b2 b3 b4 b5 b6 f0 f1 f2 f3 f4 f5 f6
    generalize oneOf i (escF s i bytes) = Gx at ho ⊢
    subst ho
    cases Gx with
    | fault j er =>
      rintro e w2 ⟨rfl, hk2⟩
      exact ⟨rfl, rfl, (unhide HK1).trans hk2 (fun _ _ h => h)⟩
    | node x k =>
      rintro e w2 ⟨cs, rfl, ht, hP2, hk2⟩
      obtain ⟨k1, k2, k3, As, ls, cs', k5, k6, A, lk, cc, rfl⟩ := ht.form
      have hB2 := (unhide HB).keeps hk2 (by omega)
      obtain ⟨⟨b0, b1, b2, b3, b4, b5, b6⟩, f0, f1, f2, f3, f4, f5, f6⟩ := hB2.seven
      have hz2 : w.heap.size < w2.heap.size := hB2.lt
      have HB2 := hide hB2; have HT2 := hide ht; have HP2 := hide hP2; have HK2 := hide ((unhide HK1).trans hk2 (fun _ _ h => h))
      clear hB2 ht hP2 hk2
      go_wp2_with fail
      refine bodyPost_ret (results_cell rfl rfl (load7 (Blk.put7 (unhide HB2)))) rfl ?_
      refine ⟨_, rfl, TreeAt.mono (fun k hk => ?_) _ _ (TreeAt.step (W := w2) (fun k hk _ => ?_) _ _ (unhide HT2)), PAt.put7 (unhide HP2) (by omega) _ _ _ _ _ _ _, (unhide HK2).put7 (.inr (Nat.le_refl _)) _ _ _ _ _ _ _⟩
      · have : w1.heap.size ≤ k := hk
        show w.heap.size ≤ k
        omega
      · have : w1.heap.size ≤ k := hk
        exact heap_put7 _ _ _ _ _ _ _ _ _ k (by omega)
  rw [if_neg e92] at ho
  simp only [Option.some.injEq] at ho
  subst ho
  have hne : ∀ c : Int, c < 128 → byt s i ≠ c → (nextF s i bytes).1 ≠ c := by
    intro c h1 h2 h3
    have := next_ascii (bytes := bytes) hi (by rw [h3]; exact h1)
    rw [this] at h3
    exact h2 h3
  have n40 := hne 40 (by omega) e40
  have n41 := hne 41 (by omega) e41
  have n91 := hne 91 (by omega) e91
  have n92 := hne 92 (by omega) e92
  generalize nextF s i bytes = z at *
  obtain ⟨c, n⟩ := z
  simp only at n40 n41 n91 n92 hch
  have HC := hide hch
  have n40' : (c == 40) = false := by simpa using n40
  have n41' : (c == 41) = false := by simpa using n41
  have n91' : (c == 91) = false := by simpa using n91
  have n92' : (c == 92) = false := by simpa using n92
  clear hch hne n40 n41 n91 n92 e40 e41 e91 e92
  unfold plainF
  by_cases e46 : c = 46
  · subst e46
    rw [if_pos rfl]
    clear n40' n41' n91' n92'
    go_enter Tryd.func62, Tryd.ntmps62
    go_wp2_with fail
    refine (unhide HC _ ((unhide HP).below (by repeat (first | exact Below.refl _ _ | assumption | refine below_drewN ?_ _ | refine Below.drew ?_ | refine below_alloc' ?_ _))) ((unhide HT).below (by repeat (first | exact Below.refl _ _ | assumption | refine below_drewN ?_ _ | refine Below.drew ?_ | refine below_alloc' ?_ _)))).mono ?_
    rintro e w1 ⟨rfl, hP1, hK1⟩
    have hB := (unhide HRES) _ hK1
    obtain ⟨⟨b0, b1, b2, b3, b4, b5, b6⟩, f0, f1, f2, f3, f4, f5, f6⟩ := hB.seven
    have hk1 := ((Keeps.refl (fun k => k = bp) w).alloc (.cells zero7 26)).trans hK1 (fun _ _ h => h)
    have HB := hide hB; have HP1 := hide hP1; have HK1 := hide hk1; have HG1 := hide ((unhide HG) _ hk1)
    have hz1 : w.heap.size < w1.heap.size := hB.lt
    clear hP1 hK1 hB hk1 HRES
    go_wp2_with fail
    refine bodyPost_ret (results_cell rfl rfl (load7 (Blk.put7 (unhide HB)))) rfl ?_
    exact ⟨_, rfl, tree_plain 3 0, PAt.put7 (unhide HP1) (by omega) _ _ _ _ _ _ _, (unhide HK1).put7 (.inr (Nat.le_refl _)) _ _ _ _ _ _ _⟩
  by_cases e94 : c = 94
  · subst e94
    rw [if_neg (by omega), if_pos rfl]
    clear n40' n41' n91' n92'
    go_enter Tryd.func62, Tryd.ntmps62
    go_wp2_with fail
    refine (unhide HC _ ((unhide HP).below (by repeat (first | exact Below.refl _ _ | assumption | refine below_drewN ?_ _ | refine Below.drew ?_ | refine below_alloc' ?_ _))) ((unhide HT).below (by repeat (first | exact Below.refl _ _ | assumption | refine below_drewN ?_ _ | refine Below.drew ?_ | refine below_alloc' ?_ _)))).mono ?_
    rintro e w1 ⟨rfl, hP1, hK1⟩
    have hB := (unhide HRES) _ hK1
    obtain ⟨⟨b0, b1, b2, b3, b4, b5, b6⟩, f0, f1, f2, f3, f4, f5, f6⟩ := hB.seven
    have hk1 := ((Keeps.refl (fun k => k = bp) w).alloc (.cells zero7 26)).trans hK1 (fun _ _ h => h)
    have HB := hide hB; have HP1 := hide hP1; have HK1 := hide hk1; have HG1 := hide ((unhide HG) _ hk1)
    have hz1 : w.heap.size < w1.heap.size := hB.lt
    clear hP1 hK1 hB hk1 HRES
    go_wp2_with fail
    refine bodyPost_ret (results_cell rfl rfl (load7 (Blk.put7 (unhide HB)))) rfl ?_
    exact ⟨_, rfl, tree_plain 8 0, PAt.put7 (unhide HP1) (by omega) _ _ _ _ _ _ _, (unhide HK1).put7 (.inr (Nat.le_refl _)) _ _ _ _ _ _ _⟩
  by_cases e36 : c = 36
  · subst e36
    rw [if_neg (by omega), if_neg (by omega), if_pos rfl]
    clear n40' n41' n91' n92'
    go_enter Tryd.func62, Tryd.ntmps62
    go_wp2_with fail
    refine (unhide HC _ ((unhide HP).below (by repeat (first | exact Below.refl _ _ | assumption | refine below_drewN ?_ _ | refine Below.drew ?_ | refine below_alloc' ?_ _))) ((unhide HT).below (by repeat (first | exact Below.refl _ _ | assumption | refine below_drewN ?_ _ | refine Below.drew ?_ | refine below_alloc' ?_ _)))).mono ?_
    rintro e w1 ⟨rfl, hP1, hK1⟩
    have hB := (unhide HRES) _ hK1
    obtain ⟨⟨b0, b1, b2, b3, b4, b5, b6⟩, f0, f1, f2, f3, f4, f5, f6⟩ := hB.seven
    have hk1 := ((Keeps.refl (fun k => k = bp) w).alloc (.cells zero7 26)).trans hK1 (fun _ _ h => h)
    have HB := hide hB; have HP1 := hide hP1; have HK1 := hide hk1; have HG1 := hide ((unhide HG) _ hk1)
    have hz1 : w.heap.size < w1.heap.size := hB.lt
    clear hP1 hK1 hB hk1 HRES
    go_wp2_with fail
    refine bodyPost_ret (results_cell rfl rfl (load7 (Blk.put7 (unhide HB)))) rfl ?_
    exact ⟨_, rfl, tree_plain 9 0, PAt.put7 (unhide HP1) (by omega) _ _ _ _ _ _ _, (unhide HK1).put7 (.inr (Nat.le_refl _)) _ _ _ _ _ _ _⟩
  rw [if_neg e46, if_neg e94, if_neg e36]
  have n46 : (c == 46) = false := by simpa using e46
  have n94 : (c == 94) = false := by simpa using e94
  have n36 : (c == 36) = false := by simpa using e36
  clear e46 e94 e36
  go_enter Tryd.func62, Tryd.ntmps62
  go_wp2_with fail
  refine (unhide HC _ ((unhide HP).below (by repeat (first | exact Below.refl _ _ | assumption | refine below_drewN ?_ _ | refine Below.drew ?_ | refine below_alloc' ?_ _))) ((unhide HT).below (by repeat (first | exact Below.refl _ _ | assumption | refine below_drewN ?_ _ | refine Below.drew ?_ | refine below_alloc' ?_ _)))).mono ?_
  rintro e w1 ⟨rfl, hP1, hK1⟩
  have hB := (unhide HRES) _ hK1
  obtain ⟨⟨b0, b1, b2, b3, b4, b5, b6⟩, f0, f1, f2, f3, f4, f5, f6⟩ := hB.seven
  have hk1 := ((Keeps.refl (fun k => k = bp) w).alloc (.cells zero7 26)).trans hK1 (fun _ _ h => h)
  have HB := hide hB; have HP1 := hide hP1; have HK1 := hide hk1; have HG1 := hide ((unhide HG) _ hk1)
  have hz1 : w.heap.size < w1.heap.size := hB.lt
  clear hP1 hK1 hB hk1 HRES
  go_wp2_with fail
  refine bodyPost_ret (results_cell rfl rfl (load7 (Blk.put7 (unhide HB)))) rfl ?_
  exact ⟨_, rfl, tree_plain 2 c, PAt.put7 (unhide HP1) (by omega) _ _ _ _ _ _ _, (unhide HK1).put7 (.inr (Nat.le_refl _)) _ _ _ _ _ _ _⟩
end Go.Proofs.YtanmlgliibgpcaaDoor

/- The walk of cat. -/
namespace Go.Proofs.YtanmlgliibgpcaaDoor
open Go.RowKit Thr
set_option linter.unusedVariables false
set_option linter.unusedSimpArgs false

def CatPost (bp : Nat) (s : ByteArray) (bytes : Bool) (nest : Nat) (alts : List Rx) (f : Nat) (r : Res) (w w' : World) (e : Ending) : Prop :=
  (∃ j er, r = .fault j er ∧ Gives bp j er w w' e) ∨
  ∃ (cat' : List Rx) (j f' : Nat) (cs : List Value), e = .returned (.agg cs.toArray) ∧ TreeAt (fun k => w.heap.size ≤ k) w' (joinF cat') cs ∧ PAt w' bp s j bytes nest ∧ Keeps (fun k => k = bp) w w' ∧ j ≤ s.size ∧ f' ≤ f ∧ s.size - j < f' ∧
    innerF s bytes f' nest alts cat' j = some r ∧ (s.size ≤ j ∨ byt s j = 124 ∨ (0 < nest ∧ byt s j = 41))
theorem Tryd.infoRx : (Tryd.prog.info? 26).map (fun i => (i.zero, i.size, i.bytes)) = some (some (.agg #[.int .i64 0, .int .i64 0, .bool false, .slice none 0 0, .int .i64 0, .int .i64 0, .slice none 0 0]), 7, 88) := by kernel_rfl
theorem atom_le {s : ByteArray} {bytes : Bool} {f nest i : Nat} {x : Rx} {k : Nat} (hi : i < s.size) (hm : s.size ≤ 1024) (hf : s.size - (i + 1) < f) (h : atomF s bytes f nest i = some (.node x k)) : i < k ∧ k ≤ s.size := by
  have hZ := sized_all s bytes
  unfold atomF at h
  split at h
  · split at h
    · cases h
    · obtain ⟨q, hq, hp⟩ := inner_ends hZ f (nest + 1) [] [] (i + 1) hf (by omega)
      rw [hq] at h
      simp only [Option.map_some, Option.some.injEq] at h
      cases q with
      | fault j e => cases h
      | stop a c j =>
        have := hp a c j rfl
        simp only [groupR] at h
        split at h
        · injection h; omega
        · cases h
  split at h
  · cases h
  split at h
  · cases hs : setF s i bytes with
    | none => rw [hs] at h; cases h
    | some q =>
      rw [hs] at h
      simp only [oneOf, Option.some.injEq] at h
      obtain ⟨y, k'⟩ := q
      injection h with h1 h2
      subst h2
      exact set_le hZ hs
  split at h
  · cases hs : escF s i bytes with
    | none => rw [hs] at h; cases h
    | some q =>
      rw [hs] at h
      simp only [oneOf, Option.some.injEq] at h
      obtain ⟨y, k'⟩ := q
      injection h with h1 h2
      subst h2
      exact esc_le hZ hs
  · simp only [Option.some.injEq] at h
    injection h with h1 h2
    have := (next_le (i := i) hZ).2.1 hi
    omega
/-- An element of a row of trees. -/
theorem RowW.elem {w0 W : World} {bp : Nat} {s : ByteArray} {bytes : Bool} {nest i g n cap : Nat} {ts : List Rx} {xs : List Value} (h : RowW w0 W bp s bytes nest i (.slice (some ⟨g, 0, none⟩) n cap) ts xs) {k : Nat} {t : Rx} (ht : ts[k]? = some t) :
    ∃ cs, TreeAt (fun k => w0.heap.size + 1 ≤ k ∧ g ≠ k) W t cs ∧ ∀ (j : Nat) (u : Value), cs[j]? = some u → W.cell? ⟨g, k * 7 + j, none⟩ = some u ∧ W.frozen? ⟨g, k * 7 + j, none⟩ = false := by
  obtain ⟨cs, a, b⟩ := h.row.2 k t ht
  have hn : n = ts.length := by
    obtain ⟨_, ⟨h1, _⟩ | ⟨g', cap', cur, h1, _⟩⟩ := h.own
    · cases h1
    · injection h1
  subst hn
  exact ⟨cs, TreeAt.mono (fun k hk => ⟨hk.1, fun e => hk.2 (by simp [Value.ownBlock, e])⟩) _ _ a, fun j u hu => own_cell h.own (b j u hu)⟩
theorem glob_any {w W : World} {bp : Nat} {s : ByteArray} {i : Nat} {bytes : Bool} {nest : Nat} (hG : Glob w) (hP : PAt w bp s i bytes nest) (hk : Keeps (fun k => k = bp) w W) : Glob W := hG.keeps hk hP

set_option maxRecDepth 100000 in
set_option maxHeartbeats 64000000 in
theorem cat_calls {bp : Nat} {s : ByteArray} {bytes : Bool} {nest : Nat} (F : Nat) (hA : ∀ f', f' < F → nest < 40 → ∀ (i : Nat) (r : Res) (w1 : World), innerF s bytes f' (nest + 1) [] [] i = some r → i ≤ s.size → s.size - i < f' → PAt w1 bp s i bytes (nest + 1) → Glob w1 →
      Calls Tryd.prog 34 #[.pointer (some ⟨bp, 0, none⟩)] w1 fun e w' => AltPost bp s bytes (nest + 1) w1 w' e r)
    (alts : List Rx) (i f : Nat) (r : Res) (w : World) (hf : f ≤ F) (hfi : s.size - i < f) (hin : innerF s bytes f nest alts [] i = some r) (hP : PAt w bp s i bytes nest) (hG : Glob w) (hi : i ≤ s.size) (hm : s.size ≤ 1024) (hn : nest ≤ 40) :
    Calls Tryd.prog 50 #[.pointer (some ⟨bp, 0, none⟩)] w fun e w' => CatPost bp s bytes nest alts f r w w' e := by
  have hbp := hP.lt
  have hGl : ∀ W, Keeps (fun k => k = bp) w W → Glob W := fun W hk => hG.keeps hk hP
  obtain ⟨i0, hi0, hz0, hz1, hz2⟩ := info_parts Tryd.infoRx
  have hstart : RowW w (w.alloc (.cells zero7 26)) bp s bytes nest i (.slice none 0 0) [] [] := ⟨Blk.new w _ _, Blk.alloc hP _, World.ownsRow_nil _ _ _ _, TreesRow.nil _ _, (Keeps.refl _ _).alloc _, hbp⟩
  have HA := hide hA; have HG := hide hGl; have HST := hide hstart; have HIN := hide hin
  clear hA hG hGl hP hstart hin
  go_enter Tryd.func50, Tryd.ntmps50
  go_wp2_with fail
  go_loopg [3] f (fun kx vK wr => ∃ (j : Nat) (cat : List Rx) (xs : List Value), j ≤ s.size ∧ s.size - j < kx ∧ kx ≤ f ∧ Hid (innerF s bytes kx nest alts cat j = some r) ∧ cat.length ≤ j ∧ Hid (RowW w wr bp s bytes nest j vK cat xs))
  case atStart => exact ⟨i, [], [], hi, hfi, Nat.le_refl _, HIN, by simp, HST⟩
  case round =>
    obtain ⟨j, cat, xs, hj, hjf, hkf, HR, hlen, HW⟩ := hrel
    clear HST HIN
    obtain ⟨f0, rfl⟩ : ∃ f0, gk = f0 + 1 := ⟨gk - 1, by omega⟩
    have hW := unhide HW
    have p0 := hW.at_.cell 0
    have p1 := hW.at_.cell 1
    have p3 := hW.at_.cell 3
    have hbpr := hW.at_.lt
    simp at p0 p1 p3
    have hs124 := fun W (hP : PAt W bp s j bytes nest) => see_quiet (lit [124]) W hP hj hm
    rw [see_one, show ((124 : UInt8).toNat : Int) = 124 from rfl] at hs124
    have hs41 := fun W (hP : PAt W bp s j bytes nest) => see_quiet (lit [41]) W hP hj hm
    rw [see_one, show ((41 : UInt8).toNat : Int) = 41 from rfl] at hs41
    by_cases hge : s.size ≤ j
    · have hlt : decide ((j : Int) < s.size) = false := decide_eq_false (by omega)
      have hltN : decide (j < s.size) = false := decide_eq_false (by omega)
      have HS124 := hide hs124; have HS41 := hide hs41
      clear hs124 hs41
      have HSTOP := hide (show s.size ≤ j ∨ byt s j = 124 ∨ (0 < nest ∧ byt s j = 41) from .inl hge)
      obtain ⟨⟨b0, b1, b2, b3, b4, b5, b6⟩, f0', f1', f2', f3', f4', f5', f6'⟩ := hW.res.seven
      have hzr : w.heap.size < wr.heap.size := hW.res.lt
      rcases cat with _ | ⟨x, _ | ⟨y, l⟩⟩
      · obtain ⟨Ao, co, rfl⟩ := own_form hW.own
        simp only [List.length_nil] at *
        clear hW
        go_wp2_with fail
        go_quiet ((first | (go_at_call_of 51 (Value.string { data := #[41] }); exact Calls.quiet_of (unhide HS41 _ ((unhide HW).at_.drewN _))) | (go_at_call 51; exact Calls.quiet_of (unhide HS124 _ ((unhide HW).at_.drewN _)))))
        go_wp2_with fail
        refine bodyPost_ret (results_cell rfl rfl (load7 (Blk.put7 (Blk.drewN (unhide HW).res _)))) rfl ?_
        refine .inr ⟨_, j, f0 + 1, _, rfl, ?_, PAt.put7 (Blk.drewN (unhide HW).at_ _) (by omega) _ _ _ _ _ _ _, ((unhide HW).kept.drewN _).put7 (.inr (Nat.le_refl _)) _ _ _ _ _ _ _, hj, hkf, hjf, unhide HR, unhide HSTOP⟩
        exact tree_plain 1 0
      · obtain ⟨g, cap, rfl, hg1, hg2⟩ := hW.own.form (by simp)
        obtain ⟨cs, ht, hc⟩ := hW.elem (k := 0) (t := x) rfl
        obtain ⟨k1, k2, k3, As, ls, cs', k5, k6, A, lk, cc, rfl⟩ := ht.form
        have e0 := (hc 0 _ rfl).1
        have e1 := (hc 1 _ rfl).1
        have e2 := (hc 2 _ rfl).1
        have e3 := (hc 3 _ rfl).1
        have e4 := (hc 4 _ rfl).1
        have e5 := (hc 5 _ rfl).1
        have e6 := (hc 6 _ rfl).1
        simp only [Nat.zero_mul, Nat.zero_add] at e0 e1 e2 e3 e4 e5 e6
        have HT := hide ht
        simp only [List.length_cons, List.length_nil, Nat.zero_add] at *
        clear hW hc ht
        go_wp2_with fail
        go_quiet ((first | (go_at_call_of 51 (Value.string { data := #[41] }); exact Calls.quiet_of (unhide HS41 _ ((unhide HW).at_.drewN _))) | (go_at_call 51; exact Calls.quiet_of (unhide HS124 _ ((unhide HW).at_.drewN _)))))
        go_wp2_with fail
        refine bodyPost_ret (results_cell rfl rfl (load7 (Blk.put7 (Blk.drewN (unhide HW).res _)))) rfl ?_
        refine .inr ⟨_, j, f0 + 1, _, rfl, ?_, PAt.put7 (Blk.drewN (unhide HW).at_ _) (by omega) _ _ _ _ _ _ _, ((unhide HW).kept.drewN _).put7 (.inr (Nat.le_refl _)) _ _ _ _ _ _ _, hj, hkf, hjf, unhide HR, unhide HSTOP⟩
        exact TreeAt.mono (fun k hk => (by have := hk.1; omega : w.heap.size ≤ k)) _ _ (TreeAt.step (W := wr) (fun k hk _ => heap_put7 (wr.drewN nq) _ _ _ _ _ _ _ _ k (by have := hk.1; omega)) _ _ (unhide HT))
      · obtain ⟨g, cap, rfl, hg1, hg2⟩ := hW.own.form (by simp)
        have hln : l.length ≤ 1024 := by simp at hlen; omega
        have htk := tree_kids (ok' := fun k => w.heap.size + 1 ≤ k) 5 hW.own hW.row (fun k hk => hk.1) (fun k hk => hk)
        simp only [List.length_cons] at htk
        have HT := hide htk
        have l1 : ((l.length : Int) + 1 + 1 == 0) = false := by simp; omega
        have l2 : ((l.length : Int) + 1 + 1 == 1) = false := by simp; omega
        simp only [List.length_cons] at *
        clear hW htk
        go_wp2_with fail
        go_quiet ((first | (go_at_call_of 51 (Value.string { data := #[41] }); exact Calls.quiet_of (unhide HS41 _ ((unhide HW).at_.drewN _))) | (go_at_call 51; exact Calls.quiet_of (unhide HS124 _ ((unhide HW).at_.drewN _)))))
        go_wp2_with fail
        refine bodyPost_ret (results_cell rfl rfl (load7 (Blk.put7 (Blk.drewN (unhide HW).res _)))) rfl ?_
        refine .inr ⟨_, j, f0 + 1, _, rfl, ?_, PAt.put7 (Blk.drewN (unhide HW).at_ _) (by omega) _ _ _ _ _ _ _, ((unhide HW).kept.drewN _).put7 (.inr (Nat.le_refl _)) _ _ _ _ _ _ _, hj, hkf, hjf, unhide HR, unhide HSTOP⟩
        exact TreeAt.mono (fun k hk => (by have : w.heap.size + 1 ≤ k := hk; omega : w.heap.size ≤ k)) _ _ (TreeAt.step (W := wr) (fun k hk _ => heap_put7 (wr.drewN nq) _ _ _ _ _ _ _ _ k (by have : w.heap.size + 1 ≤ k := hk; omega)) _ _ (unhide HT))
    have hjl : j < s.size := by omega
    have hlt : decide ((j : Int) < s.size) = true := decide_eq_true (by omega)
    have hltN : decide (j < s.size) = true := decide_eq_true (by omega)
    by_cases h124 : byt s j = 124
    · have ho : Thr.one s j 124 = true := by simp [Thr.one]; exact ⟨hjl, h124⟩
      rw [ho] at hs124
      have HS124 := hide hs124; have HS41 := hide hs41
      clear hs124 hs41 ho
      have HSTOP := hide (show s.size ≤ j ∨ byt s j = 124 ∨ (0 < nest ∧ byt s j = 41) from .inr (.inl h124))
      obtain ⟨⟨b0, b1, b2, b3, b4, b5, b6⟩, f0', f1', f2', f3', f4', f5', f6'⟩ := hW.res.seven
      have hzr : w.heap.size < wr.heap.size := hW.res.lt
      rcases cat with _ | ⟨x, _ | ⟨y, l⟩⟩
      · obtain ⟨Ao, co, rfl⟩ := own_form hW.own
        simp only [List.length_nil] at *
        clear hW
        go_wp2_with fail
        go_quiet ((first | (go_at_call_of 51 (Value.string { data := #[41] }); exact Calls.quiet_of (unhide HS41 _ ((unhide HW).at_.drewN _))) | (go_at_call 51; exact Calls.quiet_of (unhide HS124 _ ((unhide HW).at_.drewN _)))))
        go_wp2_with fail
        refine bodyPost_ret (results_cell rfl rfl (load7 (Blk.put7 (Blk.drewN (unhide HW).res _)))) rfl ?_
        refine .inr ⟨_, j, f0 + 1, _, rfl, ?_, PAt.put7 (Blk.drewN (unhide HW).at_ _) (by omega) _ _ _ _ _ _ _, ((unhide HW).kept.drewN _).put7 (.inr (Nat.le_refl _)) _ _ _ _ _ _ _, hj, hkf, hjf, unhide HR, unhide HSTOP⟩
        exact tree_plain 1 0
      · obtain ⟨g, cap, rfl, hg1, hg2⟩ := hW.own.form (by simp)
        obtain ⟨cs, ht, hc⟩ := hW.elem (k := 0) (t := x) rfl
        obtain ⟨k1, k2, k3, As, ls, cs', k5, k6, A, lk, cc, rfl⟩ := ht.form
        have e0 := (hc 0 _ rfl).1
        have e1 := (hc 1 _ rfl).1
        have e2 := (hc 2 _ rfl).1
        have e3 := (hc 3 _ rfl).1
        have e4 := (hc 4 _ rfl).1
        have e5 := (hc 5 _ rfl).1
        have e6 := (hc 6 _ rfl).1
        simp only [Nat.zero_mul, Nat.zero_add] at e0 e1 e2 e3 e4 e5 e6
        have HT := hide ht
        simp only [List.length_cons, List.length_nil, Nat.zero_add] at *
        clear hW hc ht
        go_wp2_with fail
        go_quiet ((first | (go_at_call_of 51 (Value.string { data := #[41] }); exact Calls.quiet_of (unhide HS41 _ ((unhide HW).at_.drewN _))) | (go_at_call 51; exact Calls.quiet_of (unhide HS124 _ ((unhide HW).at_.drewN _)))))
        go_wp2_with fail
        refine bodyPost_ret (results_cell rfl rfl (load7 (Blk.put7 (Blk.drewN (unhide HW).res _)))) rfl ?_
        refine .inr ⟨_, j, f0 + 1, _, rfl, ?_, PAt.put7 (Blk.drewN (unhide HW).at_ _) (by omega) _ _ _ _ _ _ _, ((unhide HW).kept.drewN _).put7 (.inr (Nat.le_refl _)) _ _ _ _ _ _ _, hj, hkf, hjf, unhide HR, unhide HSTOP⟩
        exact TreeAt.mono (fun k hk => (by have := hk.1; omega : w.heap.size ≤ k)) _ _ (TreeAt.step (W := wr) (fun k hk _ => heap_put7 (wr.drewN nq) _ _ _ _ _ _ _ _ k (by have := hk.1; omega)) _ _ (unhide HT))
      · obtain ⟨g, cap, rfl, hg1, hg2⟩ := hW.own.form (by simp)
        have hln : l.length ≤ 1024 := by simp at hlen; omega
        have htk := tree_kids (ok' := fun k => w.heap.size + 1 ≤ k) 5 hW.own hW.row (fun k hk => hk.1) (fun k hk => hk)
        simp only [List.length_cons] at htk
        have HT := hide htk
        have l1 : ((l.length : Int) + 1 + 1 == 0) = false := by simp; omega
        have l2 : ((l.length : Int) + 1 + 1 == 1) = false := by simp; omega
        simp only [List.length_cons] at *
        clear hW htk
        go_wp2_with fail
        go_quiet ((first | (go_at_call_of 51 (Value.string { data := #[41] }); exact Calls.quiet_of (unhide HS41 _ ((unhide HW).at_.drewN _))) | (go_at_call 51; exact Calls.quiet_of (unhide HS124 _ ((unhide HW).at_.drewN _)))))
        go_wp2_with fail
        refine bodyPost_ret (results_cell rfl rfl (load7 (Blk.put7 (Blk.drewN (unhide HW).res _)))) rfl ?_
        refine .inr ⟨_, j, f0 + 1, _, rfl, ?_, PAt.put7 (Blk.drewN (unhide HW).at_ _) (by omega) _ _ _ _ _ _ _, ((unhide HW).kept.drewN _).put7 (.inr (Nat.le_refl _)) _ _ _ _ _ _ _, hj, hkf, hjf, unhide HR, unhide HSTOP⟩
        exact TreeAt.mono (fun k hk => (by have : w.heap.size + 1 ≤ k := hk; omega : w.heap.size ≤ k)) _ _ (TreeAt.step (W := wr) (fun k hk _ => heap_put7 (wr.drewN nq) _ _ _ _ _ _ _ _ k (by have : w.heap.size + 1 ≤ k := hk; omega)) _ _ (unhide HT))
    have ho : Thr.one s j 124 = false := by simp [Thr.one]; exact fun _ => h124
    rw [ho] at hs124
    have HS124 := hide hs124
    clear hs124 ho
    by_cases h41 : 0 < nest ∧ byt s j = 41
    · have ho : Thr.one s j 41 = true := by simp [Thr.one]; exact ⟨hjl, h41.2⟩
      rw [ho] at hs41
      have HS41 := hide hs41
      have n1 : decide (0 < (nest : Int)) = true := decide_eq_true (by omega)
      have n2 : decide ((nest : Int) > 0) = true := decide_eq_true (by omega)
      have n3 : decide (0 < nest) = true := decide_eq_true (by omega)
      clear hs41 ho
      have HSTOP := hide (show s.size ≤ j ∨ byt s j = 124 ∨ (0 < nest ∧ byt s j = 41) from .inr (.inr h41))
      obtain ⟨⟨b0, b1, b2, b3, b4, b5, b6⟩, f0', f1', f2', f3', f4', f5', f6'⟩ := hW.res.seven
      have hzr : w.heap.size < wr.heap.size := hW.res.lt
      rcases cat with _ | ⟨x, _ | ⟨y, l⟩⟩
      · obtain ⟨Ao, co, rfl⟩ := own_form hW.own
        simp only [List.length_nil] at *
        clear hW
        go_wp2_with fail
        go_quiet ((first | (go_at_call_of 51 (Value.string { data := #[41] }); exact Calls.quiet_of (unhide HS41 _ ((unhide HW).at_.drewN _))) | (go_at_call 51; exact Calls.quiet_of (unhide HS124 _ ((unhide HW).at_.drewN _)))))
        go_wp2_with fail
        refine bodyPost_ret (results_cell rfl rfl (load7 (Blk.put7 (Blk.drewN (unhide HW).res _)))) rfl ?_
        refine .inr ⟨_, j, f0 + 1, _, rfl, ?_, PAt.put7 (Blk.drewN (unhide HW).at_ _) (by omega) _ _ _ _ _ _ _, ((unhide HW).kept.drewN _).put7 (.inr (Nat.le_refl _)) _ _ _ _ _ _ _, hj, hkf, hjf, unhide HR, unhide HSTOP⟩
        exact tree_plain 1 0
      · obtain ⟨g, cap, rfl, hg1, hg2⟩ := hW.own.form (by simp)
        obtain ⟨cs, ht, hc⟩ := hW.elem (k := 0) (t := x) rfl
        obtain ⟨k1, k2, k3, As, ls, cs', k5, k6, A, lk, cc, rfl⟩ := ht.form
        have e0 := (hc 0 _ rfl).1
        have e1 := (hc 1 _ rfl).1
        have e2 := (hc 2 _ rfl).1
        have e3 := (hc 3 _ rfl).1
        have e4 := (hc 4 _ rfl).1
        have e5 := (hc 5 _ rfl).1
        have e6 := (hc 6 _ rfl).1
        simp only [Nat.zero_mul, Nat.zero_add] at e0 e1 e2 e3 e4 e5 e6
        have HT := hide ht
        simp only [List.length_cons, List.length_nil, Nat.zero_add] at *
        clear hW hc ht
        go_wp2_with fail
        go_quiet ((first | (go_at_call_of 51 (Value.string { data := #[41] }); exact Calls.quiet_of (unhide HS41 _ ((unhide HW).at_.drewN _))) | (go_at_call 51; exact Calls.quiet_of (unhide HS124 _ ((unhide HW).at_.drewN _)))))
        go_wp2_with fail
        refine bodyPost_ret (results_cell rfl rfl (load7 (Blk.put7 (Blk.drewN (unhide HW).res _)))) rfl ?_
        refine .inr ⟨_, j, f0 + 1, _, rfl, ?_, PAt.put7 (Blk.drewN (unhide HW).at_ _) (by omega) _ _ _ _ _ _ _, ((unhide HW).kept.drewN _).put7 (.inr (Nat.le_refl _)) _ _ _ _ _ _ _, hj, hkf, hjf, unhide HR, unhide HSTOP⟩
        exact TreeAt.mono (fun k hk => (by have := hk.1; omega : w.heap.size ≤ k)) _ _ (TreeAt.step (W := wr) (fun k hk _ => heap_put7 (wr.drewN nq) _ _ _ _ _ _ _ _ k (by have := hk.1; omega)) _ _ (unhide HT))
      · obtain ⟨g, cap, rfl, hg1, hg2⟩ := hW.own.form (by simp)
        have hln : l.length ≤ 1024 := by simp at hlen; omega
        have htk := tree_kids (ok' := fun k => w.heap.size + 1 ≤ k) 5 hW.own hW.row (fun k hk => hk.1) (fun k hk => hk)
        simp only [List.length_cons] at htk
        have HT := hide htk
        have l1 : ((l.length : Int) + 1 + 1 == 0) = false := by simp; omega
        have l2 : ((l.length : Int) + 1 + 1 == 1) = false := by simp; omega
        simp only [List.length_cons] at *
        clear hW htk
        go_wp2_with fail
        go_quiet ((first | (go_at_call_of 51 (Value.string { data := #[41] }); exact Calls.quiet_of (unhide HS41 _ ((unhide HW).at_.drewN _))) | (go_at_call 51; exact Calls.quiet_of (unhide HS124 _ ((unhide HW).at_.drewN _)))))
        go_wp2_with fail
        refine bodyPost_ret (results_cell rfl rfl (load7 (Blk.put7 (Blk.drewN (unhide HW).res _)))) rfl ?_
        refine .inr ⟨_, j, f0 + 1, _, rfl, ?_, PAt.put7 (Blk.drewN (unhide HW).at_ _) (by omega) _ _ _ _ _ _ _, ((unhide HW).kept.drewN _).put7 (.inr (Nat.le_refl _)) _ _ _ _ _ _ _, hj, hkf, hjf, unhide HR, unhide HSTOP⟩
        exact TreeAt.mono (fun k hk => (by have : w.heap.size + 1 ≤ k := hk; omega : w.heap.size ≤ k)) _ _ (TreeAt.step (W := wr) (fun k hk _ => heap_put7 (wr.drewN nq) _ _ _ _ _ _ _ _ k (by have : w.heap.size + 1 ≤ k := hk; omega)) _ _ (unhide HT))
    have hin := unhide HR
    have hatom : ∀ (hag : (if cat = [] then Again.no else againF s j) = .no), ∃ o, atomF s bytes f0 nest j = some o ∧ (match o with | .fault j e => r = .fault j e | .node x k => innerF s bytes f0 nest alts (cat ++ [x]) k = some r) := fun hag => inner_atom hin hjl hag h124 h41
    have hstep : (match (if cat = [] then Again.no else againF s j) with | .no => True | .fault e => r = .fault j e | .yes lo hi k => innerF s bytes f0 nest alts (initL cat ++ [repN lo hi (lastL cat)]) k = some r) := by
      have h := hin
      simp only [innerF] at h
      rw [if_neg (by omega)] at h
      generalize (if cat = [] then Again.no else againF s j) = ag at h
      cases ag with
      | no => trivial
      | fault e => simp only at h; injection h with h; exact h.symm
      | yes lo hi k => exact h
    clear hin
    rcases Nat.eq_zero_or_pos nest with hn0 | hn0
    · have n1 : decide (0 < (nest : Int)) = false := decide_eq_false (by omega)
      have n2 : decide ((nest : Int) > 0) = false := decide_eq_false (by omega)
      have n3 : decide (0 < nest) = false := decide_eq_false (by omega)
      have HS41 := hide hs41
      clear hs41 hn0 h41 h124
      rcases List.eq_nil_or_concat cat with hc | ⟨pre, last, hc⟩
      · have hl : cat.length = 0 := by rw [hc]; rfl
        obtain ⟨Ao, co, rfl⟩ := own_form hW.own
        rw [hl] at hW HW hlen ⊢
        have hag : (if cat = [] then Again.no else againF s j) = .no := by rw [if_pos hc]
        obtain ⟨o, ho, hor⟩ := hatom hag
        have hkl : ∀ x k, o = .node x k → j < k ∧ k ≤ s.size := by
          intro x k e
          subst e
          exact atom_le hjl hm (by omega) ho
        have HO := hide ho; have HOR := hide hor; have HKL := hide hkl
        clear ho hor hkl
        have HL := hide hl
        clear hW hc hag hl hatom
        go_wp2_with fail
        go_quiet ((first | (go_at_call_of 51 (Value.string { data := #[41] }); exact Calls.quiet_of (unhide HS41 _ ((unhide HW).at_.drewN _))) | (go_at_call 51; exact Calls.quiet_of (unhide HS124 _ ((unhide HW).at_.drewN _)))))
        go_wp2_with fail
        have HW1 := hide ((unhide HW).below (below_drewN (Below.refl wr.heap.size wr) nq))
        refine (rxrep_nil Ao co _).mono ?_
        rintro e w2 ⟨rfl, hb2⟩
        have HW2 := hide ((unhide HW1).below hb2)
        clear hb2
        unfold zero7
        go_wp2_with fail
        refine (atom_calls (f := f0) o _ (Blk.alloc (unhide HW2).at_ _) ((unhide HG) _ ((unhide HW2).kept.alloc _)) hjl hm hn (by omega) (unhide HO) (fun hn40 r' w9 h1 h2 h3 => (unhide HA) f0 (by omega) hn40 (j + 1) r' w9 h1 (by omega) (by omega) h2 h3)).mono ?_
        cases o with
        | fault j' er =>
          rintro e w4 ⟨rfl, hk4⟩
          have hr := (unhide HOR)
          simp only at hr
          exact ⟨rfl, .inl ⟨j', er, hr, rfl, ((unhide HW2).kept.alloc _).trans hk4 (fun _ _ h => h)⟩⟩
        | node x k =>
          rintro e w4 ⟨cs, rfl, ht, hP4, hk4⟩
          have hin := (unhide HOR)
          simp only at hin
          obtain ⟨k1, k2, k3, As, ls, cs', k5, k6, A, lk, cc, rfl⟩ := ht.form
          have hW3 := (unhide HW2).below ((Below.refl _ _).alloc (Nat.le_refl _) (.cells zero7 26))
          have hW4 := hW3.move hk4 hP4
          have hkle := (unhide HKL) x k rfl
          have hown := hW4.own
          rw [unhide HL] at hown
          have h1w : w.heap.size < (w2.alloc (.cells zero7 26)).heap.size := hW3.res.lt
          have h2w : ∀ k, (Value.slice Ao (0) co).ownBlock = some k → k < (w2.alloc (.cells zero7 26)).heap.size := fun k hk => (own_lt hW3.own k hk).2
          have HW4 := hide hW4; have HT := hide ht; have HOWN := hide hown; have H1 := hide h1w; have H2 := hide h2w; have HIN := hide hin
          have hz4 : w.heap.size < w4.heap.size := hW4.res.lt
          clear hW3 hW4 ht hP4 hk4 hown h1w h2w hin
          go_wp2_with
           ((at_builtin; refine wpList_append_lies _ (by rfl) _ _ _ (by rfl) (w.heap.size + 1) 26 i0 _ 7 88 Tryd.underlying24 hi0 hz0 hz1 hz2 rfl (by omega) (.slice Ao (0) co) (0) xs (by rfl)
                (by exact (unhide HOWN).alloc _) ⟨w4.heap.size, 0, none⟩ 1 _ [.int .i64 k1, .int .i64 k2, .bool k3, .slice As ls cs', .int .i64 k5, .int .i64 k6, .slice A lk cc]
                (by rfl) (by rfl) (by exact World.news_of_block (cs := #[.int .i64 k1, .int .i64 k2, .bool k3, .slice As ls cs', .int .i64 k5, .int .i64 k6, .slice A lk cc]) (heap_alloc_new _ _))
                (by simp [Value.oneCell']) (by omega) (by simp only [maxLen]; omega) (by omega) (by first | omega | (simp; omega)) _ (by rfl) ?_; intro go cap5 w5 hown5 hgrow hat5 hlt5))
          have hW5 := (unhide HW4).app (go := go) (cap := cap5) (unhide HT) (unhide H1) (unhide H2) (below_alloc' (Below.refl w4.heap.size w4) _) hgrow (by rw [unhide HL]; exact hown5) hat5
          rw [unhide HL] at hW5
          have HW5 := hide hW5
          have hl2 := unhide HL
          clear hW5 hown5 hgrow hat5
          go_roundg f0
          case measure => omega
          case rel => exact ⟨k, cat ++ [x], _, hkle.2, by omega, by omega, HIN, by simp only [List.length_append, List.length_cons, List.length_nil]; omega, HW5⟩
      · rw [List.concat_eq_append] at hc
        have hl : cat.length = pre.length + 1 := by rw [hc]; simp
        have hcn : cat ≠ [] := by rw [hc]; simp
        obtain ⟨g, cap, rfl, hg1, hg2⟩ := hW.own.form (by omega)
        rw [hl] at hW HW hlen ⊢
        have HL := hide hl
        have hel : cat[pre.length]? = some last := by rw [hc]; simp
        have hlastE : lastL cat = last ∧ initL cat = pre := by
          have h1 := init_last hcn
          rw [hc] at h1 ⊢
          have h2 := List.append_inj' h1 rfl
          simp at h2
          exact ⟨h2.2.symm, h2.1.symm⟩
        obtain ⟨csl, htl, hcl⟩ := hW.elem hel
        have HW1' := hide (fun n => (unhide HW).below (below_drewN (Below.refl wr.heap.size wr) n))
        have hrep := fun n => rxrep_calls (ok := fun k => w.heap.size + 1 ≤ k ∧ g ≠ k) (cap := cap) (m := pre.length) last csl (wr.drewN n) (Blk.drewN hW.at_ n) hjl hm (by omega) (TreeAt.step (W := wr) (W' := wr.drewN n) (fun _ _ _ => rfl) _ _ htl) (fun q v hq => (hcl q v hq).1) (by omega) (fun k hk e => by have := hk.1; omega)
        have hagE : (if cat = [] then Again.no else againF s j) = againF s j := by rw [if_neg hcn]
        rw [hagE] at hatom hstep
        cases hag : againF s j with
        | no =>
          rw [hag] at hrep
          obtain ⟨o, ho, hor⟩ := hatom hag
          have hkl : ∀ x k, o = .node x k → j < k ∧ k ≤ s.size := by
            intro x k e
            subst e
            exact atom_le hjl hm (by omega) ho
          have HO := hide ho; have HOR := hide hor; have HKL := hide hkl
          clear ho hor hkl
          have HREP := hide hrep
          clear hW hc hag hl hatom hrep htl hcl hagE hlastE hel hcn HW1' hstep
          go_wp2_with fail
          go_quiet ((first | (go_at_call_of 51 (Value.string { data := #[41] }); exact Calls.quiet_of (unhide HS41 _ ((unhide HW).at_.drewN _))) | (go_at_call 51; exact Calls.quiet_of (unhide HS124 _ ((unhide HW).at_.drewN _)))))
          go_wp2_with fail
          have HW1 := hide ((unhide HW).below (below_drewN (Below.refl wr.heap.size wr) nq))
          refine ((unhide HREP) _).mono ?_
          rintro e w2 ⟨rfl, hb2⟩
          have HW2 := hide ((unhide HW1).below hb2)
          clear hb2
          unfold zero7
          go_wp2_with fail
          refine (atom_calls (f := f0) o _ (Blk.alloc (unhide HW2).at_ _) ((unhide HG) _ ((unhide HW2).kept.alloc _)) hjl hm hn (by omega) (unhide HO) (fun hn40 r' w9 h1 h2 h3 => (unhide HA) f0 (by omega) hn40 (j + 1) r' w9 h1 (by omega) (by omega) h2 h3)).mono ?_
          cases o with
          | fault j' er =>
            rintro e w4 ⟨rfl, hk4⟩
            have hr := (unhide HOR)
            simp only at hr
            exact ⟨rfl, .inl ⟨j', er, hr, rfl, ((unhide HW2).kept.alloc _).trans hk4 (fun _ _ h => h)⟩⟩
          | node x k =>
            rintro e w4 ⟨cs, rfl, ht, hP4, hk4⟩
            have hin := (unhide HOR)
            simp only at hin
            obtain ⟨k1, k2, k3, As, ls, cs', k5, k6, A, lk, cc, rfl⟩ := ht.form
            have hW3 := (unhide HW2).below ((Below.refl _ _).alloc (Nat.le_refl _) (.cells zero7 26))
            have hW4 := hW3.move hk4 hP4
            have hkle := (unhide HKL) x k rfl
            have hown := hW4.own
            rw [unhide HL] at hown
            have h1w : w.heap.size < (w2.alloc (.cells zero7 26)).heap.size := hW3.res.lt
            have h2w : ∀ k, (Value.slice (some ⟨g, 0, none⟩) (pre.length + 1) cap).ownBlock = some k → k < (w2.alloc (.cells zero7 26)).heap.size := fun k hk => (own_lt hW3.own k hk).2
            have HW4 := hide hW4; have HT := hide ht; have HOWN := hide hown; have H1 := hide h1w; have H2 := hide h2w; have HIN := hide hin
            have hz4 : w.heap.size < w4.heap.size := hW4.res.lt
            clear hW3 hW4 ht hP4 hk4 hown h1w h2w hin
            go_wp2_with
             ((at_builtin; refine wpList_append_lies _ (by rfl) _ _ _ (by rfl) (w.heap.size + 1) 26 i0 _ 7 88 Tryd.underlying24 hi0 hz0 hz1 hz2 rfl (by omega) (.slice (some ⟨g, 0, none⟩) (pre.length + 1) cap) (pre.length + 1) xs (by rfl)
                  (by exact (unhide HOWN).alloc _) ⟨w4.heap.size, 0, none⟩ 1 _ [.int .i64 k1, .int .i64 k2, .bool k3, .slice As ls cs', .int .i64 k5, .int .i64 k6, .slice A lk cc]
                  (by rfl) (by rfl) (by exact World.news_of_block (cs := #[.int .i64 k1, .int .i64 k2, .bool k3, .slice As ls cs', .int .i64 k5, .int .i64 k6, .slice A lk cc]) (heap_alloc_new _ _))
                  (by simp [Value.oneCell']) (by omega) (by simp only [maxLen]; omega) (by omega) (by first | omega | (simp; omega)) _ (by rfl) ?_; intro go cap5 w5 hown5 hgrow hat5 hlt5))
            have hW5 := (unhide HW4).app (go := go) (cap := cap5) (unhide HT) (unhide H1) (unhide H2) (below_alloc' (Below.refl w4.heap.size w4) _) hgrow (by rw [unhide HL]; exact hown5) hat5
            rw [unhide HL] at hW5
            have HW5 := hide hW5
            have hl2 := unhide HL
            clear hW5 hown5 hgrow hat5
            go_roundg f0
            case measure => omega
            case rel => exact ⟨k, cat ++ [x], _, hkle.2, by omega, by omega, HIN, by simp only [List.length_append, List.length_cons, List.length_nil]; omega, HW5⟩
        | fault er =>
          rw [hag] at hrep hstep
          simp only at hstep
          have HREP := hide hrep; have HRS := hide hstep
          clear hW hc hag hl hatom hrep htl hcl hagE hlastE hel hcn HW1' hstep
          go_wp2_with fail
          go_quiet ((first | (go_at_call_of 51 (Value.string { data := #[41] }); exact Calls.quiet_of (unhide HS41 _ ((unhide HW).at_.drewN _))) | (go_at_call 51; exact Calls.quiet_of (unhide HS124 _ ((unhide HW).at_.drewN _)))))
          go_wp2_with fail
          have HW1 := hide ((unhide HW).below (below_drewN (Below.refl wr.heap.size wr) nq))
          refine ((unhide HREP) _).mono ?_
          rintro e w2 ⟨rfl, hk2⟩
          exact ⟨rfl, .inl ⟨j, er, unhide HRS, rfl, (unhide HW1).kept.trans hk2 (fun _ _ h => h)⟩⟩
        | yes lo hi' k =>
          have hkl := again_le hjl hag
          rw [hag] at hrep hstep
          simp only [hlastE.1, hlastE.2] at hstep
          obtain ⟨k1, k2, k3, As, ls, cs', k5, k6, A, lk, cc, rfl⟩ := htl.form
          have HREP := hide hrep; have HRS := hide hstep; have HCL := hide hcl; have HC := hide hc
          clear hW hc hag hatom hrep htl hcl hagE hlastE hel hcn HW1' hstep
          go_wp2_with fail
          go_quiet ((first | (go_at_call_of 51 (Value.string { data := #[41] }); exact Calls.quiet_of (unhide HS41 _ ((unhide HW).at_.drewN _))) | (go_at_call 51; exact Calls.quiet_of (unhide HS124 _ ((unhide HW).at_.drewN _)))))
          go_wp2_with fail
          have HW1 := hide ((unhide HW).below (below_drewN (Below.refl wr.heap.size wr) nq))
          refine ((unhide HREP) _).mono ?_
          rintro e w2 ⟨csn, rfl, htn, hP2, hk2⟩
          have hW2 := (unhide HW1).move hk2 hP2
          have hgo : ∀ q (v : Value), w2.cell? ⟨g, pre.length * 7 + q, none⟩ = wr.cell? ⟨g, pre.length * 7 + q, none⟩ ∧ w2.frozen? ⟨g, pre.length * 7 + q, none⟩ = wr.frozen? ⟨g, pre.length * 7 + q, none⟩ := fun q v => ⟨hk2.cell (by exact hg2) (by omega), hk2.frozen (by exact hg2) (by omega)⟩
          have e0 := (hgo 0 default).1.trans ((unhide HCL) 0 _ rfl).1
          have e1 := (hgo 1 default).1.trans ((unhide HCL) 1 _ rfl).1
          have e2 := (hgo 2 default).1.trans ((unhide HCL) 2 _ rfl).1
          have e3 := (hgo 3 default).1.trans ((unhide HCL) 3 _ rfl).1
          have e4 := (hgo 4 default).1.trans ((unhide HCL) 4 _ rfl).1
          have e5 := (hgo 5 default).1.trans ((unhide HCL) 5 _ rfl).1
          have e6 := (hgo 6 default).1.trans ((unhide HCL) 6 _ rfl).1
          have z0 := (hgo 0 default).2.trans ((unhide HCL) 0 _ rfl).2
          have z1 := (hgo 1 default).2.trans ((unhide HCL) 1 _ rfl).2
          have z2 := (hgo 2 default).2.trans ((unhide HCL) 2 _ rfl).2
          have z3 := (hgo 3 default).2.trans ((unhide HCL) 3 _ rfl).2
          have z4 := (hgo 4 default).2.trans ((unhide HCL) 4 _ rfl).2
          have z5 := (hgo 5 default).2.trans ((unhide HCL) 5 _ rfl).2
          have z6 := (hgo 6 default).2.trans ((unhide HCL) 6 _ rfl).2
          simp only [Nat.add_zero] at e0 z0
          have hg3 : g < w2.heap.size := by have := hk2.size; simp at this; omega
          have htn' : TreeAt (fun k => w.heap.size + 1 ≤ k ∧ g ≠ k) w2 (repN lo hi' last) csn := TreeAt.mono (fun q hq => by
            rcases hq with hq | hq
            · exact hq
            · have hq' : wr.heap.size ≤ q := by simpa using hq
              have hzz := (unhide HW).res.lt
              exact ⟨by omega, by omega⟩) _ _ htn
          obtain ⟨n1, n2, n3, As2, ls2, cs2, n5, n6, A2, lk2, cc2, rfl⟩ := htn'.form
          have hWc : RowW w w2 bp s bytes nest k (.slice (some ⟨g, 0, none⟩) (pre.length + 1) cap) (pre ++ [last]) xs := by rw [← unhide HC]; exact hW2
          have hW3 := RowW.put hWc rfl htn'
          have hm1 : (0 : Int) ≤ pre.length := by omega
          have hm2 : (pre.length : Int) < pre.length + 1 := by omega
          have HW3 := hide hW3
          have hzw : w.heap.size < w2.heap.size := hWc.res.lt
          clear hW2 hW3 hWc htn htn' hP2 hk2 hgo
          go_wp2_with fail
          go_roundg f0
          case measure => omega
          case rel => exact ⟨k, pre ++ [repN lo hi' last], _, hkl.2, by omega, by omega, HRS, by simp only [List.length_append, List.length_cons, List.length_nil]; omega, hide ((unhide HW3).below ((Below.refl _ _).alloc (Nat.le_refl _) _))⟩
    · have n1 : decide (0 < (nest : Int)) = true := decide_eq_true (by omega)
      have n2 : decide ((nest : Int) > 0) = true := decide_eq_true (by omega)
      have n3 : decide (0 < nest) = true := decide_eq_true (by omega)
      have ho : Thr.one s j 41 = false := by simp [Thr.one]; exact fun _ h => h41 ⟨hn0, h⟩
      rw [ho] at hs41
      have HS41 := hide hs41
      clear hs41 ho h41 h124
      rcases List.eq_nil_or_concat cat with hc | ⟨pre, last, hc⟩
      · have hl : cat.length = 0 := by rw [hc]; rfl
        obtain ⟨Ao, co, rfl⟩ := own_form hW.own
        rw [hl] at hW HW hlen ⊢
        have hag : (if cat = [] then Again.no else againF s j) = .no := by rw [if_pos hc]
        obtain ⟨o, ho, hor⟩ := hatom hag
        have hkl : ∀ x k, o = .node x k → j < k ∧ k ≤ s.size := by
          intro x k e
          subst e
          exact atom_le hjl hm (by omega) ho
        have HO := hide ho; have HOR := hide hor; have HKL := hide hkl
        clear ho hor hkl
        have HL := hide hl
        clear hW hc hag hl hatom
        go_wp2_with fail
        go_quiet ((first | (go_at_call_of 51 (Value.string { data := #[41] }); exact Calls.quiet_of (unhide HS41 _ ((unhide HW).at_.drewN _))) | (go_at_call 51; exact Calls.quiet_of (unhide HS124 _ ((unhide HW).at_.drewN _)))))
        go_wp2_with fail
        have HW1 := hide ((unhide HW).below (below_drewN (Below.refl wr.heap.size wr) nq))
        refine (rxrep_nil Ao co _).mono ?_
        rintro e w2 ⟨rfl, hb2⟩
        have HW2 := hide ((unhide HW1).below hb2)
        clear hb2
        unfold zero7
        go_wp2_with fail
        refine (atom_calls (f := f0) o _ (Blk.alloc (unhide HW2).at_ _) ((unhide HG) _ ((unhide HW2).kept.alloc _)) hjl hm hn (by omega) (unhide HO) (fun hn40 r' w9 h1 h2 h3 => (unhide HA) f0 (by omega) hn40 (j + 1) r' w9 h1 (by omega) (by omega) h2 h3)).mono ?_
        cases o with
        | fault j' er =>
          rintro e w4 ⟨rfl, hk4⟩
          have hr := (unhide HOR)
          simp only at hr
          exact ⟨rfl, .inl ⟨j', er, hr, rfl, ((unhide HW2).kept.alloc _).trans hk4 (fun _ _ h => h)⟩⟩
        | node x k =>
          rintro e w4 ⟨cs, rfl, ht, hP4, hk4⟩
          have hin := (unhide HOR)
          simp only at hin
          obtain ⟨k1, k2, k3, As, ls, cs', k5, k6, A, lk, cc, rfl⟩ := ht.form
          have hW3 := (unhide HW2).below ((Below.refl _ _).alloc (Nat.le_refl _) (.cells zero7 26))
          have hW4 := hW3.move hk4 hP4
          have hkle := (unhide HKL) x k rfl
          have hown := hW4.own
          rw [unhide HL] at hown
          have h1w : w.heap.size < (w2.alloc (.cells zero7 26)).heap.size := hW3.res.lt
          have h2w : ∀ k, (Value.slice Ao (0) co).ownBlock = some k → k < (w2.alloc (.cells zero7 26)).heap.size := fun k hk => (own_lt hW3.own k hk).2
          have HW4 := hide hW4; have HT := hide ht; have HOWN := hide hown; have H1 := hide h1w; have H2 := hide h2w; have HIN := hide hin
          have hz4 : w.heap.size < w4.heap.size := hW4.res.lt
          clear hW3 hW4 ht hP4 hk4 hown h1w h2w hin
          go_wp2_with
           ((at_builtin; refine wpList_append_lies _ (by rfl) _ _ _ (by rfl) (w.heap.size + 1) 26 i0 _ 7 88 Tryd.underlying24 hi0 hz0 hz1 hz2 rfl (by omega) (.slice Ao (0) co) (0) xs (by rfl)
                (by exact (unhide HOWN).alloc _) ⟨w4.heap.size, 0, none⟩ 1 _ [.int .i64 k1, .int .i64 k2, .bool k3, .slice As ls cs', .int .i64 k5, .int .i64 k6, .slice A lk cc]
                (by rfl) (by rfl) (by exact World.news_of_block (cs := #[.int .i64 k1, .int .i64 k2, .bool k3, .slice As ls cs', .int .i64 k5, .int .i64 k6, .slice A lk cc]) (heap_alloc_new _ _))
                (by simp [Value.oneCell']) (by omega) (by simp only [maxLen]; omega) (by omega) (by first | omega | (simp; omega)) _ (by rfl) ?_; intro go cap5 w5 hown5 hgrow hat5 hlt5))
          have hW5 := (unhide HW4).app (go := go) (cap := cap5) (unhide HT) (unhide H1) (unhide H2) (below_alloc' (Below.refl w4.heap.size w4) _) hgrow (by rw [unhide HL]; exact hown5) hat5
          rw [unhide HL] at hW5
          have HW5 := hide hW5
          have hl2 := unhide HL
          clear hW5 hown5 hgrow hat5
          go_roundg f0
          case measure => omega
          case rel => exact ⟨k, cat ++ [x], _, hkle.2, by omega, by omega, HIN, by simp only [List.length_append, List.length_cons, List.length_nil]; omega, HW5⟩
      · rw [List.concat_eq_append] at hc
        have hl : cat.length = pre.length + 1 := by rw [hc]; simp
        have hcn : cat ≠ [] := by rw [hc]; simp
        obtain ⟨g, cap, rfl, hg1, hg2⟩ := hW.own.form (by omega)
        rw [hl] at hW HW hlen ⊢
        have HL := hide hl
        have hel : cat[pre.length]? = some last := by rw [hc]; simp
        have hlastE : lastL cat = last ∧ initL cat = pre := by
          have h1 := init_last hcn
          rw [hc] at h1 ⊢
          have h2 := List.append_inj' h1 rfl
          simp at h2
          exact ⟨h2.2.symm, h2.1.symm⟩
        obtain ⟨csl, htl, hcl⟩ := hW.elem hel
        have HW1' := hide (fun n => (unhide HW).below (below_drewN (Below.refl wr.heap.size wr) n))
        have hrep := fun n => rxrep_calls (ok := fun k => w.heap.size + 1 ≤ k ∧ g ≠ k) (cap := cap) (m := pre.length) last csl (wr.drewN n) (Blk.drewN hW.at_ n) hjl hm (by omega) (TreeAt.step (W := wr) (W' := wr.drewN n) (fun _ _ _ => rfl) _ _ htl) (fun q v hq => (hcl q v hq).1) (by omega) (fun k hk e => by have := hk.1; omega)
        have hagE : (if cat = [] then Again.no else againF s j) = againF s j := by rw [if_neg hcn]
        rw [hagE] at hatom hstep
        cases hag : againF s j with
        | no =>
          rw [hag] at hrep
          obtain ⟨o, ho, hor⟩ := hatom hag
          have hkl : ∀ x k, o = .node x k → j < k ∧ k ≤ s.size := by
            intro x k e
            subst e
            exact atom_le hjl hm (by omega) ho
          have HO := hide ho; have HOR := hide hor; have HKL := hide hkl
          clear ho hor hkl
          have HREP := hide hrep
          clear hW hc hag hl hatom hrep htl hcl hagE hlastE hel hcn HW1' hstep
          go_wp2_with fail
          go_quiet ((first | (go_at_call_of 51 (Value.string { data := #[41] }); exact Calls.quiet_of (unhide HS41 _ ((unhide HW).at_.drewN _))) | (go_at_call 51; exact Calls.quiet_of (unhide HS124 _ ((unhide HW).at_.drewN _)))))
          go_wp2_with fail
          have HW1 := hide ((unhide HW).below (below_drewN (Below.refl wr.heap.size wr) nq))
          refine ((unhide HREP) _).mono ?_
          rintro e w2 ⟨rfl, hb2⟩
          have HW2 := hide ((unhide HW1).below hb2)
          clear hb2
          unfold zero7
          go_wp2_with fail
          refine (atom_calls (f := f0) o _ (Blk.alloc (unhide HW2).at_ _) ((unhide HG) _ ((unhide HW2).kept.alloc _)) hjl hm hn (by omega) (unhide HO) (fun hn40 r' w9 h1 h2 h3 => (unhide HA) f0 (by omega) hn40 (j + 1) r' w9 h1 (by omega) (by omega) h2 h3)).mono ?_
          cases o with
          | fault j' er =>
            rintro e w4 ⟨rfl, hk4⟩
            have hr := (unhide HOR)
            simp only at hr
            exact ⟨rfl, .inl ⟨j', er, hr, rfl, ((unhide HW2).kept.alloc _).trans hk4 (fun _ _ h => h)⟩⟩
          | node x k =>
            rintro e w4 ⟨cs, rfl, ht, hP4, hk4⟩
            have hin := (unhide HOR)
            simp only at hin
            obtain ⟨k1, k2, k3, As, ls, cs', k5, k6, A, lk, cc, rfl⟩ := ht.form
            have hW3 := (unhide HW2).below ((Below.refl _ _).alloc (Nat.le_refl _) (.cells zero7 26))
            have hW4 := hW3.move hk4 hP4
            have hkle := (unhide HKL) x k rfl
            have hown := hW4.own
            rw [unhide HL] at hown
            have h1w : w.heap.size < (w2.alloc (.cells zero7 26)).heap.size := hW3.res.lt
            have h2w : ∀ k, (Value.slice (some ⟨g, 0, none⟩) (pre.length + 1) cap).ownBlock = some k → k < (w2.alloc (.cells zero7 26)).heap.size := fun k hk => (own_lt hW3.own k hk).2
            have HW4 := hide hW4; have HT := hide ht; have HOWN := hide hown; have H1 := hide h1w; have H2 := hide h2w; have HIN := hide hin
            have hz4 : w.heap.size < w4.heap.size := hW4.res.lt
            clear hW3 hW4 ht hP4 hk4 hown h1w h2w hin
            go_wp2_with
             ((at_builtin; refine wpList_append_lies _ (by rfl) _ _ _ (by rfl) (w.heap.size + 1) 26 i0 _ 7 88 Tryd.underlying24 hi0 hz0 hz1 hz2 rfl (by omega) (.slice (some ⟨g, 0, none⟩) (pre.length + 1) cap) (pre.length + 1) xs (by rfl)
                  (by exact (unhide HOWN).alloc _) ⟨w4.heap.size, 0, none⟩ 1 _ [.int .i64 k1, .int .i64 k2, .bool k3, .slice As ls cs', .int .i64 k5, .int .i64 k6, .slice A lk cc]
                  (by rfl) (by rfl) (by exact World.news_of_block (cs := #[.int .i64 k1, .int .i64 k2, .bool k3, .slice As ls cs', .int .i64 k5, .int .i64 k6, .slice A lk cc]) (heap_alloc_new _ _))
                  (by simp [Value.oneCell']) (by omega) (by simp only [maxLen]; omega) (by omega) (by first | omega | (simp; omega)) _ (by rfl) ?_; intro go cap5 w5 hown5 hgrow hat5 hlt5))
            have hW5 := (unhide HW4).app (go := go) (cap := cap5) (unhide HT) (unhide H1) (unhide H2) (below_alloc' (Below.refl w4.heap.size w4) _) hgrow (by rw [unhide HL]; exact hown5) hat5
            rw [unhide HL] at hW5
            have HW5 := hide hW5
            have hl2 := unhide HL
            clear hW5 hown5 hgrow hat5
            go_roundg f0
            case measure => omega
            case rel => exact ⟨k, cat ++ [x], _, hkle.2, by omega, by omega, HIN, by simp only [List.length_append, List.length_cons, List.length_nil]; omega, HW5⟩
        | fault er =>
          rw [hag] at hrep hstep
          simp only at hstep
          have HREP := hide hrep; have HRS := hide hstep
          clear hW hc hag hl hatom hrep htl hcl hagE hlastE hel hcn HW1' hstep
          go_wp2_with fail
          go_quiet ((first | (go_at_call_of 51 (Value.string { data := #[41] }); exact Calls.quiet_of (unhide HS41 _ ((unhide HW).at_.drewN _))) | (go_at_call 51; exact Calls.quiet_of (unhide HS124 _ ((unhide HW).at_.drewN _)))))
          go_wp2_with fail
          have HW1 := hide ((unhide HW).below (below_drewN (Below.refl wr.heap.size wr) nq))
          refine ((unhide HREP) _).mono ?_
          rintro e w2 ⟨rfl, hk2⟩
          exact ⟨rfl, .inl ⟨j, er, unhide HRS, rfl, (unhide HW1).kept.trans hk2 (fun _ _ h => h)⟩⟩
        | yes lo hi' k =>
          have hkl := again_le hjl hag
          rw [hag] at hrep hstep
          simp only [hlastE.1, hlastE.2] at hstep
          obtain ⟨k1, k2, k3, As, ls, cs', k5, k6, A, lk, cc, rfl⟩ := htl.form
          have HREP := hide hrep; have HRS := hide hstep; have HCL := hide hcl; have HC := hide hc
          clear hW hc hag hatom hrep htl hcl hagE hlastE hel hcn HW1' hstep
          go_wp2_with fail
          go_quiet ((first | (go_at_call_of 51 (Value.string { data := #[41] }); exact Calls.quiet_of (unhide HS41 _ ((unhide HW).at_.drewN _))) | (go_at_call 51; exact Calls.quiet_of (unhide HS124 _ ((unhide HW).at_.drewN _)))))
          go_wp2_with fail
          have HW1 := hide ((unhide HW).below (below_drewN (Below.refl wr.heap.size wr) nq))
          refine ((unhide HREP) _).mono ?_
          rintro e w2 ⟨csn, rfl, htn, hP2, hk2⟩
          have hW2 := (unhide HW1).move hk2 hP2
          have hgo : ∀ q (v : Value), w2.cell? ⟨g, pre.length * 7 + q, none⟩ = wr.cell? ⟨g, pre.length * 7 + q, none⟩ ∧ w2.frozen? ⟨g, pre.length * 7 + q, none⟩ = wr.frozen? ⟨g, pre.length * 7 + q, none⟩ := fun q v => ⟨hk2.cell (by exact hg2) (by omega), hk2.frozen (by exact hg2) (by omega)⟩
          have e0 := (hgo 0 default).1.trans ((unhide HCL) 0 _ rfl).1
          have e1 := (hgo 1 default).1.trans ((unhide HCL) 1 _ rfl).1
          have e2 := (hgo 2 default).1.trans ((unhide HCL) 2 _ rfl).1
          have e3 := (hgo 3 default).1.trans ((unhide HCL) 3 _ rfl).1
          have e4 := (hgo 4 default).1.trans ((unhide HCL) 4 _ rfl).1
          have e5 := (hgo 5 default).1.trans ((unhide HCL) 5 _ rfl).1
          have e6 := (hgo 6 default).1.trans ((unhide HCL) 6 _ rfl).1
          have z0 := (hgo 0 default).2.trans ((unhide HCL) 0 _ rfl).2
          have z1 := (hgo 1 default).2.trans ((unhide HCL) 1 _ rfl).2
          have z2 := (hgo 2 default).2.trans ((unhide HCL) 2 _ rfl).2
          have z3 := (hgo 3 default).2.trans ((unhide HCL) 3 _ rfl).2
          have z4 := (hgo 4 default).2.trans ((unhide HCL) 4 _ rfl).2
          have z5 := (hgo 5 default).2.trans ((unhide HCL) 5 _ rfl).2
          have z6 := (hgo 6 default).2.trans ((unhide HCL) 6 _ rfl).2
          simp only [Nat.add_zero] at e0 z0
          have hg3 : g < w2.heap.size := by have := hk2.size; simp at this; omega
          have htn' : TreeAt (fun k => w.heap.size + 1 ≤ k ∧ g ≠ k) w2 (repN lo hi' last) csn := TreeAt.mono (fun q hq => by
            rcases hq with hq | hq
            · exact hq
            · have hq' : wr.heap.size ≤ q := by simpa using hq
              have hzz := (unhide HW).res.lt
              exact ⟨by omega, by omega⟩) _ _ htn
          obtain ⟨n1, n2, n3, As2, ls2, cs2, n5, n6, A2, lk2, cc2, rfl⟩ := htn'.form
          have hWc : RowW w w2 bp s bytes nest k (.slice (some ⟨g, 0, none⟩) (pre.length + 1) cap) (pre ++ [last]) xs := by rw [← unhide HC]; exact hW2
          have hW3 := RowW.put hWc rfl htn'
          have hm1 : (0 : Int) ≤ pre.length := by omega
          have hm2 : (pre.length : Int) < pre.length + 1 := by omega
          have HW3 := hide hW3
          have hzw : w.heap.size < w2.heap.size := hWc.res.lt
          clear hW2 hW3 hWc htn htn' hP2 hk2 hgo
          go_wp2_with fail
          go_roundg f0
          case measure => omega
          case rel => exact ⟨k, pre ++ [repN lo hi' last], _, hkl.2, by omega, by omega, HRS, by simp only [List.length_append, List.length_cons, List.length_nil]; omega, hide ((unhide HW3).below ((Below.refl _ _).alloc (Nat.le_refl _) _))⟩
end Go.Proofs.YtanmlgliibgpcaaDoor

/- The walk of alt. -/
namespace Go.Proofs.YtanmlgliibgpcaaDoor
open Go.RowKit Thr
set_option linter.unusedVariables false
set_option linter.unusedSimpArgs false

theorem inner_bar {s : ByteArray} {bytes : Bool} {f nest j : Nat} {alts cat : List Rx} {r : Res} (h : innerF s bytes (f + 1) nest alts cat j = some r) (hj : j < s.size) (hb : byt s j = 124) : innerF s bytes f nest (alts ++ [joinF cat]) [] (j + 1) = some r := by
  simp only [innerF] at h
  have ha : againF s j = .no := by
    unfold againF
    rw [if_neg (by omega), if_neg (by omega), if_neg (by omega), if_neg (by omega)]
  rw [if_neg (by omega), ha, ite_self] at h
  simp only at h
  rw [if_pos hb] at h
  exact h
theorem inner_stop {s : ByteArray} {bytes : Bool} {f nest j : Nat} {alts cat : List Rx} {r : Res} (h : innerF s bytes f nest alts cat j = some r) (hf : 0 < f) (hj : s.size ≤ j ∨ (0 < nest ∧ byt s j = 41)) : r = .stop alts cat j := by
  obtain ⟨f, rfl⟩ : ∃ f0, f = f0 + 1 := ⟨f - 1, by omega⟩
  simp only [innerF] at h
  by_cases hge : s.size ≤ j
  · rw [if_pos hge] at h
    injection h with h
    exact h.symm
  · obtain ⟨h0, hb⟩ := hj.resolve_left hge
    have ha : againF s j = .no := by
      unfold againF
      rw [if_neg (by omega), if_neg (by omega), if_neg (by omega), if_neg (by omega)]
    rw [if_neg hge, ha, ite_self] at h
    simp only at h
    rw [if_neg (by omega), if_neg (by omega), if_pos hb, if_neg (by omega)] at h
    injection h with h
    exact h.symm

set_option maxRecDepth 100000 in
set_option maxHeartbeats 64000000 in
theorem alt_step {bp : Nat} {s : ByteArray} {bytes : Bool} {nest : Nat} (F : Nat) (hA : ∀ f', f' < F → nest < 40 → ∀ (i : Nat) (r : Res) (w1 : World), innerF s bytes f' (nest + 1) [] [] i = some r → i ≤ s.size → s.size - i < f' → PAt w1 bp s i bytes (nest + 1) → Glob w1 →
      Calls Tryd.prog 34 #[.pointer (some ⟨bp, 0, none⟩)] w1 fun e w' => AltPost bp s bytes (nest + 1) w1 w' e r)
    (i : Nat) (r : Res) (w : World) (hfi : s.size - i < F) (hin : innerF s bytes F nest [] [] i = some r) (hP : PAt w bp s i bytes nest) (hG : Glob w) (hi : i ≤ s.size) (hm : s.size ≤ 1024) (hn : nest ≤ 40) (hF : F ≤ 2000) :
    Calls Tryd.prog 34 #[.pointer (some ⟨bp, 0, none⟩)] w fun e w' => AltPost bp s bytes nest w w' e r := by
  have hbp := hP.lt
  have hGl : ∀ W, Keeps (fun k => k = bp) w W → Glob W := fun W hk => hG.keeps hk hP
  obtain ⟨i0, hi0, hz0, hz1, hz2⟩ := info_parts Tryd.infoRx
  have hcat := fun (alts : List Rx) (j f : Nat) (W : World) (h1 : f ≤ F) (h2 : s.size - j < f) (h3 : innerF s bytes f nest alts [] j = some r) (h4 : PAt W bp s j bytes nest) (h5 : Keeps (fun k => k = bp) w W) (h6 : j ≤ s.size) => cat_calls F hA alts j f r W h1 h2 h3 h4 (hGl W h5) h6 hm hn
  have HCAT := hide hcat; have HIN := hide hin; have HP := hide hP
  clear hA hcat hin hP hG hGl
  go_enter Tryd.func34, Tryd.ntmps34
  go_wp2_with fail
  refine ((unhide HCAT) [] i F _ (Nat.le_refl _) hfi (unhide HIN) (Blk.alloc (unhide HP) _) ((Keeps.refl _ _).alloc _) hi).mono ?_
  rintro e w1 (⟨j, er, rfl, rfl, hk1⟩ | ⟨cat, j, f', cs, rfl, ht, hP1, hk1, hj, hf', hjf, hin1, hstop⟩)
  · exact ⟨rfl, rfl, ((Keeps.refl _ _).alloc _).trans hk1 (fun _ _ h => h)⟩
  obtain ⟨k1, k2, k3, As, ls, cs', k5, k6, A, lk, cc, rfl⟩ := ht.form
  have hrow : RowW w (w1.alloc (.cells #[.int .i64 k1, .int .i64 k2, .bool k3, .slice As ls cs', .int .i64 k5, .int .i64 k6, .slice A lk cc] 26)) bp s bytes nest j (.slice (some ⟨w1.heap.size, 0, none⟩) 1 1) [joinF cat] [.int .i64 k1, .int .i64 k2, .bool k3, .slice As ls cs', .int .i64 k5, .int .i64 k6, .slice A lk cc] := by
    have hz := hk1.size
    simp at hz
    refine ⟨(Blk.keeps (Blk.new w 26 zero7) hk1 (by omega)).alloc _, Blk.alloc hP1 _, ⟨by simp, .inr ⟨w1.heap.size, 1, _, rfl, by omega, heap_alloc_new w1 _, by simp, by simp [maxLen], by simp, by simp⟩⟩, ?_, (((Keeps.refl _ _).alloc _).trans hk1 (fun _ _ h => h)).alloc _, hbp⟩
    have h1 := TreesRow.snoc (TreesRow.nil (fun k => w.heap.size + 1 ≤ k ∧ (Value.slice (some ⟨w1.heap.size, 0, none⟩) 1 1).ownBlock ≠ some k) (w1.alloc (.cells #[.int .i64 k1, .int .i64 k2, .bool k3, .slice As ls cs', .int .i64 k5, .int .i64 k6, .slice A lk cc] 26)))
      (TreeAt.mono (fun k hk => ⟨by have := hk.1; simp at this; omega, by simp [Value.ownBlock]; have := hk.2; omega⟩) _ _ (TreeAt.step (W' := w1.alloc (.cells #[.int .i64 k1, .int .i64 k2, .bool k3, .slice As ls cs', .int .i64 k5, .int .i64 k6, .slice A lk cc] 26)) (fun k _ hl => Below.heap_alloc w1 _ k hl) _ _ (TreeAt.bound _ _ ht)))
    exact h1
  have HROW := hide hrow; have HIN1 := hide hin1; have HSTOP := hide hstop
  clear hrow ht hP1 hk1 hin1 hstop
  go_wp2_with fail
  go_loopg [3] (F + 1) (fun kx vK wr => ∃ (j : Nat) (alts cat : List Rx) (f' : Nat) (xs : List Value), j ≤ s.size ∧ f' < kx ∧ f' ≤ F ∧ s.size - j < f' ∧ Hid (innerF s bytes f' nest alts cat j = some r) ∧ Hid (s.size ≤ j ∨ byt s j = 124 ∨ (0 < nest ∧ byt s j = 41)) ∧ alts.length + f' ≤ F ∧ Hid (RowW w wr bp s bytes nest j vK (alts ++ [joinF cat]) xs))
  case atStart => exact ⟨j, [], cat, f', _, hj, by omega, hf', hjf, HIN1, HSTOP, by simp; exact hf', HROW⟩
  case round =>
    clear HROW HIN1 HSTOP hj hf' hjf
    obtain ⟨j, alts, cat, f', xs, hj, hfk, hfF, hjf, HIN1, HSTOP, hlen, HW⟩ := hrel
    have hW := unhide HW
    have hs124 := see_quiet (lit [124]) wr hW.at_ hj hm
    rw [see_one, show ((124 : UInt8).toNat : Int) = 124 from rfl] at hs124
    have hl : (alts ++ [joinF cat]).length = alts.length + 1 := by simp
    obtain ⟨g, cap, rfl, hg1, hg2⟩ := hW.own.form (by omega)
    rw [hl] at hW HW ⊢
    have HL := hide hl
    by_cases hbar : j < s.size ∧ byt s j = 124
    · have ho : Thr.one s j 124 = true := by simp [Thr.one]; exact hbar
      rw [ho] at hs124
      have hf0 : 0 < f' := by omega
      obtain ⟨f0, rfl⟩ : ∃ f0, f' = f0 + 1 := ⟨f' - 1, by omega⟩
      have hnx := inner_bar (unhide HIN1) hbar.1 hbar.2
      have HNX := hide hnx; have HS := hide hs124
      have hjl := hbar.1
      clear hs124 hnx ho hbar hW hl
      go_wp2_with fail
      refine (unhide HS).mono ?_
      rintro e w2 ⟨rfl, m2, hw2⟩
      have hW2 := (unhide HW).below (show Below wr.heap.size wr w2 by rw [hw2]; exact below_drewN (Below.refl _ _) _)
      have q1 := hW2.at_.cell 1
      have g1 := hW2.at_.frozen 1
      have hbp2 := hW2.at_.lt
      simp at q1
      have hW3 := hW2.move (W' := w2.setCell ⟨bp, 1, none⟩ (.int .i64 ((j : Int) + 1))) ((Keeps.refl (fun k => k = bp) _).setCell (p := ⟨bp, 1, none⟩) (.inl rfl) _) (PAt.go_on hW2.at_ (j + 1))
      have HW3 := hide hW3
      clear hW2 hW3 hw2
      go_wp2_with fail
      refine ((unhide HCAT) (alts ++ [joinF cat]) (j + 1) f0 _ (by omega) (by omega) (unhide HNX) (unhide HW3).at_ (unhide HW3).kept (by omega)).mono ?_
      rintro e w4 (⟨j', er, hre, rfl, hk4⟩ | ⟨cat', j', f2, cs, rfl, ht, hP4, hk4, hj4, hf4, hjf4, hin4, hstop4⟩)
      · subst hre
        exact ⟨rfl, rfl, (unhide HW3).kept.trans hk4 (fun _ _ h => h)⟩
      obtain ⟨k1, k2, k3, As, ls, cs', k5, k6, A, lk, cc, rfl⟩ := ht.form
      have hW4 := (unhide HW3).move hk4 hP4
      have hjj : j + 1 ≤ j' ∨ j' < j + 1 := by omega
      have hown := hW4.own
      rw [unhide HL] at hown
      have hW3' := unhide HW3
      have h1w : w.heap.size < (w2.setCell ⟨bp, 1, none⟩ (.int .i64 ((j : Int) + 1))).heap.size := hW3'.res.lt
      have h2w : ∀ k, (Value.slice (some ⟨g, 0, none⟩) (alts.length + 1) cap).ownBlock = some k → k < (w2.setCell ⟨bp, 1, none⟩ (.int .i64 ((j : Int) + 1))).heap.size := fun k hk => (own_lt hW3'.own k hk).2
      have HW4 := hide hW4; have HT := hide ht; have HOWN := hide hown; have H1 := hide h1w; have H2 := hide h2w; have HIN4 := hide hin4; have HST4 := hide hstop4
      have hz4 : w.heap.size < w4.heap.size := hW4.res.lt
      clear hW4 ht hP4 hk4 hown h1w h2w hin4 hstop4 hW3'
      go_wp2_with
       ((at_builtin; refine wpList_append_lies _ (by rfl) _ _ _ (by rfl) (w.heap.size + 1) 26 i0 _ 7 88 Tryd.underlying24 hi0 hz0 hz1 hz2 rfl (by omega) (.slice (some ⟨g, 0, none⟩) (alts.length + 1) cap) (alts.length + 1) xs (by rfl)
            (by exact (unhide HOWN).alloc _) ⟨w4.heap.size, 0, none⟩ 1 _ [.int .i64 k1, .int .i64 k2, .bool k3, .slice As ls cs', .int .i64 k5, .int .i64 k6, .slice A lk cc]
            (by rfl) (by rfl) (by exact World.news_of_block (cs := #[.int .i64 k1, .int .i64 k2, .bool k3, .slice As ls cs', .int .i64 k5, .int .i64 k6, .slice A lk cc]) (heap_alloc_new _ _))
            (by simp [Value.oneCell']) (by omega) (by simp only [maxLen]; omega) (by omega) (by first | omega | (simp; omega)) _ (by rfl) ?_; intro go cap5 w5 hown5 hgrow hat5 hlt5))
      have hW5 := (unhide HW4).app (go := go) (cap := cap5) (unhide HT) (unhide H1) (unhide H2) (below_alloc' (Below.refl w4.heap.size w4) _) hgrow (by rw [unhide HL]; exact hown5) hat5
      rw [unhide HL] at hW5
      have HW5 := hide hW5
      clear hW5 hown5 hgrow hat5
      go_roundg (f0 + 1)
      case measure => omega
      case rel => exact ⟨j', alts ++ [joinF cat], cat', f2, _, hj4, by omega, by omega, hjf4, HIN4, HST4, by simp only [List.length_append, List.length_cons, List.length_nil]; omega, HW5⟩
    · have ho : Thr.one s j 124 = false := by simp [Thr.one]; exact fun h1 h2 => hbar ⟨h1, h2⟩
      rw [ho] at hs124
      have hend : s.size ≤ j ∨ (0 < nest ∧ byt s j = 41) := by
        rcases unhide HSTOP with h | h | h
        · exact .inl h
        · rcases Nat.lt_or_ge j s.size with h' | h'
          · exact absurd ⟨h', h⟩ hbar
          · exact .inl h'
        · exact .inr h
      obtain rfl := inner_stop (unhide HIN1) (by omega) hend
      have HS := hide hs124
      clear hs124 ho hend hbar
      cases alts with
      | nil =>
        obtain ⟨cs, ht, hc⟩ := hW.elem (k := 0) (t := joinF cat) rfl
        obtain ⟨k1, k2, k3, As, ls, cs', k5, k6, A, lk, cc, rfl⟩ := ht.form
        have e0 := (hc 0 _ rfl).1
        have e1 := (hc 1 _ rfl).1
        have e2 := (hc 2 _ rfl).1
        have e3 := (hc 3 _ rfl).1
        have e4 := (hc 4 _ rfl).1
        have e5 := (hc 5 _ rfl).1
        have e6 := (hc 6 _ rfl).1
        simp only [Nat.zero_mul, Nat.zero_add] at e0 e1 e2 e3 e4 e5 e6
        obtain ⟨⟨b0, b1, b2, b3, b4, b5, b6⟩, y0, y1, y2, y3, y4, y5, y6⟩ := hW.res.seven
        have hzr : w.heap.size < wr.heap.size := hW.res.lt
        have HT := hide ht
        simp only [List.length_nil, Nat.zero_add] at hW HW ⊢
        clear hW hc ht hl
        go_wp2_with fail
        refine (unhide HS).mono ?_
        rintro e w2 ⟨rfl, m2, hw2⟩
        subst hw2
        go_wp2_with fail
        refine bodyPost_ret (results_cell rfl rfl (load7 (Blk.put7 (Blk.drewN (unhide HW).res _)))) rfl ?_
        exact ⟨_, rfl, TreeAt.mono (fun k hk => (by have := hk.1; omega : w.heap.size ≤ k)) _ _ (TreeAt.step (W := wr) (fun k hk _ => heap_put7 (wr.drewN m2) _ _ _ _ _ _ _ _ k (by have := hk.1; omega)) _ _ (unhide HT)), PAt.put7 (Blk.drewN (unhide HW).at_ _) (by omega) _ _ _ _ _ _ _, ((unhide HW).kept.drewN _).put7 (.inr (Nat.le_refl _)) _ _ _ _ _ _ _⟩
      | cons a l =>
        have hln : l.length ≤ 2000 := by simp at hlen; omega
        have htk := tree_kids (ok' := fun k => w.heap.size + 1 ≤ k) 6 hW.own hW.row (fun k hk => hk.1) (fun k hk => hk)
        have esh : shutF (a :: l) cat = altN (a :: l ++ [joinF cat]) := by
          unfold shutF oneF
          cases l <;> rfl
        have HT := hide htk
        obtain ⟨⟨b0, b1, b2, b3, b4, b5, b6⟩, y0, y1, y2, y3, y4, y5, y6⟩ := hW.res.seven
        have hzr : w.heap.size < wr.heap.size := hW.res.lt
        have l1 : ((l.length : Int) + 1 + 1 == 1) = false := by simp; omega
        simp only [List.length_cons] at hW HW ⊢
        have HESH := hide esh
        clear hW htk hl esh
        go_wp2_with fail
        refine (unhide HS).mono ?_
        rintro e w2 ⟨rfl, m2, hw2⟩
        subst hw2
        go_wp2_with fail
        refine bodyPost_ret (results_cell rfl rfl (load7 (Blk.put7 (Blk.drewN (unhide HW).res _)))) rfl ?_
        refine ⟨_, rfl, ?_, PAt.put7 (Blk.drewN (unhide HW).at_ _) (by omega) _ _ _ _ _ _ _, ((unhide HW).kept.drewN _).put7 (.inr (Nat.le_refl _)) _ _ _ _ _ _ _⟩
        rw [unhide HESH]
        exact TreeAt.mono (fun k hk => (by have : w.heap.size + 1 ≤ k := hk; omega : w.heap.size ≤ k)) _ _ (TreeAt.step (W := wr) (fun k hk _ => heap_put7 (wr.drewN m2) _ _ _ _ _ _ _ _ k (by have : w.heap.size + 1 ≤ k := hk; omega)) _ _ (unhide HT))

/-- alt, at every depth. -/
theorem alt_calls {bp : Nat} {s : ByteArray} {bytes : Bool} (hm : s.size ≤ 1024) : ∀ (F : Nat), F ≤ 2000 → ∀ (nest i : Nat) (r : Res) (w : World), innerF s bytes F nest [] [] i = some r → i ≤ s.size → s.size - i < F → nest ≤ 40 → PAt w bp s i bytes nest → Glob w →
    Calls Tryd.prog 34 #[.pointer (some ⟨bp, 0, none⟩)] w fun e w' => AltPost bp s bytes nest w w' e r := by
  intro F
  induction F using Nat.strongRecOn with
  | _ F ih =>
    intro hF nest i r w hin hi hfi hn hP hG
    exact alt_step F (fun f' hf' hn' i' r' w1 h1 h2 h3 h4 h5 => ih f' hf' (by omega) (nest + 1) i' r' w1 h1 h2 h3 (by omega) h4 h5) i r w hfi hin hP hG hi hm hn hF
end Go.Proofs.YtanmlgliibgpcaaDoor
