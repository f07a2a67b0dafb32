/- NfaChoice returns true of every two texts, every string and every place: no condition beyond the statement's own (a part of its proof). -/
import Derived.Test.YtanmlgliibgpcaaDoorKc05
import Derived.Tactics
import Derived.Tactics2
import Derived.Defers
import Derived.Recover
import Derived.Laws.Pointers
import Derived.Test.YtanmlgliibgpcaaDoorKc04
import Derived.Test.YtanmlgliibgpcaaDoorKc03
import Derived.Test.YtanmlgliibgpcaaDoorKc02
import Derived.Lib.IndexMore

/- The walks of group and atom. -/
namespace Go.Proofs.YtanmlgliibgpcaaDoor
open Go.RowKit Thr
set_option linter.unusedVariables false
set_option linter.unusedSimpArgs false

set_option maxRecDepth 100000 in
set_option maxHeartbeats 16000000 in
theorem group_many {bp : Nat} {s : ByteArray} {i : Nat} {bytes : Bool} (at_ : Nat) (w : World) (hP : PAt w bp s at_ bytes 40) :
    Calls Tryd.prog 68 #[.pointer (some ⟨bp, 0, none⟩), .int .i64 i] w fun e w' => Gives bp i 91 w w' e := by
  have c3 := hP.cell 3
  have hbp := hP.lt
  simp at c3
  clear hP
  go_enter Tryd.func68, Tryd.ntmps68
  go_wp2_with fail
  refine (fail_calls _ _ _ _).mono ?_
  rintro e w' ⟨rfl, hw⟩
  obtain rfl := hw.symm
  exact ⟨rfl, rfl, (Keeps.refl _ _).alloc _⟩

set_option maxRecDepth 100000 in
set_option maxHeartbeats 16000000 in
theorem group_calls {bp : Nat} {s : ByteArray} {i : Nat} {bytes : Bool} {nest : Nat} (r : Res) (w : World) (hP : PAt w bp s (i + 1) bytes nest) (hG : Glob w) (hm : s.size ≤ 1024) (hn : nest < 40)
    (hr : ∀ a c j, r = .stop a c j → j ≤ s.size ∧ (j < s.size → byt s j = 41))
    (hA : ∀ w1, PAt w1 bp s (i + 1) bytes (nest + 1) → Glob w1 → Calls Tryd.prog 34 #[.pointer (some ⟨bp, 0, none⟩)] w1 fun e w' => AltPost bp s bytes (nest + 1) w1 w' e r) :
    Calls Tryd.prog 68 #[.pointer (some ⟨bp, 0, none⟩), .int .i64 i] w fun e w' => OnePost bp s bytes nest w w' e (groupR s i r) := by
  obtain ⟨G, hGr⟩ : ∃ G, groupR s i r = G := ⟨_, rfl⟩
  rw [hGr]
  have HGR := hide hGr
  clear hGr
  have c3 := hP.cell 3
  have f3 := hP.frozen 3
  have hbp := hP.lt
  simp at c3
  have hn40 : ((nest : Int) == 40) = false := by simp; omega
  have hn1 : (nest : Int) ≤ 40 := by omega
  have hdeep : ∀ W : World, PAt W bp s (i + 1) bytes nest → PAt (W.setCell ⟨bp, 3, none⟩ (.int .i64 ((nest : Int) + 1))) bp s (i + 1) bytes (nest + 1) := fun W h => h.deep (nest + 1)
  have hGl : ∀ W, Keeps (fun k => k = bp) w W → Glob W := fun W hk => hG.keeps hk hP
  have hKw : ∀ o (v : Value), Keeps (fun k => k = bp) w ((w.setCell ⟨bp, 3, none⟩ v).alloc o) := fun o v => ((Keeps.refl (fun k => k = bp) w).setCell (p := ⟨bp, 3, none⟩) (.inl rfl) v).alloc o
  have HA := hide hA; have HP := hide hP; have HD := hide hdeep; have HG := hide hGl; have HK := hide hKw; have HR := hide hr
  clear hA hP hdeep hGl hKw hG hr
  go_enter Tryd.func68, Tryd.ntmps68
  go_wp2_with fail
  refine ((unhide HA) _ (Blk.alloc ((unhide HD) _ (unhide HP)) _) ((unhide HG) _ ((unhide HK) _ _))).mono ?_
  cases r with
  | fault j er =>
    obtain rfl : One.fault j er = G := unhide HGR
    rintro e w1 ⟨rfl, hk1⟩
    exact ⟨rfl, rfl, ((unhide HK) _ _).trans hk1 (fun _ _ h => h)⟩
  | stop a c j =>
    rintro e w1 ⟨cs, rfl, ht, hP1, hk1⟩
    obtain ⟨hj, hj41⟩ := (unhide HR) a c j rfl
    obtain ⟨k1, k2, k3, As, ls, cs', k5, k6, A, lk, cc, rfl⟩ := ht.form
    have hK1 := ((unhide HK) (.cells zero7 26) (.int .i64 ((nest : Int) + 1))).trans hk1 (fun _ _ h => h)
    have hB1 : Blk w1 w.heap.size 26 zero7 := by
      have hb := Blk.new (w.setCell ⟨bp, 3, none⟩ (.int .i64 ((nest : Int) + 1))) 26 zero7
      rw [World.size_setCell] at hb
      exact hb.keeps hk1 (by omega)
    have d3 := hP1.cell 3
    have g3 := hP1.frozen 3
    have hbp1 := hP1.lt
    have hz1 : w.heap.size < w1.heap.size := hB1.lt
    simp at d3
    have ht0 : TreeAt (fun k => w.heap.size < k) w1 (shutF a c) _ := TreeAt.mono (fun k hk => by simp at hk; omega) _ _ ht
    -- behind the node's own block and the depth taken back
    have hP2 : ∀ o, PAt ((w1.setCell ⟨bp, 3, none⟩ (.int .i64 nest)).alloc o) bp s j bytes nest := fun o => Blk.alloc (PAt.deep hP1 nest) o
    have HT := hide ht0; have HP2 := hide hP2; have HK1 := hide hK1; have HB1 := hide hB1
    clear ht ht0 hP1 hk1 hK1 hB1 hP2
    go_wp2_with fail
    refine (see_quiet (lit [41]) _ ((unhide HP2) _) hj hm).mono ?_
    rw [see_one, show ((41 : UInt8).toNat : Int) = 41 from rfl]
    rintro e w2 ⟨rfl, m2, hw2⟩
    have hP3 : PAt w2 bp s j bytes nest := by rw [hw2]; exact Blk.drewN ((unhide HP2) _) _
    have hB2 : Blk w2 w.heap.size 26 zero7 := by rw [hw2]; exact Blk.drewN (Blk.alloc ((unhide HB1).far (p := ⟨bp, 3, none⟩) (by simp only; omega) _) _) _
    have hX : Blk w2 w1.heap.size 26 #[.int .i64 k1, .int .i64 k2, .bool k3, .slice As ls cs', .int .i64 k5, .int .i64 k6, .slice A lk cc] := by
      rw [hw2]
      have hb := Blk.new (w1.setCell ⟨bp, 3, none⟩ (.int .i64 nest)) 26 #[.int .i64 k1, .int .i64 k2, .bool k3, .slice As ls cs', .int .i64 k5, .int .i64 k6, .slice A lk cc]
      rw [World.size_setCell] at hb
      exact Blk.drewN hb _
    have hk2 : Keeps (fun k => k = bp) w1 w2 := by rw [hw2]; exact (((Keeps.refl (fun k => k = bp) w1).setCell (p := ⟨bp, 3, none⟩) (.inl rfl) _).alloc _).drewN _
    have hK2 := (unhide HK1).trans hk2 (fun _ _ h => h)
    have ht2 : TreeAt (fun k => w.heap.size < k) w2 (shutF a c) _ := TreeAt.step (fun k hk hl => hk2.block k hl (by omega)) _ _ (unhide HT)
    have HP3 := hide hP3; have HB2 := hide hB2; have HK2 := hide hK2; have HT2 := hide ht2
    have q1 := hP3.cell 1
    have g1 := hP3.frozen 1
    have hbp2 := hP3.lt
    simp at q1
    obtain ⟨⟨x0, x1, x2, x3, x4, x5, x6⟩, -⟩ := hX.seven
    obtain ⟨⟨b0, b1, b2, b3, b4, b5, b6⟩, y0, y1, y2, y3, y4, y5, y6⟩ := hB2.seven
    have hz2 : w.heap.size < w2.heap.size := hB2.lt
    have hz3 : w1.heap.size < w2.heap.size := hX.lt
    have hbx : bp ≠ w1.heap.size := by omega
    clear hw2 hP3 hB2 hX hk2 hK2 ht2
    by_cases hj2 : j < s.size
    · have ho : Thr.one s j 41 = true := by simp [Thr.one]; exact ⟨hj2, hj41 hj2⟩
      rw [ho]
      obtain rfl : One.node (shutF a c) (j + 1) = G := by rw [← unhide HGR]; simp only [groupR, if_pos hj2]
      clear ho hj2 hj41 d3 g3
      go_wp2_with fail
      refine bodyPost_ret (results_cell rfl rfl (load7 (Blk.put7 (Blk.far (unhide HB2) (p := ⟨bp, 1, none⟩) (by simp only; omega) _)))) rfl ?_
      refine ⟨_, rfl, TreeAt.mono (fun k hk => Nat.le_of_lt hk) _ _ (TreeAt.step (W := w2) (fun k hk _ => ?_) _ _ (unhide HT2)), PAt.put7 (PAt.go_on (unhide HP3) (j + 1)) (by omega) _ _ _ _ _ _ _, ((unhide HK2).setCell (p := ⟨bp, 1, none⟩) (.inl rfl) _).put7 (.inr (Nat.le_refl _)) _ _ _ _ _ _ _⟩
      have : w.heap.size < k := hk
      exact (heap_put7 _ _ _ _ _ _ _ _ _ k (by omega)).trans (Below.heap_setCell _ _ _ k (by simp only; omega))
    · have ho : Thr.one s j 41 = false := by simp [Thr.one]; intro h; exact absurd h hj2
      rw [ho]
      obtain rfl : One.fault i 90 = G := by rw [← unhide HGR]; simp only [groupR, if_neg hj2]
      clear ho hj2 hj41 d3 g3
      go_wp2_with fail
      refine (fail_calls _ _ _ _).mono ?_
      rintro e w3 ⟨rfl, hw⟩
      obtain rfl := hw.symm
      exact ⟨rfl, rfl, unhide HK2⟩
end Go.Proofs.YtanmlgliibgpcaaDoor

/- The walk of atom. -/
namespace Go.Proofs.YtanmlgliibgpcaaDoor
open Go.RowKit Thr
set_option linter.unusedVariables false
set_option linter.unusedSimpArgs false

theorem node_one {bp : Nat} {s : ByteArray} {bytes : Bool} {nest : Nat} {i : Nat} {w w' : World} {e : Ending} {o : Option (Rx × Nat)} (h : NodePost bp s bytes nest i w w' e o) : OnePost bp s bytes nest w w' e (oneOf i o) := by
  cases o with
  | none => exact h
  | some q => exact h

set_option maxRecDepth 100000 in
set_option maxHeartbeats 64000000 in
theorem atom_calls {bp : Nat} {s : ByteArray} {i : Nat} {bytes : Bool} {nest f : Nat} (o : One) (w : World) (hP : PAt w bp s i bytes nest) (hG : Glob w) (hi : i < s.size) (hm : s.size ≤ 1024) (hn : nest ≤ 40) (hf : s.size - (i + 1) < f)
    (ho : atomF s bytes f nest i = some o)
    (hA : nest < 40 → ∀ r w1, innerF s bytes f (nest + 1) [] [] (i + 1) = some r → PAt w1 bp s (i + 1) bytes (nest + 1) → Glob w1 → Calls Tryd.prog 34 #[.pointer (some ⟨bp, 0, none⟩)] w1 fun e w' => AltPost bp s bytes (nest + 1) w1 w' e r) :
    Calls Tryd.prog 62 #[.pointer (some ⟨bp, 0, none⟩)] w fun e w' => OnePost bp s bytes nest w w' e o := by
  have c1 := hP.cell 1
  have hbp := hP.lt
  simp at c1
  have hch := fun w1 hP1 hT1 => char_calls (bp := bp) (s := s) (i := i) (bytes := bytes) (nest := nest) w1 hP1 hT1 (by omega) hm
  have hGl : ∀ W, Keeps (fun k => k = bp) w W → Glob W := fun W hk => hG.keeps hk hP
  have hrest : ∀ (w1 : World), Keeps (fun k => k = bp) (w.alloc (.cells zero7 26)) w1 → Blk w1 w.heap.size 26 zero7 := fun w1 hk => (Blk.new w 26 zero7).keeps hk (by omega)
  have hends := inner_ends (sized_all s bytes) f (nest + 1) [] [] (i + 1) hf (by omega)
  have HEN := hide hends
  have HP := hide hP; have HG := hide hGl; have HA := hide hA; have HRES := hide hrest; have hT := hG.tabs; have HT := hide hT
  clear hP hG hGl hA hrest hT hends
  unfold atomF at ho
  by_cases e40 : byt s i = 40
  · rw [if_pos e40] at ho
    have hz := next_byte (bytes := bytes) hi (by omega : byt s i < 128)
    rw [e40] at hz
    rw [hz] at hch
    rw [show i + (((40 : Int), (1 : Int)).2).toNat = i + 1 from rfl] at hch
    have HC := hide hch
    clear hch hz
    by_cases hn40 : nest = 40
    · rw [if_pos hn40] at ho
      simp only [Option.some.injEq] at ho
      subst ho; subst hn40
      clear e40
      go_enter Tryd.func62, Tryd.ntmps62
      go_wp2_with fail
      refine (unhide HC _ ((unhide HP).below (by repeat (first | exact Below.refl _ _ | assumption | refine below_drewN ?_ _ | refine Below.drew ?_ | refine below_alloc' ?_ _))) ((unhide HT).below (by repeat (first | exact Below.refl _ _ | assumption | refine below_drewN ?_ _ | refine Below.drew ?_ | refine below_alloc' ?_ _)))).mono ?_
      rintro e w1 ⟨rfl, hP1, hK1⟩
      have hB := (unhide HRES) _ hK1
      obtain ⟨⟨b0, b1, b2, b3, b4, b5, b6⟩, f0, f1, f2, f3, f4, f5, f6⟩ := hB.seven
      have hk1 := ((Keeps.refl (fun k => k = bp) w).alloc (.cells zero7 26)).trans hK1 (fun _ _ h => h)
      have HB := hide hB; have HP1 := hide hP1; have HK1 := hide hk1; have HG1 := hide ((unhide HG) _ hk1)
      have hz1 : w.heap.size < w1.heap.size := hB.lt
      clear hP1 hK1 hB hk1 HRES
      go_wp2_with fail
      refine (group_many (i + 1) w1 (unhide HP1)).mono ?_
      rintro e w2 ⟨rfl, hk2⟩
      exact ⟨rfl, rfl, (unhide HK1).trans hk2 (fun _ _ h => h)⟩
    · rw [if_neg hn40] at ho
      cases hin : innerF s bytes f (nest + 1) [] [] (i + 1) with
      | none => rw [hin] at ho; cases ho
      | some r =>
        rw [hin] at ho
        simp only [Option.map_some, Option.some.injEq] at ho
        have hr : ∀ a c j, r = .stop a c j → j ≤ s.size ∧ (j < s.size → byt s j = 41) := by
          obtain ⟨r', h1, h2⟩ := unhide HEN
          rw [hin] at h1
          injection h1 with h1
          subst h1
          intro a c j e
          have := h2 a c j e
          exact ⟨this.2.1, fun h => (this.2.2 h).1⟩
        have HR := hide hr; have HIN := hide hin
        clear e40 hr hin
        go_enter Tryd.func62, Tryd.ntmps62
        go_wp2_with fail
        refine (unhide HC _ ((unhide HP).below (by repeat (first | exact Below.refl _ _ | assumption | refine below_drewN ?_ _ | refine Below.drew ?_ | refine below_alloc' ?_ _))) ((unhide HT).below (by repeat (first | exact Below.refl _ _ | assumption | refine below_drewN ?_ _ | refine Below.drew ?_ | refine below_alloc' ?_ _)))).mono ?_
        rintro e w1 ⟨rfl, hP1, hK1⟩
        have hB := (unhide HRES) _ hK1
        obtain ⟨⟨b0, b1, b2, b3, b4, b5, b6⟩, f0, f1, f2, f3, f4, f5, f6⟩ := hB.seven
        have hk1 := ((Keeps.refl (fun k => k = bp) w).alloc (.cells zero7 26)).trans hK1 (fun _ _ h => h)
        have HB := hide hB; have HP1 := hide hP1; have HK1 := hide hk1; have HG1 := hide ((unhide HG) _ hk1)
        have hz1 : w.heap.size < w1.heap.size := hB.lt
        clear hP1 hK1 hB hk1 HRES
        go_wp2_with fail
        refine (group_calls r w1 (unhide HP1) (unhide HG1) hm (by omega) (unhide HR) (fun w2 h1 h2 => (unhide HA) (by omega) r w2 (unhide HIN) h1 h2)).mono ?_
        clear b0 b1 b2 b3 b4 b5 b6 f0 f1 f2 f3 f4 f5 f6
        generalize groupR s i r = Gx at ho ⊢
        subst ho
        cases Gx with
        | fault j er =>
          rintro e w2 ⟨rfl, hk2⟩
          exact ⟨rfl, rfl, (unhide HK1).trans hk2 (fun _ _ h => h)⟩
        | node x k =>
          rintro e w2 ⟨cs, rfl, ht, hP2, hk2⟩
          obtain ⟨k1, k2, k3, As, ls, cs', k5, k6, A, lk, cc, rfl⟩ := ht.form
          have hB2 := (unhide HB).keeps hk2 (by omega)
          obtain ⟨⟨b0, b1, b2, b3, b4, b5, b6⟩, f0, f1, f2, f3, f4, f5, f6⟩ := hB2.seven
          have hz2 : w.heap.size < w2.heap.size := hB2.lt
          have HB2 := hide hB2; have HT2 := hide ht; have HP2 := hide hP2; have HK2 := hide ((unhide HK1).trans hk2 (fun _ _ h => h))
          clear hB2 ht hP2 hk2
          go_wp2_with fail
          refine bodyPost_ret (results_cell rfl rfl (load7 (Blk.put7 (unhide HB2)))) rfl ?_
          refine ⟨_, rfl, TreeAt.mono (fun k hk => ?_) _ _ (TreeAt.step (W := w2) (fun k hk _ => ?_) _ _ (unhide HT2)), PAt.put7 (unhide HP2) (by omega) _ _ _ _ _ _ _, (unhide HK2).put7 (.inr (Nat.le_refl _)) _ _ _ _ _ _ _⟩
          · have : w1.heap.size ≤ k := hk
            show w.heap.size ≤ k
            omega
          · have : w1.heap.size ≤ k := hk
            exact heap_put7 _ _ _ _ _ _ _ _ _ k (by omega)
  rw [if_neg e40] at ho
  by_cases e41 : byt s i = 41
  · rw [if_pos e41] at ho
    simp only [Option.some.injEq] at ho
    subst ho
    have hz := next_byte (bytes := bytes) hi (by omega : byt s i < 128)
    rw [e41] at hz
    rw [hz] at hch
    rw [show i + (((41 : Int), (1 : Int)).2).toNat = i + 1 from rfl] at hch
    have HC := hide hch
    clear hch hz
    clear e41 e40
    go_enter Tryd.func62, Tryd.ntmps62
    go_wp2_with fail
    refine (unhide HC _ ((unhide HP).below (by repeat (first | exact Below.refl _ _ | assumption | refine below_drewN ?_ _ | refine Below.drew ?_ | refine below_alloc' ?_ _))) ((unhide HT).below (by repeat (first | exact Below.refl _ _ | assumption | refine below_drewN ?_ _ | refine Below.drew ?_ | refine below_alloc' ?_ _)))).mono ?_
    rintro e w1 ⟨rfl, hP1, hK1⟩
    have hB := (unhide HRES) _ hK1
    obtain ⟨⟨b0, b1, b2, b3, b4, b5, b6⟩, f0, f1, f2, f3, f4, f5, f6⟩ := hB.seven
    have hk1 := ((Keeps.refl (fun k => k = bp) w).alloc (.cells zero7 26)).trans hK1 (fun _ _ h => h)
    have HB := hide hB; have HP1 := hide hP1; have HK1 := hide hk1; have HG1 := hide ((unhide HG) _ hk1)
    have hz1 : w.heap.size < w1.heap.size := hB.lt
    clear hP1 hK1 hB hk1 HRES
    go_wp2_with fail
    refine (fail_calls _ _ _ _).mono ?_
    rintro e w2 ⟨rfl, hw⟩
    obtain rfl := hw.symm
    exact ⟨rfl, rfl, unhide HK1⟩
  rw [if_neg e41] at ho
  by_cases e91 : byt s i = 91
  · rw [if_pos e91] at ho
    simp only [Option.some.injEq] at ho
    have hz := next_byte (bytes := bytes) hi (by omega : byt s i < 128)
    rw [e91] at hz
    rw [hz] at hch
    rw [show i + (((91 : Int), (1 : Int)).2).toNat = i + 1 from rfl] at hch
    have HC := hide hch
    clear hch hz
    clear e40 e41 e91
    go_enter Tryd.func62, Tryd.ntmps62
    go_wp2_with fail
    refine (unhide HC _ ((unhide HP).below (by repeat (first | exact Below.refl _ _ | assumption | refine below_drewN ?_ _ | refine Below.drew ?_ | refine below_alloc' ?_ _))) ((unhide HT).below (by repeat (first | exact Below.refl _ _ | assumption | refine below_drewN ?_ _ | refine Below.drew ?_ | refine below_alloc' ?_ _)))).mono ?_
    rintro e w1 ⟨rfl, hP1, hK1⟩
    have hB := (unhide HRES) _ hK1
    obtain ⟨⟨b0, b1, b2, b3, b4, b5, b6⟩, f0, f1, f2, f3, f4, f5, f6⟩ := hB.seven
    have hk1 := ((Keeps.refl (fun k => k = bp) w).alloc (.cells zero7 26)).trans hK1 (fun _ _ h => h)
    have HB := hide hB; have HP1 := hide hP1; have HK1 := hide hk1; have HG1 := hide ((unhide HG) _ hk1)
    have hz1 : w.heap.size < w1.heap.size := hB.lt
    clear hP1 hK1 hB hk1 HRES
    go_wp2_with fail
    refine ((set_calls (i := i) (i : Int) w1 (unhide HP1) (unhide HG1) (by omega) hm).mono fun e w' h => node_one h).mono ?_
    clear b0 b1 b2 b3 b4 b5 b6 f0 f1 f2 f3 f4 f5 f6
    generalize oneOf i (setF s i bytes) = Gx at ho ⊢
    subst ho
    cases Gx with
    | fault j er =>
      rintro e w2 ⟨rfl, hk2⟩
      exact ⟨rfl, rfl, (unhide HK1).trans hk2 (fun _ _ h => h)⟩
    | node x k =>
      rintro e w2 ⟨cs, rfl, ht, hP2, hk2⟩
      obtain ⟨k1, k2, k3, As, ls, cs', k5, k6, A, lk, cc, rfl⟩ := ht.form
      have hB2 := (unhide HB).keeps hk2 (by omega)
      obtain ⟨⟨b0, b1, b2, b3, b4, b5, b6⟩, f0, f1, f2, f3, f4, f5, f6⟩ := hB2.seven
      have hz2 : w.heap.size < w2.heap.size := hB2.lt
      have HB2 := hide hB2; have HT2 := hide ht; have HP2 := hide hP2; have HK2 := hide ((unhide HK1).trans hk2 (fun _ _ h => h))
      clear hB2 ht hP2 hk2
      go_wp2_with fail
      refine bodyPost_ret (results_cell rfl rfl (load7 (Blk.put7 (unhide HB2)))) rfl ?_
      refine ⟨_, rfl, TreeAt.mono (fun k hk => ?_) _ _ (TreeAt.step (W := w2) (fun k hk _ => ?_) _ _ (unhide HT2)), PAt.put7 (unhide HP2) (by omega) _ _ _ _ _ _ _, (unhide HK2).put7 (.inr (Nat.le_refl _)) _ _ _ _ _ _ _⟩
      · have : w1.heap.size ≤ k := hk
        show w.heap.size ≤ k
        omega
      · have : w1.heap.size ≤ k := hk
        exact heap_put7 _ _ _ _ _ _ _ _ _ k (by omega)
  rw [if_neg e91] at ho
  by_cases e92 : byt s i = 92
  · rw [if_pos e92] at ho
    simp only [Option.some.injEq] at ho
    have hz := next_byte (bytes := bytes) hi (by omega : byt s i < 128)
    rw [e92] at hz
    rw [hz] at hch
    rw [show i + (((92 : Int), (1 : Int)).2).toNat = i + 1 from rfl] at hch
    have HC := hide hch
    clear hch hz
    clear e40 e41 e91 e92
    go_enter Tryd.func62, Tryd.ntmps62
    go_wp2_with fail
    refine (unhide HC _ ((unhide HP).below (by repeat (first | exact Below.refl _ _ | assumption | refine below_drewN ?_ _ | refine Below.drew ?_ | refine below_alloc' ?_ _))) ((unhide HT).below (by repeat (first | exact Below.refl _ _ | assumption | refine below_drewN ?_ _ | refine Below.drew ?_ | refine below_alloc' ?_ _)))).mono ?_
    rintro e w1 ⟨rfl, hP1, hK1⟩
    have hB := (unhide HRES) _ hK1
    obtain ⟨⟨b0, b1, b2, b3, b4, b5, b6⟩, f0, f1, f2, f3, f4, f5, f6⟩ := hB.seven
    have hk1 := ((Keeps.refl (fun k => k = bp) w).alloc (.cells zero7 26)).trans hK1 (fun _ _ h => h)
    have HB := hide hB; have HP1 := hide hP1; have HK1 := hide hk1; have HG1 := hide ((unhide HG) _ hk1)
    have hz1 : w.heap.size < w1.heap.size := hB.lt
    clear hP1 hK1 hB hk1 HRES
    go_wp2_with fail
    refine ((escape_calls (i := i) (i : Int) w1 (unhide HP1) (unhide HG1).tabs (by omega) hm).mono fun e w' h => node_one h).mono ?_
    clear b0 b1 b2 b3 b4 b5 b6 f0 f1 f2 f3 f4 f5 f6
    generalize oneOf i (escF s i bytes) = Gx at ho ⊢
    subst ho
    cases Gx with
    | fault j er =>
      rintro e w2 ⟨rfl, hk2⟩
      exact ⟨rfl, rfl, (unhide HK1).trans hk2 (fun _ _ h => h)⟩
    | node x k =>
      rintro e w2 ⟨cs, rfl, ht, hP2, hk2⟩
      obtain ⟨k1, k2, k3, As, ls, cs', k5, k6, A, lk, cc, rfl⟩ := ht.form
      have hB2 := (unhide HB).keeps hk2 (by omega)
      obtain ⟨⟨b0, b1, b2, b3, b4, b5, b6⟩, f0, f1, f2, f3, f4, f5, f6⟩ := hB2.seven
      have hz2 : w.heap.size < w2.heap.size := hB2.lt
      have HB2 := hide hB2; have HT2 := hide ht; have HP2 := hide hP2; have HK2 := hide ((unhide HK1).trans hk2 (fun _ _ h => h))
      clear hB2 ht hP2 hk2
      go_wp2_with fail
      refine bodyPost_ret (results_cell rfl rfl (load7 (Blk.put7 (unhide HB2)))) rfl ?_
      refine ⟨_, rfl, TreeAt.mono (fun k hk => ?_) _ _ (TreeAt.step (W := w2) (fun k hk _ => ?_) _ _ (unhide HT2)), PAt.put7 (unhide HP2) (by omega) _ _ _ _ _ _ _, (unhide HK2).put7 (.inr (Nat.le_refl _)) _ _ _ _ _ _ _⟩
      · have : w1.heap.size ≤ k := hk
        show w.heap.size ≤ k
        omega
      · have : w1.heap.size ≤ k := hk
        exact heap_put7 _ _ _ _ _ _ _ _ _ k (by omega)
  rw [if_neg e92] at ho
  simp only [Option.some.injEq] at ho
  subst ho
  have hne : ∀ c : Int, c < 128 → byt s i ≠ c → (nextF s i bytes).1 ≠ c := by
    intro c h1 h2 h3
    have := next_ascii (bytes := bytes) hi (by rw [h3]; exact h1)
    rw [this] at h3
    exact h2 h3
  have n40 := hne 40 (by omega) e40
  have n41 := hne 41 (by omega) e41
  have n91 := hne 91 (by omega) e91
  have n92 := hne 92 (by omega) e92
  generalize nextF s i bytes = z at *
  obtain ⟨c, n⟩ := z
  simp only at n40 n41 n91 n92 hch
  have HC := hide hch
  have n40' : (c == 40) = false := by simpa using n40
  have n41' : (c == 41) = false := by simpa using n41
  have n91' : (c == 91) = false := by simpa using n91
  have n92' : (c == 92) = false := by simpa using n92
  clear hch hne n40 n41 n91 n92 e40 e41 e91 e92
  unfold plainF
  by_cases e46 : c = 46
  · subst e46
    rw [if_pos rfl]
    clear n40' n41' n91' n92'
    go_enter Tryd.func62, Tryd.ntmps62
    go_wp2_with fail
    refine (unhide HC _ ((unhide HP).below (by repeat (first | exact Below.refl _ _ | assumption | refine below_drewN ?_ _ | refine Below.drew ?_ | refine below_alloc' ?_ _))) ((unhide HT).below (by repeat (first | exact Below.refl _ _ | assumption | refine below_drewN ?_ _ | refine Below.drew ?_ | refine below_alloc' ?_ _)))).mono ?_
    rintro e w1 ⟨rfl, hP1, hK1⟩
    have hB := (unhide HRES) _ hK1
    obtain ⟨⟨b0, b1, b2, b3, b4, b5, b6⟩, f0, f1, f2, f3, f4, f5, f6⟩ := hB.seven
    have hk1 := ((Keeps.refl (fun k => k = bp) w).alloc (.cells zero7 26)).trans hK1 (fun _ _ h => h)
    have HB := hide hB; have HP1 := hide hP1; have HK1 := hide hk1; have HG1 := hide ((unhide HG) _ hk1)
    have hz1 : w.heap.size < w1.heap.size := hB.lt
    clear hP1 hK1 hB hk1 HRES
    go_wp2_with fail
    refine bodyPost_ret (results_cell rfl rfl (load7 (Blk.put7 (unhide HB)))) rfl ?_
    exact ⟨_, rfl, tree_plain 3 0, PAt.put7 (unhide HP1) (by omega) _ _ _ _ _ _ _, (unhide HK1).put7 (.inr (Nat.le_refl _)) _ _ _ _ _ _ _⟩
  by_cases e94 : c = 94
  · subst e94
    rw [if_neg (by omega), if_pos rfl]
    clear n40' n41' n91' n92'
    go_enter Tryd.func62, Tryd.ntmps62
    go_wp2_with fail
    refine (unhide HC _ ((unhide HP).below (by repeat (first | exact Below.refl _ _ | assumption | refine below_drewN ?_ _ | refine Below.drew ?_ | refine below_alloc' ?_ _))) ((unhide HT).below (by repeat (first | exact Below.refl _ _ | assumption | refine below_drewN ?_ _ | refine Below.drew ?_ | refine below_alloc' ?_ _)))).mono ?_
    rintro e w1 ⟨rfl, hP1, hK1⟩
    have hB := (unhide HRES) _ hK1
    obtain ⟨⟨b0, b1, b2, b3, b4, b5, b6⟩, f0, f1, f2, f3, f4, f5, f6⟩ := hB.seven
    have hk1 := ((Keeps.refl (fun k => k = bp) w).alloc (.cells zero7 26)).trans hK1 (fun _ _ h => h)
    have HB := hide hB; have HP1 := hide hP1; have HK1 := hide hk1; have HG1 := hide ((unhide HG) _ hk1)
    have hz1 : w.heap.size < w1.heap.size := hB.lt
    clear hP1 hK1 hB hk1 HRES
    go_wp2_with fail
    refine bodyPost_ret (results_cell rfl rfl (load7 (Blk.put7 (unhide HB)))) rfl ?_
    exact ⟨_, rfl, tree_plain 8 0, PAt.put7 (unhide HP1) (by omega) _ _ _ _ _ _ _, (unhide HK1).put7 (.inr (Nat.le_refl _)) _ _ _ _ _ _ _⟩
  by_cases e36 : c = 36
  · subst e36
    rw [if_neg (by omega), if_neg (by omega), if_pos rfl]
    clear n40' n41' n91' n92'
    go_enter Tryd.func62, Tryd.ntmps62
    go_wp2_with fail
    refine (unhide HC _ ((unhide HP).below (by repeat (first | exact Below.refl _ _ | assumption | refine below_drewN ?_ _ | refine Below.drew ?_ | refine below_alloc' ?_ _))) ((unhide HT).below (by repeat (first | exact Below.refl _ _ | assumption | refine below_drewN ?_ _ | refine Below.drew ?_ | refine below_alloc' ?_ _)))).mono ?_
    rintro e w1 ⟨rfl, hP1, hK1⟩
    have hB := (unhide HRES) _ hK1
    obtain ⟨⟨b0, b1, b2, b3, b4, b5, b6⟩, f0, f1, f2, f3, f4, f5, f6⟩ := hB.seven
    have hk1 := ((Keeps.refl (fun k => k = bp) w).alloc (.cells zero7 26)).trans hK1 (fun _ _ h => h)
    have HB := hide hB; have HP1 := hide hP1; have HK1 := hide hk1; have HG1 := hide ((unhide HG) _ hk1)
    have hz1 : w.heap.size < w1.heap.size := hB.lt
    clear hP1 hK1 hB hk1 HRES
    go_wp2_with fail
    refine bodyPost_ret (results_cell rfl rfl (load7 (Blk.put7 (unhide HB)))) rfl ?_
    exact ⟨_, rfl, tree_plain 9 0, PAt.put7 (unhide HP1) (by omega) _ _ _ _ _ _ _, (unhide HK1).put7 (.inr (Nat.le_refl _)) _ _ _ _ _ _ _⟩
  rw [if_neg e46, if_neg e94, if_neg e36]
  have n46 : (c == 46) = false := by simpa using e46
  have n94 : (c == 94) = false := by simpa using e94
  have n36 : (c == 36) = false := by simpa using e36
  clear e46 e94 e36
  go_enter Tryd.func62, Tryd.ntmps62
  go_wp2_with fail
  refine (unhide HC _ ((unhide HP).below (by repeat (first | exact Below.refl _ _ | assumption | refine below_drewN ?_ _ | refine Below.drew ?_ | refine below_alloc' ?_ _))) ((unhide HT).below (by repeat (first | exact Below.refl _ _ | assumption | refine below_drewN ?_ _ | refine Below.drew ?_ | refine below_alloc' ?_ _)))).mono ?_
  rintro e w1 ⟨rfl, hP1, hK1⟩
  have hB := (unhide HRES) _ hK1
  obtain ⟨⟨b0, b1, b2, b3, b4, b5, b6⟩, f0, f1, f2, f3, f4, f5, f6⟩ := hB.seven
  have hk1 := ((Keeps.refl (fun k => k = bp) w).alloc (.cells zero7 26)).trans hK1 (fun _ _ h => h)
  have HB := hide hB; have HP1 := hide hP1; have HK1 := hide hk1; have HG1 := hide ((unhide HG) _ hk1)
  have hz1 : w.heap.size < w1.heap.size := hB.lt
  clear hP1 hK1 hB hk1 HRES
  go_wp2_with fail
  refine bodyPost_ret (results_cell rfl rfl (load7 (Blk.put7 (unhide HB)))) rfl ?_
  exact ⟨_, rfl, tree_plain 2 c, PAt.put7 (unhide HP1) (by omega) _ _ _ _ _ _ _, (unhide HK1).put7 (.inr (Nat.le_refl _)) _ _ _ _ _ _ _⟩
end Go.Proofs.YtanmlgliibgpcaaDoor

/- The walk of cat. -/
namespace Go.Proofs.YtanmlgliibgpcaaDoor
open Go.RowKit Thr
set_option linter.unusedVariables false
set_option linter.unusedSimpArgs false

def CatPost (bp : Nat) (s : ByteArray) (bytes : Bool) (nest : Nat) (alts : List Rx) (f : Nat) (r : Res) (w w' : World) (e : Ending) : Prop :=
  (∃ j er, r = .fault j er ∧ Gives bp j er w w' e) ∨
  ∃ (cat' : List Rx) (j f' : Nat) (cs : List Value), e = .returned (.agg cs.toArray) ∧ TreeAt (fun k => w.heap.size ≤ k) w' (joinF cat') cs ∧ PAt w' bp s j bytes nest ∧ Keeps (fun k => k = bp) w w' ∧ j ≤ s.size ∧ f' ≤ f ∧ s.size - j < f' ∧
    innerF s bytes f' nest alts cat' j = some r ∧ (s.size ≤ j ∨ byt s j = 124 ∨ (0 < nest ∧ byt s j = 41))
theorem Tryd.infoRx : (Tryd.prog.info? 26).map (fun i => (i.zero, i.size, i.bytes)) = some (some (.agg #[.int .i64 0, .int .i64 0, .bool false, .slice none 0 0, .int .i64 0, .int .i64 0, .slice none 0 0]), 7, 88) := by kernel_rfl
theorem atom_le {s : ByteArray} {bytes : Bool} {f nest i : Nat} {x : Rx} {k : Nat} (hi : i < s.size) (hm : s.size ≤ 1024) (hf : s.size - (i + 1) < f) (h : atomF s bytes f nest i = some (.node x k)) : i < k ∧ k ≤ s.size := by
  have hZ := sized_all s bytes
  unfold atomF at h
  split at h
  · split at h
    · cases h
    · obtain ⟨q, hq, hp⟩ := inner_ends hZ f (nest + 1) [] [] (i + 1) hf (by omega)
      rw [hq] at h
      simp only [Option.map_some, Option.some.injEq] at h
      cases q with
      | fault j e => cases h
      | stop a c j =>
        have := hp a c j rfl
        simp only [groupR] at h
        split at h
        · injection h; omega
        · cases h
  split at h
  · cases h
  split at h
  · cases hs : setF s i bytes with
    | none => rw [hs] at h; cases h
    | some q =>
      rw [hs] at h
      simp only [oneOf, Option.some.injEq] at h
      obtain ⟨y, k'⟩ := q
      injection h with h1 h2
      subst h2
      exact set_le hZ hs
  split at h
  · cases hs : escF s i bytes with
    | none => rw [hs] at h; cases h
    | some q =>
      rw [hs] at h
      simp only [oneOf, Option.some.injEq] at h
      obtain ⟨y, k'⟩ := q
      injection h with h1 h2
      subst h2
      exact esc_le hZ hs
  · simp only [Option.some.injEq] at h
    injection h with h1 h2
    have := (next_le (i := i) hZ).2.1 hi
    omega
/-- An element of a row of trees. -/
theorem RowW.elem {w0 W : World} {bp : Nat} {s : ByteArray} {bytes : Bool} {nest i g n cap : Nat} {ts : List Rx} {xs : List Value} (h : RowW w0 W bp s bytes nest i (.slice (some ⟨g, 0, none⟩) n cap) ts xs) {k : Nat} {t : Rx} (ht : ts[k]? = some t) :
    ∃ cs, TreeAt (fun k => w0.heap.size + 1 ≤ k ∧ g ≠ k) W t cs ∧ ∀ (j : Nat) (u : Value), cs[j]? = some u → W.cell? ⟨g, k * 7 + j, none⟩ = some u ∧ W.frozen? ⟨g, k * 7 + j, none⟩ = false := by
  obtain ⟨cs, a, b⟩ := h.row.2 k t ht
  have hn : n = ts.length := by
    obtain ⟨_, ⟨h1, _⟩ | ⟨g', cap', cur, h1, _⟩⟩ := h.own
    · cases h1
    · injection h1
  subst hn
  exact ⟨cs, TreeAt.mono (fun k hk => ⟨hk.1, fun e => hk.2 (by simp [Value.ownBlock, e])⟩) _ _ a, fun j u hu => own_cell h.own (b j u hu)⟩
theorem glob_any {w W : World} {bp : Nat} {s : ByteArray} {i : Nat} {bytes : Bool} {nest : Nat} (hG : Glob w) (hP : PAt w bp s i bytes nest) (hk : Keeps (fun k => k = bp) w W) : Glob W := hG.keeps hk hP

set_option maxRecDepth 100000 in
set_option maxHeartbeats 64000000 in
theorem cat_calls {bp : Nat} {s : ByteArray} {bytes : Bool} {nest : Nat} (F : Nat) (hA : ∀ f', f' < F → nest < 40 → ∀ (i : Nat) (r : Res) (w1 : World), innerF s bytes f' (nest + 1) [] [] i = some r → i ≤ s.size → s.size - i < f' → PAt w1 bp s i bytes (nest + 1) → Glob w1 →
      Calls Tryd.prog 34 #[.pointer (some ⟨bp, 0, none⟩)] w1 fun e w' => AltPost bp s bytes (nest + 1) w1 w' e r)
    (alts : List Rx) (i f : Nat) (r : Res) (w : World) (hf : f ≤ F) (hfi : s.size - i < f) (hin : innerF s bytes f nest alts [] i = some r) (hP : PAt w bp s i bytes nest) (hG : Glob w) (hi : i ≤ s.size) (hm : s.size ≤ 1024) (hn : nest ≤ 40) :
    Calls Tryd.prog 50 #[.pointer (some ⟨bp, 0, none⟩)] w fun e w' => CatPost bp s bytes nest alts f r w w' e := by
  have hbp := hP.lt
  have hGl : ∀ W, Keeps (fun k => k = bp) w W → Glob W := fun W hk => hG.keeps hk hP
  obtain ⟨i0, hi0, hz0, hz1, hz2⟩ := info_parts Tryd.infoRx
  have hstart : RowW w (w.alloc (.cells zero7 26)) bp s bytes nest i (.slice none 0 0) [] [] := ⟨Blk.new w _ _, Blk.alloc hP _, World.ownsRow_nil _ _ _ _, TreesRow.nil _ _, (Keeps.refl _ _).alloc _, hbp⟩
  have HA := hide hA; have HG := hide hGl; have HST := hide hstart; have HIN := hide hin
  clear hA hG hGl hP hstart hin
  go_enter Tryd.func50, Tryd.ntmps50
  go_wp2_with fail
  go_loopg [3] f (fun kx vK wr => ∃ (j : Nat) (cat : List Rx) (xs : List Value), j ≤ s.size ∧ s.size - j < kx ∧ kx ≤ f ∧ Hid (innerF s bytes kx nest alts cat j = some r) ∧ cat.length ≤ j ∧ Hid (RowW w wr bp s bytes nest j vK cat xs))
  case atStart => exact ⟨i, [], [], hi, hfi, Nat.le_refl _, HIN, by simp, HST⟩
  case round =>
    obtain ⟨j, cat, xs, hj, hjf, hkf, HR, hlen, HW⟩ := hrel
    clear HST HIN
    obtain ⟨f0, rfl⟩ : ∃ f0, gk = f0 + 1 := ⟨gk - 1, by omega⟩
    have hW := unhide HW
    have p0 := hW.at_.cell 0
    have p1 := hW.at_.cell 1
    have p3 := hW.at_.cell 3
    have hbpr := hW.at_.lt
    simp at p0 p1 p3
    have hs124 := fun W (hP : PAt W bp s j bytes nest) => see_quiet (lit [124]) W hP hj hm
    rw [see_one, show ((124 : UInt8).toNat : Int) = 124 from rfl] at hs124
    have hs41 := fun W (hP : PAt W bp s j bytes nest) => see_quiet (lit [41]) W hP hj hm
    rw [see_one, show ((41 : UInt8).toNat : Int) = 41 from rfl] at hs41
    by_cases hge : s.size ≤ j
    · have hlt : decide ((j : Int) < s.size) = false := decide_eq_false (by omega)
      have hltN : decide (j < s.size) = false := decide_eq_false (by omega)
      have HS124 := hide hs124; have HS41 := hide hs41
      clear hs124 hs41
      have HSTOP := hide (show s.size ≤ j ∨ byt s j = 124 ∨ (0 < nest ∧ byt s j = 41) from .inl hge)
      obtain ⟨⟨b0, b1, b2, b3, b4, b5, b6⟩, f0', f1', f2', f3', f4', f5', f6'⟩ := hW.res.seven
      have hzr : w.heap.size < wr.heap.size := hW.res.lt
      rcases cat with _ | ⟨x, _ | ⟨y, l⟩⟩
      · obtain ⟨Ao, co, rfl⟩ := own_form hW.own
        simp only [List.length_nil] at *
        clear hW
        go_wp2_with fail
        go_quiet ((first | (go_at_call_of 51 (Value.string { data := #[41] }); exact Calls.quiet_of (unhide HS41 _ ((unhide HW).at_.drewN _))) | (go_at_call 51; exact Calls.quiet_of (unhide HS124 _ ((unhide HW).at_.drewN _)))))
        go_wp2_with fail
        refine bodyPost_ret (results_cell rfl rfl (load7 (Blk.put7 (Blk.drewN (unhide HW).res _)))) rfl ?_
        refine .inr ⟨_, j, f0 + 1, _, rfl, ?_, PAt.put7 (Blk.drewN (unhide HW).at_ _) (by omega) _ _ _ _ _ _ _, ((unhide HW).kept.drewN _).put7 (.inr (Nat.le_refl _)) _ _ _ _ _ _ _, hj, hkf, hjf, unhide HR, unhide HSTOP⟩
        exact tree_plain 1 0
      · obtain ⟨g, cap, rfl, hg1, hg2⟩ := hW.own.form (by simp)
        obtain ⟨cs, ht, hc⟩ := hW.elem (k := 0) (t := x) rfl
        obtain ⟨k1, k2, k3, As, ls, cs', k5, k6, A, lk, cc, rfl⟩ := ht.form
        have e0 := (hc 0 _ rfl).1
        have e1 := (hc 1 _ rfl).1
        have e2 := (hc 2 _ rfl).1
        have e3 := (hc 3 _ rfl).1
        have e4 := (hc 4 _ rfl).1
        have e5 := (hc 5 _ rfl).1
        have e6 := (hc 6 _ rfl).1
        simp only [Nat.zero_mul, Nat.zero_add] at e0 e1 e2 e3 e4 e5 e6
        have HT := hide ht
        simp only [List.length_cons, List.length_nil, Nat.zero_add] at *
        clear hW hc ht
        go_wp2_with fail
        go_quiet ((first | (go_at_call_of 51 (Value.string { data := #[41] }); exact Calls.quiet_of (unhide HS41 _ ((unhide HW).at_.drewN _))) | (go_at_call 51; exact Calls.quiet_of (unhide HS124 _ ((unhide HW).at_.drewN _)))))
        go_wp2_with fail
        refine bodyPost_ret (results_cell rfl rfl (load7 (Blk.put7 (Blk.drewN (unhide HW).res _)))) rfl ?_
        refine .inr ⟨_, j, f0 + 1, _, rfl, ?_, PAt.put7 (Blk.drewN (unhide HW).at_ _) (by omega) _ _ _ _ _ _ _, ((unhide HW).kept.drewN _).put7 (.inr (Nat.le_refl _)) _ _ _ _ _ _ _, hj, hkf, hjf, unhide HR, unhide HSTOP⟩
        exact TreeAt.mono (fun k hk => (by have := hk.1; omega : w.heap.size ≤ k)) _ _ (TreeAt.step (W := wr) (fun k hk _ => heap_put7 (wr.drewN nq) _ _ _ _ _ _ _ _ k (by have := hk.1; omega)) _ _ (unhide HT))
      · obtain ⟨g, cap, rfl, hg1, hg2⟩ := hW.own.form (by simp)
        have hln : l.length ≤ 1024 := by simp at hlen; omega
        have htk := tree_kids (ok' := fun k => w.heap.size + 1 ≤ k) 5 hW.own hW.row (fun k hk => hk.1) (fun k hk => hk)
        simp only [List.length_cons] at htk
        have HT := hide htk
        have l1 : ((l.length : Int) + 1 + 1 == 0) = false := by simp; omega
        have l2 : ((l.length : Int) + 1 + 1 == 1) = false := by simp; omega
        simp only [List.length_cons] at *
        clear hW htk
        go_wp2_with fail
        go_quiet ((first | (go_at_call_of 51 (Value.string { data := #[41] }); exact Calls.quiet_of (unhide HS41 _ ((unhide HW).at_.drewN _))) | (go_at_call 51; exact Calls.quiet_of (unhide HS124 _ ((unhide HW).at_.drewN _)))))
        go_wp2_with fail
        refine bodyPost_ret (results_cell rfl rfl (load7 (Blk.put7 (Blk.drewN (unhide HW).res _)))) rfl ?_
        refine .inr ⟨_, j, f0 + 1, _, rfl, ?_, PAt.put7 (Blk.drewN (unhide HW).at_ _) (by omega) _ _ _ _ _ _ _, ((unhide HW).kept.drewN _).put7 (.inr (Nat.le_refl _)) _ _ _ _ _ _ _, hj, hkf, hjf, unhide HR, unhide HSTOP⟩
        exact TreeAt.mono (fun k hk => (by have : w.heap.size + 1 ≤ k := hk; omega : w.heap.size ≤ k)) _ _ (TreeAt.step (W := wr) (fun k hk _ => heap_put7 (wr.drewN nq) _ _ _ _ _ _ _ _ k (by have : w.heap.size + 1 ≤ k := hk; omega)) _ _ (unhide HT))
    have hjl : j < s.size := by omega
    have hlt : decide ((j : Int) < s.size) = true := decide_eq_true (by omega)
    have hltN : decide (j < s.size) = true := decide_eq_true (by omega)
    by_cases h124 : byt s j = 124
    · have ho : Thr.one s j 124 = true := by simp [Thr.one]; exact ⟨hjl, h124⟩
      rw [ho] at hs124
      have HS124 := hide hs124; have HS41 := hide hs41
      clear hs124 hs41 ho
      have HSTOP := hide (show s.size ≤ j ∨ byt s j = 124 ∨ (0 < nest ∧ byt s j = 41) from .inr (.inl h124))
      obtain ⟨⟨b0, b1, b2, b3, b4, b5, b6⟩, f0', f1', f2', f3', f4', f5', f6'⟩ := hW.res.seven
      have hzr : w.heap.size < wr.heap.size := hW.res.lt
      rcases cat with _ | ⟨x, _ | ⟨y, l⟩⟩
      · obtain ⟨Ao, co, rfl⟩ := own_form hW.own
        simp only [List.length_nil] at *
        clear hW
        go_wp2_with fail
        go_quiet ((first | (go_at_call_of 51 (Value.string { data := #[41] }); exact Calls.quiet_of (unhide HS41 _ ((unhide HW).at_.drewN _))) | (go_at_call 51; exact Calls.quiet_of (unhide HS124 _ ((unhide HW).at_.drewN _)))))
        go_wp2_with fail
        refine bodyPost_ret (results_cell rfl rfl (load7 (Blk.put7 (Blk.drewN (unhide HW).res _)))) rfl ?_
        refine .inr ⟨_, j, f0 + 1, _, rfl, ?_, PAt.put7 (Blk.drewN (unhide HW).at_ _) (by omega) _ _ _ _ _ _ _, ((unhide HW).kept.drewN _).put7 (.inr (Nat.le_refl _)) _ _ _ _ _ _ _, hj, hkf, hjf, unhide HR, unhide HSTOP⟩
        exact tree_plain 1 0
      · obtain ⟨g, cap, rfl, hg1, hg2⟩ := hW.own.form (by simp)
        obtain ⟨cs, ht, hc⟩ := hW.elem (k := 0) (t := x) rfl
        obtain ⟨k1, k2, k3, As, ls, cs', k5, k6, A, lk, cc, rfl⟩ := ht.form
        have e0 := (hc 0 _ rfl).1
        have e1 := (hc 1 _ rfl).1
        have e2 := (hc 2 _ rfl).1
        have e3 := (hc 3 _ rfl).1
        have e4 := (hc 4 _ rfl).1
        have e5 := (hc 5 _ rfl).1
        have e6 := (hc 6 _ rfl).1
        simp only [Nat.zero_mul, Nat.zero_add] at e0 e1 e2 e3 e4 e5 e6
        have HT := hide ht
        simp only [List.length_cons, List.length_nil, Nat.zero_add] at *
        clear hW hc ht
        go_wp2_with fail
        go_quiet ((first | (go_at_call_of 51 (Value.string { data := #[41] }); exact Calls.quiet_of (unhide HS41 _ ((unhide HW).at_.drewN _))) | (go_at_call 51; exact Calls.quiet_of (unhide HS124 _ ((unhide HW).at_.drewN _)))))
        go_wp2_with fail
        refine bodyPost_ret (results_cell rfl rfl (load7 (Blk.put7 (Blk.drewN (unhide HW).res _)))) rfl ?_
        refine .inr ⟨_, j, f0 + 1, _, rfl, ?_, PAt.put7 (Blk.drewN (unhide HW).at_ _) (by omega) _ _ _ _ _ _ _, ((unhide HW).kept.drewN _).put7 (.inr (Nat.le_refl _)) _ _ _ _ _ _ _, hj, hkf, hjf, unhide HR, unhide HSTOP⟩
        exact TreeAt.mono (fun k hk => (by have := hk.1; omega : w.heap.size ≤ k)) _ _ (TreeAt.step (W := wr) (fun k hk _ => heap_put7 (wr.drewN nq) _ _ _ _ _ _ _ _ k (by have := hk.1; omega)) _ _ (unhide HT))
      · obtain ⟨g, cap, rfl, hg1, hg2⟩ := hW.own.form (by simp)
        have hln : l.length ≤ 1024 := by simp at hlen; omega
        have htk := tree_kids (ok' := fun k => w.heap.size + 1 ≤ k) 5 hW.own hW.row (fun k hk => hk.1) (fun k hk => hk)
        simp only [List.length_cons] at htk
        have HT := hide htk
        have l1 : ((l.length : Int) + 1 + 1 == 0) = false := by simp; omega
        have l2 : ((l.length : Int) + 1 + 1 == 1) = false := by simp; omega
        simp only [List.length_cons] at *
        clear hW htk
        go_wp2_with fail
        go_quiet ((first | (go_at_call_of 51 (Value.string { data := #[41] }); exact Calls.quiet_of (unhide HS41 _ ((unhide HW).at_.drewN _))) | (go_at_call 51; exact Calls.quiet_of (unhide HS124 _ ((unhide HW).at_.drewN _)))))
        go_wp2_with fail
        refine bodyPost_ret (results_cell rfl rfl (load7 (Blk.put7 (Blk.drewN (unhide HW).res _)))) rfl ?_
        refine .inr ⟨_, j, f0 + 1, _, rfl, ?_, PAt.put7 (Blk.drewN (unhide HW).at_ _) (by omega) _ _ _ _ _ _ _, ((unhide HW).kept.drewN _).put7 (.inr (Nat.le_refl _)) _ _ _ _ _ _ _, hj, hkf, hjf, unhide HR, unhide HSTOP⟩
        exact TreeAt.mono (fun k hk => (by have : w.heap.size + 1 ≤ k := hk; omega : w.heap.size ≤ k)) _ _ (TreeAt.step (W := wr) (fun k hk _ => heap_put7 (wr.drewN nq) _ _ _ _ _ _ _ _ k (by have : w.heap.size + 1 ≤ k := hk; omega)) _ _ (unhide HT))
    have ho : Thr.one s j 124 = false := by simp [Thr.one]; exact fun _ => h124
    rw [ho] at hs124
    have HS124 := hide hs124
    clear hs124 ho
    by_cases h41 : 0 < nest ∧ byt s j = 41
    · have ho : Thr.one s j 41 = true := by simp [Thr.one]; exact ⟨hjl, h41.2⟩
      rw [ho] at hs41
      have HS41 := hide hs41
      have n1 : decide (0 < (nest : Int)) = true := decide_eq_true (by omega)
      have n2 : decide ((nest : Int) > 0) = true := decide_eq_true (by omega)
      have n3 : decide (0 < nest) = true := decide_eq_true (by omega)
      clear hs41 ho
      have HSTOP := hide (show s.size ≤ j ∨ byt s j = 124 ∨ (0 < nest ∧ byt s j = 41) from .inr (.inr h41))
      obtain ⟨⟨b0, b1, b2, b3, b4, b5, b6⟩, f0', f1', f2', f3', f4', f5', f6'⟩ := hW.res.seven
      have hzr : w.heap.size < wr.heap.size := hW.res.lt
      rcases cat with _ | ⟨x, _ | ⟨y, l⟩⟩
      · obtain ⟨Ao, co, rfl⟩ := own_form hW.own
        simp only [List.length_nil] at *
        clear hW
        go_wp2_with fail
        go_quiet ((first | (go_at_call_of 51 (Value.string { data := #[41] }); exact Calls.quiet_of (unhide HS41 _ ((unhide HW).at_.drewN _))) | (go_at_call 51; exact Calls.quiet_of (unhide HS124 _ ((unhide HW).at_.drewN _)))))
        go_wp2_with fail
        refine bodyPost_ret (results_cell rfl rfl (load7 (Blk.put7 (Blk.drewN (unhide HW).res _)))) rfl ?_
        refine .inr ⟨_, j, f0 + 1, _, rfl, ?_, PAt.put7 (Blk.drewN (unhide HW).at_ _) (by omega) _ _ _ _ _ _ _, ((unhide HW).kept.drewN _).put7 (.inr (Nat.le_refl _)) _ _ _ _ _ _ _, hj, hkf, hjf, unhide HR, unhide HSTOP⟩
        exact tree_plain 1 0
      · obtain ⟨g, cap, rfl, hg1, hg2⟩ := hW.own.form (by simp)
        obtain ⟨cs, ht, hc⟩ := hW.elem (k := 0) (t := x) rfl
        obtain ⟨k1, k2, k3, As, ls, cs', k5, k6, A, lk, cc, rfl⟩ := ht.form
        have e0 := (hc 0 _ rfl).1
        have e1 := (hc 1 _ rfl).1
        have e2 := (hc 2 _ rfl).1
        have e3 := (hc 3 _ rfl).1
        have e4 := (hc 4 _ rfl).1
        have e5 := (hc 5 _ rfl).1
        have e6 := (hc 6 _ rfl).1
        simp only [Nat.zero_mul, Nat.zero_add] at e0 e1 e2 e3 e4 e5 e6
        have HT := hide ht
        simp only [List.length_cons, List.length_nil, Nat.zero_add] at *
        clear hW hc ht
        go_wp2_with fail
        go_quiet ((first | (go_at_call_of 51 (Value.string { data := #[41] }); exact Calls.quiet_of (unhide HS41 _ ((unhide HW).at_.drewN _))) | (go_at_call 51; exact Calls.quiet_of (unhide HS124 _ ((unhide HW).at_.drewN _)))))
        go_wp2_with fail
        refine bodyPost_ret (results_cell rfl rfl (load7 (Blk.put7 (Blk.drewN (unhide HW).res _)))) rfl ?_
        refine .inr ⟨_, j, f0 + 1, _, rfl, ?_, PAt.put7 (Blk.drewN (unhide HW).at_ _) (by omega) _ _ _ _ _ _ _, ((unhide HW).kept.drewN _).put7 (.inr (Nat.le_refl _)) _ _ _ _ _ _ _, hj, hkf, hjf, unhide HR, unhide HSTOP⟩
        exact TreeAt.mono (fun k hk => (by have := hk.1; omega : w.heap.size ≤ k)) _ _ (TreeAt.step (W := wr) (fun k hk _ => heap_put7 (wr.drewN nq) _ _ _ _ _ _ _ _ k (by have := hk.1; omega)) _ _ (unhide HT))
      · obtain ⟨g, cap, rfl, hg1, hg2⟩ := hW.own.form (by simp)
        have hln : l.length ≤ 1024 := by simp at hlen; omega
        have htk := tree_kids (ok' := fun k => w.heap.size + 1 ≤ k) 5 hW.own hW.row (fun k hk => hk.1) (fun k hk => hk)
        simp only [List.length_cons] at htk
        have HT := hide htk
        have l1 : ((l.length : Int) + 1 + 1 == 0) = false := by simp; omega
        have l2 : ((l.length : Int) + 1 + 1 == 1) = false := by simp; omega
        simp only [List.length_cons] at *
        clear hW htk
        go_wp2_with fail
        go_quiet ((first | (go_at_call_of 51 (Value.string { data := #[41] }); exact Calls.quiet_of (unhide HS41 _ ((unhide HW).at_.drewN _))) | (go_at_call 51; exact Calls.quiet_of (unhide HS124 _ ((unhide HW).at_.drewN _)))))
        go_wp2_with fail
        refine bodyPost_ret (results_cell rfl rfl (load7 (Blk.put7 (Blk.drewN (unhide HW).res _)))) rfl ?_
        refine .inr ⟨_, j, f0 + 1, _, rfl, ?_, PAt.put7 (Blk.drewN (unhide HW).at_ _) (by omega) _ _ _ _ _ _ _, ((unhide HW).kept.drewN _).put7 (.inr (Nat.le_refl _)) _ _ _ _ _ _ _, hj, hkf, hjf, unhide HR, unhide HSTOP⟩
        exact TreeAt.mono (fun k hk => (by have : w.heap.size + 1 ≤ k := hk; omega : w.heap.size ≤ k)) _ _ (TreeAt.step (W := wr) (fun k hk _ => heap_put7 (wr.drewN nq) _ _ _ _ _ _ _ _ k (by have : w.heap.size + 1 ≤ k := hk; omega)) _ _ (unhide HT))
    have hin := unhide HR
    have hatom : ∀ (hag : (if cat = [] then Again.no else againF s j) = .no), ∃ o, atomF s bytes f0 nest j = some o ∧ (match o with | .fault j e => r = .fault j e | .node x k => innerF s bytes f0 nest alts (cat ++ [x]) k = some r) := fun hag => inner_atom hin hjl hag h124 h41
    have hstep : (match (if cat = [] then Again.no else againF s j) with | .no => True | .fault e => r = .fault j e | .yes lo hi k => innerF s bytes f0 nest alts (initL cat ++ [repN lo hi (lastL cat)]) k = some r) := by
      have h := hin
      simp only [innerF] at h
      rw [if_neg (by omega)] at h
      generalize (if cat = [] then Again.no else againF s j) = ag at h
      cases ag with
      | no => trivial
      | fault e => simp only at h; injection h with h; exact h.symm
      | yes lo hi k => exact h
    clear hin
    rcases Nat.eq_zero_or_pos nest with hn0 | hn0
    · have n1 : decide (0 < (nest : Int)) = false := decide_eq_false (by omega)
      have n2 : decide ((nest : Int) > 0) = false := decide_eq_false (by omega)
      have n3 : decide (0 < nest) = false := decide_eq_false (by omega)
      have HS41 := hide hs41
      clear hs41 hn0 h41 h124
      rcases List.eq_nil_or_concat cat with hc | ⟨pre, last, hc⟩
      · have hl : cat.length = 0 := by rw [hc]; rfl
        obtain ⟨Ao, co, rfl⟩ := own_form hW.own
        rw [hl] at hW HW hlen ⊢
        have hag : (if cat = [] then Again.no else againF s j) = .no := by rw [if_pos hc]
        obtain ⟨o, ho, hor⟩ := hatom hag
        have hkl : ∀ x k, o = .node x k → j < k ∧ k ≤ s.size := by
          intro x k e
          subst e
          exact atom_le hjl hm (by omega) ho
        have HO := hide ho; have HOR := hide hor; have HKL := hide hkl
        clear ho hor hkl
        have HL := hide hl
        clear hW hc hag hl hatom
        go_wp2_with fail
        go_quiet ((first | (go_at_call_of 51 (Value.string { data := #[41] }); exact Calls.quiet_of (unhide HS41 _ ((unhide HW).at_.drewN _))) | (go_at_call 51; exact Calls.quiet_of (unhide HS124 _ ((unhide HW).at_.drewN _)))))
        go_wp2_with fail
        have HW1 := hide ((unhide HW).below (below_drewN (Below.refl wr.heap.size wr) nq))
        refine (rxrep_nil Ao co _).mono ?_
        rintro e w2 ⟨rfl, hb2⟩
        have HW2 := hide ((unhide HW1).below hb2)
        clear hb2
        unfold zero7
        go_wp2_with fail
        refine (atom_calls (f := f0) o _ (Blk.alloc (unhide HW2).at_ _) ((unhide HG) _ ((unhide HW2).kept.alloc _)) hjl hm hn (by omega) (unhide HO) (fun hn40 r' w9 h1 h2 h3 => (unhide HA) f0 (by omega) hn40 (j + 1) r' w9 h1 (by omega) (by omega) h2 h3)).mono ?_
        cases o with
        | fault j' er =>
          rintro e w4 ⟨rfl, hk4⟩
          have hr := (unhide HOR)
          simp only at hr
          exact ⟨rfl, .inl ⟨j', er, hr, rfl, ((unhide HW2).kept.alloc _).trans hk4 (fun _ _ h => h)⟩⟩
        | node x k =>
          rintro e w4 ⟨cs, rfl, ht, hP4, hk4⟩
          have hin := (unhide HOR)
          simp only at hin
          obtain ⟨k1, k2, k3, As, ls, cs', k5, k6, A, lk, cc, rfl⟩ := ht.form
          have hW3 := (unhide HW2).below ((Below.refl _ _).alloc (Nat.le_refl _) (.cells zero7 26))
          have hW4 := hW3.move hk4 hP4
          have hkle := (unhide HKL) x k rfl
          have hown := hW4.own
          rw [unhide HL] at hown
          have h1w : w.heap.size < (w2.alloc (.cells zero7 26)).heap.size := hW3.res.lt
          have h2w : ∀ k, (Value.slice Ao (0) co).ownBlock = some k → k < (w2.alloc (.cells zero7 26)).heap.size := fun k hk => (own_lt hW3.own k hk).2
          have HW4 := hide hW4; have HT := hide ht; have HOWN := hide hown; have H1 := hide h1w; have H2 := hide h2w; have HIN := hide hin
          have hz4 : w.heap.size < w4.heap.size := hW4.res.lt
          clear hW3 hW4 ht hP4 hk4 hown h1w h2w hin
          go_wp2_with
           ((at_builtin; refine wpList_append_lies _ (by rfl) _ _ _ (by rfl) (w.heap.size + 1) 26 i0 _ 7 88 Tryd.underlying24 hi0 hz0 hz1 hz2 rfl (by omega) (.slice Ao (0) co) (0) xs (by rfl)
                (by exact (unhide HOWN).alloc _) ⟨w4.heap.size, 0, none⟩ 1 _ [.int .i64 k1, .int .i64 k2, .bool k3, .slice As ls cs', .int .i64 k5, .int .i64 k6, .slice A lk cc]
                (by rfl) (by rfl) (by exact World.news_of_block (cs := #[.int .i64 k1, .int .i64 k2, .bool k3, .slice As ls cs', .int .i64 k5, .int .i64 k6, .slice A lk cc]) (heap_alloc_new _ _))
                (by simp [Value.oneCell']) (by omega) (by simp only [maxLen]; omega) (by omega) (by first | omega | (simp; omega)) _ (by rfl) ?_; intro go cap5 w5 hown5 hgrow hat5 hlt5))
          have hW5 := (unhide HW4).app (go := go) (cap := cap5) (unhide HT) (unhide H1) (unhide H2) (below_alloc' (Below.refl w4.heap.size w4) _) hgrow (by rw [unhide HL]; exact hown5) hat5
          rw [unhide HL] at hW5
          have HW5 := hide hW5
          have hl2 := unhide HL
          clear hW5 hown5 hgrow hat5
          go_roundg f0
          case measure => omega
          case rel => exact ⟨k, cat ++ [x], _, hkle.2, by omega, by omega, HIN, by simp only [List.length_append, List.length_cons, List.length_nil]; omega, HW5⟩
      · rw [List.concat_eq_append] at hc
        have hl : cat.length = pre.length + 1 := by rw [hc]; simp
        have hcn : cat ≠ [] := by rw [hc]; simp
        obtain ⟨g, cap, rfl, hg1, hg2⟩ := hW.own.form (by omega)
        rw [hl] at hW HW hlen ⊢
        have HL := hide hl
        have hel : cat[pre.length]? = some last := by rw [hc]; simp
        have hlastE : lastL cat = last ∧ initL cat = pre := by
          have h1 := init_last hcn
          rw [hc] at h1 ⊢
          have h2 := List.append_inj' h1 rfl
          simp at h2
          exact ⟨h2.2.symm, h2.1.symm⟩
        obtain ⟨csl, htl, hcl⟩ := hW.elem hel
        have HW1' := hide (fun n => (unhide HW).below (below_drewN (Below.refl wr.heap.size wr) n))
        have hrep := fun n => rxrep_calls (ok := fun k => w.heap.size + 1 ≤ k ∧ g ≠ k) (cap := cap) (m := pre.length) last csl (wr.drewN n) (Blk.drewN hW.at_ n) hjl hm (by omega) (TreeAt.step (W := wr) (W' := wr.drewN n) (fun _ _ _ => rfl) _ _ htl) (fun q v hq => (hcl q v hq).1) (by omega) (fun k hk e => by have := hk.1; omega)
        have hagE : (if cat = [] then Again.no else againF s j) = againF s j := by rw [if_neg hcn]
        rw [hagE] at hatom hstep
        cases hag : againF s j with
        | no =>
          rw [hag] at hrep
          obtain ⟨o, ho, hor⟩ := hatom hag
          have hkl : ∀ x k, o = .node x k → j < k ∧ k ≤ s.size := by
            intro x k e
            subst e
            exact atom_le hjl hm (by omega) ho
          have HO := hide ho; have HOR := hide hor; have HKL := hide hkl
          clear ho hor hkl
          have HREP := hide hrep
          clear hW hc hag hl hatom hrep htl hcl hagE hlastE hel hcn HW1' hstep
          go_wp2_with fail
          go_quiet ((first | (go_at_call_of 51 (Value.string { data := #[41] }); exact Calls.quiet_of (unhide HS41 _ ((unhide HW).at_.drewN _))) | (go_at_call 51; exact Calls.quiet_of (unhide HS124 _ ((unhide HW).at_.drewN _)))))
          go_wp2_with fail
          have HW1 := hide ((unhide HW).below (below_drewN (Below.refl wr.heap.size wr) nq))
          refine ((unhide HREP) _).mono ?_
          rintro e w2 ⟨rfl, hb2⟩
          have HW2 := hide ((unhide HW1).below hb2)
          clear hb2
          unfold zero7
          go_wp2_with fail
          refine (atom_calls (f := f0) o _ (Blk.alloc (unhide HW2).at_ _) ((unhide HG) _ ((unhide HW2).kept.alloc _)) hjl hm hn (by omega) (unhide HO) (fun hn40 r' w9 h1 h2 h3 => (unhide HA) f0 (by omega) hn40 (j + 1) r' w9 h1 (by omega) (by omega) h2 h3)).mono ?_
          cases o with
          | fault j' er =>
            rintro e w4 ⟨rfl, hk4⟩
            have hr := (unhide HOR)
            simp only at hr
            exact ⟨rfl, .inl ⟨j', er, hr, rfl, ((unhide HW2).kept.alloc _).trans hk4 (fun _ _ h => h)⟩⟩
          | node x k =>
            rintro e w4 ⟨cs, rfl, ht, hP4, hk4⟩
            have hin := (unhide HOR)
            simp only at hin
            obtain ⟨k1, k2, k3, As, ls, cs', k5, k6, A, lk, cc, rfl⟩ := ht.form
            have hW3 := (unhide HW2).below ((Below.refl _ _).alloc (Nat.le_refl _) (.cells zero7 26))
            have hW4 := hW3.move hk4 hP4
            have hkle := (unhide HKL) x k rfl
            have hown := hW4.own
            rw [unhide HL] at hown
            have h1w : w.heap.size < (w2.alloc (.cells zero7 26)).heap.size := hW3.res.lt
            have h2w : ∀ k, (Value.slice (some ⟨g, 0, none⟩) (pre.length + 1) cap).ownBlock = some k → k < (w2.alloc (.cells zero7 26)).heap.size := fun k hk => (own_lt hW3.own k hk).2
            have HW4 := hide hW4; have HT := hide ht; have HOWN := hide hown; have H1 := hide h1w; have H2 := hide h2w; have HIN := hide hin
            have hz4 : w.heap.size < w4.heap.size := hW4.res.lt
            clear hW3 hW4 ht hP4 hk4 hown h1w h2w hin
            go_wp2_with
             ((at_builtin; refine wpList_append_lies _ (by rfl) _ _ _ (by rfl) (w.heap.size + 1) 26 i0 _ 7 88 Tryd.underlying24 hi0 hz0 hz1 hz2 rfl (by omega) (.slice (some ⟨g, 0, none⟩) (pre.length + 1) cap) (pre.length + 1) xs (by rfl)
                  (by exact (unhide HOWN).alloc _) ⟨w4.heap.size, 0, none⟩ 1 _ [.int .i64 k1, .int .i64 k2, .bool k3, .slice As ls cs', .int .i64 k5, .int .i64 k6, .slice A lk cc]
                  (by rfl) (by rfl) (by exact World.news_of_block (cs := #[.int .i64 k1, .int .i64 k2, .bool k3, .slice As ls cs', .int .i64 k5, .int .i64 k6, .slice A lk cc]) (heap_alloc_new _ _))
                  (by simp [Value.oneCell']) (by omega) (by simp only [maxLen]; omega) (by omega) (by first | omega | (simp; omega)) _ (by rfl) ?_; intro go cap5 w5 hown5 hgrow hat5 hlt5))
            have hW5 := (unhide HW4).app (go := go) (cap := cap5) (unhide HT) (unhide H1) (unhide H2) (below_alloc' (Below.refl w4.heap.size w4) _) hgrow (by rw [unhide HL]; exact hown5) hat5
            rw [unhide HL] at hW5
            have HW5 := hide hW5
            have hl2 := unhide HL
            clear hW5 hown5 hgrow hat5
            go_roundg f0
            case measure => omega
            case rel => exact ⟨k, cat ++ [x], _, hkle.2, by omega, by omega, HIN, by simp only [List.length_append, List.length_cons, List.length_nil]; omega, HW5⟩
        | fault er =>
          rw [hag] at hrep hstep
          simp only at hstep
          have HREP := hide hrep; have HRS := hide hstep
          clear hW hc hag hl hatom hrep htl hcl hagE hlastE hel hcn HW1' hstep
          go_wp2_with fail
          go_quiet ((first | (go_at_call_of 51 (Value.string { data := #[41] }); exact Calls.quiet_of (unhide HS41 _ ((unhide HW).at_.drewN _))) | (go_at_call 51; exact Calls.quiet_of (unhide HS124 _ ((unhide HW).at_.drewN _)))))
          go_wp2_with fail
          have HW1 := hide ((unhide HW).below (below_drewN (Below.refl wr.heap.size wr) nq))
          refine ((unhide HREP) _).mono ?_
          rintro e w2 ⟨rfl, hk2⟩
          exact ⟨rfl, .inl ⟨j, er, unhide HRS, rfl, (unhide HW1).kept.trans hk2 (fun _ _ h => h)⟩⟩
        | yes lo hi' k =>
          have hkl := again_le hjl hag
          rw [hag] at hrep hstep
          simp only [hlastE.1, hlastE.2] at hstep
          obtain ⟨k1, k2, k3, As, ls, cs', k5, k6, A, lk, cc, rfl⟩ := htl.form
          have HREP := hide hrep; have HRS := hide hstep; have HCL := hide hcl; have HC := hide hc
          clear hW hc hag hatom hrep htl hcl hagE hlastE hel hcn HW1' hstep
          go_wp2_with fail
          go_quiet ((first | (go_at_call_of 51 (Value.string { data := #[41] }); exact Calls.quiet_of (unhide HS41 _ ((unhide HW).at_.drewN _))) | (go_at_call 51; exact Calls.quiet_of (unhide HS124 _ ((unhide HW).at_.drewN _)))))
          go_wp2_with fail
          have HW1 := hide ((unhide HW).below (below_drewN (Below.refl wr.heap.size wr) nq))
          refine ((unhide HREP) _).mono ?_
          rintro e w2 ⟨csn, rfl, htn, hP2, hk2⟩
          have hW2 := (unhide HW1).move hk2 hP2
          have hgo : ∀ q (v : Value), w2.cell? ⟨g, pre.length * 7 + q, none⟩ = wr.cell? ⟨g, pre.length * 7 + q, none⟩ ∧ w2.frozen? ⟨g, pre.length * 7 + q, none⟩ = wr.frozen? ⟨g, pre.length * 7 + q, none⟩ := fun q v => ⟨hk2.cell (by exact hg2) (by omega), hk2.frozen (by exact hg2) (by omega)⟩
          have e0 := (hgo 0 default).1.trans ((unhide HCL) 0 _ rfl).1
          have e1 := (hgo 1 default).1.trans ((unhide HCL) 1 _ rfl).1
          have e2 := (hgo 2 default).1.trans ((unhide HCL) 2 _ rfl).1
          have e3 := (hgo 3 default).1.trans ((unhide HCL) 3 _ rfl).1
          have e4 := (hgo 4 default).1.trans ((unhide HCL) 4 _ rfl).1
          have e5 := (hgo 5 default).1.trans ((unhide HCL) 5 _ rfl).1
          have e6 := (hgo 6 default).1.trans ((unhide HCL) 6 _ rfl).1
          have z0 := (hgo 0 default).2.trans ((unhide HCL) 0 _ rfl).2
          have z1 := (hgo 1 default).2.trans ((unhide HCL) 1 _ rfl).2
          have z2 := (hgo 2 default).2.trans ((unhide HCL) 2 _ rfl).2
          have z3 := (hgo 3 default).2.trans ((unhide HCL) 3 _ rfl).2
          have z4 := (hgo 4 default).2.trans ((unhide HCL) 4 _ rfl).2
          have z5 := (hgo 5 default).2.trans ((unhide HCL) 5 _ rfl).2
          have z6 := (hgo 6 default).2.trans ((unhide HCL) 6 _ rfl).2
          simp only [Nat.add_zero] at e0 z0
          have hg3 : g < w2.heap.size := by have := hk2.size; simp at this; omega
          have htn' : TreeAt (fun k => w.heap.size + 1 ≤ k ∧ g ≠ k) w2 (repN lo hi' last) csn := TreeAt.mono (fun q hq => by
            rcases hq with hq | hq
            · exact hq
            · have hq' : wr.heap.size ≤ q := by simpa using hq
              have hzz := (unhide HW).res.lt
              exact ⟨by omega, by omega⟩) _ _ htn
          obtain ⟨n1, n2, n3, As2, ls2, cs2, n5, n6, A2, lk2, cc2, rfl⟩ := htn'.form
          have hWc : RowW w w2 bp s bytes nest k (.slice (some ⟨g, 0, none⟩) (pre.length + 1) cap) (pre ++ [last]) xs := by rw [← unhide HC]; exact hW2
          have hW3 := RowW.put hWc rfl htn'
          have hm1 : (0 : Int) ≤ pre.length := by omega
          have hm2 : (pre.length : Int) < pre.length + 1 := by omega
          have HW3 := hide hW3
          have hzw : w.heap.size < w2.heap.size := hWc.res.lt
          clear hW2 hW3 hWc htn htn' hP2 hk2 hgo
          go_wp2_with fail
          go_roundg f0
          case measure => omega
          case rel => exact ⟨k, pre ++ [repN lo hi' last], _, hkl.2, by omega, by omega, HRS, by simp only [List.length_append, List.length_cons, List.length_nil]; omega, hide ((unhide HW3).below ((Below.refl _ _).alloc (Nat.le_refl _) _))⟩
    · have n1 : decide (0 < (nest : Int)) = true := decide_eq_true (by omega)
      have n2 : decide ((nest : Int) > 0) = true := decide_eq_true (by omega)
      have n3 : decide (0 < nest) = true := decide_eq_true (by omega)
      have ho : Thr.one s j 41 = false := by simp [Thr.one]; exact fun _ h => h41 ⟨hn0, h⟩
      rw [ho] at hs41
      have HS41 := hide hs41
      clear hs41 ho h41 h124
      rcases List.eq_nil_or_concat cat with hc | ⟨pre, last, hc⟩
      · have hl : cat.length = 0 := by rw [hc]; rfl
        obtain ⟨Ao, co, rfl⟩ := own_form hW.own
        rw [hl] at hW HW hlen ⊢
        have hag : (if cat = [] then Again.no else againF s j) = .no := by rw [if_pos hc]
        obtain ⟨o, ho, hor⟩ := hatom hag
        have hkl : ∀ x k, o = .node x k → j < k ∧ k ≤ s.size := by
          intro x k e
          subst e
          exact atom_le hjl hm (by omega) ho
        have HO := hide ho; have HOR := hide hor; have HKL := hide hkl
        clear ho hor hkl
        have HL := hide hl
        clear hW hc hag hl hatom
        go_wp2_with fail
        go_quiet ((first | (go_at_call_of 51 (Value.string { data := #[41] }); exact Calls.quiet_of (unhide HS41 _ ((unhide HW).at_.drewN _))) | (go_at_call 51; exact Calls.quiet_of (unhide HS124 _ ((unhide HW).at_.drewN _)))))
        go_wp2_with fail
        have HW1 := hide ((unhide HW).below (below_drewN (Below.refl wr.heap.size wr) nq))
        refine (rxrep_nil Ao co _).mono ?_
        rintro e w2 ⟨rfl, hb2⟩
        have HW2 := hide ((unhide HW1).below hb2)
        clear hb2
        unfold zero7
        go_wp2_with fail
        refine (atom_calls (f := f0) o _ (Blk.alloc (unhide HW2).at_ _) ((unhide HG) _ ((unhide HW2).kept.alloc _)) hjl hm hn (by omega) (unhide HO) (fun hn40 r' w9 h1 h2 h3 => (unhide HA) f0 (by omega) hn40 (j + 1) r' w9 h1 (by omega) (by omega) h2 h3)).mono ?_
        cases o with
        | fault j' er =>
          rintro e w4 ⟨rfl, hk4⟩
          have hr := (unhide HOR)
          simp only at hr
          exact ⟨rfl, .inl ⟨j', er, hr, rfl, ((unhide HW2).kept.alloc _).trans hk4 (fun _ _ h => h)⟩⟩
        | node x k =>
          rintro e w4 ⟨cs, rfl, ht, hP4, hk4⟩
          have hin := (unhide HOR)
          simp only at hin
          obtain ⟨k1, k2, k3, As, ls, cs', k5, k6, A, lk, cc, rfl⟩ := ht.form
          have hW3 := (unhide HW2).below ((Below.refl _ _).alloc (Nat.le_refl _) (.cells zero7 26))
          have hW4 := hW3.move hk4 hP4
          have hkle := (unhide HKL) x k rfl
          have hown := hW4.own
          rw [unhide HL] at hown
          have h1w : w.heap.size < (w2.alloc (.cells zero7 26)).heap.size := hW3.res.lt
          have h2w : ∀ k, (Value.slice Ao (0) co).ownBlock = some k → k < (w2.alloc (.cells zero7 26)).heap.size := fun k hk => (own_lt hW3.own k hk).2
          have HW4 := hide hW4; have HT := hide ht; have HOWN := hide hown; have H1 := hide h1w; have H2 := hide h2w; have HIN := hide hin
          have hz4 : w.heap.size < w4.heap.size := hW4.res.lt
          clear hW3 hW4 ht hP4 hk4 hown h1w h2w hin
          go_wp2_with
           ((at_builtin; refine wpList_append_lies _ (by rfl) _ _ _ (by rfl) (w.heap.size + 1) 26 i0 _ 7 88 Tryd.underlying24 hi0 hz0 hz1 hz2 rfl (by omega) (.slice Ao (0) co) (0) xs (by rfl)
                (by exact (unhide HOWN).alloc _) ⟨w4.heap.size, 0, none⟩ 1 _ [.int .i64 k1, .int .i64 k2, .bool k3, .slice As ls cs', .int .i64 k5, .int .i64 k6, .slice A lk cc]
                (by rfl) (by rfl) (by exact World.news_of_block (cs := #[.int .i64 k1, .int .i64 k2, .bool k3, .slice As ls cs', .int .i64 k5, .int .i64 k6, .slice A lk cc]) (heap_alloc_new _ _))
                (by simp [Value.oneCell']) (by omega) (by simp only [maxLen]; omega) (by omega) (by first | omega | (simp; omega)) _ (by rfl) ?_; intro go cap5 w5 hown5 hgrow hat5 hlt5))
          have hW5 := (unhide HW4).app (go := go) (cap := cap5) (unhide HT) (unhide H1) (unhide H2) (below_alloc' (Below.refl w4.heap.size w4) _) hgrow (by rw [unhide HL]; exact hown5) hat5
          rw [unhide HL] at hW5
          have HW5 := hide hW5
          have hl2 := unhide HL
          clear hW5 hown5 hgrow hat5
          go_roundg f0
          case measure => omega
          case rel => exact ⟨k, cat ++ [x], _, hkle.2, by omega, by omega, HIN, by simp only [List.length_append, List.length_cons, List.length_nil]; omega, HW5⟩
      · rw [List.concat_eq_append] at hc
        have hl : cat.length = pre.length + 1 := by rw [hc]; simp
        have hcn : cat ≠ [] := by rw [hc]; simp
        obtain ⟨g, cap, rfl, hg1, hg2⟩ := hW.own.form (by omega)
        rw [hl] at hW HW hlen ⊢
        have HL := hide hl
        have hel : cat[pre.length]? = some last := by rw [hc]; simp
        have hlastE : lastL cat = last ∧ initL cat = pre := by
          have h1 := init_last hcn
          rw [hc] at h1 ⊢
          have h2 := List.append_inj' h1 rfl
          simp at h2
          exact ⟨h2.2.symm, h2.1.symm⟩
        obtain ⟨csl, htl, hcl⟩ := hW.elem hel
        have HW1' := hide (fun n => (unhide HW).below (below_drewN (Below.refl wr.heap.size wr) n))
        have hrep := fun n => rxrep_calls (ok := fun k => w.heap.size + 1 ≤ k ∧ g ≠ k) (cap := cap) (m := pre.length) last csl (wr.drewN n) (Blk.drewN hW.at_ n) hjl hm (by omega) (TreeAt.step (W := wr) (W' := wr.drewN n) (fun _ _ _ => rfl) _ _ htl) (fun q v hq => (hcl q v hq).1) (by omega) (fun k hk e => by have := hk.1; omega)
        have hagE : (if cat = [] then Again.no else againF s j) = againF s j := by rw [if_neg hcn]
        rw [hagE] at hatom hstep
        cases hag : againF s j with
        | no =>
          rw [hag] at hrep
          obtain ⟨o, ho, hor⟩ := hatom hag
          have hkl : ∀ x k, o = .node x k → j < k ∧ k ≤ s.size := by
            intro x k e
            subst e
            exact atom_le hjl hm (by omega) ho
          have HO := hide ho; have HOR := hide hor; have HKL := hide hkl
          clear ho hor hkl
          have HREP := hide hrep
          clear hW hc hag hl hatom hrep htl hcl hagE hlastE hel hcn HW1' hstep
          go_wp2_with fail
          go_quiet ((first | (go_at_call_of 51 (Value.string { data := #[41] }); exact Calls.quiet_of (unhide HS41 _ ((unhide HW).at_.drewN _))) | (go_at_call 51; exact Calls.quiet_of (unhide HS124 _ ((unhide HW).at_.drewN _)))))
          go_wp2_with fail
          have HW1 := hide ((unhide HW).below (below_drewN (Below.refl wr.heap.size wr) nq))
          refine ((unhide HREP) _).mono ?_
          rintro e w2 ⟨rfl, hb2⟩
          have HW2 := hide ((unhide HW1).below hb2)
          clear hb2
          unfold zero7
          go_wp2_with fail
          refine (atom_calls (f := f0) o _ (Blk.alloc (unhide HW2).at_ _) ((unhide HG) _ ((unhide HW2).kept.alloc _)) hjl hm hn (by omega) (unhide HO) (fun hn40 r' w9 h1 h2 h3 => (unhide HA) f0 (by omega) hn40 (j + 1) r' w9 h1 (by omega) (by omega) h2 h3)).mono ?_
          cases o with
          | fault j' er =>
            rintro e w4 ⟨rfl, hk4⟩
            have hr := (unhide HOR)
            simp only at hr
            exact ⟨rfl, .inl ⟨j', er, hr, rfl, ((unhide HW2).kept.alloc _).trans hk4 (fun _ _ h => h)⟩⟩
          | node x k =>
            rintro e w4 ⟨cs, rfl, ht, hP4, hk4⟩
            have hin := (unhide HOR)
            simp only at hin
            obtain ⟨k1, k2, k3, As, ls, cs', k5, k6, A, lk, cc, rfl⟩ := ht.form
            have hW3 := (unhide HW2).below ((Below.refl _ _).alloc (Nat.le_refl _) (.cells zero7 26))
            have hW4 := hW3.move hk4 hP4
            have hkle := (unhide HKL) x k rfl
            have hown := hW4.own
            rw [unhide HL] at hown
            have h1w : w.heap.size < (w2.alloc (.cells zero7 26)).heap.size := hW3.res.lt
            have h2w : ∀ k, (Value.slice (some ⟨g, 0, none⟩) (pre.length + 1) cap).ownBlock = some k → k < (w2.alloc (.cells zero7 26)).heap.size := fun k hk => (own_lt hW3.own k hk).2
            have HW4 := hide hW4; have HT := hide ht; have HOWN := hide hown; have H1 := hide h1w; have H2 := hide h2w; have HIN := hide hin
            have hz4 : w.heap.size < w4.heap.size := hW4.res.lt
            clear hW3 hW4 ht hP4 hk4 hown h1w h2w hin
            go_wp2_with
             ((at_builtin; refine wpList_append_lies _ (by rfl) _ _ _ (by rfl) (w.heap.size + 1) 26 i0 _ 7 88 Tryd.underlying24 hi0 hz0 hz1 hz2 rfl (by omega) (.slice (some ⟨g, 0, none⟩) (pre.length + 1) cap) (pre.length + 1) xs (by rfl)
                  (by exact (unhide HOWN).alloc _) ⟨w4.heap.size, 0, none⟩ 1 _ [.int .i64 k1, .int .i64 k2, .bool k3, .slice As ls cs', .int .i64 k5, .int .i64 k6, .slice A lk cc]
                  (by rfl) (by rfl) (by exact World.news_of_block (cs := #[.int .i64 k1, .int .i64 k2, .bool k3, .slice As ls cs', .int .i64 k5, .int .i64 k6, .slice A lk cc]) (heap_alloc_new _ _))
                  (by simp [Value.oneCell']) (by omega) (by simp only [maxLen]; omega) (by omega) (by first | omega | (simp; omega)) _ (by rfl) ?_; intro go cap5 w5 hown5 hgrow hat5 hlt5))
            have hW5 := (unhide HW4).app (go := go) (cap := cap5) (unhide HT) (unhide H1) (unhide H2) (below_alloc' (Below.refl w4.heap.size w4) _) hgrow (by rw [unhide HL]; exact hown5) hat5
            rw [unhide HL] at hW5
            have HW5 := hide hW5
            have hl2 := unhide HL
            clear hW5 hown5 hgrow hat5
            go_roundg f0
            case measure => omega
            case rel => exact ⟨k, cat ++ [x], _, hkle.2, by omega, by omega, HIN, by simp only [List.length_append, List.length_cons, List.length_nil]; omega, HW5⟩
        | fault er =>
          rw [hag] at hrep hstep
          simp only at hstep
          have HREP := hide hrep; have HRS := hide hstep
          clear hW hc hag hl hatom hrep htl hcl hagE hlastE hel hcn HW1' hstep
          go_wp2_with fail
          go_quiet ((first | (go_at_call_of 51 (Value.string { data := #[41] }); exact Calls.quiet_of (unhide HS41 _ ((unhide HW).at_.drewN _))) | (go_at_call 51; exact Calls.quiet_of (unhide HS124 _ ((unhide HW).at_.drewN _)))))
          go_wp2_with fail
          have HW1 := hide ((unhide HW).below (below_drewN (Below.refl wr.heap.size wr) nq))
          refine ((unhide HREP) _).mono ?_
          rintro e w2 ⟨rfl, hk2⟩
          exact ⟨rfl, .inl ⟨j, er, unhide HRS, rfl, (unhide HW1).kept.trans hk2 (fun _ _ h => h)⟩⟩
        | yes lo hi' k =>
          have hkl := again_le hjl hag
          rw [hag] at hrep hstep
          simp only [hlastE.1, hlastE.2] at hstep
          obtain ⟨k1, k2, k3, As, ls, cs', k5, k6, A, lk, cc, rfl⟩ := htl.form
          have HREP := hide hrep; have HRS := hide hstep; have HCL := hide hcl; have HC := hide hc
          clear hW hc hag hatom hrep htl hcl hagE hlastE hel hcn HW1' hstep
          go_wp2_with fail
          go_quiet ((first | (go_at_call_of 51 (Value.string { data := #[41] }); exact Calls.quiet_of (unhide HS41 _ ((unhide HW).at_.drewN _))) | (go_at_call 51; exact Calls.quiet_of (unhide HS124 _ ((unhide HW).at_.drewN _)))))
          go_wp2_with fail
          have HW1 := hide ((unhide HW).below (below_drewN (Below.refl wr.heap.size wr) nq))
          refine ((unhide HREP) _).mono ?_
          rintro e w2 ⟨csn, rfl, htn, hP2, hk2⟩
          have hW2 := (unhide HW1).move hk2 hP2
          have hgo : ∀ q (v : Value), w2.cell? ⟨g, pre.length * 7 + q, none⟩ = wr.cell? ⟨g, pre.length * 7 + q, none⟩ ∧ w2.frozen? ⟨g, pre.length * 7 + q, none⟩ = wr.frozen? ⟨g, pre.length * 7 + q, none⟩ := fun q v => ⟨hk2.cell (by exact hg2) (by omega), hk2.frozen (by exact hg2) (by omega)⟩
          have e0 := (hgo 0 default).1.trans ((unhide HCL) 0 _ rfl).1
          have e1 := (hgo 1 default).1.trans ((unhide HCL) 1 _ rfl).1
          have e2 := (hgo 2 default).1.trans ((unhide HCL) 2 _ rfl).1
          have e3 := (hgo 3 default).1.trans ((unhide HCL) 3 _ rfl).1
          have e4 := (hgo 4 default).1.trans ((unhide HCL) 4 _ rfl).1
          have e5 := (hgo 5 default).1.trans ((unhide HCL) 5 _ rfl).1
          have e6 := (hgo 6 default).1.trans ((unhide HCL) 6 _ rfl).1
          have z0 := (hgo 0 default).2.trans ((unhide HCL) 0 _ rfl).2
          have z1 := (hgo 1 default).2.trans ((unhide HCL) 1 _ rfl).2
          have z2 := (hgo 2 default).2.trans ((unhide HCL) 2 _ rfl).2
          have z3 := (hgo 3 default).2.trans ((unhide HCL) 3 _ rfl).2
          have z4 := (hgo 4 default).2.trans ((unhide HCL) 4 _ rfl).2
          have z5 := (hgo 5 default).2.trans ((unhide HCL) 5 _ rfl).2
          have z6 := (hgo 6 default).2.trans ((unhide HCL) 6 _ rfl).2
          simp only [Nat.add_zero] at e0 z0
          have hg3 : g < w2.heap.size := by have := hk2.size; simp at this; omega
          have htn' : TreeAt (fun k => w.heap.size + 1 ≤ k ∧ g ≠ k) w2 (repN lo hi' last) csn := TreeAt.mono (fun q hq => by
            rcases hq with hq | hq
            · exact hq
            · have hq' : wr.heap.size ≤ q := by simpa using hq
              have hzz := (unhide HW).res.lt
              exact ⟨by omega, by omega⟩) _ _ htn
          obtain ⟨n1, n2, n3, As2, ls2, cs2, n5, n6, A2, lk2, cc2, rfl⟩ := htn'.form
          have hWc : RowW w w2 bp s bytes nest k (.slice (some ⟨g, 0, none⟩) (pre.length + 1) cap) (pre ++ [last]) xs := by rw [← unhide HC]; exact hW2
          have hW3 := RowW.put hWc rfl htn'
          have hm1 : (0 : Int) ≤ pre.length := by omega
          have hm2 : (pre.length : Int) < pre.length + 1 := by omega
          have HW3 := hide hW3
          have hzw : w.heap.size < w2.heap.size := hWc.res.lt
          clear hW2 hW3 hWc htn htn' hP2 hk2 hgo
          go_wp2_with fail
          go_roundg f0
          case measure => omega
          case rel => exact ⟨k, pre ++ [repN lo hi' last], _, hkl.2, by omega, by omega, HRS, by simp only [List.length_append, List.length_cons, List.length_nil]; omega, hide ((unhide HW3).below ((Below.refl _ _).alloc (Nat.le_refl _) _))⟩
end Go.Proofs.YtanmlgliibgpcaaDoor

/- The walk of alt. -/
namespace Go.Proofs.YtanmlgliibgpcaaDoor
open Go.RowKit Thr
set_option linter.unusedVariables false
set_option linter.unusedSimpArgs false

theorem inner_bar {s : ByteArray} {bytes : Bool} {f nest j : Nat} {alts cat : List Rx} {r : Res} (h : innerF s bytes (f + 1) nest alts cat j = some r) (hj : j < s.size) (hb : byt s j = 124) : innerF s bytes f nest (alts ++ [joinF cat]) [] (j + 1) = some r := by
  simp only [innerF] at h
  have ha : againF s j = .no := by
    unfold againF
    rw [if_neg (by omega), if_neg (by omega), if_neg (by omega), if_neg (by omega)]
  rw [if_neg (by omega), ha, ite_self] at h
  simp only at h
  rw [if_pos hb] at h
  exact h
theorem inner_stop {s : ByteArray} {bytes : Bool} {f nest j : Nat} {alts cat : List Rx} {r : Res} (h : innerF s bytes f nest alts cat j = some r) (hf : 0 < f) (hj : s.size ≤ j ∨ (0 < nest ∧ byt s j = 41)) : r = .stop alts cat j := by
  obtain ⟨f, rfl⟩ : ∃ f0, f = f0 + 1 := ⟨f - 1, by omega⟩
  simp only [innerF] at h
  by_cases hge : s.size ≤ j
  · rw [if_pos hge] at h
    injection h with h
    exact h.symm
  · obtain ⟨h0, hb⟩ := hj.resolve_left hge
    have ha : againF s j = .no := by
      unfold againF
      rw [if_neg (by omega), if_neg (by omega), if_neg (by omega), if_neg (by omega)]
    rw [if_neg hge, ha, ite_self] at h
    simp only at h
    rw [if_neg (by omega), if_neg (by omega), if_pos hb, if_neg (by omega)] at h
    injection h with h
    exact h.symm

set_option maxRecDepth 100000 in
set_option maxHeartbeats 64000000 in
theorem alt_step {bp : Nat} {s : ByteArray} {bytes : Bool} {nest : Nat} (F : Nat) (hA : ∀ f', f' < F → nest < 40 → ∀ (i : Nat) (r : Res) (w1 : World), innerF s bytes f' (nest + 1) [] [] i = some r → i ≤ s.size → s.size - i < f' → PAt w1 bp s i bytes (nest + 1) → Glob w1 →
      Calls Tryd.prog 34 #[.pointer (some ⟨bp, 0, none⟩)] w1 fun e w' => AltPost bp s bytes (nest + 1) w1 w' e r)
    (i : Nat) (r : Res) (w : World) (hfi : s.size - i < F) (hin : innerF s bytes F nest [] [] i = some r) (hP : PAt w bp s i bytes nest) (hG : Glob w) (hi : i ≤ s.size) (hm : s.size ≤ 1024) (hn : nest ≤ 40) (hF : F ≤ 2000) :
    Calls Tryd.prog 34 #[.pointer (some ⟨bp, 0, none⟩)] w fun e w' => AltPost bp s bytes nest w w' e r := by
  have hbp := hP.lt
  have hGl : ∀ W, Keeps (fun k => k = bp) w W → Glob W := fun W hk => hG.keeps hk hP
  obtain ⟨i0, hi0, hz0, hz1, hz2⟩ := info_parts Tryd.infoRx
  have hcat := fun (alts : List Rx) (j f : Nat) (W : World) (h1 : f ≤ F) (h2 : s.size - j < f) (h3 : innerF s bytes f nest alts [] j = some r) (h4 : PAt W bp s j bytes nest) (h5 : Keeps (fun k => k = bp) w W) (h6 : j ≤ s.size) => cat_calls F hA alts j f r W h1 h2 h3 h4 (hGl W h5) h6 hm hn
  have HCAT := hide hcat; have HIN := hide hin; have HP := hide hP
  clear hA hcat hin hP hG hGl
  go_enter Tryd.func34, Tryd.ntmps34
  go_wp2_with fail
  refine ((unhide HCAT) [] i F _ (Nat.le_refl _) hfi (unhide HIN) (Blk.alloc (unhide HP) _) ((Keeps.refl _ _).alloc _) hi).mono ?_
  rintro e w1 (⟨j, er, rfl, rfl, hk1⟩ | ⟨cat, j, f', cs, rfl, ht, hP1, hk1, hj, hf', hjf, hin1, hstop⟩)
  · exact ⟨rfl, rfl, ((Keeps.refl _ _).alloc _).trans hk1 (fun _ _ h => h)⟩
  obtain ⟨k1, k2, k3, As, ls, cs', k5, k6, A, lk, cc, rfl⟩ := ht.form
  have hrow : RowW w (w1.alloc (.cells #[.int .i64 k1, .int .i64 k2, .bool k3, .slice As ls cs', .int .i64 k5, .int .i64 k6, .slice A lk cc] 26)) bp s bytes nest j (.slice (some ⟨w1.heap.size, 0, none⟩) 1 1) [joinF cat] [.int .i64 k1, .int .i64 k2, .bool k3, .slice As ls cs', .int .i64 k5, .int .i64 k6, .slice A lk cc] := by
    have hz := hk1.size
    simp at hz
    refine ⟨(Blk.keeps (Blk.new w 26 zero7) hk1 (by omega)).alloc _, Blk.alloc hP1 _, ⟨by simp, .inr ⟨w1.heap.size, 1, _, rfl, by omega, heap_alloc_new w1 _, by simp, by simp [maxLen], by simp, by simp⟩⟩, ?_, (((Keeps.refl _ _).alloc _).trans hk1 (fun _ _ h => h)).alloc _, hbp⟩
    have h1 := TreesRow.snoc (TreesRow.nil (fun k => w.heap.size + 1 ≤ k ∧ (Value.slice (some ⟨w1.heap.size, 0, none⟩) 1 1).ownBlock ≠ some k) (w1.alloc (.cells #[.int .i64 k1, .int .i64 k2, .bool k3, .slice As ls cs', .int .i64 k5, .int .i64 k6, .slice A lk cc] 26)))
      (TreeAt.mono (fun k hk => ⟨by have := hk.1; simp at this; omega, by simp [Value.ownBlock]; have := hk.2; omega⟩) _ _ (TreeAt.step (W' := w1.alloc (.cells #[.int .i64 k1, .int .i64 k2, .bool k3, .slice As ls cs', .int .i64 k5, .int .i64 k6, .slice A lk cc] 26)) (fun k _ hl => Below.heap_alloc w1 _ k hl) _ _ (TreeAt.bound _ _ ht)))
    exact h1
  have HROW := hide hrow; have HIN1 := hide hin1; have HSTOP := hide hstop
  clear hrow ht hP1 hk1 hin1 hstop
  go_wp2_with fail
  go_loopg [3] (F + 1) (fun kx vK wr => ∃ (j : Nat) (alts cat : List Rx) (f' : Nat) (xs : List Value), j ≤ s.size ∧ f' < kx ∧ f' ≤ F ∧ s.size - j < f' ∧ Hid (innerF s bytes f' nest alts cat j = some r) ∧ Hid (s.size ≤ j ∨ byt s j = 124 ∨ (0 < nest ∧ byt s j = 41)) ∧ alts.length + f' ≤ F ∧ Hid (RowW w wr bp s bytes nest j vK (alts ++ [joinF cat]) xs))
  case atStart => exact ⟨j, [], cat, f', _, hj, by omega, hf', hjf, HIN1, HSTOP, by simp; exact hf', HROW⟩
  case round =>
    clear HROW HIN1 HSTOP hj hf' hjf
    obtain ⟨j, alts, cat, f', xs, hj, hfk, hfF, hjf, HIN1, HSTOP, hlen, HW⟩ := hrel
    have hW := unhide HW
    have hs124 := see_quiet (lit [124]) wr hW.at_ hj hm
    rw [see_one, show ((124 : UInt8).toNat : Int) = 124 from rfl] at hs124
    have hl : (alts ++ [joinF cat]).length = alts.length + 1 := by simp
    obtain ⟨g, cap, rfl, hg1, hg2⟩ := hW.own.form (by omega)
    rw [hl] at hW HW ⊢
    have HL := hide hl
    by_cases hbar : j < s.size ∧ byt s j = 124
    · have ho : Thr.one s j 124 = true := by simp [Thr.one]; exact hbar
      rw [ho] at hs124
      have hf0 : 0 < f' := by omega
      obtain ⟨f0, rfl⟩ : ∃ f0, f' = f0 + 1 := ⟨f' - 1, by omega⟩
      have hnx := inner_bar (unhide HIN1) hbar.1 hbar.2
      have HNX := hide hnx; have HS := hide hs124
      have hjl := hbar.1
      clear hs124 hnx ho hbar hW hl
      go_wp2_with fail
      refine (unhide HS).mono ?_
      rintro e w2 ⟨rfl, m2, hw2⟩
      have hW2 := (unhide HW).below (show Below wr.heap.size wr w2 by rw [hw2]; exact below_drewN (Below.refl _ _) _)
      have q1 := hW2.at_.cell 1
      have g1 := hW2.at_.frozen 1
      have hbp2 := hW2.at_.lt
      simp at q1
      have hW3 := hW2.move (W' := w2.setCell ⟨bp, 1, none⟩ (.int .i64 ((j : Int) + 1))) ((Keeps.refl (fun k => k = bp) _).setCell (p := ⟨bp, 1, none⟩) (.inl rfl) _) (PAt.go_on hW2.at_ (j + 1))
      have HW3 := hide hW3
      clear hW2 hW3 hw2
      go_wp2_with fail
      refine ((unhide HCAT) (alts ++ [joinF cat]) (j + 1) f0 _ (by omega) (by omega) (unhide HNX) (unhide HW3).at_ (unhide HW3).kept (by omega)).mono ?_
      rintro e w4 (⟨j', er, hre, rfl, hk4⟩ | ⟨cat', j', f2, cs, rfl, ht, hP4, hk4, hj4, hf4, hjf4, hin4, hstop4⟩)
      · subst hre
        exact ⟨rfl, rfl, (unhide HW3).kept.trans hk4 (fun _ _ h => h)⟩
      obtain ⟨k1, k2, k3, As, ls, cs', k5, k6, A, lk, cc, rfl⟩ := ht.form
      have hW4 := (unhide HW3).move hk4 hP4
      have hjj : j + 1 ≤ j' ∨ j' < j + 1 := by omega
      have hown := hW4.own
      rw [unhide HL] at hown
      have hW3' := unhide HW3
      have h1w : w.heap.size < (w2.setCell ⟨bp, 1, none⟩ (.int .i64 ((j : Int) + 1))).heap.size := hW3'.res.lt
      have h2w : ∀ k, (Value.slice (some ⟨g, 0, none⟩) (alts.length + 1) cap).ownBlock = some k → k < (w2.setCell ⟨bp, 1, none⟩ (.int .i64 ((j : Int) + 1))).heap.size := fun k hk => (own_lt hW3'.own k hk).2
      have HW4 := hide hW4; have HT := hide ht; have HOWN := hide hown; have H1 := hide h1w; have H2 := hide h2w; have HIN4 := hide hin4; have HST4 := hide hstop4
      have hz4 : w.heap.size < w4.heap.size := hW4.res.lt
      clear hW4 ht hP4 hk4 hown h1w h2w hin4 hstop4 hW3'
      go_wp2_with
       ((at_builtin; refine wpList_append_lies _ (by rfl) _ _ _ (by rfl) (w.heap.size + 1) 26 i0 _ 7 88 Tryd.underlying24 hi0 hz0 hz1 hz2 rfl (by omega) (.slice (some ⟨g, 0, none⟩) (alts.length + 1) cap) (alts.length + 1) xs (by rfl)
            (by exact (unhide HOWN).alloc _) ⟨w4.heap.size, 0, none⟩ 1 _ [.int .i64 k1, .int .i64 k2, .bool k3, .slice As ls cs', .int .i64 k5, .int .i64 k6, .slice A lk cc]
            (by rfl) (by rfl) (by exact World.news_of_block (cs := #[.int .i64 k1, .int .i64 k2, .bool k3, .slice As ls cs', .int .i64 k5, .int .i64 k6, .slice A lk cc]) (heap_alloc_new _ _))
            (by simp [Value.oneCell']) (by omega) (by simp only [maxLen]; omega) (by omega) (by first | omega | (simp; omega)) _ (by rfl) ?_; intro go cap5 w5 hown5 hgrow hat5 hlt5))
      have hW5 := (unhide HW4).app (go := go) (cap := cap5) (unhide HT) (unhide H1) (unhide H2) (below_alloc' (Below.refl w4.heap.size w4) _) hgrow (by rw [unhide HL]; exact hown5) hat5
      rw [unhide HL] at hW5
      have HW5 := hide hW5
      clear hW5 hown5 hgrow hat5
      go_roundg (f0 + 1)
      case measure => omega
      case rel => exact ⟨j', alts ++ [joinF cat], cat', f2, _, hj4, by omega, by omega, hjf4, HIN4, HST4, by simp only [List.length_append, List.length_cons, List.length_nil]; omega, HW5⟩
    · have ho : Thr.one s j 124 = false := by simp [Thr.one]; exact fun h1 h2 => hbar ⟨h1, h2⟩
      rw [ho] at hs124
      have hend : s.size ≤ j ∨ (0 < nest ∧ byt s j = 41) := by
        rcases unhide HSTOP with h | h | h
        · exact .inl h
        · rcases Nat.lt_or_ge j s.size with h' | h'
          · exact absurd ⟨h', h⟩ hbar
          · exact .inl h'
        · exact .inr h
      obtain rfl := inner_stop (unhide HIN1) (by omega) hend
      have HS := hide hs124
      clear hs124 ho hend hbar
      cases alts with
      | nil =>
        obtain ⟨cs, ht, hc⟩ := hW.elem (k := 0) (t := joinF cat) rfl
        obtain ⟨k1, k2, k3, As, ls, cs', k5, k6, A, lk, cc, rfl⟩ := ht.form
        have e0 := (hc 0 _ rfl).1
        have e1 := (hc 1 _ rfl).1
        have e2 := (hc 2 _ rfl).1
        have e3 := (hc 3 _ rfl).1
        have e4 := (hc 4 _ rfl).1
        have e5 := (hc 5 _ rfl).1
        have e6 := (hc 6 _ rfl).1
        simp only [Nat.zero_mul, Nat.zero_add] at e0 e1 e2 e3 e4 e5 e6
        obtain ⟨⟨b0, b1, b2, b3, b4, b5, b6⟩, y0, y1, y2, y3, y4, y5, y6⟩ := hW.res.seven
        have hzr : w.heap.size < wr.heap.size := hW.res.lt
        have HT := hide ht
        simp only [List.length_nil, Nat.zero_add] at hW HW ⊢
        clear hW hc ht hl
        go_wp2_with fail
        refine (unhide HS).mono ?_
        rintro e w2 ⟨rfl, m2, hw2⟩
        subst hw2
        go_wp2_with fail
        refine bodyPost_ret (results_cell rfl rfl (load7 (Blk.put7 (Blk.drewN (unhide HW).res _)))) rfl ?_
        exact ⟨_, rfl, TreeAt.mono (fun k hk => (by have := hk.1; omega : w.heap.size ≤ k)) _ _ (TreeAt.step (W := wr) (fun k hk _ => heap_put7 (wr.drewN m2) _ _ _ _ _ _ _ _ k (by have := hk.1; omega)) _ _ (unhide HT)), PAt.put7 (Blk.drewN (unhide HW).at_ _) (by omega) _ _ _ _ _ _ _, ((unhide HW).kept.drewN _).put7 (.inr (Nat.le_refl _)) _ _ _ _ _ _ _⟩
      | cons a l =>
        have hln : l.length ≤ 2000 := by simp at hlen; omega
        have htk := tree_kids (ok' := fun k => w.heap.size + 1 ≤ k) 6 hW.own hW.row (fun k hk => hk.1) (fun k hk => hk)
        have esh : shutF (a :: l) cat = altN (a :: l ++ [joinF cat]) := by
          unfold shutF oneF
          cases l <;> rfl
        have HT := hide htk
        obtain ⟨⟨b0, b1, b2, b3, b4, b5, b6⟩, y0, y1, y2, y3, y4, y5, y6⟩ := hW.res.seven
        have hzr : w.heap.size < wr.heap.size := hW.res.lt
        have l1 : ((l.length : Int) + 1 + 1 == 1) = false := by simp; omega
        simp only [List.length_cons] at hW HW ⊢
        have HESH := hide esh
        clear hW htk hl esh
        go_wp2_with fail
        refine (unhide HS).mono ?_
        rintro e w2 ⟨rfl, m2, hw2⟩
        subst hw2
        go_wp2_with fail
        refine bodyPost_ret (results_cell rfl rfl (load7 (Blk.put7 (Blk.drewN (unhide HW).res _)))) rfl ?_
        refine ⟨_, rfl, ?_, PAt.put7 (Blk.drewN (unhide HW).at_ _) (by omega) _ _ _ _ _ _ _, ((unhide HW).kept.drewN _).put7 (.inr (Nat.le_refl _)) _ _ _ _ _ _ _⟩
        rw [unhide HESH]
        exact TreeAt.mono (fun k hk => (by have : w.heap.size + 1 ≤ k := hk; omega : w.heap.size ≤ k)) _ _ (TreeAt.step (W := wr) (fun k hk _ => heap_put7 (wr.drewN m2) _ _ _ _ _ _ _ _ k (by have : w.heap.size + 1 ≤ k := hk; omega)) _ _ (unhide HT))

/-- alt, at every depth. -/
theorem alt_calls {bp : Nat} {s : ByteArray} {bytes : Bool} (hm : s.size ≤ 1024) : ∀ (F : Nat), F ≤ 2000 → ∀ (nest i : Nat) (r : Res) (w : World), innerF s bytes F nest [] [] i = some r → i ≤ s.size → s.size - i < F → nest ≤ 40 → PAt w bp s i bytes nest → Glob w →
    Calls Tryd.prog 34 #[.pointer (some ⟨bp, 0, none⟩)] w fun e w' => AltPost bp s bytes nest w w' e r := by
  intro F
  induction F using Nat.strongRecOn with
  | _ F ih =>
    intro hF nest i r w hin hi hfi hn hP hG
    exact alt_step F (fun f' hf' hn' i' r' w1 h1 h2 h3 h4 h5 => ih f' hf' (by omega) (nest + 1) i' r' w1 h1 h2 h3 (by omega) h4 h5) i r w hfi hin hP hG hi hm hn hF
end Go.Proofs.YtanmlgliibgpcaaDoor

/- The walk of Parse. -/
namespace Go.Proofs.YtanmlgliibgpcaaDoor
open Go.RowKit Thr
set_option linter.unusedVariables false
set_option linter.unusedSimpArgs false

set_option maxRecDepth 100000 in
set_option maxHeartbeats 16000000 in
theorem parse1_idle (g0 g1 g2 : Addr) (w : World) :
    CallsD Tryd.prog 33 #[.pointer (some g0), .pointer (some g1), .pointer (some g2)] .returning w fun e u' w' => e = .returned (.tuple #[]) ∧ u' = .returning ∧ w' = w := by
  refine callsD_of_wpS Tryd.func33 rfl fun c₀ cs hu => ?_
  apply wpS_seq
  apply wpS_region
  simp [wpOpsS, go_sem, recoverD, hu, Tryd.ntmps33, Exit.thenS]
  refine wpS_of_wp ?_
  go_wp2_with fail
  cases c₀
  simp_all [bodyPostS, results, Tryd.results33]
set_option maxRecDepth 100000 in
set_option maxHeartbeats 16000000 in
/-- The three results laid. -/
theorem three_set {w : World} {b : Nat} {x0 x1 x2 x3 x4 x5 x6 y0 z0 : Value} (h0 : Blk w b 26 #[x0, x1, x2, x3, x4, x5, x6]) (h1 : Blk w (b + 1) 3 #[y0]) (h2 : Blk w (b + 1 + 1) 33 #[z0]) (v0 v1 v2 v3 v4 v5 v6 y z : Value) :
    Blk (((put7 w b v0 v1 v2 v3 v4 v5 v6).setCell ⟨b + 1, 0, none⟩ y).setCell ⟨b + 1 + 1, 0, none⟩ z) b 26 #[v0, v1, v2, v3, v4, v5, v6] ∧
    Blk (((put7 w b v0 v1 v2 v3 v4 v5 v6).setCell ⟨b + 1, 0, none⟩ y).setCell ⟨b + 1 + 1, 0, none⟩ z) (b + 1) 3 #[y] ∧
    Blk (((put7 w b v0 v1 v2 v3 v4 v5 v6).setCell ⟨b + 1, 0, none⟩ y).setCell ⟨b + 1 + 1, 0, none⟩ z) (b + 1 + 1) 33 #[z] ∧
    Keeps (fun k => b ≤ k) w (((put7 w b v0 v1 v2 v3 v4 v5 v6).setCell ⟨b + 1, 0, none⟩ y).setCell ⟨b + 1 + 1, 0, none⟩ z) := by
  have k1 : Blk (put7 w b v0 v1 v2 v3 v4 v5 v6) (b + 1) 3 #[y0] := (heap_put7 _ _ _ _ _ _ _ _ _ _ (by omega)).trans h1
  have k2 : Blk (put7 w b v0 v1 v2 v3 v4 v5 v6) (b + 1 + 1) 33 #[z0] := (heap_put7 _ _ _ _ _ _ _ _ _ _ (by omega)).trans h2
  have k1' := k1.set_ 0 y
  have k2' := (k2.far (p := ⟨b + 1, 0, none⟩) (by simp only; omega) y).set_ 0 z
  simp at k1' k2'
  exact ⟨((Blk.put7 h0).far (by simp only; omega) _).far (by simp only; omega) _, k1'.far (by simp only; omega) _, k2',
    (((Keeps.refl _ w).put7 (.inl (Nat.le_refl _)) _ _ _ _ _ _ _).setCell (p := ⟨b + 1, 0, none⟩) (.inl (by simp only; omega)) _).setCell (p := ⟨b + 1 + 1, 0, none⟩) (.inl (by simp only; omega)) _⟩
theorem fault_assert (v : Value) (w : World) : (Instr.typeAssert (.iface 77 v) 20 77 true).run Tryd.prog w = .ok (.tuple #[v, .bool true]) w := by
  simp [Instr.typeAssert, run_underlying Tryd.underlying77]
set_option maxRecDepth 100000 in
set_option maxHeartbeats 16000000 in
theorem parse1_panic (b : Nat) (at_ e : Int) (x0 x1 x2 x3 x4 x5 x6 y0 z0 : Value) (w : World) (h0 : Blk w b 26 #[x0, x1, x2, x3, x4, x5, x6]) (h1 : Blk w (b + 1) 3 #[y0]) (h2 : Blk w (b + 1 + 1) 33 #[z0]) :
    CallsD Tryd.prog 33 #[.pointer (some ⟨b, 0, none⟩), .pointer (some ⟨b + 1, 0, none⟩), .pointer (some ⟨b + 1 + 1, 0, none⟩)] (.panicking [{ v := .iface 77 (.agg #[.int .i64 at_, .int .i64 e]), recovered := false }]) w fun e' u' w' =>
      e' = .returned (.tuple #[]) ∧ u' = .panicking [{ v := .iface 77 (.agg #[.int .i64 at_, .int .i64 e]), recovered := true }] ∧
        Blk w' b 26 zero7 ∧ Blk w' (b + 1) 3 #[.int .i64 at_] ∧ Blk w' (b + 1 + 1) 33 #[.int .i64 e] ∧ Keeps (fun k => b ≤ k) w w' := by
  refine callsD_of_wpS Tryd.func33 rfl fun c₀ cs hu => ?_
  apply wpS_seq
  apply wpS_region
  simp [wpOpsS, go_sem, recoverD, hu, Tryd.ntmps33, Exit.thenS]
  refine wpS_of_wp ?_
  simp only [Array.replicate_succ, Array.replicate_zero, List.push_toArray, List.nil_append, List.cons_append, List.setIfInBounds_toArray, List.set_cons_succ, List.set_cons_zero, List.append_toArray]
  obtain ⟨⟨c0, c1, c2, c3, c4, c5, c6⟩, f0, f1, f2, f3, f4, f5, f6⟩ := h0.seven
  have hX : ∀ o n, Blk (((((put7 w b (.int .i64 0) (.int .i64 0) (.bool false) (.slice none 0 0) (.int .i64 0) (.int .i64 0) (.slice none 0 0)).setCell ⟨b + 1, 0, none⟩ (.int .i64 at_)).setCell ⟨b + 1 + 1, 0, none⟩ (.int .i64 e)).alloc o).drewN n) b 26 zero7 ∧
      Blk (((((put7 w b (.int .i64 0) (.int .i64 0) (.bool false) (.slice none 0 0) (.int .i64 0) (.int .i64 0) (.slice none 0 0)).setCell ⟨b + 1, 0, none⟩ (.int .i64 at_)).setCell ⟨b + 1 + 1, 0, none⟩ (.int .i64 e)).alloc o).drewN n) (b + 1) 3 #[.int .i64 at_] ∧
      Blk (((((put7 w b (.int .i64 0) (.int .i64 0) (.bool false) (.slice none 0 0) (.int .i64 0) (.int .i64 0) (.slice none 0 0)).setCell ⟨b + 1, 0, none⟩ (.int .i64 at_)).setCell ⟨b + 1 + 1, 0, none⟩ (.int .i64 e)).alloc o).drewN n) (b + 1 + 1) 33 #[.int .i64 e] ∧
      Keeps (fun k => b ≤ k) w (((((put7 w b (.int .i64 0) (.int .i64 0) (.bool false) (.slice none 0 0) (.int .i64 0) (.int .i64 0) (.slice none 0 0)).setCell ⟨b + 1, 0, none⟩ (.int .i64 at_)).setCell ⟨b + 1 + 1, 0, none⟩ (.int .i64 e)).alloc o).drewN n) := by
    intro o n
    obtain ⟨a1, a2, a3, a4⟩ := three_set h0 h1 h2 (.int .i64 0) (.int .i64 0) (.bool false) (.slice none 0 0) (.int .i64 0) (.int .i64 0) (.slice none 0 0) (.int .i64 at_) (.int .i64 e)
    exact ⟨Blk.drewN (Blk.alloc a1 _) _, Blk.drewN (Blk.alloc a2 _) _, Blk.drewN (Blk.alloc a3 _) _, (a4.alloc _).drewN _⟩
  have HX := hide hX
  clear hX
  have d0 := h1.cell 0
  have df := h1.frozen 0
  have e0 := h2.cell 0
  have ef := h2.frozen 0
  simp at d0 e0
  have hb0 := h0.lt
  have hb1 := h1.lt
  have hb2 := h2.lt
  have hta := fault_assert (.agg #[.int .i64 at_, .int .i64 e])
  clear h0 h1 h2
  have n0 : b ≠ w.heap.size := by omega
  have n1 : b + 1 ≠ w.heap.size := by omega
  have n2 : b + 1 + 1 ≠ w.heap.size := by omega
  go_wp2_with fail
  go_region
  all_goals
    simp only [Exit.inBlock]
    refine ⟨rfl, _, rfl, .tuple #[], by simp [results, Tryd.results33], rfl, rfl, (unhide HX) _ 1⟩
end Go.Proofs.YtanmlgliibgpcaaDoor

/- The walk of Parse. -/
namespace Go.Proofs.YtanmlgliibgpcaaDoor
open Go.RowKit Thr
set_option linter.unusedVariables false
set_option linter.unusedSimpArgs false

theorem results_cell3 {fn : Func} {p0 p1 p2 : Tmp} {t0 t1 t2 : TypeId} {P : Program} {w : World} {g0 g1 g2 : Nat} {v0 v1 v2 : Value} {tmps : Array Value} (h : fn.results = #[.cell p0 t0, .cell p1 t1, .cell p2 t2])
    (h0 : tmps.getD p0 undef = .pointer (some ⟨g0, 0, none⟩)) (h1 : tmps.getD p1 undef = .pointer (some ⟨g1, 0, none⟩)) (h2 : tmps.getD p2 undef = .pointer (some ⟨g2, 0, none⟩))
    (l0 : (loadVar t0 ⟨g0, 0, none⟩).run P w = .ok v0 w) (l1 : (loadVar t1 ⟨g1, 0, none⟩).run P w = .ok v1 w) (l2 : (loadVar t2 ⟨g2, 0, none⟩).run P w = .ok v2 w) : (results fn tmps).run P w = .ok (.tuple #[v0, v1, v2]) w := by
  have e0 : tmps[p0]?.getD undef = .pointer (some ⟨g0, 0, none⟩) := by rw [← h0]; simp
  have e1 : tmps[p1]?.getD undef = .pointer (some ⟨g1, 0, none⟩) := by rw [← h1]; simp
  have e2 : tmps[p2]?.getD undef = .pointer (some ⟨g2, 0, none⟩) := by rw [← h2]; simp
  simp only [results, h]
  simp [Sem.run_bind, Result.andThen, e0, e1, e2, asAddr, l0, l1, l2]
theorem load_int {w : World} {g : Nat} {v : Value} (h : Blk w g 3 #[v]) : (loadVar 3 ⟨g, 0, none⟩).run Tryd.prog w = .ok v w := by
  have b0 := h.cell 0
  have f0 := h.frozen 0
  simp at b0
  have a1 := Tryd.isAgg3
  go_simp
theorem load_errno {w : World} {g : Nat} {v : Value} (h : Blk w g 33 #[v]) : (loadVar 33 ⟨g, 0, none⟩).run Tryd.prog w = .ok v w := by
  have b0 := h.cell 0
  have f0 := h.frozen 0
  simp at b0
  have a1 := Tryd.isAgg33
  go_simp
theorem door_ret {P : Program} {fn : Func} {R : Ending → World → Prop} {a : Act} {w : World} {v : Value} (hd : a.defers = []) (hr : (results fn a.tmps).run P w = .ok v w) (hR : R (.returned v) w) : bodyPostD P fn R .ret a w := by
  show Leaves P fn a.tmps R a.defers .returning w
  rw [hd]
  exact ⟨v, hr, hR⟩
theorem leaves_ret {P : Program} {fn : Func} {tmps : Array Value} {R : Ending → World → Prop} {u : FrameMode} {w : World} {v : Value} (hu : settle u = .returning) (hr : (results fn tmps).run P w = .ok v w) (hR : R (.returned v) w) : Leaves P fn tmps R [] (settle u) w := by
  rw [hu]
  exact ⟨v, hr, hR⟩
theorem three_blocks (w : World) (c0 c1 c2 : Array Value) (t0 t1 t2 : TypeId) : Blk (((w.alloc (.cells c0 t0)).alloc (.cells c1 t1)).alloc (.cells c2 t2)) w.heap.size t0 c0 ∧ Blk (((w.alloc (.cells c0 t0)).alloc (.cells c1 t1)).alloc (.cells c2 t2)) (w.heap.size + 1) t1 c1 ∧
    Blk (((w.alloc (.cells c0 t0)).alloc (.cells c1 t1)).alloc (.cells c2 t2)) (w.heap.size + 1 + 1) t2 c2 := by
  have h1 := Blk.new (w.alloc (.cells c0 t0)) t1 c1
  have h2 := Blk.new ((w.alloc (.cells c0 t0)).alloc (.cells c1 t1)) t2 c2
  simp at h1 h2
  exact ⟨((Blk.new w t0 c0).alloc _).alloc _, h1.alloc _, h2⟩
def ParsePost (w w' : World) (e : Ending) : Ans → Prop
  | .fault i er => e = .returned (.tuple #[.agg zero7, .int .i64 i, .int .i64 er]) ∧ Below w.heap.size w w'
  | .tree t => ∃ cs, e = .returned (.tuple #[.agg cs.toArray, .int .i64 0, .int .i64 0]) ∧ TreeAt (fun k => w.heap.size ≤ k) w' t cs ∧ Below w.heap.size w w'

set_option maxRecDepth 100000 in
set_option maxHeartbeats 16000000 in
theorem Parse_calls (s : ByteArray) (bytes : Bool) (w : World) (hG : Glob w) (hm : s.size ≤ 9000000000000000000) :
    Calls Tryd.prog 22 #[.string s, .bool bytes] w fun e w' => ParsePost w w' e (parseF s bytes) := by
  obtain ⟨O, hO⟩ : ∃ O, parseF s bytes = O := ⟨_, rfl⟩
  rw [hO]
  unfold parseF at hO
  have hmf : ∀ (fn : Fn) (first cap : Array Value) (w : World), (Instr.makeFunc fn first cap).run Tryd.prog w = .ok (.func fn first cap) w := fun _ _ _ _ => rfl
  by_cases hlong : 1024 < s.size
  · rw [if_pos hlong] at hO
    subst hO
    have l1 : decide ((1024 : Int) < s.size) = true := decide_eq_true (by omega)
    have l2 : decide ((s.size : Int) > 1024) = true := decide_eq_true (by omega)
    have l3 : decide (1024 < s.size) = true := decide_eq_true (by omega)
    clear hG
    go_enter_defers Tryd.func22, Tryd.ntmps22
    go_wp2_with fail
    obtain ⟨h0, h1, h2⟩ := three_blocks w zero7 #[.int .i64 0] #[.int .i64 3] 26 3 33
    exact door_ret rfl (results_cell3 rfl rfl rfl rfl (load7 h0) (load_int h1) (load_errno h2)) ⟨rfl, (by repeat (first | exact Below.refl _ _ | assumption | refine below_drewN ?_ _ | refine Below.drew ?_ | refine below_alloc' ?_ _))⟩
  rw [if_neg hlong] at hO
  have l1 : decide ((1024 : Int) < s.size) = false := decide_eq_false (by omega)
  have l2 : decide ((s.size : Int) > 1024) = false := decide_eq_false (by omega)
  have l3 : decide (1024 < s.size) = false := decide_eq_false (by omega)
  obtain ⟨r, hr, -⟩ := inner_ends (sized_all s bytes) (s.size + 1) 0 [] [] 0 (by omega) (by omega)
  rw [hr] at hO
  simp only at hO
  obtain ⟨hh0, hh1, hh2⟩ := three_blocks w zero7 #[.int .i64 0] #[.int .i64 0] 26 3 33
  have hpb : PAt ((((w.alloc (.cells zero7 26)).alloc (.cells #[.int .i64 0] 3)).alloc (.cells #[.int .i64 0] 33)).alloc (.cells #[.string s, .int .i64 0, .bool bytes, .int .i64 0] 80)) (w.heap.size + 1 + 1 + 1) s 0 bytes 0 := by
    have hb := Blk.new (((w.alloc (.cells zero7 26)).alloc (.cells #[.int .i64 0] 3)).alloc (.cells #[.int .i64 0] 33)) 80 #[.string s, .int .i64 0, .bool bytes, .int .i64 0]
    rw [World.size_alloc, World.size_alloc, World.size_alloc] at hb
    exact hb
  have hbel : Below w.heap.size w ((((w.alloc (.cells zero7 26)).alloc (.cells #[.int .i64 0] 3)).alloc (.cells #[.int .i64 0] 33)).alloc (.cells #[.string s, .int .i64 0, .bool bytes, .int .i64 0] 80)) := (by repeat (first | exact Below.refl _ _ | assumption | refine below_drewN ?_ _ | refine Below.drew ?_ | refine below_alloc' ?_ _))
  have halt := alt_calls (bp := w.heap.size + 1 + 1 + 1) (s := s) (bytes := bytes) (by omega) (s.size + 1) (by omega) 0 0 r _ hr (by omega) (by omega) (by omega) hpb (hG.below hbel)
  have hb0 := Blk.alloc hh0 (.cells #[.string s, .int .i64 0, .bool bytes, .int .i64 0] 80)
  have hb1 := Blk.alloc hh1 (.cells #[.string s, .int .i64 0, .bool bytes, .int .i64 0] 80)
  have hb2 := Blk.alloc hh2 (.cells #[.string s, .int .i64 0, .bool bytes, .int .i64 0] 80)
  have HALT := hide halt; have HBEL := hide hbel; have HB0 := hide hb0; have HB1 := hide hb1; have HB2 := hide hb2; have HO := hide hO
  clear halt hpb hO hr hG hh0 hh1 hh2 hb0 hb1 hb2 hbel
  go_enter_defers Tryd.func22, Tryd.ntmps22
  go_wp2_with fail
  refine (unhide HALT).mono ?_
  cases r with
  | fault j er =>
    obtain rfl : Ans.fault j er = O := unhide HO
    rintro e w1 ⟨rfl, hk1⟩
    refine leaves_cons (f := 33) (args := #[.pointer (some ⟨w.heap.size, 0, none⟩), .pointer (some ⟨w.heap.size + 1, 0, none⟩), .pointer (some ⟨w.heap.size + 1 + 1, 0, none⟩)]) (by simp) (by simp [go_sem]) ?_
    refine (parse1_panic w.heap.size j er _ _ _ _ _ _ _ _ _ w1 ((unhide HB0).keeps hk1 (by omega)) ((unhide HB1).keeps hk1 (by omega)) ((unhide HB2).keeps hk1 (by omega))).mono ?_
    rintro e u' w2 ⟨rfl, rfl, q0, q1, q2, hk2⟩
    have hfin : Below w.heap.size w w2 := (((Keeps.of_below (unhide HBEL) (fun k => w.heap.size ≤ k)).trans hk1 (fun k h1 h2 => by omega)).trans hk2 (fun k _ h => h)).below (Nat.le_refl _) (fun k hk => by omega)
    exact leaves_ret rfl (results_cell3 rfl rfl rfl rfl (load7 q0) (load_int q1) (load_errno q2)) ⟨rfl, hfin⟩
  | stop a c j =>
    have hO : (if 200 < weightF (shutF a c) then Ans.fault 0 91 else Ans.tree (shutF a c)) = O := unhide HO
    rintro e w1 ⟨cs, rfl, ht, hP1, hk1⟩
    obtain ⟨k1, k2, k3, As, ls, cs', k5, k6, A, lk, cc, rfl⟩ := ht.form
    have hB0 := (unhide HB0).keeps hk1 (by omega)
    have hB1 := (unhide HB1).keeps hk1 (by omega)
    have hB2 := (unhide HB2).keeps hk1 (by omega)
    have hk := (Keeps.of_below (unhide HBEL) (fun k => w.heap.size ≤ k)).trans hk1 (fun k h1 h2 => by omega)
    obtain ⟨⟨b0, b1, b2, b3, b4, b5, b6⟩, f0, f1, f2, f3, f4, f5, f6⟩ := hB0.seven
    have hz1 : w.heap.size < w1.heap.size := hB0.lt
    have ht1 : TreeAt (fun k => w.heap.size + 1 + 1 + 1 < k) w1 (shutF a c) _ := TreeAt.mono (fun k hk => by simp at hk; omega) _ _ ht
    have ht2 : TreeAt (fun k => w.heap.size + 1 + 1 + 1 < k) (put7 w1 w.heap.size (.int .i64 k1) (.int .i64 k2) (.bool k3) (.slice As ls cs') (.int .i64 k5) (.int .i64 k6) (.slice A lk cc)) (shutF a c) _ := TreeAt.step (W := w1) (fun k hk _ => heap_put7 _ _ _ _ _ _ _ _ _ k (by have : w.heap.size + 1 + 1 + 1 < k := hk; omega)) _ _ ht1
    have hwt := Weight_calls (shutF a c) _ _ ht2
    have hX0 : Blk (put7 w1 w.heap.size (.int .i64 k1) (.int .i64 k2) (.bool k3) (.slice As ls cs') (.int .i64 k5) (.int .i64 k6) (.slice A lk cc)) w.heap.size 26 #[.int .i64 k1, .int .i64 k2, .bool k3, .slice As ls cs', .int .i64 k5, .int .i64 k6, .slice A lk cc] := Blk.put7 hB0
    have hX1 : Blk (put7 w1 w.heap.size (.int .i64 k1) (.int .i64 k2) (.bool k3) (.slice As ls cs') (.int .i64 k5) (.int .i64 k6) (.slice A lk cc)) (w.heap.size + 1) 3 #[.int .i64 0] := (heap_put7 _ _ _ _ _ _ _ _ _ _ (by omega)).trans hB1
    have hX2 : Blk (put7 w1 w.heap.size (.int .i64 k1) (.int .i64 k2) (.bool k3) (.slice As ls cs') (.int .i64 k5) (.int .i64 k6) (.slice A lk cc)) (w.heap.size + 1 + 1) 33 #[.int .i64 0] := (heap_put7 _ _ _ _ _ _ _ _ _ _ (by omega)).trans hB2
    have hkX := hk.put7 (g := w.heap.size) (.inl (Nat.le_refl _)) (.int .i64 k1) (.int .i64 k2) (.bool k3) (.slice As ls cs') (.int .i64 k5) (.int .i64 k6) (.slice A lk cc)
    have HWT := hide hwt; have HX0 := hide hX0; have HX1 := hide hX1; have HX2 := hide hX2; have HKX := hide hkX; have HT2 := hide ht2; have HO2 := hide hO
    clear hB0 hB1 hB2 hk ht ht1 ht2 hwt hX0 hX1 hX2 hkX hP1 hk1 hO HO
    go_wp2_with fail
    refine (unhide HWT).mono ?_
    rintro e w3 ⟨rfl, hb3⟩
    have hY0 := (unhide HX0).below hb3 (unhide HX0).lt
    have hY1 := (unhide HX1).below hb3 (unhide HX1).lt
    have hY2 := (unhide HX2).below hb3 (unhide HX2).lt
    have hkY := (unhide HKX).then_below hb3
    have htY := (unhide HT2).below hb3
    obtain ⟨⟨d0, d1, d2, d3, d4, d5, d6⟩, g0, g1, g2, g3, g4, g5, g6⟩ := hY0.seven
    have r0 := hY1.cell 0
    have s0 := hY1.frozen 0
    have r1 := hY2.cell 0
    have s1 := hY2.frozen 0
    simp at r0 r1
    have hz3 : w.heap.size < w3.heap.size := hY0.lt
    have hz4 : w.heap.size + 1 < w3.heap.size := hY1.lt
    have hz5 : w.heap.size + 1 + 1 < w3.heap.size := hY2.lt
    have HY0 := hide hY0; have HY1 := hide hY1; have HY2 := hide hY2; have HKY := hide hkY; have HTY := hide htY
    clear hb3 hY0 hY1 hY2 hkY htY b0 b1 b2 b3 b4 b5 b6 f0 f1 f2 f3 f4 f5 f6
    by_cases hw : 200 < weightF (shutF a c)
    · have hw1 : decide (200 < weightF (shutF a c)) = true := decide_eq_true hw
      obtain rfl : Ans.fault 0 91 = O := by rw [← unhide HO2, if_pos hw]
      clear hw HO2
      go_wp2_with fail
      obtain ⟨q0, q1, q2, q3⟩ := three_set (unhide HY0) (unhide HY1) (unhide HY2) (.int .i64 0) (.int .i64 0) (.bool false) (.slice none 0 0) (.int .i64 0) (.int .i64 0) (.slice none 0 0) (.int .i64 0) (.int .i64 91)
      have hfin := ((unhide HKY).trans q3 (fun k _ h => h)).below (Nat.le_refl _) (fun k hk => by omega)
      refine leaves_cons (f := 33) (args := #[.pointer (some ⟨w.heap.size, 0, none⟩), .pointer (some ⟨w.heap.size + 1, 0, none⟩), .pointer (some ⟨w.heap.size + 1 + 1, 0, none⟩)]) (by simp) (by simp [go_sem]) ?_
      refine (parse1_idle ⟨w.heap.size, 0, none⟩ ⟨w.heap.size + 1, 0, none⟩ ⟨w.heap.size + 1 + 1, 0, none⟩ _).mono ?_
      rintro e u' w4 ⟨rfl, rfl, rfl⟩
      exact leaves_ret rfl (results_cell3 rfl rfl rfl rfl (load7 q0) (load_int q1) (load_errno q2)) ⟨rfl, hfin⟩
    · have hw1 : decide (200 < weightF (shutF a c)) = false := decide_eq_false hw
      obtain rfl : Ans.tree (shutF a c) = O := by rw [← unhide HO2, if_neg hw]
      clear hw HO2
      go_wp2_with fail
      have htz : TreeAt (fun k => w.heap.size + 1 + 1 + 1 < k) (((put7 w3 w.heap.size (.int .i64 k1) (.int .i64 k2) (.bool k3) (.slice As ls cs') (.int .i64 k5) (.int .i64 k6) (.slice A lk cc)).setCell ⟨w.heap.size + 1, 0, none⟩ (.int .i64 0)).setCell ⟨w.heap.size + 1 + 1, 0, none⟩ (.int .i64 0)) (shutF a c) _ :=
        TreeAt.step (W := w3) (fun k hk _ => by
          have : w.heap.size + 1 + 1 + 1 < k := hk
          exact (Below.heap_setCell _ _ _ k (by simp only; omega)).trans ((Below.heap_setCell _ _ _ k (by simp only; omega)).trans (heap_put7 _ _ _ _ _ _ _ _ _ k (by omega)))) _ _ (unhide HTY)
      obtain ⟨q0, q1, q2, q3⟩ := three_set (unhide HY0) (unhide HY1) (unhide HY2) (.int .i64 k1) (.int .i64 k2) (.bool k3) (.slice As ls cs') (.int .i64 k5) (.int .i64 k6) (.slice A lk cc) (.int .i64 0) (.int .i64 0)
      have hfin := ((unhide HKY).trans q3 (fun k _ h => h)).below (Nat.le_refl _) (fun k hk => by omega)
      refine leaves_cons (f := 33) (args := #[.pointer (some ⟨w.heap.size, 0, none⟩), .pointer (some ⟨w.heap.size + 1, 0, none⟩), .pointer (some ⟨w.heap.size + 1 + 1, 0, none⟩)]) (by simp) (by simp [go_sem]) ?_
      refine (parse1_idle ⟨w.heap.size, 0, none⟩ ⟨w.heap.size + 1, 0, none⟩ ⟨w.heap.size + 1 + 1, 0, none⟩ _).mono ?_
      rintro e u' w4 ⟨rfl, rfl, rfl⟩
      exact leaves_ret rfl (results_cell3 rfl rfl rfl rfl (load7 q0) (load_int q1) (load_errno q2)) ⟨_, rfl, TreeAt.mono (fun k hk => (by have : w.heap.size + 1 + 1 + 1 < k := hk; omega : w.heap.size ≤ k)) _ _ htz, hfin⟩
end Go.Proofs.YtanmlgliibgpcaaDoor

/- Plain Lean: a text of letters and digits as a pattern. -/
namespace Thr

def litByte (b : Int) : Prop := 97 ≤ b ∧ b ≤ 122 ∨ 48 ≤ b ∧ b ≤ 57
theorem next_bytes {s : ByteArray} {i : Nat} (hi : i < s.size) : nextF s i true = (byt s i, 1) := by
  unfold nextF
  rw [if_neg (by omega), if_pos rfl, Int.toNat_natCast]
theorem plain_inner {s : ByteArray} (h : ∀ i, i < s.size → litByte (byt s i)) : ∀ (f i : Nat) (cat : List Rx), i ≤ s.size → s.size - i < f →
    innerF s true f 0 [] cat i = some (.stop [] (cat ++ ((List.range' i (s.size - i)).map fun k => chrN (byt s k))) s.size)
  | 0, i, cat, hi, hf => by omega
  | f + 1, i, cat, hi, hf => by
    simp only [innerF]
    by_cases hge : s.size ≤ i
    · rw [if_pos hge]
      obtain rfl : i = s.size := by omega
      simp
    · rw [if_neg hge]
      have hb := h i (by omega)
      unfold litByte at hb
      have ha : againF s i = .no := by
        unfold againF
        rw [if_neg (by omega), if_neg (by omega), if_neg (by omega), if_neg (by omega)]
      have hag : (if cat = [] then Again.no else againF s i) = .no := by rw [ha, ite_self]
      rw [hag]
      simp only
      rw [if_neg (by omega), if_neg (by omega), if_neg (by omega), if_neg (by omega), if_neg (by omega), next_bytes (by omega)]
      have hp : plainF (byt s i) = chrN (byt s i) := by unfold plainF; rw [if_neg (by omega), if_neg (by omega), if_neg (by omega)]
      simp only [hp]
      rw [show i + (1 : Int).toNat = i + 1 from rfl, plain_inner h f (i + 1) _ (by omega) (by omega), show s.size - i = (s.size - (i + 1)) + 1 by omega, List.range'_succ]
      simp
def litCat (s : ByteArray) : List Rx := (List.range s.size).map fun k => chrN (byt s k)
theorem weights_lit (s : ByteArray) : ∀ (l : List Nat) (n : Int), 0 ≤ n → n + l.length ≤ 1000000 → weightsF (l.map fun k => chrN (byt s k)) n = n + l.length
  | [], n, h, _ => by simp [weightsF]
  | k :: l, n, h, h1 => by
    have hw : weightF (chrN (byt s k)) = 1 := by simp [chrN, weightF, weightsF, bigW]; omega
    have hb : bigW = 1048576 := rfl
    simp only [List.length_cons] at h1 ⊢
    simp only [List.map_cons, weightsF, hw]
    rw [show min (n + 1) bigW = n + 1 by omega, weights_lit s l (n + 1) (by omega) (by omega)]
    omega
theorem lit_weight (s : ByteArray) (h : s.size ≤ 150) : weightF (joinF (litCat s)) ≤ 200 := by
  have hb : bigW = 1048576 := rfl
  have hl : (litCat s).length = s.size := by simp [litCat]
  have hw := weights_lit s (List.range s.size) 0 (by omega) (by simp; omega)
  have e : weightsF (litCat s) 0 = 0 + s.size := by simpa [litCat] using hw
  cases hc : litCat s with
  | nil => simp [joinF, leaf, weightF, weightsF, bigW]; omega
  | cons x l =>
    cases l with
    | nil =>
      rw [hc] at e hl
      simp only [joinF]
      have : x ∈ litCat s := by rw [hc]; simp
      simp only [litCat, List.mem_map] at this
      obtain ⟨k, _, rfl⟩ := this
      simp [chrN, weightF, weightsF, bigW]; omega
    | cons y l =>
      rw [hc] at e
      simp only [joinF, catN, weightF]
      rw [if_pos trivial, e]
      omega
theorem parse_lit {s : ByteArray} (h : ∀ i, i < s.size → litByte (byt s i)) (hs : s.size ≤ 150) : parseF s true = .tree (joinF (litCat s)) := by
  unfold parseF
  rw [if_neg (by omega), plain_inner h (s.size + 1) 0 [] (by omega) (by omega)]
  have e : shutF [] ([] ++ ((List.range' 0 (s.size - 0)).map fun k => chrN (byt s k))) = joinF (litCat s) := by
    simp [shutF, oneF, litCat, List.range_eq_range']
  simp only [topF, e]
  have := lit_weight s hs
  rw [if_neg (by omega)]

/-! ### Where it is found -/
theorem den_chr (T : Txt) (c : Int) (i j : Nat) : den T (chrN c) i j ↔ j = T.nxt i ∧ T.has i = true ∧ T.fit (chrN c) i = true := by
  simp [chrN, den]
theorem den_join (T : Txt) (l : List Rx) (i j : Nat) : den T (joinF l) i j ↔ denCat T l i j := by
  cases l with
  | nil => simp [joinF, leaf, den, denCat]
  | cons x l =>
    cases l with
    | nil => simp [joinF, denCat]
    | cons y l => simp [joinF, catN, den]
theorem seg_bytes (s : ByteArray) : ∀ (f i : Nat), i ≤ s.size → s.size - i ≤ f → seg s true f i = (List.range' i (s.size - i)).map fun k => (k, byt s k)
  | 0, i, hi, hf => by
    obtain rfl : i = s.size := by omega
    simp [seg]
  | f + 1, i, hi, hf => by
    simp only [seg]
    by_cases h : i < s.size
    · rw [if_pos h, next_bytes h, show i + ((byt s i, (1 : Int)).2).toNat = i + 1 from rfl, seg_bytes s f (i + 1) (by omega) (by omega), show s.size - i = (s.size - (i + 1)) + 1 by omega, List.range'_succ]
      simp
    · rw [if_neg h, show s.size - i = 0 by omega]
      simp
theorem nCh_bytes (s : ByteArray) : nCh s true = s.size := by
  unfold nCh chs
  rw [seg_bytes s s.size 0 (by omega) (by omega)]
  simp
theorem place_bytes (s : ByteArray) {k : Nat} (hk : k ≤ s.size) : place s true k = k := by
  unfold place plOf chs
  rw [seg_bytes s s.size 0 (by omega) (by omega)]
  by_cases h : k < s.size
  · rw [List.getElem?_map, List.getElem?_range' (by omega)]
    simp
  · obtain rfl : k = s.size := by omega
    rw [List.getElem?_eq_none (by simp)]
theorem code_bytes (s : ByteArray) {k : Nat} (hk : k < s.size) : codeK s true k = byt s k := by
  unfold codeK cdOf chs
  rw [seg_bytes s s.size 0 (by omega) (by omega), List.getElem?_map, List.getElem?_range' (by omega)]
  simp
/-- A text stands at a place. -/
def Occurs (S t : ByteArray) (k : Nat) : Prop := k + t.size ≤ S.size ∧ ∀ m, m < t.size → byt S (k + m) = byt t m
theorem den_lits (S t : ByteArray) : ∀ (n a i j : Nat), denCat (txt S false true) ((List.range' a n).map fun k => chrN (byt t k)) i j ↔ j = i + n ∧ ∀ m, m < n → i + m < S.size ∧ byt S (i + m) = byt t (a + m)
  | 0, a, i, j => by simp [denCat]; exact ⟨fun h => h.symm, fun h => h.symm⟩
  | n + 1, a, i, j => by
    rw [List.range'_succ]
    simp only [List.map_cons, denCat]
    have hfit : ∀ c, (txt S false true).has i = true ∧ (txt S false true).fit (chrN c) i = true ↔ i < S.size ∧ byt S i = c := by
      intro c
      simp only [txt, nCh_bytes, decide_eq_true_eq]
      constructor
      · rintro ⟨h1, h2⟩
        rw [code_bytes S h1] at h2
        exact ⟨h1, by simp [fitsF, chrN, Rx.kind, Rx.code] at h2; exact of_decide_eq_true h2⟩
      · rintro ⟨h1, h2⟩
        rw [code_bytes S h1]
        refine ⟨h1, ?_⟩
        simp [fitsF, chrN, Rx.kind, Rx.code]
        exact decide_eq_true h2
    constructor
    · rintro ⟨l, h1, h2⟩
      rw [den_chr] at h1
      obtain ⟨rfl, h1⟩ := h1
      rw [hfit] at h1
      obtain ⟨rfl, h3⟩ := (den_lits S t n (a + 1) _ _).1 h2
      refine ⟨by simp only [txt]; omega, fun m hm => ?_⟩
      cases m with
      | zero => exact h1
      | succ m =>
        have := h3 m (by omega)
        simp only [txt] at this
        rw [show i + (m + 1) = i + 1 + m by omega, show a + (m + 1) = a + 1 + m by omega]
        exact this
    · rintro ⟨rfl, h⟩
      refine ⟨i + 1, ?_, ?_⟩
      · rw [den_chr, hfit]
        exact ⟨rfl, h 0 (by omega)⟩
      · rw [den_lits S t n (a + 1)]
        refine ⟨by omega, fun m hm => ?_⟩
        have := h (m + 1) (by omega)
        rw [show i + 1 + m = i + (m + 1) by omega, show a + 1 + m = a + (m + 1) by omega]
        exact this
theorem den_lit (S t : ByteArray) (i j : Nat) (hi : i ≤ S.size) : den (txt S false true) (joinF (litCat t)) i j ↔ j = i + t.size ∧ Occurs S t i := by
  rw [den_join]
  have e : litCat t = (List.range' 0 t.size).map fun k => chrN (byt t k) := by simp [litCat, List.range_eq_range']
  rw [e, den_lits]
  unfold Occurs
  constructor
  · rintro ⟨rfl, h⟩
    refine ⟨rfl, ?_, fun m hm => ?_⟩
    · rcases Nat.eq_zero_or_pos t.size with h0 | h0
      · omega
      · have := (h (t.size - 1) (by omega)).1
        omega
    · simpa using (h m hm).2
  · rintro ⟨rfl, h1, h2⟩
    exact ⟨rfl, fun m hm => ⟨by omega, by simpa using h2 m hm⟩⟩

theorem byt_get (s : ByteArray) (i : Nat) (hi : i < s.size) : s.data.toList[i]? = some (s[i]'hi) := by
  rw [Array.getElem?_toList]
  exact Array.getElem?_eq_getElem hi
theorem occurs_at (S t : ByteArray) (a j : Nat) (ha : a ≤ S.size) : Go.Lib.occAt (S.extract a S.size).data.toList t.data.toList j = true ↔ (a + j + t.size ≤ S.size ∨ t.size = 0) ∧ ∀ m, m < t.size → byt S (a + j + m) = byt t m := by
  have hl : (S.extract a S.size).data.toList = S.data.toList.drop a := by
    simp [ByteArray.data_extract, Array.toList_extract, List.extract]
    rw [List.take_of_length_le]
    rw [List.length_drop, Array.length_toList]
    exact Nat.le_refl _
  unfold Go.Lib.occAt
  rw [hl, List.drop_drop, List.isPrefixOf_iff_prefix]
  have hsz : ∀ x : ByteArray, x.data.toList.length = x.size := fun x => by rw [Array.length_toList]; rfl
  constructor
  · intro h
    have hle := h.length_le
    rw [List.length_drop, hsz, hsz] at hle
    refine ⟨by omega, fun m hm => ?_⟩
    have h1 := List.IsPrefix.getElem h (i := m) (by rw [hsz]; exact hm)
    rw [List.getElem_drop] at h1
    have hb : a + j + m < S.size := by omega
    unfold byt
    rw [dif_pos hb, dif_pos hm]
    have e1 : t.data.toList[m]'(by rw [hsz]; exact hm) = t[m]'hm := by rw [Array.getElem_toList]; rfl
    have e2 : S.data.toList[a + j + m]'(by rw [hsz]; exact hb) = S[a + j + m]'hb := by rw [Array.getElem_toList]; rfl
    rw [← e1, ← e2, h1]
  · rintro ⟨h1, h2⟩
    refine List.prefix_iff_eq_take.2 ?_
    apply List.ext_getElem?
    intro m
    rw [List.getElem?_take, hsz]
    by_cases hm : m < t.size
    · rw [if_pos hm, List.getElem?_drop, byt_get t m hm, byt_get S (a + j + m) (by omega)]
      have := h2 m hm
      unfold byt at this
      rw [dif_pos (by omega), dif_pos hm] at this
      congr 1
      apply UInt8.toNat_inj.1
      omega
    · rw [if_neg hm, List.getElem?_eq_none (by rw [hsz]; omega)]
end Thr

/- Plain Lean: where a text of letters and digits is found. -/
namespace Go.Proofs.YtanmlgliibgpcaaDoor
open Go.RowKit Thr

def litEnd (S t : ByteArray) (from_ : Nat) : Option (Nat × Nat) :=
  if Lib.index (S.extract from_ S.size).data.toList t.data.toList < 0 then none
  else some (from_ + (Lib.index (S.extract from_ S.size).data.toList t.data.toList).toNat, from_ + (Lib.index (S.extract from_ S.size).data.toList t.data.toList).toNat + t.size)
theorem occurs_iff (S t : ByteArray) (a j : Nat) (ha : a + j ≤ S.size) : Lib.occAt (S.extract a S.size).data.toList t.data.toList j = true ↔ Occurs S t (a + j) := by
  rw [occurs_at S t a j (by omega)]
  unfold Occurs
  constructor
  · rintro ⟨h1, h2⟩; exact ⟨by omega, h2⟩
  · rintro ⟨h1, h2⟩; exact ⟨.inl h1, h2⟩
theorem found_lit (S t : ByteArray) (from_ : Nat) (h1 : from_ ≤ S.size) : Found (txt S false true) (nCh S true) (place S true) (joinF (litCat t)) from_ (litEnd S t from_) := by
  have hsz : (S.extract from_ S.size).data.toList.length = S.size - from_ := by
    rw [Array.length_toList]
    show (S.extract from_ S.size).size = _
    simp [ByteArray.size_extract]
  unfold litEnd
  rw [nCh_bytes]
  rcases Lib.index_spec (S.extract from_ S.size).data.toList t.data.toList with ⟨i1, i2⟩ | ⟨i, i1, i2, i3, i4⟩
  · rw [i1, if_pos (by omega)]
    intro k hk hf j hd
    rw [place_bytes S hk] at hf
    rw [den_lit S t k j hk] at hd
    have := i2 (k - from_) (by omega)
    rw [← Bool.not_eq_true, occurs_iff S t from_ (k - from_) (by omega), show from_ + (k - from_) = k by omega] at this
    exact this hd.2
  · rw [i1, if_neg (by omega), Int.toNat_natCast]
    rw [occurs_iff S t from_ i (by omega)] at i3
    have i3' := i3.1
    refine ⟨by omega, by omega, by omega, by rw [place_bytes S (by omega)]; omega, (den_lit S t _ _ (by omega)).2 ⟨rfl, i3⟩, fun j hd => ?_, fun k hk hf j hd => ?_⟩
    · rw [den_lit S t _ j (by omega)] at hd
      omega
    · rw [place_bytes S (by omega)] at hf
      rw [den_lit S t k j (by omega)] at hd
      have := i4 (k - from_) (by omega)
      rw [← Bool.not_eq_true, occurs_iff S t from_ (k - from_) (by omega), show from_ + (k - from_) = k by omega] at this
      exact this hd.2
theorem found_past (S : ByteArray) (t : Rx) (bytes fold : Bool) (from_ : Int) (h : (S.size : Int) < from_) : Found (txt S fold bytes) (nCh S bytes) (place S bytes) t from_ none := by
  intro k hk hf
  have := place_le (sized_all S bytes) k
  omega
end Go.Proofs.YtanmlgliibgpcaaDoor

/- The walk of Compile. -/
namespace Go.Proofs.YtanmlgliibgpcaaDoor
open Go.RowKit Thr
set_option linter.unusedVariables false
set_option linter.unusedSimpArgs false

theorem validTop_valids {t : Rx} (h : validTop t = true) : Valids t ∧ weightF t ≤ 200 := by
  simp only [validTop, Bool.and_eq_true, decide_eq_true_eq] at h
  exact ⟨within_valids t _ h.1, h.2⟩

/-- What is made: a program, where its block is changed at the last. -/
theorem MkP.ready {w : World} {base bp : Nat} {fold bytes : Bool} {I : List Inst} {vI : Value} (h : MkP w base bp fold bytes I vI) (hS : Sound I) (hn : I.length ≤ 1000) (hb : base ≤ w.heap.size) (start : Int) (hst : 0 ≤ start ∧ start < I.length) :
    ProgAt w.heap.size (w.setCell ⟨bp, 3, none⟩ (.int .i64 start)) bp fold bytes I start := by
  obtain ⟨xs, ho, hr⟩ := h.own
  have hne := h.ne
  refine ⟨⟨vI, h.row.set_ 3 _, ?_⟩, h.bp_lt, hS, hn, hst⟩
  rcases ho with ⟨hl, ⟨rfl, h0⟩ | ⟨g, cap, cur, rfl, hg, hh, hc1, hc2, hc3, hc4⟩⟩
  · omega
  have hgb : g ≠ bp := by rintro rfl; exact hne rfl
  have hgl : g < w.heap.size := (Array.getElem?_eq_some_iff.1 hh).1
  have hh2 : (w.setCell ⟨bp, 3, none⟩ (.int .i64 start)).heap[g]? = some (.cells cur 52 (0, 0)) := (Below.heap_setCell _ _ _ g hgb).trans hh
  refine ⟨g, 0, cap, rfl, hc1, by have : maxLen = 9223372036854775807 := rfl; omega, hgl, fun k q hq => ?_⟩
  have hk := (List.getElem?_eq_some_iff.1 hq).1
  obtain ⟨cs, ht, hc⟩ := hr.2 k q hq
  have hcell : ∀ (j : Nat) (u : Value), (instVals q cs)[j]? = some u → (w.setCell ⟨bp, 3, none⟩ (.int .i64 start)).cell? ⟨g, k * 10 + j, none⟩ = some u := by
    intro j u hu
    have hj := (List.getElem?_eq_some_iff.1 hu).1
    rw [instVals_len ht] at hj
    rw [cell_of_row _ g _ cur _ (0, 0) hh2, ← Array.getElem?_toList]
    have := hc j u hu
    rw [← hc4, List.getElem?_take, if_pos (by omega)] at this
    exact this
  have hln := ht.len
  refine ⟨cs, TreeAt.mono (fun k hk => by omega) _ _ (TreeAt.step (fun k hk hkl => Below.heap_setCell _ _ _ k (by have := h.lt; simp only; omega)) _ _ ht), ?_, ?_, ?_, ?_⟩
  · simpa using hcell 0 _ rfl
  · intro j u hu
    have hj := (List.getElem?_eq_some_iff.1 hu).1
    have := hcell (1 + j) u (by
      simp only [instVals]
      rw [List.getElem?_append_left (l₁ := [Value.int .i64 q.op] ++ cs) (by simp; omega), List.getElem?_append_right (by simp)]
      simpa using hu)
    rw [show 0 + k * 10 + 1 + j = k * 10 + (1 + j) by omega]
    exact this
  · have := hcell 8 (.int .i64 q.x) (by simp [instVals, List.getElem?_append, hln])
    simpa using this
  · have := hcell 9 (.int .i64 q.y) (by simp [instVals, List.getElem?_append, hln])
    simpa using this

set_option maxRecDepth 100000 in
set_option maxHeartbeats 8000000 in
theorem Compile_bad {ok : Nat → Prop} (t : Rx) (cs : List Value) (fold bytes : Bool) (w : World) (ht : TreeAt ok w t cs) (hv : validTop t = false) :
    Calls Tryd.prog 7 #[.agg cs.toArray, .agg #[.bool fold, .bool bytes]] w fun e w' => e = .returned (.tuple #[.pointer none, .int .i64 90]) ∧ Below w.heap.size w w' := by
  have hV := fun w1 hb => Valid_calls t cs w1 (ht.below hb)
  rw [hv] at hV
  obtain ⟨kind', code', neg', As', ls', cs'', mn', mx', A', lk', cc', rfl⟩ := ht.form
  have HV := hide hV
  clear hV ht hv
  go_enter Tryd.func7, Tryd.ntmps7
  go_wp2_with fail
  refine ((unhide HV) _ (by repeat (first | exact Below.refl _ _ | assumption | refine below_drewN ?_ _ | refine Below.drew ?_ | refine below_alloc' ?_ _))).mono ?_
  rintro e w1 ⟨rfl, hb1⟩
  go_wp2_with fail
  go_ret2
  exact ⟨rfl, below_then (by repeat (first | exact Below.refl _ _ | assumption | refine below_drewN ?_ _ | refine Below.drew ?_ | refine below_alloc' ?_ _)) hb1⟩

set_option maxRecDepth 100000 in
set_option maxHeartbeats 16000000 in
theorem Compile_good {ok : Nat → Prop} (t : Rx) (cs : List Value) (fold bytes : Bool) (w : World) (ht : TreeAt ok w t cs) (hv : validTop t = true) :
    Calls Tryd.prog 7 #[.agg cs.toArray, .agg #[.bool fold, .bool bytes]] w fun e w' => ∃ bp, e = .returned (.tuple #[.pointer (some ⟨bp, 0, none⟩), .int .i64 0]) ∧ Below w.heap.size w w' ∧ w.heap.size ≤ bp ∧ ProgAt w'.heap.size w' bp fold bytes (compiled t).2 (compiled t).1 := by
  have hV := fun w1 hb => Valid_calls t cs w1 (ht.below hb)
  rw [hv] at hV
  obtain ⟨hval, hwt⟩ := validTop_valids hv
  have hlen := compiled_len hval hwt
  have hmk := valids_makes t hval
  have hsd := compiled_sound hmk
  have hst := compiled_start hmk
  have hok := make_calls t hval
  have ht1 : TreeAt (fun k => k < w.heap.size) w t cs := TreeAt.mono (fun k hk => hk.2) _ _ (TreeAt.bound _ _ ht)
  obtain ⟨kind', code', neg', As', ls', cs'', mn', mx', A', lk', cc', rfl⟩ := ht.form
  obtain ⟨R, hR⟩ : ∃ R, compiled t = R := ⟨_, rfl⟩
  rw [hR] at hlen hsd hst ⊢
  unfold compiled at hR
  have HV := hide hV; have HOK := hide hok; have HT := hide ht1; have HR := hide hR; have HSD := hide hsd
  clear hV ht hv hval hwt hmk hok ht1 hR hsd
  go_enter Tryd.func7, Tryd.ntmps7
  go_wp2_with fail
  refine ((unhide HV) _ (by repeat (first | exact Below.refl _ _ | assumption | refine below_drewN ?_ _ | refine Below.drew ?_ | refine below_alloc' ?_ _))).mono ?_
  rintro e w1 ⟨rfl, hb1⟩
  have k0 := (bcell hb1).1 w.heap.size
  have s0 := (k0 0 (by simp; omega)).trans (show _ = some (.int .i64 kind') by go_simp)
  have s1 := (k0 1 (by simp; omega)).trans (show _ = some (.int .i64 code') by go_simp)
  have s2 := (k0 2 (by simp; omega)).trans (show _ = some (.bool neg') by go_simp)
  have s3 := (k0 3 (by simp; omega)).trans (show _ = some (.slice As' ls' cs'') by go_simp)
  have s4 := (k0 4 (by simp; omega)).trans (show _ = some (.int .i64 mn') by go_simp)
  have s5 := (k0 5 (by simp; omega)).trans (show _ = some (.int .i64 mx') by go_simp)
  have s6 := (k0 6 (by simp; omega)).trans (show _ = some (.slice A' lk' cc') by go_simp)
  have w0 := ((bcell hb1).1 (w.heap.size + 1) 0 (by simp)).trans (show _ = some (.bool fold) by go_simp)
  have w1' := ((bcell hb1).1 (w.heap.size + 1) 1 (by simp)).trans (show _ = some (.bool bytes) by go_simp)
  have HB1 := hide (below_then (w := w) (by repeat (first | exact Below.refl _ _ | assumption | refine below_drewN ?_ _ | refine Below.drew ?_ | refine below_alloc' ?_ _)) hb1)
  have hsz := hb1.size
  simp at hsz
  clear hb1 k0
  have hPm : ∀ (w2 : World), w2.heap = (w1.alloc (.cells #[.bool fold, .bool bytes, .slice none 0 0, .int .i64 0] 47)).heap → MkP w2 w.heap.size w1.heap.size fold bytes [] (.slice none 0 0) := by
    intro w2 e
    refine ⟨?_, ⟨[], World.ownsRow_nil _ _ _ _, RowOf.nil _ _⟩, by omega⟩
    unfold Blk
    rw [e]
    exact heap_alloc_new w1 _
  have hno : ∀ k, k < w1.heap.size → ¬ TurnP w1.heap.size (.slice none 0 0) k := by
    rintro k hk (rfl | h)
    · omega
    · simp [Value.ownBlock] at h
  have htr : ∀ w2 : World, Below w1.heap.size w1 w2 → TreeAt (fun k => k < w.heap.size) w2 t _ := fun w2 hb => (unhide HT).more fun k hk _ => ((unhide HB1).trans (hb.mono (by omega))).block k hk
  have hsz0 : w.heap.size < w1.heap.size := by omega
  have hmake : ∀ (w2 : World) (vI2 : Value), MkP w2 w.heap.size w1.heap.size fold bytes ([] ++ [⟨3, noNode, 0, 0⟩]) vI2 → Below w1.heap.size w1 w2 → Calls Tryd.prog 14 #[.pointer (some ⟨w1.heap.size, 0, none⟩), .agg #[.int .i64 kind', .int .i64 code', .bool neg', .slice As' ls' cs'', .int .i64 mn', .int .i64 mx', .slice A' lk' cc'], .int .i64 0] w2 fun e w' =>
      e = .returned (.int .i64 R.1) ∧ ∃ vI', MkP w' w.heap.size w1.heap.size fold bytes R.2 vI' ∧ Keeps (TurnP w1.heap.size vI2) w2 w' ∧ At w2 vI2 vI' := by
    intro w2 vI2 hP2 hb2
    have := (unhide HOK) 0 _ vI2 w2 w.heap.size w1.heap.size fold bytes _ hP2 (htr _ hb2) (by omega) (by simp) (by simp only [List.nil_append, unhide HR]; omega)
    simp only [List.nil_append, unhide HR] at this
    exact this
  have HMAKE := hide hmake
  clear hmake
  have HPM := hide hPm; have HNO := hide hno; have HTR := hide htr
  clear hPm hno htr HT
  go_wp2_with fail
  go_region_with (first
    | (go_at_call 15; refine (add_calls ⟨3, noNode, 0, 0⟩ _ _ (by exact (unhide HPM) _ rfl) (no_tree _ _) (by simp)).mono ?_; rintro e w2 ⟨rfl, vI2, hP2, hK2, hA2⟩
       have q0 := fun j => hK2.cell (o := j) (b := w.heap.size) (by simp; omega) ((unhide HNO) _ (by omega))
       have q1 := (q0 0).trans (show _ = some (.int .i64 kind') by go_simp)
       have q2 := (q0 1).trans (show _ = some (.int .i64 code') by go_simp)
       have q3 := (q0 2).trans (show _ = some (.bool neg') by go_simp)
       have q4 := (q0 3).trans (show _ = some (.slice As' ls' cs'') by go_simp)
       have q5 := (q0 4).trans (show _ = some (.int .i64 mn') by go_simp)
       have q6 := (q0 5).trans (show _ = some (.int .i64 mx') by go_simp)
       have q7 := (q0 6).trans (show _ = some (.slice A' lk' cc') by go_simp)
       have hsz2 : w.heap.size < w2.heap.size := by have := hK2.size; simp at this; omega
       have HB2 := hide ((Below.refl w1.heap.size w1).alloc (Nat.le_refl _) (.cells #[.bool fold, .bool bytes, .slice none 0 0, .int .i64 0] 47) |>.drew |>.trans (hK2.below (by simp) (fun k hk => (unhide HNO) k hk)))
       have HP2 := hide hP2; have HK2 := hide hK2; have HA2 := hide hA2
       clear q0 hP2 hK2 hA2)
    | (go_at_call 14; refine ((unhide HMAKE) _ _ (unhide HP2) (unhide HB2)).mono ?_
       rintro e w3 ⟨rfl, vI3, hP3, hK3, hA3⟩
       have z3 := hP3.row.cell 3
       have y3 := hP3.row.frozen 3
       have HP3 := hide hP3; have HK3 := hide hK3; have HA3 := hide hA3
       simp at z3
       clear hP3 hK3 hA3))
  all_goals
    have hb3 : Below w.heap.size w w3 := ((unhide HB1).trans ((unhide HB2).mono (by omega))).trans ((unhide HK3).below (by omega) (fun k hk => (unhide HP2).old_not hk))
    have hr := (unhide HP3).ready (unhide HSD) (by omega) hb3.size R.1 hst
    have HB3 := hide hb3; have HRD := hide hr
    clear hb3 hr
    go_wp2_with fail
    go_ret2
    refine ⟨w1.heap.size, rfl, (unhide HB3).setCell (p := ⟨w1.heap.size, 3, none⟩) (by simp only; omega) _, by omega, ?_⟩
    have hr := unhide HRD
    have hs : (w3.setCell ⟨w1.heap.size, 3, none⟩ (.int .i64 R.1)).heap.size = w3.heap.size := by simp
    rw [hs]
    exact hr
end Go.Proofs.YtanmlgliibgpcaaDoor

/- Plain Lean: the document's example. -/
namespace Go.Proofs.YtanmlgliibgpcaaDoor
open Go.RowKit Thr

def fixedP : ByteArray := lit [97, 124, 97, 98, 124, 40, 98, 124, 99, 41, 43]
def fixedS : ByteArray := lit [120, 97, 98, 99, 98]
def fixedT : Rx := altN [chrN 97, catN [chrN 97, chrN 98], repN 1 (-1) (altN [chrN 98, chrN 99])]
theorem fixed_parse : parseF fixedP false = .tree fixedT := by kernel_rfl
theorem fixed_valid : validTop fixedT = true := by kernel_rfl
theorem fixed_makes : Makes fixedT := valids_makes _ (validTop_valids fixed_valid).1
theorem fixed_count : nCh fixedS false = 5 := by kernel_rfl
theorem fixed_place : ∀ k, k ≤ 5 → place fixedS false k = k := by
  intro k hk
  have : k = 0 ∨ k = 1 ∨ k = 2 ∨ k = 3 ∨ k = 4 ∨ k = 5 := by omega
  rcases this with rfl | rfl | rfl | rfl | rfl | rfl
  · exact (by kernel_rfl : place fixedS false 0 = 0)
  · exact (by kernel_rfl : place fixedS false 1 = 1)
  · exact (by kernel_rfl : place fixedS false 2 = 2)
  · exact (by kernel_rfl : place fixedS false 3 = 3)
  · exact (by kernel_rfl : place fixedS false 4 = 4)
  · exact (by kernel_rfl : place fixedS false 5 = 5)
def fixedC (k : Nat) (c : Int) : Prop := (txt fixedS false false).has k = true ∧ (txt fixedS false false).fit (chrN c) k = true
theorem den_chr' (c : Int) (i j : Nat) : den (txt fixedS false false) (chrN c) i j ↔ j = i + 1 ∧ fixedC i c := den_chr _ c i j
theorem fixed_no (k : Nat) (c : Int) (h : codeK fixedS false k ≠ c) : ¬ fixedC k c := by
  rintro ⟨_, h2⟩
  apply h
  simp [txt, fitsF, chrN, Rx.kind, Rx.code] at h2
  exact of_decide_eq_true h2
theorem den_pair (i j : Nat) : den (txt fixedS false false) (altN [chrN 98, chrN 99]) i j ↔ j = i + 1 ∧ (fixedC i 98 ∨ fixedC i 99) := by
  have e : den (txt fixedS false false) (altN [chrN 98, chrN 99]) i j ↔ den (txt fixedS false false) (chrN 98) i j ∨ den (txt fixedS false false) (chrN 99) i j := by
    simp [altN, den, denAlt]
  rw [e, den_chr', den_chr']
  constructor
  · rintro (⟨h, k⟩ | ⟨h, k⟩)
    · exact ⟨h, .inl k⟩
    · exact ⟨h, .inr k⟩
  · rintro ⟨h, k | k⟩
    · exact .inl ⟨h, k⟩
    · exact .inr ⟨h, k⟩
theorem den_fixed (i j : Nat) : den (txt fixedS false false) fixedT i j ↔ (j = i + 1 ∧ fixedC i 97) ∨ (j = i + 2 ∧ fixedC i 97 ∧ fixedC (i + 1) 98) ∨ ∃ m : Nat, 1 ≤ m ∧ iter (den (txt fixedS false false) (altN [chrN 98, chrN 99])) m i j := by
  have e : den (txt fixedS false false) fixedT i j ↔ den (txt fixedS false false) (chrN 97) i j ∨ den (txt fixedS false false) (catN [chrN 97, chrN 98]) i j ∨ den (txt fixedS false false) (repN 1 (-1) (altN [chrN 98, chrN 99])) i j := by
    simp [fixedT, altN, den, denAlt]
  rw [e, den_chr']
  have e2 : den (txt fixedS false false) (catN [chrN 97, chrN 98]) i j ↔ j = i + 2 ∧ fixedC i 97 ∧ fixedC (i + 1) 98 := by
    simp only [catN, den, denCat]
    rw [if_neg (by omega), if_pos trivial]
    constructor
    · rintro ⟨l, h1, l', h2, rfl⟩
      rw [den_chr'] at h1 h2
      obtain ⟨rfl, h1⟩ := h1
      exact ⟨h2.1, h1, h2.2⟩
    · rintro ⟨rfl, h1, h2⟩
      exact ⟨i + 1, (den_chr' _ _ _).2 ⟨rfl, h1⟩, i + 2, (den_chr' _ _ _).2 ⟨rfl, h2⟩, rfl⟩
  have e3 : den (txt fixedS false false) (repN 1 (-1) (altN [chrN 98, chrN 99])) i j ↔ ∃ m : Nat, 1 ≤ m ∧ iter (den (txt fixedS false false) (altN [chrN 98, chrN 99])) m i j := by
    simp only [repN, den, denHd]
    rw [if_neg (by omega), if_neg (by omega), if_neg (by omega), if_pos trivial]
    constructor
    · rintro ⟨m, h1, _, h2⟩; exact ⟨m, by omega, h2⟩
    · rintro ⟨m, h1, h2⟩; exact ⟨m, by omega, .inl (by omega), h2⟩
  rw [e2, e3]
theorem fixed_first {i j : Nat} (h : ∃ m : Nat, 1 ≤ m ∧ iter (den (txt fixedS false false) (altN [chrN 98, chrN 99])) m i j) : fixedC i 98 ∨ fixedC i 99 := by
  obtain ⟨m, h1, h2⟩ := h
  cases m with
  | zero => omega
  | succ m =>
    obtain ⟨k, h3, _⟩ := h2
    exact ((den_pair i k).1 h3).2
theorem code0 : codeK fixedS false 0 = 120 := by kernel_rfl
theorem code1 : codeK fixedS false 1 = 97 := by kernel_rfl
theorem code2 : codeK fixedS false 2 = 98 := by kernel_rfl
theorem yes1 : fixedC 1 97 := ⟨by kernel_rfl, by kernel_rfl⟩
theorem yes2 : fixedC 2 98 := ⟨by kernel_rfl, by kernel_rfl⟩
theorem yes3 : fixedC 3 99 := ⟨by kernel_rfl, by kernel_rfl⟩
theorem yes4 : fixedC 4 98 := ⟨by kernel_rfl, by kernel_rfl⟩
theorem fixed_a : Found (txt fixedS false false) (nCh fixedS false) (place fixedS false) fixedT 0 (some (1, 3)) := by
  rw [fixed_count]
  refine ⟨by omega, by omega, by omega, by rw [fixed_place 1 (by omega)]; omega, (den_fixed _ _).2 (.inr (.inl ⟨rfl, yes1, yes2⟩)), fun j hd => ?_, fun k hk hf j hd => ?_⟩
  · rcases (den_fixed _ _).1 hd with ⟨rfl, _⟩ | ⟨rfl, _⟩ | h
    · omega
    · omega
    · rcases fixed_first h with h | h
      · exact absurd h (fixed_no _ _ (by rw [code1]; omega))
      · exact absurd h (fixed_no _ _ (by rw [code1]; omega))
  · obtain rfl : k = 0 := by omega
    have hn : ∀ c, c ≠ 120 → ¬ fixedC 0 c := fun c hc => fixed_no _ _ (by rw [code0]; omega)
    rcases (den_fixed _ _).1 hd with ⟨_, h⟩ | ⟨_, h, _⟩ | h
    · exact hn _ (by omega) h
    · exact hn _ (by omega) h
    · rcases fixed_first h with h | h
      · exact hn _ (by omega) h
      · exact hn _ (by omega) h
theorem fixed_b : Found (txt fixedS false false) (nCh fixedS false) (place fixedS false) fixedT 2 (some (2, 5)) := by
  have hle := den_le (txt_fine fixedS false false) fixedT 2
  rw [fixed_count] at hle ⊢
  refine ⟨by omega, by omega, by omega, by rw [fixed_place 2 (by omega)]; omega, (den_fixed _ _).2 (.inr (.inr ⟨3, by omega, 3, (den_pair _ _).2 ⟨rfl, .inl yes2⟩, 4, (den_pair _ _).2 ⟨rfl, .inr yes3⟩, 5, (den_pair _ _).2 ⟨rfl, .inl yes4⟩, rfl⟩)), fun j hd => (hle j (by omega) hd).2, fun k hk hf j hd => ?_⟩
  rw [fixed_place k (by omega)] at hf
  omega
end Go.Proofs.YtanmlgliibgpcaaDoor
