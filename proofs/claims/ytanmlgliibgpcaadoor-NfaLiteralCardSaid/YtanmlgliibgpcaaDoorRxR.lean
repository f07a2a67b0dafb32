/- The walk of atom. -/
import Derived.Test.YtanmlgliibgpcaaDoorRxQ
namespace Go.Proofs.YtanmlgliibgpcaaDoor
open Go.RowKit Thr
set_option linter.unusedVariables false
set_option linter.unusedSimpArgs false

theorem node_one {bp : Nat} {s : ByteArray} {bytes : Bool} {nest : Nat} {i : Nat} {w w' : World} {e : Ending} {o : Option (Rx × Nat)} (h : NodePost bp s bytes nest i w w' e o) : OnePost bp s bytes nest w w' e (oneOf i o) := by
  cases o with
  | none => exact h
  | some q => exact h

set_option maxRecDepth 100000 in
set_option maxHeartbeats 64000000 in
theorem atom_calls {bp : Nat} {s : ByteArray} {i : Nat} {bytes : Bool} {nest f : Nat} (o : One) (w : World) (hP : PAt w bp s i bytes nest) (hG : Glob w) (hi : i < s.size) (hm : s.size ≤ 1024) (hn : nest ≤ 40) (hf : s.size - (i + 1) < f)
    (ho : atomF s bytes f nest i = some o)
    (hA : nest < 40 → ∀ r w1, innerF s bytes f (nest + 1) [] [] (i + 1) = some r → PAt w1 bp s (i + 1) bytes (nest + 1) → Glob w1 → Calls Tryd.prog 34 #[.pointer (some ⟨bp, 0, none⟩)] w1 fun e w' => AltPost bp s bytes (nest + 1) w1 w' e r) :
    Calls Tryd.prog 62 #[.pointer (some ⟨bp, 0, none⟩)] w fun e w' => OnePost bp s bytes nest w w' e o := by
  have c1 := hP.cell 1
  have hbp := hP.lt
  simp at c1
  have hch := fun w1 hP1 hT1 => char_calls (bp := bp) (s := s) (i := i) (bytes := bytes) (nest := nest) w1 hP1 hT1 (by omega) hm
  have hGl : ∀ W, Keeps (fun k => k = bp) w W → Glob W := fun W hk => hG.keeps hk hP
  have hrest : ∀ (w1 : World), Keeps (fun k => k = bp) (w.alloc (.cells zero7 26)) w1 → Blk w1 w.heap.size 26 zero7 := fun w1 hk => (Blk.new w 26 zero7).keeps hk (by omega)
  have hends := inner_ends (sized_all s bytes) f (nest + 1) [] [] (i + 1) hf (by omega)
  have HEN := hide hends
  have HP := hide hP; have HG := hide hGl; have HA := hide hA; have HRES := hide hrest; have hT := hG.tabs; have HT := hide hT
  clear hP hG hGl hA hrest hT hends
  unfold atomF at ho
  by_cases e40 : byt s i = 40
  · rw [if_pos e40] at ho
    have hz := next_byte (bytes := bytes) hi (by omega : byt s i < 128)
    rw [e40] at hz
    rw [hz] at hch
    rw [show i + (((40 : Int), (1 : Int)).2).toNat = i + 1 from rfl] at hch
    have HC := hide hch
    clear hch hz
    by_cases hn40 : nest = 40
    · rw [if_pos hn40] at ho
      simp only [Option.some.injEq] at ho
      subst ho; subst hn40
      clear e40
      go_enter Tryd.func62, Tryd.ntmps62
      go_wp2_with fail
      refine (unhide HC _ ((unhide HP).below (by repeat (first | exact Below.refl _ _ | assumption | refine below_drewN ?_ _ | refine Below.drew ?_ | refine below_alloc' ?_ _))) ((unhide HT).below (by repeat (first | exact Below.refl _ _ | assumption | refine below_drewN ?_ _ | refine Below.drew ?_ | refine below_alloc' ?_ _)))).mono ?_
      rintro e w1 ⟨rfl, hP1, hK1⟩
      have hB := (unhide HRES) _ hK1
      obtain ⟨⟨b0, b1, b2, b3, b4, b5, b6⟩, f0, f1, f2, f3, f4, f5, f6⟩ := hB.seven
      have hk1 := ((Keeps.refl (fun k => k = bp) w).alloc (.cells zero7 26)).trans hK1 (fun _ _ h => h)
      have HB := hide hB; have HP1 := hide hP1; have HK1 := hide hk1; have HG1 := hide ((unhide HG) _ hk1)
      have hz1 : w.heap.size < w1.heap.size := hB.lt
      clear hP1 hK1 hB hk1 HRES
      go_wp2_with fail
      refine (group_many (i + 1) w1 (unhide HP1)).mono ?_
      rintro e w2 ⟨rfl, hk2⟩
      exact ⟨rfl, rfl, (unhide HK1).trans hk2 (fun _ _ h => h)⟩
    · rw [if_neg hn40] at ho
      cases hin : innerF s bytes f (nest + 1) [] [] (i + 1) with
      | none => rw [hin] at ho; cases ho
      | some r =>
        rw [hin] at ho
        simp only [Option.map_some, Option.some.injEq] at ho
        have hr : ∀ a c j, r = .stop a c j → j ≤ s.size ∧ (j < s.size → byt s j = 41) := by
          obtain ⟨r', h1, h2⟩ := unhide HEN
          rw [hin] at h1
          injection h1 with h1
          subst h1
          intro a c j e
          have := h2 a c j e
          exact ⟨this.2.1, fun h => (this.2.2 h).1⟩
        have HR := hide hr; have HIN := hide hin
        clear e40 hr hin
        go_enter Tryd.func62, Tryd.ntmps62
        go_wp2_with fail
        refine (unhide HC _ ((unhide HP).below (by repeat (first | exact Below.refl _ _ | assumption | refine below_drewN ?_ _ | refine Below.drew ?_ | refine below_alloc' ?_ _))) ((unhide HT).below (by repeat (first | exact Below.refl _ _ | assumption | refine below_drewN ?_ _ | refine Below.drew ?_ | refine below_alloc' ?_ _)))).mono ?_
        rintro e w1 ⟨rfl, hP1, hK1⟩
        have hB := (unhide HRES) _ hK1
        obtain ⟨⟨b0, b1, b2, b3, b4, b5, b6⟩, f0, f1, f2, f3, f4, f5, f6⟩ := hB.seven
        have hk1 := ((Keeps.refl (fun k => k = bp) w).alloc (.cells zero7 26)).trans hK1 (fun _ _ h => h)
        have HB := hide hB; have HP1 := hide hP1; have HK1 := hide hk1; have HG1 := hide ((unhide HG) _ hk1)
        have hz1 : w.heap.size < w1.heap.size := hB.lt
        clear hP1 hK1 hB hk1 HRES
        go_wp2_with fail
        refine (group_calls r w1 (unhide HP1) (unhide HG1) hm (by omega) (unhide HR) (fun w2 h1 h2 => (unhide HA) (by omega) r w2 (unhide HIN) h1 h2)).mono ?_
        clear b0 b1 b2 b3 b4 b5 b6 f0 f1 f2 f3 f4 f5 f6
        generalize groupR s i r = Gx at ho ⊢
        subst ho
        cases Gx with
        | fault j er =>
          rintro e w2 ⟨rfl, hk2⟩
          exact ⟨rfl, rfl, (unhide HK1).trans hk2 (fun _ _ h => h)⟩
        | node x k =>
          rintro e w2 ⟨cs, rfl, ht, hP2, hk2⟩
          obtain ⟨k1, k2, k3, As, ls, cs', k5, k6, A, lk, cc, rfl⟩ := ht.form
          have hB2 := (unhide HB).keeps hk2 (by omega)
          obtain ⟨⟨b0, b1, b2, b3, b4, b5, b6⟩, f0, f1, f2, f3, f4, f5, f6⟩ := hB2.seven
          have hz2 : w.heap.size < w2.heap.size := hB2.lt
          have HB2 := hide hB2; have HT2 := hide ht; have HP2 := hide hP2; have HK2 := hide ((unhide HK1).trans hk2 (fun _ _ h => h))
          clear hB2 ht hP2 hk2
          go_wp2_with fail
          refine bodyPost_ret (results_cell rfl rfl (load7 (Blk.put7 (unhide HB2)))) rfl ?_
          refine ⟨_, rfl, TreeAt.mono (fun k hk => ?_) _ _ (TreeAt.step (W := w2) (fun k hk _ => ?_) _ _ (unhide HT2)), PAt.put7 (unhide HP2) (by omega) _ _ _ _ _ _ _, (unhide HK2).put7 (.inr (Nat.le_refl _)) _ _ _ _ _ _ _⟩
          · have : w1.heap.size ≤ k := hk
            show w.heap.size ≤ k
            omega
          · have : w1.heap.size ≤ k := hk
            exact heap_put7 _ _ _ _ _ _ _ _ _ k (by omega)
  rw [if_neg e40] at ho
  by_cases e41 : byt s i = 41
  · rw [if_pos e41] at ho
    simp only [Option.some.injEq] at ho
    subst ho
    have hz := next_byte (bytes := bytes) hi (by omega : byt s i < 128)
    rw [e41] at hz
    rw [hz] at hch
    rw [show i + (((41 : Int), (1 : Int)).2).toNat = i + 1 from rfl] at hch
    have HC := hide hch
    clear hch hz
    clear e41 e40
    go_enter Tryd.func62, Tryd.ntmps62
    go_wp2_with fail
    refine (unhide HC _ ((unhide HP).below (by repeat (first | exact Below.refl _ _ | assumption | refine below_drewN ?_ _ | refine Below.drew ?_ | refine below_alloc' ?_ _))) ((unhide HT).below (by repeat (first | exact Below.refl _ _ | assumption | refine below_drewN ?_ _ | refine Below.drew ?_ | refine below_alloc' ?_ _)))).mono ?_
    rintro e w1 ⟨rfl, hP1, hK1⟩
    have hB := (unhide HRES) _ hK1
    obtain ⟨⟨b0, b1, b2, b3, b4, b5, b6⟩, f0, f1, f2, f3, f4, f5, f6⟩ := hB.seven
    have hk1 := ((Keeps.refl (fun k => k = bp) w).alloc (.cells zero7 26)).trans hK1 (fun _ _ h => h)
    have HB := hide hB; have HP1 := hide hP1; have HK1 := hide hk1; have HG1 := hide ((unhide HG) _ hk1)
    have hz1 : w.heap.size < w1.heap.size := hB.lt
    clear hP1 hK1 hB hk1 HRES
    go_wp2_with fail
    refine (fail_calls _ _ _ _).mono ?_
    rintro e w2 ⟨rfl, hw⟩
    obtain rfl := hw.symm
    exact ⟨rfl, rfl, unhide HK1⟩
  rw [if_neg e41] at ho
  by_cases e91 : byt s i = 91
  · rw [if_pos e91] at ho
    simp only [Option.some.injEq] at ho
    have hz := next_byte (bytes := bytes) hi (by omega : byt s i < 128)
    rw [e91] at hz
    rw [hz] at hch
    rw [show i + (((91 : Int), (1 : Int)).2).toNat = i + 1 from rfl] at hch
    have HC := hide hch
    clear hch hz
    clear e40 e41 e91
    go_enter Tryd.func62, Tryd.ntmps62
    go_wp2_with fail
    refine (unhide HC _ ((unhide HP).below (by repeat (first | exact Below.refl _ _ | assumption | refine below_drewN ?_ _ | refine Below.drew ?_ | refine below_alloc' ?_ _))) ((unhide HT).below (by repeat (first | exact Below.refl _ _ | assumption | refine below_drewN ?_ _ | refine Below.drew ?_ | refine below_alloc' ?_ _)))).mono ?_
    rintro e w1 ⟨rfl, hP1, hK1⟩
    have hB := (unhide HRES) _ hK1
    obtain ⟨⟨b0, b1, b2, b3, b4, b5, b6⟩, f0, f1, f2, f3, f4, f5, f6⟩ := hB.seven
    have hk1 := ((Keeps.refl (fun k => k = bp) w).alloc (.cells zero7 26)).trans hK1 (fun _ _ h => h)
    have HB := hide hB; have HP1 := hide hP1; have HK1 := hide hk1; have HG1 := hide ((unhide HG) _ hk1)
    have hz1 : w.heap.size < w1.heap.size := hB.lt
    clear hP1 hK1 hB hk1 HRES
    go_wp2_with fail
    refine ((set_calls (i := i) (i : Int) w1 (unhide HP1) (unhide HG1) (by omega) hm).mono fun e w' h => node_one h).mono ?_
    clear b0 b1 b2 b3 b4 b5 b6 f0 f1 f2 f3 f4 f5 f6
    generalize oneOf i (setF s i bytes) = Gx at ho ⊢
    subst ho
    cases Gx with
    | fault j er =>
      rintro e w2 ⟨rfl, hk2⟩
      exact ⟨rfl, rfl, (unhide HK1).trans hk2 (fun _ _ h => h)⟩
    | node x k =>
      rintro e w2 ⟨cs, rfl, ht, hP2, hk2⟩
      obtain ⟨k1, k2, k3, As, ls, cs', k5, k6, A, lk, cc, rfl⟩ := ht.form
      have hB2 := (unhide HB).keeps hk2 (by omega)
      obtain ⟨⟨b0, b1, b2, b3, b4, b5, b6⟩, f0, f1, f2, f3, f4, f5, f6⟩ := hB2.seven
      have hz2 : w.heap.size < w2.heap.size := hB2.lt
      have HB2 := hide hB2; have HT2 := hide ht; have HP2 := hide hP2; have HK2 := hide ((unhide HK1).trans hk2 (fun _ _ h => h))
      clear hB2 ht hP2 hk2
      go_wp2_with fail
      refine bodyPost_ret (results_cell rfl rfl (load7 (Blk.put7 (unhide HB2)))) rfl ?_
      refine ⟨_, rfl, TreeAt.mono (fun k hk => ?_) _ _ (TreeAt.step (W := w2) (fun k hk _ => ?_) _ _ (unhide HT2)), PAt.put7 (unhide HP2) (by omega) _ _ _ _ _ _ _, (unhide HK2).put7 (.inr (Nat.le_refl _)) _ _ _ _ _ _ _⟩
      · have : w1.heap.size ≤ k := hk
        show w.heap.size ≤ k
        omega
      · have : w1.heap.size ≤ k := hk
        exact heap_put7 _ _ _ _ _ _ _ _ _ k (by omega)
  rw [if_neg e91] at ho
  by_cases e92 : byt s i = 92
  · rw [if_pos e92] at ho
    simp only [Option.some.injEq] at ho
    have hz := next_byte (bytes := bytes) hi (by omega : byt s i < 128)
    rw [e92] at hz
    rw [hz] at hch
    rw [show i + (((92 : Int), (1 : Int)).2).toNat = i + 1 from rfl] at hch
    have HC := hide hch
    clear hch hz
    clear e40 e41 e91 e92
    go_enter Tryd.func62, Tryd.ntmps62
    go_wp2_with fail
    refine (unhide HC _ ((unhide HP).below (by repeat (first | exact Below.refl _ _ | assumption | refine below_drewN ?_ _ | refine Below.drew ?_ | refine below_alloc' ?_ _))) ((unhide HT).below (by repeat (first | exact Below.refl _ _ | assumption | refine below_drewN ?_ _ | refine Below.drew ?_ | refine below_alloc' ?_ _)))).mono ?_
    rintro e w1 ⟨rfl, hP1, hK1⟩
    have hB := (unhide HRES) _ hK1
    obtain ⟨⟨b0, b1, b2, b3, b4, b5, b6⟩, f0, f1, f2, f3, f4, f5, f6⟩ := hB.seven
    have hk1 := ((Keeps.refl (fun k => k = bp) w).alloc (.cells zero7 26)).trans hK1 (fun _ _ h => h)
    have HB := hide hB; have HP1 := hide hP1; have HK1 := hide hk1; have HG1 := hide ((unhide HG) _ hk1)
    have hz1 : w.heap.size < w1.heap.size := hB.lt
    clear hP1 hK1 hB hk1 HRES
    go_wp2_with fail
    refine ((escape_calls (i := i) (i : Int) w1 (unhide HP1) (unhide HG1).tabs (by omega) hm).mono fun e w' h => node_one h).mono ?_
    clear b0 b1 b2 b3 b4 b5 b6 f0 f1 f2 f3 f4 f5 f6
    generalize oneOf i (escF s i bytes) = Gx at ho ⊢
    subst ho
    cases Gx with
    | fault j er =>
      rintro e w2 ⟨rfl, hk2⟩
      exact ⟨rfl, rfl, (unhide HK1).trans hk2 (fun _ _ h => h)⟩
    | node x k =>
      rintro e w2 ⟨cs, rfl, ht, hP2, hk2⟩
      obtain ⟨k1, k2, k3, As, ls, cs', k5, k6, A, lk, cc, rfl⟩ := ht.form
      have hB2 := (unhide HB).keeps hk2 (by omega)
      obtain ⟨⟨b0, b1, b2, b3, b4, b5, b6⟩, f0, f1, f2, f3, f4, f5, f6⟩ := hB2.seven
      have hz2 : w.heap.size < w2.heap.size := hB2.lt
      have HB2 := hide hB2; have HT2 := hide ht; have HP2 := hide hP2; have HK2 := hide ((unhide HK1).trans hk2 (fun _ _ h => h))
      clear hB2 ht hP2 hk2
      go_wp2_with fail
      refine bodyPost_ret (results_cell rfl rfl (load7 (Blk.put7 (unhide HB2)))) rfl ?_
      refine ⟨_, rfl, TreeAt.mono (fun k hk => ?_) _ _ (TreeAt.step (W := w2) (fun k hk _ => ?_) _ _ (unhide HT2)), PAt.put7 (unhide HP2) (by omega) _ _ _ _ _ _ _, (unhide HK2).put7 (.inr (Nat.le_refl _)) _ _ _ _ _ _ _⟩
      · have : w1.heap.size ≤ k := hk
        show w.heap.size ≤ k
        omega
      · have : w1.heap.size ≤ k := hk
        exact heap_put7 _ _ _ _ _ _ _ _ _ k (by omega)
  rw [if_neg e92] at ho
  simp only [Option.some.injEq] at ho
  subst ho
  have hne : ∀ c : Int, c < 128 → byt s i ≠ c → (nextF s i bytes).1 ≠ c := by
    intro c h1 h2 h3
    have := next_ascii (bytes := bytes) hi (by rw [h3]; exact h1)
    rw [this] at h3
    exact h2 h3
  have n40 := hne 40 (by omega) e40
  have n41 := hne 41 (by omega) e41
  have n91 := hne 91 (by omega) e91
  have n92 := hne 92 (by omega) e92
  generalize nextF s i bytes = z at *
  obtain ⟨c, n⟩ := z
  simp only at n40 n41 n91 n92 hch
  have HC := hide hch
  have n40' : (c == 40) = false := by simpa using n40
  have n41' : (c == 41) = false := by simpa using n41
  have n91' : (c == 91) = false := by simpa using n91
  have n92' : (c == 92) = false := by simpa using n92
  clear hch hne n40 n41 n91 n92 e40 e41 e91 e92
  unfold plainF
  by_cases e46 : c = 46
  · subst e46
    rw [if_pos rfl]
    clear n40' n41' n91' n92'
    go_enter Tryd.func62, Tryd.ntmps62
    go_wp2_with fail
    refine (unhide HC _ ((unhide HP).below (by repeat (first | exact Below.refl _ _ | assumption | refine below_drewN ?_ _ | refine Below.drew ?_ | refine below_alloc' ?_ _))) ((unhide HT).below (by repeat (first | exact Below.refl _ _ | assumption | refine below_drewN ?_ _ | refine Below.drew ?_ | refine below_alloc' ?_ _)))).mono ?_
    rintro e w1 ⟨rfl, hP1, hK1⟩
    have hB := (unhide HRES) _ hK1
    obtain ⟨⟨b0, b1, b2, b3, b4, b5, b6⟩, f0, f1, f2, f3, f4, f5, f6⟩ := hB.seven
    have hk1 := ((Keeps.refl (fun k => k = bp) w).alloc (.cells zero7 26)).trans hK1 (fun _ _ h => h)
    have HB := hide hB; have HP1 := hide hP1; have HK1 := hide hk1; have HG1 := hide ((unhide HG) _ hk1)
    have hz1 : w.heap.size < w1.heap.size := hB.lt
    clear hP1 hK1 hB hk1 HRES
    go_wp2_with fail
    refine bodyPost_ret (results_cell rfl rfl (load7 (Blk.put7 (unhide HB)))) rfl ?_
    exact ⟨_, rfl, tree_plain 3 0, PAt.put7 (unhide HP1) (by omega) _ _ _ _ _ _ _, (unhide HK1).put7 (.inr (Nat.le_refl _)) _ _ _ _ _ _ _⟩
  by_cases e94 : c = 94
  · subst e94
    rw [if_neg (by omega), if_pos rfl]
    clear n40' n41' n91' n92'
    go_enter Tryd.func62, Tryd.ntmps62
    go_wp2_with fail
    refine (unhide HC _ ((unhide HP).below (by repeat (first | exact Below.refl _ _ | assumption | refine below_drewN ?_ _ | refine Below.drew ?_ | refine below_alloc' ?_ _))) ((unhide HT).below (by repeat (first | exact Below.refl _ _ | assumption | refine below_drewN ?_ _ | refine Below.drew ?_ | refine below_alloc' ?_ _)))).mono ?_
    rintro e w1 ⟨rfl, hP1, hK1⟩
    have hB := (unhide HRES) _ hK1
    obtain ⟨⟨b0, b1, b2, b3, b4, b5, b6⟩, f0, f1, f2, f3, f4, f5, f6⟩ := hB.seven
    have hk1 := ((Keeps.refl (fun k => k = bp) w).alloc (.cells zero7 26)).trans hK1 (fun _ _ h => h)
    have HB := hide hB; have HP1 := hide hP1; have HK1 := hide hk1; have HG1 := hide ((unhide HG) _ hk1)
    have hz1 : w.heap.size < w1.heap.size := hB.lt
    clear hP1 hK1 hB hk1 HRES
    go_wp2_with fail
    refine bodyPost_ret (results_cell rfl rfl (load7 (Blk.put7 (unhide HB)))) rfl ?_
    exact ⟨_, rfl, tree_plain 8 0, PAt.put7 (unhide HP1) (by omega) _ _ _ _ _ _ _, (unhide HK1).put7 (.inr (Nat.le_refl _)) _ _ _ _ _ _ _⟩
  by_cases e36 : c = 36
  · subst e36
    rw [if_neg (by omega), if_neg (by omega), if_pos rfl]
    clear n40' n41' n91' n92'
    go_enter Tryd.func62, Tryd.ntmps62
    go_wp2_with fail
    refine (unhide HC _ ((unhide HP).below (by repeat (first | exact Below.refl _ _ | assumption | refine below_drewN ?_ _ | refine Below.drew ?_ | refine below_alloc' ?_ _))) ((unhide HT).below (by repeat (first | exact Below.refl _ _ | assumption | refine below_drewN ?_ _ | refine Below.drew ?_ | refine below_alloc' ?_ _)))).mono ?_
    rintro e w1 ⟨rfl, hP1, hK1⟩
    have hB := (unhide HRES) _ hK1
    obtain ⟨⟨b0, b1, b2, b3, b4, b5, b6⟩, f0, f1, f2, f3, f4, f5, f6⟩ := hB.seven
    have hk1 := ((Keeps.refl (fun k => k = bp) w).alloc (.cells zero7 26)).trans hK1 (fun _ _ h => h)
    have HB := hide hB; have HP1 := hide hP1; have HK1 := hide hk1; have HG1 := hide ((unhide HG) _ hk1)
    have hz1 : w.heap.size < w1.heap.size := hB.lt
    clear hP1 hK1 hB hk1 HRES
    go_wp2_with fail
    refine bodyPost_ret (results_cell rfl rfl (load7 (Blk.put7 (unhide HB)))) rfl ?_
    exact ⟨_, rfl, tree_plain 9 0, PAt.put7 (unhide HP1) (by omega) _ _ _ _ _ _ _, (unhide HK1).put7 (.inr (Nat.le_refl _)) _ _ _ _ _ _ _⟩
  rw [if_neg e46, if_neg e94, if_neg e36]
  have n46 : (c == 46) = false := by simpa using e46
  have n94 : (c == 94) = false := by simpa using e94
  have n36 : (c == 36) = false := by simpa using e36
  clear e46 e94 e36
  go_enter Tryd.func62, Tryd.ntmps62
  go_wp2_with fail
  refine (unhide HC _ ((unhide HP).below (by repeat (first | exact Below.refl _ _ | assumption | refine below_drewN ?_ _ | refine Below.drew ?_ | refine below_alloc' ?_ _))) ((unhide HT).below (by repeat (first | exact Below.refl _ _ | assumption | refine below_drewN ?_ _ | refine Below.drew ?_ | refine below_alloc' ?_ _)))).mono ?_
  rintro e w1 ⟨rfl, hP1, hK1⟩
  have hB := (unhide HRES) _ hK1
  obtain ⟨⟨b0, b1, b2, b3, b4, b5, b6⟩, f0, f1, f2, f3, f4, f5, f6⟩ := hB.seven
  have hk1 := ((Keeps.refl (fun k => k = bp) w).alloc (.cells zero7 26)).trans hK1 (fun _ _ h => h)
  have HB := hide hB; have HP1 := hide hP1; have HK1 := hide hk1; have HG1 := hide ((unhide HG) _ hk1)
  have hz1 : w.heap.size < w1.heap.size := hB.lt
  clear hP1 hK1 hB hk1 HRES
  go_wp2_with fail
  refine bodyPost_ret (results_cell rfl rfl (load7 (Blk.put7 (unhide HB)))) rfl ?_
  exact ⟨_, rfl, tree_plain 2 c, PAt.put7 (unhide HP1) (by omega) _ _ _ _ _ _ _, (unhide HK1).put7 (.inr (Nat.le_refl _)) _ _ _ _ _ _ _⟩
end Go.Proofs.YtanmlgliibgpcaaDoor
