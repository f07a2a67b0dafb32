/- The walk of repeat. -/
import Derived.Test.YtanmlgliibgpcaaDoorRxN
namespace Go.Proofs.YtanmlgliibgpcaaDoor
open Go.RowKit Thr
set_option linter.unusedVariables false
set_option linter.unusedSimpArgs false

theorem results_cell_tmp' {fn : Func} {p u : Tmp} {ty : TypeId} {P : Program} {w : World} {g : Nat} {v x : Value} {tmps : Array Value} (h : fn.results = #[.cell p ty, .tmp u]) (hp : tmps.getD p undef = .pointer (some ⟨g, 0, none⟩)) (hu : tmps.getD u undef = x) (hl : (loadVar ty ⟨g, 0, none⟩).run P w = .ok v w) :
    (results fn tmps).run P w = .ok (.tuple #[v, x]) w := by
  have hp' : tmps[p]?.getD undef = .pointer (some ⟨g, 0, none⟩) := by rw [← hp]; simp
  have hu' : tmps[u]?.getD undef = x := by rw [← hu]; simp
  simp only [results, h]
  simp [Sem.run_bind, Result.andThen, hp', hu', asAddr, hl]
theorem tree_rep {ok : Nat → Prop} {W : World} {b : Nat} {k : Rx} {cs : List Value} (lo hi : Int) (hk : TreeAt ok W k cs) (hb : ok b) (hc : ∀ (j : Nat) (v : Value), cs[j]? = some v → W.cell? ⟨b, j, none⟩ = some v) :
    TreeAt ok W (repN lo hi k) [.int .i64 7, .int .i64 0, .bool false, .slice none 0 0, .int .i64 lo, .int .i64 hi, .slice (some ⟨b, 0, none⟩) 1 1] := by
  simp only [repN, TreeAt]
  refine ⟨_, _, _, rfl, SetAt.nil _ _, Nat.le_refl _, by omega, .inr ⟨b, 0, rfl, hb, ?_⟩⟩
  simp only [KidsAt, and_true]
  exact ⟨cs, hk, fun j v hv => by rw [Nat.zero_add]; exact hc j v hv⟩

def RepPost (ok : Nat → Prop) (bp : Nat) (s : ByteArray) (bytes : Bool) (nest i : Nat) (last : Rx) (w w' : World) (e : Ending) : Again → Prop
  | .no => e = .returned (.tuple #[.agg zero7, .bool false]) ∧ Below w.heap.size w w'
  | .fault er => Gives bp i er w w' e
  | .yes lo hi k => ∃ cs, e = .returned (.tuple #[.agg cs.toArray, .bool true]) ∧ TreeAt (fun k => ok k ∨ w.heap.size ≤ k) w' (repN lo hi last) cs ∧ PAt w' bp s k bytes nest ∧ Keeps (fun k => k = bp) w w'

theorem rep_end {ok : Nat → Prop} {bp : Nat} {s : ByteArray} {i k : Nat} {bytes : Bool} {nest : Nat} {last : Rx} {csl : List Value} {w W1 : World} (lo hi : Int) (hT : TreeAt ok w last csl) (hok : ∀ k, ok k → k ≠ bp) (hbp : bp < w.heap.size)
    (hk : Keeps (fun k => k = bp) w W1) (hr : Blk W1 w.heap.size 26 zero7) (hp : PAt W1 bp s k bytes nest) (hz : W1.heap.size = w.heap.size + 1) :
    Blk ((put7 W1 w.heap.size (.int .i64 7) (.int .i64 0) (.bool false) (.slice none 0 0) (.int .i64 lo) (.int .i64 hi) (.slice (some ⟨w.heap.size + 1, 0, none⟩) 1 1)).alloc (.cells csl.toArray 26)) w.heap.size 26 #[.int .i64 7, .int .i64 0, .bool false, .slice none 0 0, .int .i64 lo, .int .i64 hi, .slice (some ⟨w.heap.size + 1, 0, none⟩) 1 1] ∧
    RepPost ok bp s bytes nest i last w ((put7 W1 w.heap.size (.int .i64 7) (.int .i64 0) (.bool false) (.slice none 0 0) (.int .i64 lo) (.int .i64 hi) (.slice (some ⟨w.heap.size + 1, 0, none⟩) 1 1)).alloc (.cells csl.toArray 26))
      (.returned (.tuple #[.agg #[.int .i64 7, .int .i64 0, .bool false, .slice none 0 0, .int .i64 lo, .int .i64 hi, .slice (some ⟨w.heap.size + 1, 0, none⟩) 1 1], .bool true])) (.yes lo hi k) := by
  have hz7 : (put7 W1 w.heap.size (.int .i64 7) (.int .i64 0) (.bool false) (.slice none 0 0) (.int .i64 lo) (.int .i64 hi) (.slice (some ⟨w.heap.size + 1, 0, none⟩) 1 1)).heap.size = w.heap.size + 1 := by
    unfold put7
    simp [hz]
  have hKK := (hk.put7 (g := w.heap.size) (.inr (Nat.le_refl _)) (.int .i64 7) (.int .i64 0) (.bool false) (.slice none 0 0) (.int .i64 lo) (.int .i64 hi) (.slice (some ⟨w.heap.size + 1, 0, none⟩) 1 1)).alloc (.cells csl.toArray 26)
  refine ⟨(Blk.put7 hr).alloc _, _, rfl, ?_, (hp.put7 (by omega) _ _ _ _ _ _ _).alloc _, hKK⟩
  refine tree_rep (cs := csl) lo hi ?_ (.inr (by omega)) (fun j v hj => ?_)
  · have h1 : TreeAt (fun k => ok k ∧ k < w.heap.size) w last csl := TreeAt.bound _ _ hT
    refine TreeAt.mono (fun k hk => .inl hk.1) _ _ (TreeAt.step (fun k hk hlt => ?_) _ _ h1)
    exact hKK.block k hlt (hok k hk.1)
  · have hb := heap_alloc_new (put7 W1 w.heap.size (.int .i64 7) (.int .i64 0) (.bool false) (.slice none 0 0) (.int .i64 lo) (.int .i64 hi) (.slice (some ⟨w.heap.size + 1, 0, none⟩) 1 1)) (.cells csl.toArray 26)
    rw [hz7] at hb
    rw [cell_of_row _ _ j _ _ (0, 0) hb]
    simpa using hj

set_option maxRecDepth 100000 in
set_option maxHeartbeats 16000000 in
theorem rxrep_nil {bp : Nat} (vA : Option Addr) (c : Nat) (w : World) :
    Calls Tryd.prog 61 #[.pointer (some ⟨bp, 0, none⟩), .slice vA 0 c] w fun e w' => e = .returned (.tuple #[.agg zero7, .bool false]) ∧ Below w.heap.size w w' := by
  go_enter Tryd.func61, Tryd.ntmps61
  go_wp2_with fail
  refine bodyPost_ret (results_cell_tmp' rfl rfl rfl (load7 (Blk.new w _ _))) rfl ?_
  exact ⟨rfl, (by repeat (first | exact Below.refl _ _ | assumption | refine below_drewN ?_ _ | refine Below.drew ?_ | refine below_alloc' ?_ _))⟩

set_option maxRecDepth 100000 in
set_option maxHeartbeats 64000000 in
theorem rxrep_calls {ok : Nat → Prop} {bp g m cap : Nat} {s : ByteArray} {i : Nat} {bytes : Bool} {nest : Nat} (last : Rx) (csl : List Value) (w : World) (hP : PAt w bp s i bytes nest) (hi : i < s.size) (hm : s.size ≤ 1024) (hml : m ≤ 2000)
    (ht : TreeAt ok w last csl) (hc : ∀ (j : Nat) (v : Value), csl[j]? = some v → w.cell? ⟨g, m * 7 + j, none⟩ = some v) (hg : g ≠ bp) (hok : ∀ k, ok k → k ≠ bp) :
    Calls Tryd.prog 61 #[.pointer (some ⟨bp, 0, none⟩), .slice (some ⟨g, 0, none⟩) (m + 1) cap] w fun e w' => RepPost ok bp s bytes nest i last w w' e (againF s i) := by
  obtain ⟨R, hR⟩ : ∃ R, againF s i = R := ⟨_, rfl⟩
  rw [hR]
  unfold againF at hR
  have p0 := hP.cell 0
  have p1 := hP.cell 1
  have pf := hP.frozen 1
  have hbp := hP.lt
  simp at p0 p1
  have hb := byt_at hi
  have hr := byt_range s i
  obtain ⟨b, hb0⟩ : ∃ b, byt s i = b := ⟨_, rfl⟩
  rw [hb0] at hb hr hR
  have HT := hide ht
  obtain ⟨k1, k2, k3, As, ls, cs', k5, k6, A, lk, cc, rfl⟩ := ht.form
  have c0 := hc 0 _ rfl
  have c1 := hc 1 _ rfl
  have c2 := hc 2 _ rfl
  have c3 := hc 3 _ rfl
  have c4 := hc 4 _ rfl
  have c5 := hc 5 _ rfl
  have c6 := hc 6 _ rfl
  simp only [Nat.add_zero] at c0
  have hgl := World.block_lt_of_cell? w _ c0
  have m1 : (0 : Int) ≤ m := by omega
  have m2 : (m : Int) < m + 1 := by omega
  have HP := hide hP; have HR := hide hR; have HOK := hide hok
  clear hP hR hc ht hb0 hok
  by_cases e42 : b = 42
  · subst e42
    have hR := unhide HR
    rw [if_pos rfl] at hR
    subst hR
    clear HR
    go_enter Tryd.func61, Tryd.ntmps61
    go_wp2_with fail
    go_quiet (fail)
    go_wp2_with fail
    have hE := rep_end (i := i) (k := i + 1) 0 (-1) (unhide HT) (unhide HOK) hbp (W1 := ((w.alloc (.cells zero7 26)).drewN nq).setCell ⟨bp, 1, none⟩ (.int .i64 ((i : Int) + 1)))
      ((((Keeps.refl (fun k => k = bp) w).alloc _).drewN _).setCell (p := ⟨bp, 1, none⟩) (.inl rfl) _) (((Blk.new w _ _).drewN _).far (by simp only; omega) _) (PAt.go_on (w := (w.alloc (.cells zero7 26)).drewN nq) (Blk.drewN (Blk.alloc (unhide HP) _) _) (i + 1)) (by simp)
    refine bodyPost_ret (results_cell_tmp' rfl rfl rfl (load7 hE.1)) rfl ?_
    exact hE.2
  by_cases e43 : b = 43
  · subst e43
    have hR := unhide HR
    rw [if_neg (by omega), if_pos rfl] at hR
    subst hR
    clear HR
    go_enter Tryd.func61, Tryd.ntmps61
    go_wp2_with fail
    go_quiet (fail)
    go_wp2_with fail
    have hE := rep_end (i := i) (k := i + 1) 1 (-1) (unhide HT) (unhide HOK) hbp (W1 := ((w.alloc (.cells zero7 26)).drewN nq).setCell ⟨bp, 1, none⟩ (.int .i64 ((i : Int) + 1)))
      ((((Keeps.refl (fun k => k = bp) w).alloc _).drewN _).setCell (p := ⟨bp, 1, none⟩) (.inl rfl) _) (((Blk.new w _ _).drewN _).far (by simp only; omega) _) (PAt.go_on (w := (w.alloc (.cells zero7 26)).drewN nq) (Blk.drewN (Blk.alloc (unhide HP) _) _) (i + 1)) (by simp)
    refine bodyPost_ret (results_cell_tmp' rfl rfl rfl (load7 hE.1)) rfl ?_
    exact hE.2
  by_cases e63 : b = 63
  · subst e63
    have hR := unhide HR
    rw [if_neg (by omega), if_neg (by omega), if_pos rfl] at hR
    subst hR
    clear HR
    go_enter Tryd.func61, Tryd.ntmps61
    go_wp2_with fail
    go_quiet (fail)
    go_wp2_with fail
    have hE := rep_end (i := i) (k := i + 1) 0 1 (unhide HT) (unhide HOK) hbp (W1 := ((w.alloc (.cells zero7 26)).drewN nq).setCell ⟨bp, 1, none⟩ (.int .i64 ((i : Int) + 1)))
      ((((Keeps.refl (fun k => k = bp) w).alloc _).drewN _).setCell (p := ⟨bp, 1, none⟩) (.inl rfl) _) (((Blk.new w _ _).drewN _).far (by simp only; omega) _) (PAt.go_on (w := (w.alloc (.cells zero7 26)).drewN nq) (Blk.drewN (Blk.alloc (unhide HP) _) _) (i + 1)) (by simp)
    refine bodyPost_ret (results_cell_tmp' rfl rfl rfl (load7 hE.1)) rfl ?_
    exact hE.2
  have n42 : (b == 42) = false := by simpa using e42
  have n43 : (b == 43) = false := by simpa using e43
  have n63 : (b == 63) = false := by simpa using e63
  have hR := unhide HR
  rw [if_neg e42, if_neg e43, if_neg e63] at hR
  clear HR
  by_cases e123 : b = 123
  · subst e123
    rw [if_pos rfl] at hR
    clear e42 e43 e63 n42 n43 n63
    have hI := fun w => interval_calls (s.extract i s.size) w (by rw [tail_size]; omega) (by rw [tail_size]; omega)
    rw [itv_tail s i hi] at hI
    have b1 : (0 : Int) ≤ (i : Int) := by omega
    have b2 : (i : Int) ≤ s.size := by omega
    have b3 : ((i : Int)).toNat = i := by omega
    have b4 : IntKind.i64.wrap (i : Int) = (i : Int) := by rw [IntKind.wrap_i64]; omega
    cases hit : itvF s i with
    | none =>
      rw [hit] at hR hI
      subst hR
      simp only [Option.map_none, itvV] at hI
      have HI := hide hI
      clear hI hit
      go_enter Tryd.func61, Tryd.ntmps61
      go_wp2_with fail
      go_quiet (fail)
      go_wp2_with fail
      go_region_held3 (fun w' => w'.cell? ⟨bp, 0, none⟩ = some (.string s) ∧ w'.cell? ⟨bp, 1, none⟩ = some (.int .i64 i)) (go_keep) ((go_at_call 65; refine (unhide HI _).mono ?_; rintro e w2 ⟨rfl, hw⟩; obtain rfl := hw.symm))
      go_wp2_with fail
      refine bodyPost_ret (results_cell_tmp' rfl rfl rfl (load7 (Blk.put7 (Blk.drewN (Blk.new w 26 zero7) _)))) rfl ?_
      exact ⟨rfl, ((((Keeps.refl (fun _ => False) w).alloc _).drewN _).put7 (.inr (Nat.le_refl _)) _ _ _ _ _ _ _).none_below⟩
    | some q =>
      obtain ⟨lo, hi', k⟩ := q
      have hkl := itv_le hit
      rw [hit] at hR hI
      simp only [Option.map_some, itvV] at hR hI
      have hn0 : (((k - i : Nat) : Int) == 0) = false := by simp; omega
      obtain ⟨n, rfl⟩ : ∃ n, k = i + (n + 1) := ⟨k - i - 1, by omega⟩
      rw [show i + (n + 1) - i = n + 1 by omega] at hI hn0
      have HI := hide hI
      clear hI hit
      by_cases h30 : 30 < lo ∨ 30 < hi'
      · rw [if_pos h30] at hR
        subst hR
        by_cases hl : 30 < lo
        · have g1 : decide (30 < lo) = true := decide_eq_true hl
          clear hl h30
          go_enter Tryd.func61, Tryd.ntmps61
          go_wp2_with fail
          go_quiet (fail)
          go_wp2_with fail
          go_region_held3 (fun w' => w'.cell? ⟨bp, 0, none⟩ = some (.string s) ∧ w'.cell? ⟨bp, 1, none⟩ = some (.int .i64 i)) (go_keep) ((go_at_call 65; refine (unhide HI _).mono ?_; rintro e w2 ⟨rfl, hw⟩; obtain rfl := hw.symm))
          go_wp2_with fail
          refine (fail_calls _ _ _ _).mono ?_
          rintro e w' ⟨rfl, hw⟩
          obtain rfl := hw.symm
          exact ⟨rfl, rfl, (((Keeps.refl _ _).alloc _).drewN _)⟩
        · have g1 : decide (30 < lo) = false := decide_eq_false hl
          have g2 : decide (30 < hi') = true := decide_eq_true (h30.resolve_left hl)
          clear hl h30
          go_enter Tryd.func61, Tryd.ntmps61
          go_wp2_with fail
          go_quiet (fail)
          go_wp2_with fail
          go_region_held3 (fun w' => w'.cell? ⟨bp, 0, none⟩ = some (.string s) ∧ w'.cell? ⟨bp, 1, none⟩ = some (.int .i64 i)) (go_keep) ((go_at_call 65; refine (unhide HI _).mono ?_; rintro e w2 ⟨rfl, hw⟩; obtain rfl := hw.symm))
          go_wp2_with fail
          refine (fail_calls _ _ _ _).mono ?_
          rintro e w' ⟨rfl, hw⟩
          obtain rfl := hw.symm
          exact ⟨rfl, rfl, (((Keeps.refl _ _).alloc _).drewN _)⟩
      · rw [if_neg h30] at hR
        have g1 : decide (30 < lo) = false := decide_eq_false (by omega)
        have g2 : decide (30 < hi') = false := decide_eq_false (by omega)
        by_cases hlt : 0 ≤ hi' ∧ hi' < lo
        · rw [if_pos hlt] at hR
          subst hR
          have g3 : decide (0 ≤ hi') = true := decide_eq_true hlt.1
          have g4 : decide (hi' < lo) = true := decide_eq_true hlt.2
          clear hlt h30
          go_enter Tryd.func61, Tryd.ntmps61
          go_wp2_with fail
          go_quiet (fail)
          go_wp2_with fail
          go_region_held3 (fun w' => w'.cell? ⟨bp, 0, none⟩ = some (.string s) ∧ w'.cell? ⟨bp, 1, none⟩ = some (.int .i64 i)) (go_keep) ((go_at_call 65; refine (unhide HI _).mono ?_; rintro e w2 ⟨rfl, hw⟩; obtain rfl := hw.symm))
          go_wp2_with fail
          refine (fail_calls _ _ _ _).mono ?_
          rintro e w' ⟨rfl, hw⟩
          obtain rfl := hw.symm
          exact ⟨rfl, rfl, (((Keeps.refl _ _).alloc _).drewN _)⟩
        · rw [if_neg hlt] at hR
          subst hR
          have hfin : ∀ (W : World), PAt W bp s i bytes nest → PAt ((W.setCell ⟨bp, 1, none⟩ (.int .i64 ((i : Int) + n))).setCell ⟨bp, 1, none⟩ (.int .i64 ((i : Int) + n + 1))) bp s (i + (n + 1)) bytes nest := fun W h => by
            have := (h.go_on (i + n)).go_on (i + (n + 1))
            rw [show ((i + n : Nat) : Int) = (i : Int) + n by omega, show ((i + (n + 1) : Nat) : Int) = (i : Int) + n + 1 by omega] at this
            exact this
          have HFIN := hide hfin
          have g5 : (n : Int) ≤ 1024 := by omega
          clear hfin
          rcases Int.lt_or_le hi' 0 with hh | hh
          · have g3 : decide (0 ≤ hi') = false := decide_eq_false (by omega)
            clear hlt h30 hh
            go_enter Tryd.func61, Tryd.ntmps61
            go_wp2_with fail
            go_quiet (fail)
            go_wp2_with fail
            go_region_held3 (fun w' => w'.cell? ⟨bp, 0, none⟩ = some (.string s) ∧ w'.cell? ⟨bp, 1, none⟩ = some (.int .i64 i)) (go_keep) ((go_at_call 65; refine (unhide HI _).mono ?_; rintro e w2 ⟨rfl, hw⟩; obtain rfl := hw.symm))
            go_wp2_with fail
            have hE := fun nn => rep_end (i := i) (k := i + (n + 1)) lo hi' (unhide HT) (unhide HOK) hbp (W1 := (((w.alloc (.cells zero7 26)).drewN nn).setCell ⟨bp, 1, none⟩ (.int .i64 ((i : Int) + n))).setCell ⟨bp, 1, none⟩ (.int .i64 ((i : Int) + n + 1)))
              (((((Keeps.refl (fun k => k = bp) w).alloc _).drewN _).setCell (p := ⟨bp, 1, none⟩) (.inl rfl) _).setCell (p := ⟨bp, 1, none⟩) (.inl rfl) _) ((((Blk.new w _ _).drewN _).far (by simp only; omega) _).far (by simp only; omega) _) ((unhide HFIN) _ (Blk.drewN (Blk.alloc (unhide HP) _) _)) (by simp)
            refine bodyPost_ret (results_cell_tmp' rfl rfl rfl (load7 (hE _).1)) rfl ?_
            exact (hE _).2
          · have g3 : decide (0 ≤ hi') = true := decide_eq_true hh
            have g4 : decide (hi' < lo) = false := decide_eq_false (by omega)
            clear hlt h30 hh
            go_enter Tryd.func61, Tryd.ntmps61
            go_wp2_with fail
            go_quiet (fail)
            go_wp2_with fail
            go_region_held3 (fun w' => w'.cell? ⟨bp, 0, none⟩ = some (.string s) ∧ w'.cell? ⟨bp, 1, none⟩ = some (.int .i64 i)) (go_keep) ((go_at_call 65; refine (unhide HI _).mono ?_; rintro e w2 ⟨rfl, hw⟩; obtain rfl := hw.symm))
            go_wp2_with fail
            have hE := fun nn => rep_end (i := i) (k := i + (n + 1)) lo hi' (unhide HT) (unhide HOK) hbp (W1 := (((w.alloc (.cells zero7 26)).drewN nn).setCell ⟨bp, 1, none⟩ (.int .i64 ((i : Int) + n))).setCell ⟨bp, 1, none⟩ (.int .i64 ((i : Int) + n + 1)))
              (((((Keeps.refl (fun k => k = bp) w).alloc _).drewN _).setCell (p := ⟨bp, 1, none⟩) (.inl rfl) _).setCell (p := ⟨bp, 1, none⟩) (.inl rfl) _) ((((Blk.new w _ _).drewN _).far (by simp only; omega) _).far (by simp only; omega) _) ((unhide HFIN) _ (Blk.drewN (Blk.alloc (unhide HP) _) _)) (by simp)
            refine bodyPost_ret (results_cell_tmp' rfl rfl rfl (load7 (hE _).1)) rfl ?_
            exact (hE _).2
  · have n123 : (b == 123) = false := by simpa using e123
    rw [if_neg e123] at hR
    subst hR
    clear e42 e43 e63 e123
    go_enter Tryd.func61, Tryd.ntmps61
    go_wp2_with fail
    go_quiet (fail)
    go_wp2_with fail
    refine bodyPost_ret (results_cell_tmp' rfl rfl rfl (load7 (Blk.put7 (Blk.drewN (Blk.new w 26 zero7) _)))) rfl ?_
    exact ⟨rfl, ((((Keeps.refl (fun _ => False) w).alloc _).drewN _).put7 (.inr (Nat.le_refl _)) _ _ _ _ _ _ _).none_below⟩
end Go.Proofs.YtanmlgliibgpcaaDoor
