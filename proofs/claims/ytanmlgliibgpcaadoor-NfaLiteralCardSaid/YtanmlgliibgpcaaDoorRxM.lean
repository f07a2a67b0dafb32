/- The walk of escape. -/
import Derived.Test.YtanmlgliibgpcaaDoorRxL
namespace Go.Proofs.YtanmlgliibgpcaaDoor
open Go.RowKit Thr
set_option linter.unusedVariables false
set_option linter.unusedSimpArgs false

set_option maxHeartbeats 4000000 in
theorem see_quiet {bp : Nat} {s : ByteArray} {i : Nat} {bytes : Bool} {nest : Nat} (t : ByteArray) (w : World) (hP : PAt w bp s i bytes nest) (hi : i ≤ s.size) (hm : s.size ≤ 1024) :
    Calls Tryd.prog 51 #[.pointer (some ⟨bp, 0, none⟩), .string t] w fun e w' => e = .returned (.bool (seeF s i t)) ∧ ∃ m, w' = w.drewN m := by
  have c0 := hP.cell 0
  have c1 := hP.cell 1
  have hbp := hP.lt
  simp at c0 c1
  have hpre := fun w => Tryd.strings_HasPrefix (s.extract i s.size) t w
  unfold seeF
  obtain ⟨F, hF⟩ : ∃ F, Lib.hasPrefix (s.extract i s.size).data.toList t.data.toList = F := ⟨_, rfl⟩
  rw [hF]
  rw [hF] at hpre
  have HPRE := hide hpre
  clear hP hpre hF
  go_enter Tryd.func51, Tryd.ntmps51
  go_wp2_with fail
  go_quiet ((go_at_call 63; exact Calls.quiet_of_same (unhide HPRE _)))
  go_wp2_with fail
  go_ret
  exact ⟨rfl, _, rfl⟩

/-- How a part of the parser ends that reads one node. -/
def NodePost (bp : Nat) (s : ByteArray) (bytes : Bool) (nest : Nat) (from_ : Int) (w w' : World) (e : Ending) : Option (Rx × Nat) → Prop
  | none => Gives bp from_ 90 w w' e
  | some (x, k) => ∃ cs, e = .returned (.agg cs.toArray) ∧ TreeAt (fun k => w.heap.size ≤ k) w' x cs ∧ PAt w' bp s k bytes nest ∧ Keeps (fun k => k = bp) w w'
theorem Blk.seven {w : World} {g : Nat} {t : TypeId} {a b c d e f k : Value} (h : Blk w g t #[a, b, c, d, e, f, k]) :
    (w.cell? ⟨g, 0, none⟩ = some a ∧ w.cell? ⟨g, 1, none⟩ = some b ∧ w.cell? ⟨g, 2, none⟩ = some c ∧ w.cell? ⟨g, 3, none⟩ = some d ∧ w.cell? ⟨g, 4, none⟩ = some e ∧ w.cell? ⟨g, 5, none⟩ = some f ∧ w.cell? ⟨g, 6, none⟩ = some k) ∧
    (w.frozen? ⟨g, 0, none⟩ = false ∧ w.frozen? ⟨g, 1, none⟩ = false ∧ w.frozen? ⟨g, 2, none⟩ = false ∧ w.frozen? ⟨g, 3, none⟩ = false ∧ w.frozen? ⟨g, 4, none⟩ = false ∧ w.frozen? ⟨g, 5, none⟩ = false ∧ w.frozen? ⟨g, 6, none⟩ = false) :=
  ⟨⟨h.cell 0, h.cell 1, h.cell 2, h.cell 3, h.cell 4, h.cell 5, h.cell 6⟩, h.frozen 0, h.frozen 1, h.frozen 2, h.frozen 3, h.frozen 4, h.frozen 5, h.frozen 6⟩
def zero7 : Array Value := #[.int .i64 0, .int .i64 0, .bool false, .slice none 0 0, .int .i64 0, .int .i64 0, .slice none 0 0]
theorem tree_plain {ok : Nat → Prop} {W : World} (kind code : Int) : TreeAt ok W (.mk kind code false [] 0 0 []) [.int .i64 kind, .int .i64 code, .bool false, .slice none 0 0, .int .i64 0, .int .i64 0, .slice none 0 0] := by
  simp only [TreeAt]
  exact ⟨_, _, _, rfl, SetAt.nil _ _, Nat.le_refl _, by omega, .inl trivial⟩
theorem tree_set {ok : Nat → Prop} {W : World} (neg : Bool) (l : List (Int × Int)) (v : Value) (h : SetAt ok W v l) : TreeAt ok W (setN neg l) [.int .i64 4, .int .i64 0, .bool neg, v, .int .i64 0, .int .i64 0, .slice none 0 0] := by
  simp only [setN, TreeAt]
  exact ⟨_, _, _, rfl, h, Nat.le_refl _, by omega, .inl trivial⟩

theorem results_cell {fn : Func} {p : Tmp} {ty : TypeId} {P : Program} {w : World} {g : Nat} {v : Value} {tmps : Array Value} (h : fn.results = #[.cell p ty]) (hp : tmps.getD p undef = .pointer (some ⟨g, 0, none⟩)) (hl : (loadVar ty ⟨g, 0, none⟩).run P w = .ok v w) : (results fn tmps).run P w = .ok v w := by
  have hp' : tmps[p]?.getD undef = .pointer (some ⟨g, 0, none⟩) := by rw [← hp]; simp
  simp only [results, h]
  simp [Sem.run_bind, Result.andThen, hp', asAddr, hl]
theorem load7 {w : World} {g : Nat} {a b c d e f k : Value} (h : Blk w g 26 #[a, b, c, d, e, f, k]) : (loadVar 26 ⟨g, 0, none⟩).run Tryd.prog w = .ok (.agg #[a, b, c, d, e, f, k]) w := by
  obtain ⟨⟨b0, b1, b2, b3, b4, b5, b6⟩, f0, f1, f2, f3, f4, f5, f6⟩ := h.seven
  have a1 := Tryd.isAgg26
  have a2 := Tryd.sizeOf26
  go_simp
/-- A node's seven cells stored one by one. -/
def put7 (w : World) (g : Nat) (a b c d e f k : Value) : World :=
  ((((((w.setCell ⟨g, 0, none⟩ a).setCell ⟨g, 1, none⟩ b).setCell ⟨g, 2, none⟩ c).setCell ⟨g, 3, none⟩ d).setCell ⟨g, 4, none⟩ e).setCell ⟨g, 5, none⟩ f).setCell ⟨g, 6, none⟩ k
theorem Blk.put7 {w : World} {g : Nat} {t : TypeId} {a b c d e f k a' b' c' d' e' f' k' : Value} (h : Blk w g t #[a, b, c, d, e, f, k]) : Blk (put7 w g a' b' c' d' e' f' k') g t #[a', b', c', d', e', f', k'] := by
  unfold Go.Proofs.YtanmlgliibgpcaaDoor.put7
  have := (((((((h.set_ 0 a').set_ 1 b').set_ 2 c').set_ 3 d').set_ 4 e').set_ 5 f').set_ 6 k')
  simpa using this
theorem Keeps.put7 {S : Nat → Prop} {a w : World} (h : Keeps S a w) {g : Nat} (hg : S g ∨ a.heap.size ≤ g) (x0 x1 x2 x3 x4 x5 x6 : Value) : Keeps S a (put7 w g x0 x1 x2 x3 x4 x5 x6) :=
  ((((((h.setCell (p := ⟨g, 0, none⟩) hg x0).setCell (p := ⟨g, 1, none⟩) hg x1).setCell (p := ⟨g, 2, none⟩) hg x2).setCell (p := ⟨g, 3, none⟩) hg x3).setCell (p := ⟨g, 4, none⟩) hg x4).setCell (p := ⟨g, 5, none⟩) hg x5).setCell (p := ⟨g, 6, none⟩) hg x6
theorem heap_put7 (w : World) (g : Nat) (x0 x1 x2 x3 x4 x5 x6 : Value) (j : Nat) (hj : j ≠ g) : (put7 w g x0 x1 x2 x3 x4 x5 x6).heap[j]? = w.heap[j]? := by
  unfold put7
  repeat rw [Below.heap_setCell _ _ _ j (by simpa using hj)]
theorem PAt.put7 {w : World} {bp : Nat} {s : ByteArray} {i : Nat} {bytes : Bool} {nest : Nat} (h : PAt w bp s i bytes nest) {g : Nat} (hg : bp ≠ g) (x0 x1 x2 x3 x4 x5 x6 : Value) : PAt (Go.Proofs.YtanmlgliibgpcaaDoor.put7 w g x0 x1 x2 x3 x4 x5 x6) bp s i bytes nest := (heap_put7 w g x0 x1 x2 x3 x4 x5 x6 bp hg).trans h
set_option maxRecDepth 100000 in
set_option maxHeartbeats 16000000 in
theorem escape_calls {bp : Nat} {s : ByteArray} {i : Nat} {bytes : Bool} {nest : Nat} (from_ : Int) (w : World) (hP : PAt w bp s (i + 1) bytes nest) (hT : Tabs w) (hi : i + 1 ≤ s.size) (hm : s.size ≤ 1024) :
    Calls Tryd.prog 70 #[.pointer (some ⟨bp, 0, none⟩), .int .i64 from_] w fun e w' => NodePost bp s bytes nest from_ w w' e (escF s i bytes) := by
  obtain ⟨O, hO⟩ : ∃ O, escF s i bytes = O := ⟨_, rfl⟩
  rw [hO]
  unfold escF at hO
  have c0 := hP.cell 0
  have c1 := hP.cell 1
  have hbp := hP.lt
  simp at c0 c1
  by_cases hge : s.size ≤ i + 1
  · have hz := (next_le (i := i + 1) (sized_all s bytes)).2.2 hge
    rw [show ((i + 1 : Nat) : Int) = (i : Int) + 1 by omega] at hz
    rw [if_pos hz] at hO
    subst hO
    have hle : decide ((s.size : Int) ≤ (i : Int) + 1) = true := decide_eq_true (by omega)
    clear hP hT hz
    go_enter Tryd.func70, Tryd.ntmps70
    go_wp2_with fail
    go_quiet (fail)
    go_wp2_with fail
    refine (fail_calls _ _ _ _).mono ?_
    rintro e w' ⟨rfl, hw⟩
    obtain rfl := hw.symm
    exact ⟨rfl, rfl, ((Keeps.refl _ _).alloc _).drewN _⟩
  have hlt : i + 1 < s.size := by omega
  have hle : decide ((s.size : Int) ≤ (i : Int) + 1) = false := decide_eq_false (by omega)
  have hn := (next_le (i := i + 1) (sized_all s bytes)).2.1 hlt
  have hcb := code_bound (bytes := bytes) hlt
  have hch := fun w1 hP1 hT1 => char_calls (bp := bp) (s := s) (i := i + 1) (bytes := bytes) (nest := nest) w1 hP1 hT1 (by omega) hm
  rw [show ((i + 1 : Nat) : Int) = (i : Int) + 1 by omega] at hn hcb hch
  rw [if_neg (by omega)] at hO
  simp only at hO
  generalize nextF s ((i : Int) + 1) bytes = z at *
  obtain ⟨c, n⟩ := z
  simp only at hn hch hO hcb
  have HP := hide hP; have HT := hide hT; have HC := hide hch
  clear hP hT hch
  have hrest : ∀ (w0 w1 : World), Keeps (fun k => k = bp) w0 w1 → w0.heap = (w.alloc (.cells zero7 26)).heap → Blk w1 w.heap.size 26 zero7 := by
    intro w0 w1 hk h0
    have hb : Blk w0 w.heap.size 26 zero7 := by
      unfold Blk
      rw [h0]
      exact heap_alloc_new w _
    exact hb.keeps hk (by omega)
  by_cases e121 : c = 121
  · subst e121
    rw [if_pos rfl] at hO
    subst hO
    go_enter Tryd.func70, Tryd.ntmps70
    go_wp2_with fail
    go_quiet (fail)
    go_wp2_with fail
    refine (unhide HC _ ((unhide HP).below (by repeat (first | exact Below.refl _ _ | assumption | refine below_drewN ?_ _ | refine Below.drew ?_ | refine below_alloc' ?_ _))) ((unhide HT).below (by repeat (first | exact Below.refl _ _ | assumption | refine below_drewN ?_ _ | refine Below.drew ?_ | refine below_alloc' ?_ _)))).mono ?_
    rintro e w1 ⟨rfl, hP1, hK1⟩
    have hB := hrest _ _ hK1 rfl
    obtain ⟨⟨b0, b1, b2, b3, b4, b5, b6⟩, f0, f1, f2, f3, f4, f5, f6⟩ := hB.seven
    have HB := hide hB; have HP1 := hide hP1; have HK1 := hide ((((Keeps.refl (fun k => k = bp) w).alloc _).drewN _).trans hK1 (fun _ _ h => h))
    have hz1 : w.heap.size < w1.heap.size := by have := hK1.size; simp at this; omega
    clear hP1 hK1 hB hrest
    go_wp2_with fail
    refine bodyPost_ret (results_cell rfl rfl (load7 (Blk.put7 (unhide HB)))) rfl ?_
    exact ⟨_, rfl, tree_plain 10 0, (unhide HP1).put7 (by omega) _ _ _ _ _ _ _, (unhide HK1).put7 (.inr (Nat.le_refl _)) _ _ _ _ _ _ _⟩
  by_cases e66 : c = 66
  · subst e66
    rw [if_neg (by omega), if_pos rfl] at hO
    subst hO
    go_enter Tryd.func70, Tryd.ntmps70
    go_wp2_with fail
    go_quiet (fail)
    go_wp2_with fail
    refine (unhide HC _ ((unhide HP).below (by repeat (first | exact Below.refl _ _ | assumption | refine below_drewN ?_ _ | refine Below.drew ?_ | refine below_alloc' ?_ _))) ((unhide HT).below (by repeat (first | exact Below.refl _ _ | assumption | refine below_drewN ?_ _ | refine Below.drew ?_ | refine below_alloc' ?_ _)))).mono ?_
    rintro e w1 ⟨rfl, hP1, hK1⟩
    have hB := hrest _ _ hK1 rfl
    obtain ⟨⟨b0, b1, b2, b3, b4, b5, b6⟩, f0, f1, f2, f3, f4, f5, f6⟩ := hB.seven
    have HB := hide hB; have HP1 := hide hP1; have HK1 := hide ((((Keeps.refl (fun k => k = bp) w).alloc _).drewN _).trans hK1 (fun _ _ h => h))
    have hz1 : w.heap.size < w1.heap.size := by have := hK1.size; simp at this; omega
    clear hP1 hK1 hB hrest
    go_wp2_with fail
    refine bodyPost_ret (results_cell rfl rfl (load7 (Blk.put7 (unhide HB)))) rfl ?_
    exact ⟨_, rfl, tree_plain 11 0, (unhide HP1).put7 (by omega) _ _ _ _ _ _ _, (unhide HK1).put7 (.inr (Nat.le_refl _)) _ _ _ _ _ _ _⟩
  by_cases e60 : c = 60
  · subst e60
    rw [if_neg (by omega), if_neg (by omega), if_pos rfl] at hO
    subst hO
    go_enter Tryd.func70, Tryd.ntmps70
    go_wp2_with fail
    go_quiet (fail)
    go_wp2_with fail
    refine (unhide HC _ ((unhide HP).below (by repeat (first | exact Below.refl _ _ | assumption | refine below_drewN ?_ _ | refine Below.drew ?_ | refine below_alloc' ?_ _))) ((unhide HT).below (by repeat (first | exact Below.refl _ _ | assumption | refine below_drewN ?_ _ | refine Below.drew ?_ | refine below_alloc' ?_ _)))).mono ?_
    rintro e w1 ⟨rfl, hP1, hK1⟩
    have hB := hrest _ _ hK1 rfl
    obtain ⟨⟨b0, b1, b2, b3, b4, b5, b6⟩, f0, f1, f2, f3, f4, f5, f6⟩ := hB.seven
    have HB := hide hB; have HP1 := hide hP1; have HK1 := hide ((((Keeps.refl (fun k => k = bp) w).alloc _).drewN _).trans hK1 (fun _ _ h => h))
    have hz1 : w.heap.size < w1.heap.size := by have := hK1.size; simp at this; omega
    clear hP1 hK1 hB hrest
    go_wp2_with fail
    refine bodyPost_ret (results_cell rfl rfl (load7 (Blk.put7 (unhide HB)))) rfl ?_
    exact ⟨_, rfl, tree_plain 12 0, (unhide HP1).put7 (by omega) _ _ _ _ _ _ _, (unhide HK1).put7 (.inr (Nat.le_refl _)) _ _ _ _ _ _ _⟩
  by_cases e62 : c = 62
  · subst e62
    rw [if_neg (by omega), if_neg (by omega), if_neg (by omega), if_pos rfl] at hO
    subst hO
    go_enter Tryd.func70, Tryd.ntmps70
    go_wp2_with fail
    go_quiet (fail)
    go_wp2_with fail
    refine (unhide HC _ ((unhide HP).below (by repeat (first | exact Below.refl _ _ | assumption | refine below_drewN ?_ _ | refine Below.drew ?_ | refine below_alloc' ?_ _))) ((unhide HT).below (by repeat (first | exact Below.refl _ _ | assumption | refine below_drewN ?_ _ | refine Below.drew ?_ | refine below_alloc' ?_ _)))).mono ?_
    rintro e w1 ⟨rfl, hP1, hK1⟩
    have hB := hrest _ _ hK1 rfl
    obtain ⟨⟨b0, b1, b2, b3, b4, b5, b6⟩, f0, f1, f2, f3, f4, f5, f6⟩ := hB.seven
    have HB := hide hB; have HP1 := hide hP1; have HK1 := hide ((((Keeps.refl (fun k => k = bp) w).alloc _).drewN _).trans hK1 (fun _ _ h => h))
    have hz1 : w.heap.size < w1.heap.size := by have := hK1.size; simp at this; omega
    clear hP1 hK1 hB hrest
    go_wp2_with fail
    refine bodyPost_ret (results_cell rfl rfl (load7 (Blk.put7 (unhide HB)))) rfl ?_
    exact ⟨_, rfl, tree_plain 13 0, (unhide HP1).put7 (by omega) _ _ _ _ _ _ _, (unhide HK1).put7 (.inr (Nat.le_refl _)) _ _ _ _ _ _ _⟩
  by_cases e96 : c = 96
  · subst e96
    rw [if_neg (by omega), if_neg (by omega), if_neg (by omega), if_neg (by omega), if_pos rfl] at hO
    subst hO
    go_enter Tryd.func70, Tryd.ntmps70
    go_wp2_with fail
    go_quiet (fail)
    go_wp2_with fail
    refine (unhide HC _ ((unhide HP).below (by repeat (first | exact Below.refl _ _ | assumption | refine below_drewN ?_ _ | refine Below.drew ?_ | refine below_alloc' ?_ _))) ((unhide HT).below (by repeat (first | exact Below.refl _ _ | assumption | refine below_drewN ?_ _ | refine Below.drew ?_ | refine below_alloc' ?_ _)))).mono ?_
    rintro e w1 ⟨rfl, hP1, hK1⟩
    have hB := hrest _ _ hK1 rfl
    obtain ⟨⟨b0, b1, b2, b3, b4, b5, b6⟩, f0, f1, f2, f3, f4, f5, f6⟩ := hB.seven
    have HB := hide hB; have HP1 := hide hP1; have HK1 := hide ((((Keeps.refl (fun k => k = bp) w).alloc _).drewN _).trans hK1 (fun _ _ h => h))
    have hz1 : w.heap.size < w1.heap.size := by have := hK1.size; simp at this; omega
    clear hP1 hK1 hB hrest
    go_wp2_with fail
    refine bodyPost_ret (results_cell rfl rfl (load7 (Blk.put7 (unhide HB)))) rfl ?_
    exact ⟨_, rfl, tree_plain 8 0, (unhide HP1).put7 (by omega) _ _ _ _ _ _ _, (unhide HK1).put7 (.inr (Nat.le_refl _)) _ _ _ _ _ _ _⟩
  by_cases e39 : c = 39
  · subst e39
    rw [if_neg (by omega), if_neg (by omega), if_neg (by omega), if_neg (by omega), if_neg (by omega), if_pos rfl] at hO
    subst hO
    go_enter Tryd.func70, Tryd.ntmps70
    go_wp2_with fail
    go_quiet (fail)
    go_wp2_with fail
    refine (unhide HC _ ((unhide HP).below (by repeat (first | exact Below.refl _ _ | assumption | refine below_drewN ?_ _ | refine Below.drew ?_ | refine below_alloc' ?_ _))) ((unhide HT).below (by repeat (first | exact Below.refl _ _ | assumption | refine below_drewN ?_ _ | refine Below.drew ?_ | refine below_alloc' ?_ _)))).mono ?_
    rintro e w1 ⟨rfl, hP1, hK1⟩
    have hB := hrest _ _ hK1 rfl
    obtain ⟨⟨b0, b1, b2, b3, b4, b5, b6⟩, f0, f1, f2, f3, f4, f5, f6⟩ := hB.seven
    have HB := hide hB; have HP1 := hide hP1; have HK1 := hide ((((Keeps.refl (fun k => k = bp) w).alloc _).drewN _).trans hK1 (fun _ _ h => h))
    have hz1 : w.heap.size < w1.heap.size := by have := hK1.size; simp at this; omega
    clear hP1 hK1 hB hrest
    go_wp2_with fail
    refine bodyPost_ret (results_cell rfl rfl (load7 (Blk.put7 (unhide HB)))) rfl ?_
    exact ⟨_, rfl, tree_plain 9 0, (unhide HP1).put7 (by omega) _ _ _ _ _ _ _, (unhide HK1).put7 (.inr (Nat.le_refl _)) _ _ _ _ _ _ _⟩
  by_cases e119 : c = 119
  · subst e119
    rw [if_neg (by omega), if_neg (by omega), if_neg (by omega), if_neg (by omega), if_neg (by omega), if_neg (by omega), if_pos (by omega)] at hO
    subst hO
    have HW := hide word_calls
    go_enter Tryd.func70, Tryd.ntmps70
    go_wp2_with fail
    go_quiet (fail)
    go_wp2_with fail
    refine (unhide HC _ ((unhide HP).below (by repeat (first | exact Below.refl _ _ | assumption | refine below_drewN ?_ _ | refine Below.drew ?_ | refine below_alloc' ?_ _))) ((unhide HT).below (by repeat (first | exact Below.refl _ _ | assumption | refine below_drewN ?_ _ | refine Below.drew ?_ | refine below_alloc' ?_ _)))).mono ?_
    rintro e w1 ⟨rfl, hP1, hK1⟩
    have hB := hrest _ _ hK1 rfl
    obtain ⟨⟨b0, b1, b2, b3, b4, b5, b6⟩, f0, f1, f2, f3, f4, f5, f6⟩ := hB.seven
    have HB := hide hB; have HP1 := hide hP1; have HK1 := hide ((((Keeps.refl (fun k => k = bp) w).alloc _).drewN _).trans hK1 (fun _ _ h => h))
    have hz1 : w.heap.size < w1.heap.size := by have := hK1.size; simp at this; omega
    clear hP1 hK1 hB hrest
    go_wp2_with fail
    refine (unhide HW _).mono ?_
    rintro e w2 ⟨b, rfl, hb0, hst, hb2⟩
    have hB2 := (unhide HB).below hb2 hz1
    obtain ⟨⟨d0, d1, d2, d3, d4, d5, d6⟩, g0, g1, g2, g3, g4, g5, g6⟩ := hB2.seven
    have HB2 := hide hB2; have HS := hide hst; have HBW := hide hb2
    have hz2 : w1.heap.size ≤ w2.heap.size := hb2.size
    clear hB2 hst hb2 b0 b1 b2 b3 b4 b5 b6 f0 f1 f2 f3 f4 f5 f6
    go_wp2_with fail
    refine bodyPost_ret (results_cell rfl rfl (load7 (Blk.put7 (unhide HB2)))) rfl ?_
    refine ⟨_, rfl, tree_set _ _ _ ?_, ((unhide HP1).below (unhide HBW)).put7 (by omega) _ _ _ _ _ _ _, ((unhide HK1).then_below (unhide HBW)).put7 (.inr (Nat.le_refl _)) _ _ _ _ _ _ _⟩
    exact SetAt.mono (SetAt.step (W := w2) (unhide HS) (fun k hk _ => heap_put7 _ _ _ _ _ _ _ _ _ k (by have : w1.heap.size ≤ k := hk; omega))) (fun k hk => by have : w1.heap.size ≤ k := hk; show w.heap.size ≤ k; omega)
  by_cases e87 : c = 87
  · subst e87
    rw [if_neg (by omega), if_neg (by omega), if_neg (by omega), if_neg (by omega), if_neg (by omega), if_neg (by omega), if_pos (by omega)] at hO
    subst hO
    have HW := hide word_calls
    go_enter Tryd.func70, Tryd.ntmps70
    go_wp2_with fail
    go_quiet (fail)
    go_wp2_with fail
    refine (unhide HC _ ((unhide HP).below (by repeat (first | exact Below.refl _ _ | assumption | refine below_drewN ?_ _ | refine Below.drew ?_ | refine below_alloc' ?_ _))) ((unhide HT).below (by repeat (first | exact Below.refl _ _ | assumption | refine below_drewN ?_ _ | refine Below.drew ?_ | refine below_alloc' ?_ _)))).mono ?_
    rintro e w1 ⟨rfl, hP1, hK1⟩
    have hB := hrest _ _ hK1 rfl
    obtain ⟨⟨b0, b1, b2, b3, b4, b5, b6⟩, f0, f1, f2, f3, f4, f5, f6⟩ := hB.seven
    have HB := hide hB; have HP1 := hide hP1; have HK1 := hide ((((Keeps.refl (fun k => k = bp) w).alloc _).drewN _).trans hK1 (fun _ _ h => h))
    have hz1 : w.heap.size < w1.heap.size := by have := hK1.size; simp at this; omega
    clear hP1 hK1 hB hrest
    go_wp2_with fail
    refine (unhide HW _).mono ?_
    rintro e w2 ⟨b, rfl, hb0, hst, hb2⟩
    have hB2 := (unhide HB).below hb2 hz1
    obtain ⟨⟨d0, d1, d2, d3, d4, d5, d6⟩, g0, g1, g2, g3, g4, g5, g6⟩ := hB2.seven
    have HB2 := hide hB2; have HS := hide hst; have HBW := hide hb2
    have hz2 : w1.heap.size ≤ w2.heap.size := hb2.size
    clear hB2 hst hb2 b0 b1 b2 b3 b4 b5 b6 f0 f1 f2 f3 f4 f5 f6
    go_wp2_with fail
    refine bodyPost_ret (results_cell rfl rfl (load7 (Blk.put7 (unhide HB2)))) rfl ?_
    refine ⟨_, rfl, tree_set _ _ _ ?_, ((unhide HP1).below (unhide HBW)).put7 (by omega) _ _ _ _ _ _ _, ((unhide HK1).then_below (unhide HBW)).put7 (.inr (Nat.le_refl _)) _ _ _ _ _ _ _⟩
    exact SetAt.mono (SetAt.step (W := w2) (unhide HS) (fun k hk _ => heap_put7 _ _ _ _ _ _ _ _ _ k (by have : w1.heap.size ≤ k := hk; omega))) (fun k hk => by have : w1.heap.size ≤ k := hk; show w.heap.size ≤ k; omega)
  by_cases e115 : c = 115
  · subst e115
    rw [if_neg (by omega), if_neg (by omega), if_neg (by omega), if_neg (by omega), if_neg (by omega), if_neg (by omega), if_neg (by omega), if_pos (by omega)] at hO
    subst hO
    have HW := hide space_calls
    go_enter Tryd.func70, Tryd.ntmps70
    go_wp2_with fail
    go_quiet (fail)
    go_wp2_with fail
    refine (unhide HC _ ((unhide HP).below (by repeat (first | exact Below.refl _ _ | assumption | refine below_drewN ?_ _ | refine Below.drew ?_ | refine below_alloc' ?_ _))) ((unhide HT).below (by repeat (first | exact Below.refl _ _ | assumption | refine below_drewN ?_ _ | refine Below.drew ?_ | refine below_alloc' ?_ _)))).mono ?_
    rintro e w1 ⟨rfl, hP1, hK1⟩
    have hB := hrest _ _ hK1 rfl
    obtain ⟨⟨b0, b1, b2, b3, b4, b5, b6⟩, f0, f1, f2, f3, f4, f5, f6⟩ := hB.seven
    have HB := hide hB; have HP1 := hide hP1; have HK1 := hide ((((Keeps.refl (fun k => k = bp) w).alloc _).drewN _).trans hK1 (fun _ _ h => h))
    have hz1 : w.heap.size < w1.heap.size := by have := hK1.size; simp at this; omega
    clear hP1 hK1 hB hrest
    go_wp2_with fail
    refine (unhide HW _).mono ?_
    rintro e w2 ⟨b, rfl, hb0, hst, hb2⟩
    have hB2 := (unhide HB).below hb2 hz1
    obtain ⟨⟨d0, d1, d2, d3, d4, d5, d6⟩, g0, g1, g2, g3, g4, g5, g6⟩ := hB2.seven
    have HB2 := hide hB2; have HS := hide hst; have HBW := hide hb2
    have hz2 : w1.heap.size ≤ w2.heap.size := hb2.size
    clear hB2 hst hb2 b0 b1 b2 b3 b4 b5 b6 f0 f1 f2 f3 f4 f5 f6
    go_wp2_with fail
    refine bodyPost_ret (results_cell rfl rfl (load7 (Blk.put7 (unhide HB2)))) rfl ?_
    refine ⟨_, rfl, tree_set _ _ _ ?_, ((unhide HP1).below (unhide HBW)).put7 (by omega) _ _ _ _ _ _ _, ((unhide HK1).then_below (unhide HBW)).put7 (.inr (Nat.le_refl _)) _ _ _ _ _ _ _⟩
    exact SetAt.mono (SetAt.step (W := w2) (unhide HS) (fun k hk _ => heap_put7 _ _ _ _ _ _ _ _ _ k (by have : w1.heap.size ≤ k := hk; omega))) (fun k hk => by have : w1.heap.size ≤ k := hk; show w.heap.size ≤ k; omega)
  by_cases e83 : c = 83
  · subst e83
    rw [if_neg (by omega), if_neg (by omega), if_neg (by omega), if_neg (by omega), if_neg (by omega), if_neg (by omega), if_neg (by omega), if_pos (by omega)] at hO
    subst hO
    have HW := hide space_calls
    go_enter Tryd.func70, Tryd.ntmps70
    go_wp2_with fail
    go_quiet (fail)
    go_wp2_with fail
    refine (unhide HC _ ((unhide HP).below (by repeat (first | exact Below.refl _ _ | assumption | refine below_drewN ?_ _ | refine Below.drew ?_ | refine below_alloc' ?_ _))) ((unhide HT).below (by repeat (first | exact Below.refl _ _ | assumption | refine below_drewN ?_ _ | refine Below.drew ?_ | refine below_alloc' ?_ _)))).mono ?_
    rintro e w1 ⟨rfl, hP1, hK1⟩
    have hB := hrest _ _ hK1 rfl
    obtain ⟨⟨b0, b1, b2, b3, b4, b5, b6⟩, f0, f1, f2, f3, f4, f5, f6⟩ := hB.seven
    have HB := hide hB; have HP1 := hide hP1; have HK1 := hide ((((Keeps.refl (fun k => k = bp) w).alloc _).drewN _).trans hK1 (fun _ _ h => h))
    have hz1 : w.heap.size < w1.heap.size := by have := hK1.size; simp at this; omega
    clear hP1 hK1 hB hrest
    go_wp2_with fail
    refine (unhide HW _).mono ?_
    rintro e w2 ⟨b, rfl, hb0, hst, hb2⟩
    have hB2 := (unhide HB).below hb2 hz1
    obtain ⟨⟨d0, d1, d2, d3, d4, d5, d6⟩, g0, g1, g2, g3, g4, g5, g6⟩ := hB2.seven
    have HB2 := hide hB2; have HS := hide hst; have HBW := hide hb2
    have hz2 : w1.heap.size ≤ w2.heap.size := hb2.size
    clear hB2 hst hb2 b0 b1 b2 b3 b4 b5 b6 f0 f1 f2 f3 f4 f5 f6
    go_wp2_with fail
    refine bodyPost_ret (results_cell rfl rfl (load7 (Blk.put7 (unhide HB2)))) rfl ?_
    refine ⟨_, rfl, tree_set _ _ _ ?_, ((unhide HP1).below (unhide HBW)).put7 (by omega) _ _ _ _ _ _ _, ((unhide HK1).then_below (unhide HBW)).put7 (.inr (Nat.le_refl _)) _ _ _ _ _ _ _⟩
    exact SetAt.mono (SetAt.step (W := w2) (unhide HS) (fun k hk _ => heap_put7 _ _ _ _ _ _ _ _ _ k (by have : w1.heap.size ≤ k := hk; omega))) (fun k hk => by have : w1.heap.size ≤ k := hk; show w.heap.size ≤ k; omega)
  have n121 : (c == 121) = false := by simpa using e121
  have n66 : (c == 66) = false := by simpa using e66
  have n60 : (c == 60) = false := by simpa using e60
  have n62 : (c == 62) = false := by simpa using e62
  have n96 : (c == 96) = false := by simpa using e96
  have n39 : (c == 39) = false := by simpa using e39
  have n119 : (c == 119) = false := by simpa using e119
  have n87 : (c == 87) = false := by simpa using e87
  have n115 : (c == 115) = false := by simpa using e115
  have n83 : (c == 83) = false := by simpa using e83
  rw [if_neg (by omega), if_neg (by omega), if_neg (by omega), if_neg (by omega), if_neg (by omega), if_neg (by omega), if_neg (by omega), if_neg (by omega)] at hO
  have hsg := fun w => single_calls c w hcb.1 hcb.2
  clear e121 e66 e60 e62 e96 e39 e119 e87 e115 e83
  cases hsc : singleF c with
  | none =>
    rw [hsc] at hO
    subst hO
    simp only [singleV, hsc] at hsg
    have HS := hide hsg
    clear hsg hsc
    go_enter Tryd.func70, Tryd.ntmps70
    go_wp2_with fail
    go_quiet (fail)
    go_wp2_with fail
    refine (unhide HC _ ((unhide HP).below (by repeat (first | exact Below.refl _ _ | assumption | refine below_drewN ?_ _ | refine Below.drew ?_ | refine below_alloc' ?_ _))) ((unhide HT).below (by repeat (first | exact Below.refl _ _ | assumption | refine below_drewN ?_ _ | refine Below.drew ?_ | refine below_alloc' ?_ _)))).mono ?_
    rintro e w1 ⟨rfl, hP1, hK1⟩
    have hB := hrest _ _ hK1 rfl
    obtain ⟨⟨b0, b1, b2, b3, b4, b5, b6⟩, f0, f1, f2, f3, f4, f5, f6⟩ := hB.seven
    have HB := hide hB; have HP1 := hide hP1; have HK1 := hide ((((Keeps.refl (fun k => k = bp) w).alloc _).drewN _).trans hK1 (fun _ _ h => h))
    have hz1 : w.heap.size < w1.heap.size := by have := hK1.size; simp at this; omega
    clear hP1 hK1 hB hrest
    go_wp2_with fail
    refine (unhide HS _).mono ?_
    rintro e w2 ⟨rfl, hw⟩
    obtain rfl := hw.symm
    go_wp2_with fail
    refine (fail_calls _ _ _ _).mono ?_
    rintro e w3 ⟨rfl, hw⟩
    obtain rfl := hw.symm
    exact ⟨rfl, rfl, unhide HK1⟩
  | some x =>
    rw [hsc] at hO
    simp only at hO
    subst hO
    simp only [singleV, hsc] at hsg
    have HS := hide hsg
    clear hsg hsc
    go_enter Tryd.func70, Tryd.ntmps70
    go_wp2_with fail
    go_quiet (fail)
    go_wp2_with fail
    refine (unhide HC _ ((unhide HP).below (by repeat (first | exact Below.refl _ _ | assumption | refine below_drewN ?_ _ | refine Below.drew ?_ | refine below_alloc' ?_ _))) ((unhide HT).below (by repeat (first | exact Below.refl _ _ | assumption | refine below_drewN ?_ _ | refine Below.drew ?_ | refine below_alloc' ?_ _)))).mono ?_
    rintro e w1 ⟨rfl, hP1, hK1⟩
    have hB := hrest _ _ hK1 rfl
    obtain ⟨⟨b0, b1, b2, b3, b4, b5, b6⟩, f0, f1, f2, f3, f4, f5, f6⟩ := hB.seven
    have HB := hide hB; have HP1 := hide hP1; have HK1 := hide ((((Keeps.refl (fun k => k = bp) w).alloc _).drewN _).trans hK1 (fun _ _ h => h))
    have hz1 : w.heap.size < w1.heap.size := by have := hK1.size; simp at this; omega
    clear hP1 hK1 hB hrest
    go_wp2_with fail
    refine (unhide HS _).mono ?_
    rintro e w2 ⟨rfl, hw⟩
    obtain rfl := hw.symm
    go_wp2_with fail
    refine bodyPost_ret (results_cell rfl rfl (load7 (Blk.put7 (unhide HB)))) rfl ?_
    exact ⟨_, rfl, tree_plain 2 x, (unhide HP1).put7 (by omega) _ _ _ _ _ _ _, (unhide HK1).put7 (.inr (Nat.le_refl _)) _ _ _ _ _ _ _⟩
end Go.Proofs.YtanmlgliibgpcaaDoor
