/- The walk of add: an instruction more. -/
import Derived.Test.YtanmlgliibgpcaaDoorNfaF
import Derived.Deep.DrawnRows
import Derived.Deep.RegionHeld3
import Derived.Deep.RegionLaw
namespace Go.Proofs.YtanmlgliibgpcaaDoor
open Go.RowKit Thr
set_option linter.unusedVariables false
set_option linter.unusedSimpArgs false
attribute [local go_sem ↓] Go.wp_at_zero Go.wp_at_succ

/-- An instruction's cells. -/
def instVals (q : Inst) (cs : List Value) : List Value := [.int .i64 q.op] ++ cs ++ [.int .i64 q.x, .int .i64 q.y]
/-- The cells of instructions, of which each node lies in blocks of ok. -/
def RowOf (ok : Nat → Prop) (W : World) (I : List Inst) (xs : List Value) : Prop :=
  xs.length = I.length * 10 ∧ ∀ (k : Nat) (q : Inst), I[k]? = some q → ∃ cs, TreeAt ok W q.node cs ∧ ∀ (j : Nat) (u : Value), (instVals q cs)[j]? = some u → xs[k * 10 + j]? = some u
theorem instVals_len {ok : Nat → Prop} {W : World} {q : Inst} {cs : List Value} (h : TreeAt ok W q.node cs) : (instVals q cs).length = 10 := by
  simp [instVals, h.len]
theorem RowOf.nil (ok : Nat → Prop) (W : World) : RowOf ok W [] [] := ⟨rfl, fun k q h => by simp at h⟩
theorem RowOf.snoc {ok : Nat → Prop} {W : World} {I : List Inst} {xs : List Value} (h : RowOf ok W I xs) {q : Inst} {cs : List Value} (ht : TreeAt ok W q.node cs) : RowOf ok W (I ++ [q]) (xs ++ instVals q cs) := by
  refine ⟨by simp [h.1, instVals_len ht]; omega, fun k p hp => ?_⟩
  rcases Nat.lt_or_ge k I.length with hk | hk
  · rw [List.getElem?_append_left hk] at hp
    obtain ⟨cs', ht', hc⟩ := h.2 k p hp
    refine ⟨cs', ht', fun j u hu => ?_⟩
    have hj := (List.getElem?_eq_some_iff.1 hu).1
    rw [instVals_len ht'] at hj
    rw [List.getElem?_append_left (by rw [h.1]; omega)]
    exact hc j u hu
  · have hk2 := (List.getElem?_eq_some_iff.1 hp).1
    simp at hk2
    obtain rfl : k = I.length := by omega
    simp at hp
    subst hp
    refine ⟨cs, ht, fun j u hu => ?_⟩
    rw [List.getElem?_append_right (by rw [h.1]; omega), h.1, show I.length * 10 + j - I.length * 10 = j by omega]
    exact hu
theorem RowOf.step {ok : Nat → Prop} {W W' : World} {I : List Inst} {xs : List Value} (h : RowOf ok W I xs) (hk : ∀ k, ok k → k < W.heap.size → W'.heap[k]? = W.heap[k]?) : RowOf ok W' I xs :=
  ⟨h.1, fun k q hq => by obtain ⟨cs, ht, hc⟩ := h.2 k q hq; exact ⟨cs, TreeAt.step hk _ _ ht, hc⟩⟩
theorem RowOf.put {ok : Nat → Prop} {W : World} {I : List Inst} {xs : List Value} (h : RowOf ok W I xs) {n : Nat} (hn : n < I.length) (c : Int) : RowOf ok W (Thr.setX I n c) (xs.set (n * 10 + 8) (.int .i64 c)) := by
  obtain ⟨q0, hq0⟩ : ∃ q, I[n]? = some q := ⟨_, List.getElem?_eq_getElem hn⟩
  have e : Thr.setX I n c = I.set n { q0 with x := c } := by simp [Thr.setX, hq0]
  rw [e]
  refine ⟨by simp [h.1], fun k q hq => ?_⟩
  by_cases hk : k = n
  · subst hk
    rw [List.getElem?_set_self (by omega)] at hq
    obtain rfl := Option.some.inj hq
    obtain ⟨cs, ht, hc⟩ := h.2 k q0 hq0
    refine ⟨cs, ht, fun j u hu => ?_⟩
    have hj := (List.getElem?_eq_some_iff.1 hu).1
    have hl := instVals_len (q := q0) ht
    have hl' : (instVals { q0 with x := c } cs).length = 10 := instVals_len (q := { q0 with x := c }) ht
    have hcl := ht.len
    by_cases h8 : j = 8
    · subst h8
      rw [List.getElem?_set_self (by rw [h.1]; omega)]
      simp [instVals, List.getElem?_append, hcl] at hu
      rw [hu]
    · rw [List.getElem?_set_ne (by omega)]
      apply hc j u
      rw [← hu]
      rcases Nat.lt_or_ge j 8 with hj8 | hj8
      · simp only [instVals]
        rw [List.getElem?_append_left (l₁ := [Value.int .i64 q0.op] ++ cs) (by simp [hcl]; omega), List.getElem?_append_left (l₁ := [Value.int .i64 q0.op] ++ cs) (by simp [hcl]; omega)]
      · obtain rfl : j = 9 := by omega
        simp [instVals, List.getElem?_append, hcl]
  · rw [List.getElem?_set_ne (by omega)] at hq
    obtain ⟨cs, ht, hc⟩ := h.2 k q hq
    refine ⟨cs, ht, fun j u hu => ?_⟩
    have hj := (List.getElem?_eq_some_iff.1 hu).1
    rw [instVals_len ht] at hj
    rw [List.getElem?_set_ne (by omega)]
    exact hc j u hu

/-- A program that is being made. -/
structure MkP (w : World) (base bp : Nat) (fold bytes : Bool) (I : List Inst) (vI : Value) : Prop where
  row : Blk w bp 47 #[.bool fold, .bool bytes, vI, .int .i64 0]
  own : ∃ xs, w.ownsRow base 52 10 vI I.length xs ∧ RowOf (fun k => k < base) w I xs
  lt : base ≤ bp
/-- The blocks that making turns. -/
def TurnP (bp : Nat) (vI : Value) (k : Nat) : Prop := k = bp ∨ vI.ownBlock = some k

theorem Turnp.of_at {w : World} {bp : Nat} {vl vl1 : Value} (h : At w vl vl1) : ∀ k, k < w.heap.size → TurnP bp vl1 k → TurnP bp vl k := by
  rintro k hk (rfl | e)
  · exact .inl rfl
  · rcases h with h | ⟨g, h, hg⟩
    · exact .inr (h ▸ e)
    · rw [h] at e; cases e; omega

section
variable {w w' : World} {base bp : Nat} {fold bytes : Bool} {I : List Inst} {vI : Value}
theorem MkP.alloc (h : MkP w base bp fold bytes I vI) (o : Obj) : MkP (w.alloc o) base bp fold bytes I vI := by
  obtain ⟨xs, h1, h2⟩ := h.own
  exact ⟨h.row.alloc o, ⟨xs, h1.alloc o, h2.step (fun k _ hlt => Below.heap_alloc w o k hlt)⟩, h.lt⟩
theorem MkP.bp_lt (h : MkP w base bp fold bytes I vI) : bp < w.heap.size := h.row.lt
theorem MkP.ne (h : MkP w base bp fold bytes I vI) : vI.ownBlock ≠ some bp := by
  obtain ⟨xs, h1, h2⟩ := h.own
  exact own_blk_ne h1 h.row (by decide)
theorem MkP.new_not {k : Nat} (h : MkP w base bp fold bytes I vI) (hk : w.heap.size ≤ k) : ¬ TurnP bp vI k := by
  obtain ⟨xs, h1, h2⟩ := h.own
  have := h.bp_lt
  rintro (rfl | e)
  · omega
  · have := own_lt h1 k e; omega
theorem MkP.old_not {k : Nat} (h : MkP w base bp fold bytes I vI) (hk : k < base) : ¬ TurnP bp vI k := by
  obtain ⟨xs, h1, h2⟩ := h.own
  have := h.lt
  rintro (rfl | e)
  · omega
  · have := own_lt h1 k e; omega
end
theorem Tryd.infoInst : (Tryd.prog.info? 52).map (fun i => (i.zero, i.size, i.bytes)) = some (some (.agg #[.int .i64 0, .int .i64 0, .int .i64 0, .bool false, .slice none 0 0, .int .i64 0, .int .i64 0, .slice none 0 0, .int .i64 0, .int .i64 0]), 10, 112) := by kernel_rfl

theorem own_form {w : World} {base n size : Nat} {e : TypeId} {v : Value} {xs : List Value} (h : w.ownsRow base e size v n xs) : ∃ A c, v = .slice A n c := by
  rcases h.2 with ⟨rfl, rfl⟩ | ⟨g, cap, cur, rfl, _⟩
  · exact ⟨_, _, rfl⟩
  · exact ⟨_, _, rfl⟩

theorem new_second (w : World) (o1 o2 : Obj) : ((w.alloc o1).alloc o2).drew.heap[w.heap.size + 1]? = some o2 := by
  have h : (w.alloc o1).heap.size = w.heap.size + 1 := by simp
  have := heap_alloc_new (w.alloc o1) o2
  rw [h] at this
  exact this
set_option maxRecDepth 100000 in
set_option maxHeartbeats 4000000 in
theorem add_calls {base bp : Nat} {fold bytes : Bool} {I : List Inst} {vI : Value} (q : Inst) (cs : List Value) (w : World) (hP : MkP w base bp fold bytes I vI) (ht : TreeAt (fun k => k < base) w q.node cs) (hI : I.length < 1000000) :
    Calls Tryd.prog 15 #[.pointer (some ⟨bp, 0, none⟩), .agg (instVals q cs).toArray] w fun e w' =>
      e = .returned (.int .i64 I.length) ∧ ∃ vI', MkP w' base bp fold bytes (I ++ [q]) vI' ∧ Keeps (TurnP bp vI) w w' ∧ At w vI vI' := by
  obtain ⟨op, node, qx, qy⟩ := q
  obtain ⟨xs, hown, hrow⟩ := hP.own
  have ht0 := ht
  obtain ⟨kind, code, neg, set, mn, mx, kids⟩ := node
  simp only [TreeAt] at ht
  obtain ⟨vs, A, cc, rfl, ⟨As, cs', rfl, -⟩, -⟩ := ht
  have c2 := hP.row.cell 2
  have f2 := hP.row.frozen 2
  have hbp := hP.bp_lt
  have hlt := hP.lt
  have hne := hP.ne
  simp at c2
  have HP := hide hP; have HO := hide hown; have HR := hide hrow; have HT := hide ht0; have HNE := hide hne
  have hvs := own_form hown
  clear hP hown hrow ht0
  obtain ⟨Ao, co, rfl⟩ := hvs
  obtain ⟨i0, hi0, hz0, hz1, hz2⟩ := info_parts Tryd.infoInst
  simp only [instVals, List.cons_append, List.nil_append]
  go_enter Tryd.func15, Tryd.ntmps15
  go_wp2_with fail
  go_region_law
    ((refine step_append_lies _ (by rfl) _ _ _ (by rfl) base 52 i0 _ 10 112 Tryd.underlying45 hi0 hz0 hz1 hz2 rfl (by omega) (.slice Ao I.length co) I.length xs (by rfl)
        (by first | exact (((unhide HO).alloc _).alloc _).drew | exact (((unhide HO).alloc _).drew).alloc _ | exact ((unhide HO).alloc _).alloc _) ⟨w.heap.size + 1, 0, none⟩ 1 1 [.int .i64 op, .int .i64 kind, .int .i64 code, .bool neg, .slice As set.length cs', .int .i64 mn, .int .i64 mx, .slice A kids.length cc, .int .i64 qx, .int .i64 qy]
        (by rfl) (by rfl) (by exact World.news_of_block (cs := #[.int .i64 op, .int .i64 kind, .int .i64 code, .bool neg, .slice As set.length cs', .int .i64 mn, .int .i64 mx, .slice A kids.length cc, .int .i64 qx, .int .i64 qy]) (new_second w _ _))
        (by simp [Value.oneCell']) (by omega) (by simp only [maxLen]; omega) (by omega) (by simp; omega) (w.heap.size + 2) (by simp) ?_; intro g cap w1 hown1 hgrow hat hlt1; have fz : w1.frozen? ⟨bp, 2, none⟩ = false := (hgrow.frozen_far ⟨bp, 2, none⟩ (by simp; omega) (Ne.symm (unhide HNE))).trans (((unhide HP).row.alloc _).alloc _ |>.drew |>.frozen 2); have cz : w1.cell? ⟨bp, 2, none⟩ = some (.slice Ao I.length co) := (hgrow.cell_far ⟨bp, 2, none⟩ (by simp; omega) (Ne.symm (unhide HNE))).trans ((((unhide HP).row.alloc _).alloc _ |>.drew |>.cell 2).trans (by simp))))
  all_goals
    have hr1 : Blk w1 bp 47 _ := ((((unhide HP).row.alloc _).alloc _).drew).grown hgrow (fun e => hne e.symm)
    have hkp : Keeps (TurnP bp (.slice Ao I.length co)) w w1 := (((Keeps.refl (TurnP bp (.slice Ao I.length co)) w).alloc _).alloc _).drew.grown hgrow (fun j hj => .inl (.inr hj))
    have hgb : bp ≠ g := by
      rintro rfl
      rcases hat with hat | hat
      · exact hne hat
      · omega
    have hT1 := RowOf.snoc (q := ⟨op, .mk kind code neg set mn mx kids, qx, qy⟩) (unhide HR) (unhide HT)
    have hT2 := hT1.step (W' := w1.setCell ⟨bp, 2, none⟩ (.slice (some ⟨g, 0, none⟩) (I.length + 1) cap)) (fun k hk hkl => (Below.heap_setCell _ _ _ k (by simp only; omega)).trans (hkp.block k hkl ((unhide HP).old_not hk)))
    have HR1 := hide hr1; have HKP := hide hkp; have HT2 := hide hT2; have HO1 := hide hown1; have HAT := hide hat
    clear hr1 hkp hT1 hT2 hown1 hgrow hat
    go_wp2_with fail
    go_ret
    refine ⟨ret_int (by simp), _, ⟨(unhide HR1).set_ 2 _, ⟨_, ?_, unhide HT2⟩, hlt⟩, (unhide HKP).setCell (.inl (.inl rfl)) _, ?_⟩
    · have := own_step (unhide HO1) (w1 := w1.setCell ⟨bp, 2, none⟩ (.slice (some ⟨g, 0, none⟩) (I.length + 1) cap)) (fun j hj => Below.heap_setCell _ _ _ j (by simp [Value.ownBlock] at hj; subst hj; exact hgb.symm))
      rw [List.length_append]
      exact this
    · rcases unhide HAT with h | h
      · exact .inl (by rw [h]; rfl)
      · exact .inr ⟨g, rfl, by omega⟩
end Go.Proofs.YtanmlgliibgpcaaDoor
