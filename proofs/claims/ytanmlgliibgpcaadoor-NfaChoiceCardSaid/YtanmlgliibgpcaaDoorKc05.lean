/- NfaChoice returns true of every two texts, every string and every place: no condition beyond the statement's own (a part of its proof). -/
import Derived.Test.YtanmlgliibgpcaaDoorKc04
import Derived.Deep.DrawnRows
import Derived.Deep.RegionHeld3
import Derived.Deep.RegionLaw
import Derived.Test.YtanmlgliibgpcaaDoorKc01
import Derived.Test.YtanmlgliibgpcaaDoorKc03

/- The walk of add: an instruction more. -/
namespace Go.Proofs.YtanmlgliibgpcaaDoor
open Go.RowKit Thr
set_option linter.unusedVariables false
set_option linter.unusedSimpArgs false
attribute [local go_sem ↓] Go.wp_at_zero Go.wp_at_succ

/-- An instruction's cells. -/
def instVals (q : Inst) (cs : List Value) : List Value := [.int .i64 q.op] ++ cs ++ [.int .i64 q.x, .int .i64 q.y]
/-- The cells of instructions, of which each node lies in blocks of ok. -/
def RowOf (ok : Nat → Prop) (W : World) (I : List Inst) (xs : List Value) : Prop :=
  xs.length = I.length * 10 ∧ ∀ (k : Nat) (q : Inst), I[k]? = some q → ∃ cs, TreeAt ok W q.node cs ∧ ∀ (j : Nat) (u : Value), (instVals q cs)[j]? = some u → xs[k * 10 + j]? = some u
theorem instVals_len {ok : Nat → Prop} {W : World} {q : Inst} {cs : List Value} (h : TreeAt ok W q.node cs) : (instVals q cs).length = 10 := by
  simp [instVals, h.len]
theorem RowOf.nil (ok : Nat → Prop) (W : World) : RowOf ok W [] [] := ⟨rfl, fun k q h => by simp at h⟩
theorem RowOf.snoc {ok : Nat → Prop} {W : World} {I : List Inst} {xs : List Value} (h : RowOf ok W I xs) {q : Inst} {cs : List Value} (ht : TreeAt ok W q.node cs) : RowOf ok W (I ++ [q]) (xs ++ instVals q cs) := by
  refine ⟨by simp [h.1, instVals_len ht]; omega, fun k p hp => ?_⟩
  rcases Nat.lt_or_ge k I.length with hk | hk
  · rw [List.getElem?_append_left hk] at hp
    obtain ⟨cs', ht', hc⟩ := h.2 k p hp
    refine ⟨cs', ht', fun j u hu => ?_⟩
    have hj := (List.getElem?_eq_some_iff.1 hu).1
    rw [instVals_len ht'] at hj
    rw [List.getElem?_append_left (by rw [h.1]; omega)]
    exact hc j u hu
  · have hk2 := (List.getElem?_eq_some_iff.1 hp).1
    simp at hk2
    obtain rfl : k = I.length := by omega
    simp at hp
    subst hp
    refine ⟨cs, ht, fun j u hu => ?_⟩
    rw [List.getElem?_append_right (by rw [h.1]; omega), h.1, show I.length * 10 + j - I.length * 10 = j by omega]
    exact hu
theorem RowOf.step {ok : Nat → Prop} {W W' : World} {I : List Inst} {xs : List Value} (h : RowOf ok W I xs) (hk : ∀ k, ok k → k < W.heap.size → W'.heap[k]? = W.heap[k]?) : RowOf ok W' I xs :=
  ⟨h.1, fun k q hq => by obtain ⟨cs, ht, hc⟩ := h.2 k q hq; exact ⟨cs, TreeAt.step hk _ _ ht, hc⟩⟩
theorem RowOf.put {ok : Nat → Prop} {W : World} {I : List Inst} {xs : List Value} (h : RowOf ok W I xs) {n : Nat} (hn : n < I.length) (c : Int) : RowOf ok W (Thr.setX I n c) (xs.set (n * 10 + 8) (.int .i64 c)) := by
  obtain ⟨q0, hq0⟩ : ∃ q, I[n]? = some q := ⟨_, List.getElem?_eq_getElem hn⟩
  have e : Thr.setX I n c = I.set n { q0 with x := c } := by simp [Thr.setX, hq0]
  rw [e]
  refine ⟨by simp [h.1], fun k q hq => ?_⟩
  by_cases hk : k = n
  · subst hk
    rw [List.getElem?_set_self (by omega)] at hq
    obtain rfl := Option.some.inj hq
    obtain ⟨cs, ht, hc⟩ := h.2 k q0 hq0
    refine ⟨cs, ht, fun j u hu => ?_⟩
    have hj := (List.getElem?_eq_some_iff.1 hu).1
    have hl := instVals_len (q := q0) ht
    have hl' : (instVals { q0 with x := c } cs).length = 10 := instVals_len (q := { q0 with x := c }) ht
    have hcl := ht.len
    by_cases h8 : j = 8
    · subst h8
      rw [List.getElem?_set_self (by rw [h.1]; omega)]
      simp [instVals, List.getElem?_append, hcl] at hu
      rw [hu]
    · rw [List.getElem?_set_ne (by omega)]
      apply hc j u
      rw [← hu]
      rcases Nat.lt_or_ge j 8 with hj8 | hj8
      · simp only [instVals]
        rw [List.getElem?_append_left (l₁ := [Value.int .i64 q0.op] ++ cs) (by simp [hcl]; omega), List.getElem?_append_left (l₁ := [Value.int .i64 q0.op] ++ cs) (by simp [hcl]; omega)]
      · obtain rfl : j = 9 := by omega
        simp [instVals, List.getElem?_append, hcl]
  · rw [List.getElem?_set_ne (by omega)] at hq
    obtain ⟨cs, ht, hc⟩ := h.2 k q hq
    refine ⟨cs, ht, fun j u hu => ?_⟩
    have hj := (List.getElem?_eq_some_iff.1 hu).1
    rw [instVals_len ht] at hj
    rw [List.getElem?_set_ne (by omega)]
    exact hc j u hu

/-- A program that is being made. -/
structure MkP (w : World) (base bp : Nat) (fold bytes : Bool) (I : List Inst) (vI : Value) : Prop where
  row : Blk w bp 47 #[.bool fold, .bool bytes, vI, .int .i64 0]
  own : ∃ xs, w.ownsRow base 52 10 vI I.length xs ∧ RowOf (fun k => k < base) w I xs
  lt : base ≤ bp
/-- The blocks that making turns. -/
def TurnP (bp : Nat) (vI : Value) (k : Nat) : Prop := k = bp ∨ vI.ownBlock = some k

theorem Turnp.of_at {w : World} {bp : Nat} {vl vl1 : Value} (h : At w vl vl1) : ∀ k, k < w.heap.size → TurnP bp vl1 k → TurnP bp vl k := by
  rintro k hk (rfl | e)
  · exact .inl rfl
  · rcases h with h | ⟨g, h, hg⟩
    · exact .inr (h ▸ e)
    · rw [h] at e; cases e; omega

section
variable {w w' : World} {base bp : Nat} {fold bytes : Bool} {I : List Inst} {vI : Value}
theorem MkP.alloc (h : MkP w base bp fold bytes I vI) (o : Obj) : MkP (w.alloc o) base bp fold bytes I vI := by
  obtain ⟨xs, h1, h2⟩ := h.own
  exact ⟨h.row.alloc o, ⟨xs, h1.alloc o, h2.step (fun k _ hlt => Below.heap_alloc w o k hlt)⟩, h.lt⟩
theorem MkP.bp_lt (h : MkP w base bp fold bytes I vI) : bp < w.heap.size := h.row.lt
theorem MkP.ne (h : MkP w base bp fold bytes I vI) : vI.ownBlock ≠ some bp := by
  obtain ⟨xs, h1, h2⟩ := h.own
  exact own_blk_ne h1 h.row (by decide)
theorem MkP.new_not {k : Nat} (h : MkP w base bp fold bytes I vI) (hk : w.heap.size ≤ k) : ¬ TurnP bp vI k := by
  obtain ⟨xs, h1, h2⟩ := h.own
  have := h.bp_lt
  rintro (rfl | e)
  · omega
  · have := own_lt h1 k e; omega
theorem MkP.old_not {k : Nat} (h : MkP w base bp fold bytes I vI) (hk : k < base) : ¬ TurnP bp vI k := by
  obtain ⟨xs, h1, h2⟩ := h.own
  have := h.lt
  rintro (rfl | e)
  · omega
  · have := own_lt h1 k e; omega
end
theorem Tryd.infoInst : (Tryd.prog.info? 52).map (fun i => (i.zero, i.size, i.bytes)) = some (some (.agg #[.int .i64 0, .int .i64 0, .int .i64 0, .bool false, .slice none 0 0, .int .i64 0, .int .i64 0, .slice none 0 0, .int .i64 0, .int .i64 0]), 10, 112) := by kernel_rfl

theorem own_form {w : World} {base n size : Nat} {e : TypeId} {v : Value} {xs : List Value} (h : w.ownsRow base e size v n xs) : ∃ A c, v = .slice A n c := by
  rcases h.2 with ⟨rfl, rfl⟩ | ⟨g, cap, cur, rfl, _⟩
  · exact ⟨_, _, rfl⟩
  · exact ⟨_, _, rfl⟩

theorem new_second (w : World) (o1 o2 : Obj) : ((w.alloc o1).alloc o2).drew.heap[w.heap.size + 1]? = some o2 := by
  have h : (w.alloc o1).heap.size = w.heap.size + 1 := by simp
  have := heap_alloc_new (w.alloc o1) o2
  rw [h] at this
  exact this
set_option maxRecDepth 100000 in
set_option maxHeartbeats 4000000 in
theorem add_calls {base bp : Nat} {fold bytes : Bool} {I : List Inst} {vI : Value} (q : Inst) (cs : List Value) (w : World) (hP : MkP w base bp fold bytes I vI) (ht : TreeAt (fun k => k < base) w q.node cs) (hI : I.length < 1000000) :
    Calls Tryd.prog 15 #[.pointer (some ⟨bp, 0, none⟩), .agg (instVals q cs).toArray] w fun e w' =>
      e = .returned (.int .i64 I.length) ∧ ∃ vI', MkP w' base bp fold bytes (I ++ [q]) vI' ∧ Keeps (TurnP bp vI) w w' ∧ At w vI vI' := by
  obtain ⟨op, node, qx, qy⟩ := q
  obtain ⟨xs, hown, hrow⟩ := hP.own
  have ht0 := ht
  obtain ⟨kind, code, neg, set, mn, mx, kids⟩ := node
  simp only [TreeAt] at ht
  obtain ⟨vs, A, cc, rfl, ⟨As, cs', rfl, -⟩, -⟩ := ht
  have c2 := hP.row.cell 2
  have f2 := hP.row.frozen 2
  have hbp := hP.bp_lt
  have hlt := hP.lt
  have hne := hP.ne
  simp at c2
  have HP := hide hP; have HO := hide hown; have HR := hide hrow; have HT := hide ht0; have HNE := hide hne
  have hvs := own_form hown
  clear hP hown hrow ht0
  obtain ⟨Ao, co, rfl⟩ := hvs
  obtain ⟨i0, hi0, hz0, hz1, hz2⟩ := info_parts Tryd.infoInst
  simp only [instVals, List.cons_append, List.nil_append]
  go_enter Tryd.func15, Tryd.ntmps15
  go_wp2_with fail
  go_region_law
    ((refine step_append_lies _ (by rfl) _ _ _ (by rfl) base 52 i0 _ 10 112 Tryd.underlying45 hi0 hz0 hz1 hz2 rfl (by omega) (.slice Ao I.length co) I.length xs (by rfl)
        (by first | exact (((unhide HO).alloc _).alloc _).drew | exact (((unhide HO).alloc _).drew).alloc _ | exact ((unhide HO).alloc _).alloc _) ⟨w.heap.size + 1, 0, none⟩ 1 1 [.int .i64 op, .int .i64 kind, .int .i64 code, .bool neg, .slice As set.length cs', .int .i64 mn, .int .i64 mx, .slice A kids.length cc, .int .i64 qx, .int .i64 qy]
        (by rfl) (by rfl) (by exact World.news_of_block (cs := #[.int .i64 op, .int .i64 kind, .int .i64 code, .bool neg, .slice As set.length cs', .int .i64 mn, .int .i64 mx, .slice A kids.length cc, .int .i64 qx, .int .i64 qy]) (new_second w _ _))
        (by simp [Value.oneCell']) (by omega) (by simp only [maxLen]; omega) (by omega) (by simp; omega) (w.heap.size + 2) (by simp) ?_; intro g cap w1 hown1 hgrow hat hlt1; have fz : w1.frozen? ⟨bp, 2, none⟩ = false := (hgrow.frozen_far ⟨bp, 2, none⟩ (by simp; omega) (Ne.symm (unhide HNE))).trans (((unhide HP).row.alloc _).alloc _ |>.drew |>.frozen 2); have cz : w1.cell? ⟨bp, 2, none⟩ = some (.slice Ao I.length co) := (hgrow.cell_far ⟨bp, 2, none⟩ (by simp; omega) (Ne.symm (unhide HNE))).trans ((((unhide HP).row.alloc _).alloc _ |>.drew |>.cell 2).trans (by simp))))
  all_goals
    have hr1 : Blk w1 bp 47 _ := ((((unhide HP).row.alloc _).alloc _).drew).grown hgrow (fun e => hne e.symm)
    have hkp : Keeps (TurnP bp (.slice Ao I.length co)) w w1 := (((Keeps.refl (TurnP bp (.slice Ao I.length co)) w).alloc _).alloc _).drew.grown hgrow (fun j hj => .inl (.inr hj))
    have hgb : bp ≠ g := by
      rintro rfl
      rcases hat with hat | hat
      · exact hne hat
      · omega
    have hT1 := RowOf.snoc (q := ⟨op, .mk kind code neg set mn mx kids, qx, qy⟩) (unhide HR) (unhide HT)
    have hT2 := hT1.step (W' := w1.setCell ⟨bp, 2, none⟩ (.slice (some ⟨g, 0, none⟩) (I.length + 1) cap)) (fun k hk hkl => (Below.heap_setCell _ _ _ k (by simp only; omega)).trans (hkp.block k hkl ((unhide HP).old_not hk)))
    have HR1 := hide hr1; have HKP := hide hkp; have HT2 := hide hT2; have HO1 := hide hown1; have HAT := hide hat
    clear hr1 hkp hT1 hT2 hown1 hgrow hat
    go_wp2_with fail
    go_ret
    refine ⟨ret_int (by simp), _, ⟨(unhide HR1).set_ 2 _, ⟨_, ?_, unhide HT2⟩, hlt⟩, (unhide HKP).setCell (.inl (.inl rfl)) _, ?_⟩
    · have := own_step (unhide HO1) (w1 := w1.setCell ⟨bp, 2, none⟩ (.slice (some ⟨g, 0, none⟩) (I.length + 1) cap)) (fun j hj => Below.heap_setCell _ _ _ j (by simp [Value.ownBlock] at hj; subst hj; exact hgb.symm))
      rw [List.length_append]
      exact this
    · rcases unhide HAT with h | h
      · exact .inl (by rw [h]; rfl)
      · exact .inr ⟨g, rfl, by omega⟩
end Go.Proofs.YtanmlgliibgpcaaDoor

/- Plain Lean: which trees may be, how heavy they are, how many instructions are made of them. -/
namespace Thr

def nearF (x : Int) : Option (Int × Int) → Bool
  | none => false
  | some q => decide (x ≤ q.2 + 1)
/-- A range of a set that may not stand at its place. -/
def badAt (set : List (Int × Int)) (i : Nat) : Bool :=
  match set[i]? with
  | none => false
  | some r => decide (r.1 < 0) || decide (r.1 > r.2) || decide (r.2 > 1114367) || (decide (0 < i) && nearF r.1 set[i - 1]?)
def setOkF (set : List (Int × Int)) : Bool := (List.range set.length).all fun i => !badAt set i
def validF : Rx → Bool
  | .mk kind _ _ set mn mx kids =>
    if kind = 5 ∨ kind = 6 then decide (1 < kids.length)
    else if kind = 7 then decide (kids.length = 1) && decide (0 ≤ mn) && decide (mn ≤ 30) && decide (-1 ≤ mx) && decide (mx ≤ 30) && (decide (mx < 0) || decide (mn ≤ mx))
    else if kind = 4 then setOkF set && decide (kids.length = 0)
    else decide (kids.length = 0) && decide (1 ≤ kind) && decide (kind ≤ 13)
mutual
def withinF : Rx → Nat → Bool
  | .mk kind code neg set mn mx kids => fun d => match d with
    | 0 => false
    | d + 1 => validF (.mk kind code neg set mn mx kids) && withinAll kids d
def withinAll : List Rx → Nat → Bool
  | [] => fun _ => true
  | k :: ks => fun d => withinF k d && withinAll ks d
end
def bigW : Int := 1048576
mutual
def weightF : Rx → Int
  | .mk kind _ _ _ mn mx kids =>
    if kind = 5 then weightsF kids 0
    else if kind = 7 then min (weightsF kids 0 * (if mx < 0 then min (max mn 0) bigW + 1 else min (max mx 0) bigW) + 1) bigW
    else min (weightsF kids 0 + 1) bigW
def weightsF : List Rx → Int → Int
  | [], n => n
  | k :: ks, n => weightsF ks (min (n + weightF k) bigW)
end
-- Each node is valid.
mutual
def Valids : Rx → Prop
  | .mk kind code neg set mn mx kids => validF (.mk kind code neg set mn mx kids) = true ∧ ValidsAll kids
def ValidsAll : List Rx → Prop
  | [] => True
  | k :: ks => Valids k ∧ ValidsAll ks
end
mutual
theorem within_valids : ∀ (t : Rx) (d : Nat), withinF t d = true → Valids t
  | .mk kind code neg set mn mx kids, 0, h => by simp [withinF] at h
  | .mk kind code neg set mn mx kids, d + 1, h => by
    simp only [withinF, Bool.and_eq_true] at h
    exact ⟨h.1, withinAll_valids kids d h.2⟩
theorem withinAll_valids : ∀ (ks : List Rx) (d : Nat), withinAll ks d = true → ValidsAll ks
  | [], d, h => by simp [ValidsAll]
  | k :: ks, d, h => by
    simp only [withinAll, Bool.and_eq_true] at h
    exact ⟨within_valids k d h.1, withinAll_valids ks d h.2⟩
end
theorem ValidsAll.get : ∀ {ks : List Rx}, ValidsAll ks → ∀ k ∈ ks, Valids k
  | [], _, k, hk => by simp at hk
  | k' :: ks, h, k, hk => by
    rcases List.mem_cons.1 hk with rfl | hk
    · exact h.1
    · exact ValidsAll.get h.2 k hk

/-- What validity says of each kind. -/
theorem valid_many {kind code : Int} {neg : Bool} {set : List (Int × Int)} {mn mx : Int} {kids : List Rx} (h : validF (.mk kind code neg set mn mx kids) = true) (hk : kind = 5 ∨ kind = 6) : 1 < kids.length := by
  simpa [validF, if_pos hk] using h
theorem valid_rep {code : Int} {neg : Bool} {set : List (Int × Int)} {mn mx : Int} {kids : List Rx} (h : validF (.mk 7 code neg set mn mx kids) = true) : (∃ k, kids = [k]) ∧ 0 ≤ mn ∧ mn ≤ 30 ∧ -1 ≤ mx ∧ mx ≤ 30 ∧ (0 ≤ mx → mn ≤ mx) := by
  simp [validF] at h
  obtain ⟨⟨⟨⟨⟨h1, h2⟩, h3⟩, h4⟩, h5⟩, h6⟩ := h
  refine ⟨?_, h2, h3, h4, h5, by omega⟩
  match kids, h1 with
  | [k], _ => exact ⟨k, rfl⟩
theorem valid_leaf {kind code : Int} {neg : Bool} {set : List (Int × Int)} {mn mx : Int} {kids : List Rx} (h : validF (.mk kind code neg set mn mx kids) = true) (h5 : kind ≠ 5) (h6 : kind ≠ 6) (h7 : kind ≠ 7) : kids = [] ∧ 1 ≤ kind ∧ kind ≤ 13 := by
  simp only [validF] at h
  rw [if_neg (by simp [h5, h6]), if_neg h7] at h
  by_cases h4 : kind = 4
  · rw [if_pos h4] at h
    simp at h
    exact ⟨h.2, by omega, by omega⟩
  · rw [if_neg h4] at h
    simp at h
    exact ⟨h.1.1, h.1.2, h.2⟩

mutual
theorem valids_makes : ∀ t : Rx, Valids t → Makes t
  | .mk kind code neg set mn mx kids, h => by
    refine ⟨fun hk => ?_, fun hk => ?_, validsAll_makes kids h.2⟩
    · have := valid_many h.1 (.inr hk)
      intro e; rw [e] at this; simp at this
    · subst hk
      obtain ⟨⟨k, hk⟩, h1, h2, h3, h4, h5⟩ := valid_rep h.1
      exact ⟨by rw [hk]; simp, h1, h5⟩
theorem validsAll_makes : ∀ ks : List Rx, ValidsAll ks → MakesAll ks
  | [], _ => by simp [MakesAll]
  | k :: ks, h => ⟨valids_makes k h.1, validsAll_makes ks h.2⟩
end

/-! ### How many instructions -/
mutual
theorem weight_pos : ∀ t : Rx, Valids t → 1 ≤ weightF t
  | .mk kind code neg set mn mx kids, h => by
    have hs := weights_le kids 0 (by omega) (by unfold bigW; omega) h.2
    simp only [weightF]
    have hb : bigW = 1048576 := rfl
    by_cases h5 : kind = 5
    · rw [if_pos h5]
      have := valid_many h.1 (.inl h5)
      omega
    · rw [if_neg h5]
      by_cases h7 : kind = 7
      · rw [if_pos h7]
        subst h7
        obtain ⟨⟨k, hk⟩, h1, h2, h3, h4, h5⟩ := valid_rep h.1
        have h0 : 0 ≤ weightsF kids 0 * (if mx < 0 then min (max mn 0) bigW + 1 else min (max mx 0) bigW) := by
          refine Int.mul_nonneg (by omega) ?_
          split <;> omega
        omega
      · rw [if_neg h7]; omega
theorem weights_le : ∀ (ks : List Rx) (n : Int), 0 ≤ n → n ≤ bigW → ValidsAll ks → n ≤ weightsF ks n ∧ weightsF ks n ≤ bigW ∧ (ks = [] ∨ 1 ≤ weightsF ks n) ∧ (ks.length > 0 → n < bigW → n < weightsF ks n)
  | [], n, h0, hn, h => by simp [weightsF]; exact hn
  | k :: ks, n, h0, hn, h => by
    have h1 := weight_pos k h.1
    have h2 := weights_le ks (min (n + weightF k) bigW) (by have : bigW = 1048576 := rfl; omega) (by omega) h.2
    have hb : bigW = 1048576 := rfl
    simp only [weightsF]
    refine ⟨by omega, h2.2.1, .inr (by omega), fun _ _ => by omega⟩
end
/-- The weights one behind the other, of those that are not too heavy. -/
theorem weights_cons {k : Rx} {ks : List Rx} {n : Int} (hn : 0 ≤ n) (h : ValidsAll (k :: ks)) (hw : weightsF (k :: ks) n < bigW) : n + weightF k ≤ weightsF (k :: ks) n ∧ weightsF (k :: ks) n = weightsF ks (n + weightF k) := by
  have h1 := weight_pos k h.1
  have hb : bigW = 1048576 := rfl
  simp only [weightsF] at hw ⊢
  by_cases hm : n + weightF k ≤ bigW
  · rw [show min (n + weightF k) bigW = n + weightF k by omega] at hw ⊢
    have := weights_le ks (n + weightF k) (by omega) hm h.2
    exact ⟨this.1, rfl⟩
  · rw [show min (n + weightF k) bigW = bigW by omega] at hw
    have := weights_le ks bigW (by omega) (Int.le_refl _) h.2
    omega
theorem times_len {F : Int → List Inst → Int × List Inst} {c : Nat} (hF : ∀ n I, (F n I).2.length ≤ I.length + c) : ∀ (m : Nat) (n : Int) (I : List Inst), (timesF F m n I).2.length ≤ I.length + m * c
  | 0, n, I => by simp [timesF]
  | m + 1, n, I => by
    simp only [timesF]
    have := times_len hF m (F n I).1 (F n I).2
    have := hF n I
    rw [Nat.add_mul]; omega
theorem opt_len {F : Int → List Inst → Int × List Inst} {c : Nat} (hF : ∀ n I, (F n I).2.length ≤ I.length + c) : ∀ (m : Nat) (n : Int) (I : List Inst), (optF F m n I).2.length ≤ I.length + m * (c + 1)
  | 0, n, I => by simp [optF]
  | m + 1, n, I => by
    simp only [optF]
    have a := opt_len hF m (F n I).2.length ((F n I).2 ++ [⟨2, noNode, (F n I).1, n⟩])
    have b := hF n I
    rw [List.length_append, List.length_singleton] at a
    rw [Nat.add_mul]; omega
theorem setX_len (I : List Inst) (n : Nat) (c : Int) : (setX I n c).length = I.length := by
  unfold setX
  split <;> simp
mutual
theorem make_len : ∀ (t : Rx), Valids t → weightF t < bigW → ∀ (next : Int) (I : List Inst), ((make t next I).2.length : Int) ≤ I.length + (2 * weightF t - 1)
  | .mk kind code neg set mn mx kids, h, hw, next, I => by
    have hb : bigW = 1048576 := rfl
    have hp := weight_pos _ h
    by_cases h1 : kind = 1
    · simp only [make, if_pos h1]; omega
    rw [make]
    simp only [if_neg h1]
    by_cases h2 : kind = 2 ∨ kind = 3 ∨ kind = 4
    · simp only [if_pos h2, List.length_append, List.length_singleton]; omega
    simp only [if_neg h2]
    by_cases h5 : kind = 5
    · simp only [if_pos h5]
      simp only [weightF, if_pos h5] at hw hp ⊢
      have hm := valid_many h.1 (.inl h5)
      have := makeCat_len kids 0 (by omega) h.2 hw next I
      omega
    simp only [if_neg h5]
    by_cases h6 : kind = 6
    · simp only [if_pos h6]
      simp only [weightF, if_neg h5, if_neg (show ¬ kind = 7 by omega)] at hw hp ⊢
      have hm := valid_many h.1 (.inr h6)
      have := makeAlt_len kids 0 (by omega) (by intro e; rw [e] at hm; simp at hm) h.2 (by omega) next I
      omega
    simp only [if_neg h6]
    by_cases h7 : kind = 7
    · subst h7
      simp only [if_true]
      obtain ⟨⟨k, rfl⟩, r1, r2, r3, r4, r5⟩ := valid_rep h.1
      have hk := h.2.1
      have hkp := weight_pos k hk
      simp only [weightF, weightsF] at hw hp ⊢
      simp only [if_neg (show ¬ (7 : Int) = 5 by omega), if_true] at hw hp ⊢
      by_cases hmx : mx < 0
      · simp only [if_pos hmx] at hw hp ⊢
        have e1 : min (max mn 0) bigW = mn := by omega
        rw [e1] at hw hp ⊢
        have hkw : weightF k < bigW := by
          rcases Int.lt_or_le (weightF k) bigW with h | h
          · exact h
          · rw [show min (0 + weightF k) bigW = bigW by omega] at hw
            have := Int.mul_le_mul_of_nonneg_left (show 1 ≤ mn + 1 by omega) (show 0 ≤ bigW by omega)
            omega
        rw [show min (0 + weightF k) bigW = weightF k by omega] at hw ⊢
        obtain ⟨c, hc⟩ : ∃ c : Nat, (c : Int) = 2 * weightF k - 1 := ⟨(2 * weightF k - 1).toNat, by omega⟩
        have hF : ∀ n I, (makeHd [k] n I).2.length ≤ I.length + c := fun n I => by
          have := make_len k hk hkw n I
          simp only [makeHd]; omega
        have hF' : ∀ F : Int → List Inst → Int × List Inst, F = (fun n J => makeHd [k] n J) → ∀ n I, (F n I).2.length ≤ I.length + c := by
          rintro F rfl n I; exact hF n I
        generalize hFF : (fun n J => makeHd [k] n J) = F
        have hF := hF' F hFF.symm
        have e0 : (mx - mn).toNat = 0 := by omega
        rw [e0]
        simp only [optF]
        have t1 := times_len hF mn.toNat (starF F next I).1 (starF F next I).2
        have t2 : (starF F next I).2.length ≤ I.length + 1 + c := by
          simp only [starF, setX_len]
          have := hF I.length (I ++ [⟨2, noNode, 0, next⟩])
          simp at this ⊢; omega
        obtain ⟨m, rfl⟩ := Int.eq_ofNat_of_zero_le r1
        simp only [Int.toNat_natCast] at t1 ⊢
        have hprod : ((m * c : Nat) : Int) = m * (2 * weightF k - 1) := by rw [Int.natCast_mul, hc]
        have e2 : (m : Int) * (2 * weightF k - 1) = 2 * (weightF k * m) - m := by rw [Int.mul_sub, Int.mul_one, Int.mul_comm (m : Int) (2 * weightF k), Int.mul_assoc]
        have e3 : weightF k * ((m : Int) + 1) = weightF k * m + weightF k := by rw [Int.mul_add, Int.mul_one]
        rw [e3] at hw ⊢
        omega
      · simp only [if_neg hmx] at hw hp ⊢
        have e1 : min (max mx 0) bigW = mx := by omega
        rw [e1] at hw hp ⊢
        have r5' := r5 (by omega)
        by_cases hz : mx = 0
        · subst hz
          have : mn = 0 := by omega
          subst this
          simp only [show ((0 : Int) - 0).toNat = 0 from rfl, show (0 : Int).toNat = 0 from rfl, optF, timesF]
          omega
        have hkw : weightF k < bigW := by
          rcases Int.lt_or_le (weightF k) bigW with h | h
          · exact h
          · rw [show min (0 + weightF k) bigW = bigW by omega] at hw
            have := Int.mul_le_mul_of_nonneg_left (show 1 ≤ mx by omega) (show 0 ≤ bigW by omega)
            omega
        rw [show min (0 + weightF k) bigW = weightF k by omega] at hw ⊢
        obtain ⟨c, hc⟩ : ∃ c : Nat, (c : Int) = 2 * weightF k - 1 := ⟨(2 * weightF k - 1).toNat, by omega⟩
        have hF : ∀ n I, (makeHd [k] n I).2.length ≤ I.length + c := fun n I => by
          have := make_len k hk hkw n I
          simp only [makeHd]; omega
        have hF' : ∀ F : Int → List Inst → Int × List Inst, F = (fun n J => makeHd [k] n J) → ∀ n I, (F n I).2.length ≤ I.length + c := by
          rintro F rfl n I; exact hF n I
        generalize hFF : (fun n J => makeHd [k] n J) = F
        have hF := hF' F hFF.symm
        have t1 := opt_len hF (mx - mn).toNat next I
        have t2 := times_len hF mn.toNat (optF F (mx - mn).toNat next I).1 (optF F (mx - mn).toNat next I).2
        obtain ⟨m, rfl⟩ := Int.eq_ofNat_of_zero_le r1
        obtain ⟨d, hd⟩ : ∃ d : Nat, mx = m + d := ⟨(mx - m).toNat, by omega⟩
        subst hd
        rw [show ((m : Int) + d - m).toNat = d by omega] at t1 t2 ⊢
        simp only [Int.toNat_natCast] at t2 ⊢
        have p1 : ((d * (c + 1) : Nat) : Int) = 2 * (weightF k * d) := by
          rw [Int.natCast_mul, Int.natCast_add, hc]
          rw [show (2 * weightF k - 1 + ((1 : Nat) : Int)) = 2 * weightF k by omega, Int.mul_comm (d : Int), Int.mul_assoc]
        have p2 : ((m * c : Nat) : Int) = 2 * (weightF k * m) - m := by
          rw [Int.natCast_mul, hc, Int.mul_sub, Int.mul_one, Int.mul_comm (m : Int) (2 * weightF k), Int.mul_assoc]
        rw [Int.mul_add] at hw ⊢
        omega
    · simp only [if_neg h7, List.length_append, List.length_singleton]; omega
theorem makeCat_len : ∀ (ks : List Rx) (n : Int), 0 ≤ n → ValidsAll ks → weightsF ks n < bigW → ∀ (next : Int) (I : List Inst), ((makeCat ks next I).2.length : Int) ≤ I.length + 2 * (weightsF ks n - n) - ks.length
  | [], n, h0, h, hw, next, I => by simp [makeCat, weightsF]
  | k :: ks, n, h0, h, hw, next, I => by
    have h1 := weight_pos k h.1
    obtain ⟨w1, w2⟩ := weights_cons h0 h hw
    rw [w2] at hw w1 ⊢
    have hb : bigW = 1048576 := rfl
    have a := makeCat_len ks (n + weightF k) (by omega) h.2 hw next I
    have b := make_len k h.1 (by omega) (makeCat ks next I).1 (makeCat ks next I).2
    simp only [makeCat, List.length_cons]
    omega
theorem makeAlt_len : ∀ (ks : List Rx) (n : Int), 0 ≤ n → ks ≠ [] → ValidsAll ks → weightsF ks n < bigW → ∀ (next : Int) (I : List Inst), ((makeAlt ks next I).2.length : Int) ≤ I.length + 2 * (weightsF ks n - n) - 1
  | [], n, h0, hne, h, hw, next, I => absurd rfl hne
  | k :: ks, n, h0, hne, h, hw, next, I => by
    have h1 := weight_pos k h.1
    obtain ⟨w1, w2⟩ := weights_cons h0 h hw
    rw [w2] at hw w1 ⊢
    have hb : bigW = 1048576 := rfl
    simp only [makeAlt]
    by_cases he : ks = []
    · rw [if_pos he]
      subst he
      simp only [weightsF] at hw ⊢
      have b := make_len k h.1 (by omega) next I
      omega
    · rw [if_neg he]
      have a := makeAlt_len ks (n + weightF k) (by omega) he h.2 hw next I
      have b := make_len k h.1 (by omega) next (makeAlt ks next I).2
      simp only [List.length_append, List.length_singleton]
      omega
end
theorem compiled_len {t : Rx} (h : Valids t) (hw : weightF t ≤ 200) : (compiled t).2.length ≤ 400 := by
  have := make_len t h (by have : bigW = 1048576 := rfl; omega) 0 [⟨3, noNode, 0, 0⟩]
  unfold compiled
  simp at this; omega
end Thr

/- The walk of make: the instructions of a node. -/
namespace Go.Proofs.YtanmlgliibgpcaaDoor
open Go.RowKit Thr
set_option linter.unusedVariables false
set_option linter.unusedSimpArgs false

def MakeOK (t : Rx) : Prop := ∀ (next : Int) (I : List Inst) (vI : Value) (w : World) (base bp : Nat) (fold bytes : Bool) (cs : List Value), MkP w base bp fold bytes I vI → TreeAt (fun k => k < base) w t cs → 0 ≤ next → next < I.length → (make t next I).2.length ≤ 1000 →
  Calls Tryd.prog 14 #[.pointer (some ⟨bp, 0, none⟩), .agg cs.toArray, .int .i64 next] w fun e w' => e = .returned (.int .i64 (make t next I).1) ∧ ∃ vI', MkP w' base bp fold bytes (make t next I).2 vI' ∧ Keeps (TurnP bp vI) w w' ∧ At w vI vI'

theorem TreeAt.more {B : Nat} {w w' : World} {t : Rx} {cs : List Value} (h : TreeAt (fun k => k < B) w t cs) (hb : ∀ k, k < B → k < w.heap.size → w'.heap[k]? = w.heap[k]?) : TreeAt (fun k => k < B) w' t cs := TreeAt.step (fun k hk hl => hb k hk hl) t cs h
theorem MkP.then_ {w w' : World} {base bp : Nat} {fold bytes : Bool} {I : List Inst} {vI : Value} (h : MkP w base bp fold bytes I vI) {t : Rx} {cs : List Value} (ht : TreeAt (fun k => k < base) w t cs) (hk : Keeps (TurnP bp vI) w w') : TreeAt (fun k => k < base) w' t cs :=
  ht.more fun k hk1 hk2 => hk.block k hk2 (h.old_not hk1)
theorem no_tree (ok : Nat → Prop) (w : World) : TreeAt ok w noNode [.int .i64 0, .int .i64 0, .bool false, .slice none 0 0, .int .i64 0, .int .i64 0, .slice none 0 0] := by
  simp only [noNode, TreeAt]
  refine ⟨_, none, 0, rfl, SetAt.nil _ _, Nat.le_refl _, by omega, .inl ?_⟩
  trivial

set_option maxHeartbeats 4000000 in
theorem make_empty (code : Int) (neg : Bool) (set : List (Int × Int)) (mn mx : Int) (kids : List Rx) : MakeOK (.mk 1 code neg set mn mx kids) := by
  intro next I vI w base bp fold bytes cs hP ht h0 h1 hl
  simp only [TreeAt] at ht
  obtain ⟨vs, A, cc, rfl, ⟨As, cs', rfl, -⟩, -⟩ := ht
  simp only [make, if_true] at hl ⊢
  have HP := hide hP
  clear hP
  go_enter Tryd.func14, Tryd.ntmps14
  go_wp2_with fail
  go_ret
  exact ⟨rfl, vI, (unhide HP).alloc _, (Keeps.refl _ _).alloc _, .inl rfl⟩

set_option maxHeartbeats 4000000 in
theorem make_char (kind code : Int) (neg : Bool) (set : List (Int × Int)) (mn mx : Int) (kids : List Rx) (hk : kind = 2 ∨ kind = 3 ∨ kind = 4) : MakeOK (.mk kind code neg set mn mx kids) := by
  intro next I vI w base bp fold bytes cs hP ht h0 h1 hl
  have ht0 := ht
  simp only [TreeAt] at ht
  obtain ⟨vs, A, cc, rfl, ⟨As, cs', rfl, -⟩, -⟩ := ht
  have e0 : make (.mk kind code neg set mn mx kids) next I = ((I.length : Int), I ++ [⟨0, .mk kind code neg set mn mx kids, next, 0⟩]) := by
    simp only [make]
    rw [if_neg (by omega), if_pos hk]
  rw [e0] at hl ⊢
  have HP := hide hP; have HT := hide ht0
  clear hP ht0 e0
  simp at hl
  rcases hk with rfl | rfl | rfl
  all_goals
    go_enter Tryd.func14, Tryd.ntmps14
    go_wp2_with fail
    refine (add_calls ⟨0, _, next, 0⟩ _ _ ((unhide HP).alloc _) ((unhide HT).more fun k _ hk => Below.heap_alloc _ _ _ hk) (by omega)).mono ?_
    rintro e w1 ⟨rfl, vI1, hP1, hK1, hA1⟩
    go_wp2_with fail
    go_ret
    exact ⟨rfl, vI1, hP1, ((Keeps.refl _ _).alloc _).trans hK1 (fun _ _ h => h), At.later hA1 (by simp)⟩

set_option maxHeartbeats 4000000 in
theorem make_check (kind code : Int) (neg : Bool) (set : List (Int × Int)) (mn mx : Int) (kids : List Rx) (hk : ¬ kind = 1 ∧ ¬ kind = 2 ∧ ¬ kind = 3 ∧ ¬ kind = 4 ∧ ¬ kind = 5 ∧ ¬ kind = 6 ∧ ¬ kind = 7) : MakeOK (.mk kind code neg set mn mx kids) := by
  intro next I vI w base bp fold bytes cs hP ht h0 h1 hl
  have ht0 := ht
  simp only [TreeAt] at ht
  obtain ⟨vs, A, cc, rfl, ⟨As, cs', rfl, -⟩, -⟩ := ht
  obtain ⟨k1, k2, k3, k4, k5, k6, k7⟩ := hk
  have e0 : make (.mk kind code neg set mn mx kids) next I = ((I.length : Int), I ++ [⟨1, .mk kind code neg set mn mx kids, next, 0⟩]) := by
    simp only [make]
    rw [if_neg k1, if_neg (by omega), if_neg k5, if_neg k6, if_neg k7]
  rw [e0] at hl ⊢
  have k1' : (kind == 1) = false := by simpa using k1
  have k2' : (kind == 2) = false := by simpa using k2
  have k3' : (kind == 3) = false := by simpa using k3
  have k4' : (kind == 4) = false := by simpa using k4
  have k5' : (kind == 5) = false := by simpa using k5
  have k6' : (kind == 6) = false := by simpa using k6
  have k7' : (kind == 7) = false := by simpa using k7
  have HP := hide hP; have HT := hide ht0
  clear hP ht0 e0 k1 k2 k3 k4 k5 k6 k7
  simp at hl
  go_enter Tryd.func14, Tryd.ntmps14
  go_wp2_with fail
  refine (add_calls ⟨1, _, next, 0⟩ _ _ ((unhide HP).alloc _) ((unhide HT).more fun k _ hk => Below.heap_alloc _ _ _ hk) (by omega)).mono ?_
  rintro e w1 ⟨rfl, vI1, hP1, hK1, hA1⟩
  go_wp2_with fail
  go_ret
  exact ⟨rfl, vI1, hP1, ((Keeps.refl _ _).alloc _).trans hK1 (fun _ _ h => h), At.later hA1 (by simp)⟩

theorem makes_drop {ks : List Rx} (h : MakesAll ks) : ∀ n, MakesAll (ks.drop n) := by
  induction ks with
  | nil => intro n; simpa using h
  | cons k ks ih =>
    intro n
    cases n with
    | zero => exact h
    | succ n => exact ih h.2 n
theorem _root_.Thr.MakesAll.get : ∀ {ks : List Rx}, MakesAll ks → ∀ k ∈ ks, Makes k
  | [], _, k, hk => by simp at hk
  | k' :: ks, h, k, hk => by
    rcases List.mem_cons.1 hk with rfl | hk
    · exact h.1
    · exact Thr.MakesAll.get h.2 k hk
theorem cat_drop {ks : List Rx} {m : Nat} (hm : m < ks.length) (next : Int) (I : List Inst) : makeCat (ks.drop m) next I = make ks[m] (makeCat (ks.drop (m + 1)) next I).1 (makeCat (ks.drop (m + 1)) next I).2 := by
  rw [List.drop_eq_getElem_cons hm, makeCat]
theorem cat_in {ks : List Rx} (h : MakesAll ks) {next : Int} {I : List Inst} (h0 : 0 ≤ next) (h1 : next < I.length) (n : Nat) :
    0 ≤ (makeCat (ks.drop n) next I).1 ∧ (makeCat (ks.drop n) next I).1 < (makeCat (ks.drop n) next I).2.length := (makeCat_made _ next I (makes_drop h n) h0 h1).start
theorem cat_mono {ks : List Rx} (h : MakesAll ks) {next : Int} {I : List Inst} (h0 : 0 ≤ next) (h1 : next < I.length) : ∀ n, (makeCat (ks.drop n) next I).2.length ≤ (makeCat ks next I).2.length
  | 0 => by simp
  | n + 1 => by
    have ih := cat_mono h h0 h1 n
    rcases Nat.lt_or_ge n ks.length with hn | hn
    · rw [cat_drop hn] at ih
      have c := cat_in h h0 h1 (n + 1)
      have := (make_made ks[n] _ _ (h.get _ (List.getElem_mem hn)) c.1 c.2).len
      omega
    · rw [List.drop_eq_nil_of_le hn] at ih
      rw [List.drop_eq_nil_of_le (by omega)]
      exact ih

theorem kid_cells {ok : Nat → Prop} {W : World} {kids : List Rx} {A : Option Addr} (h : kids = [] ∨ ∃ b o, A = some ⟨b, o, none⟩ ∧ ok b ∧ KidsAt ok W kids b o) (m : Nat) (hm : m < kids.length) :
    ∃ b o, A = some ⟨b, o, none⟩ ∧ ok b ∧ ∃ csk, TreeAt ok W kids[m] csk ∧ ∀ (j : Nat) (v : Value), csk[j]? = some v → W.cell? ⟨b, o + m * 7 + j, none⟩ = some v := by
  rcases h with rfl | ⟨b, o, hA, hb, hk⟩
  · simp at hm
  · obtain ⟨cs, h1, h2⟩ := hk.kid m kids[m] (List.getElem?_eq_getElem hm)
    exact ⟨b, o, hA, hb, cs, h1, h2⟩

set_option maxHeartbeats 4000000 in
theorem make_cat (code : Int) (neg : Bool) (set : List (Int × Int)) (mn mx : Int) (kids : List Rx) (hk : ∀ k ∈ kids, MakeOK k) (hv : MakesAll kids) : MakeOK (.mk 5 code neg set mn mx kids) := by
  intro next I vI w base bp fold bytes cs hP ht h0 h1 hl
  have ht0 := ht
  simp only [TreeAt] at ht
  obtain ⟨vs, A, cc, rfl, ⟨As, cs', rfl, -⟩, hc1, hc2, hkids⟩ := ht
  have e0 : make (.mk 5 code neg set mn mx kids) next I = makeCat kids next I := by simp [make]
  rw [e0] at hl ⊢
  obtain ⟨R, hR⟩ : ∃ R, makeCat kids next I = R := ⟨_, rfl⟩
  rw [hR]
  rw [hR] at hl
  have HP := hide hP; have HT := hide ht0; have HK := hide hk; have HV := hide hv; have HR := hide hR; have HKI := hide hkids
  have hbp := hP.bp_lt
  have hbb := hP.lt
  clear hP ht0 e0 hk hv hR hkids
  go_enter Tryd.func14, Tryd.ntmps14
  go_wp2_with fail
  go_loopw [2, 7] (fun next_ i_ wr => ∃ (n : Nat) (vI' : Value), n ≤ kids.length ∧ i_ = .int .i64 ((n : Int) - 1) ∧ next_ = .int .i64 (makeCat (kids.drop n) next I).1 ∧ Hid (MkP wr base bp fold bytes (makeCat (kids.drop n) next I).2 vI') ∧ Hid (Keeps (TurnP bp vI) (w.alloc (.cells #[.int .i64 5, .int .i64 code, .bool neg, .slice As set.length cs', .int .i64 mn, .int .i64 mx, .slice A kids.length cc] 26)) wr) ∧ Hid (At (w.alloc (.cells #[.int .i64 5, .int .i64 code, .bool neg, .slice As set.length cs', .int .i64 mn, .int .i64 mx, .slice A kids.length cc] 26)) vI vI'))
    (fun _ i_ _ => (intOf i_ + 1).toNat)
  case atStart =>
    refine ⟨kids.length, vI, Nat.le_refl _, rfl, ?_, ?_, Keeps.refl _ _, .inl rfl⟩
    · rw [List.drop_length]; rfl
    · rw [List.drop_length]; exact (unhide HP).alloc _
  case round =>
    obtain ⟨n, vI', hn, rfl, rfl, HP1, HK1, HA1⟩ := hrel
    by_cases hn0 : n = 0
    · subst hn0
      rw [List.drop_zero, unhide HR] at HP1 ⊢
      go_wp2_with fail
      go_ret
      exact ⟨rfl, vI', unhide HP1, ((Keeps.refl _ _).alloc _).trans (unhide HK1) (fun _ _ h => h), At.later (unhide HA1) (by simp)⟩
    · obtain ⟨m, rfl⟩ : ∃ m, n = m + 1 := ⟨n - 1, by omega⟩
      have hm : m < kids.length := by omega
      obtain ⟨b, o, rfl, hb, csk, htk, hck⟩ := kid_cells (unhide HKI) m hm
      have hmem := List.getElem_mem hm
      have hd := cat_drop hm next I
      have hmo := cat_mono (unhide HV) h0 h1 m
      rw [unhide HR, hd] at hmo
      obtain ⟨i0, i1⟩ := cat_in (unhide HV) h0 h1 (m + 1)
      have hok := (unhide HK) kids[m] hmem
      rw [show (((m + 1 : Nat) : Int) - 1) = (m : Int) by omega]
      have hds : ∀ x, (fun n => makeCat (List.drop n kids) next I) m = x → makeCat (List.drop m kids) next I = x := fun x h => h
      generalize kids[m] = kid at *
      obtain ⟨kind', code', neg', set', mn', mx', kids'⟩ := kid
      have htk0 := htk
      simp only [TreeAt] at htk
      obtain ⟨vs', A', cc', rfl, ⟨As', cs'', rfl, -⟩, -⟩ := htk
      have hbl : b < w.heap.size := by omega
      have fr : ∀ j, wr.cell? ⟨b, j, none⟩ = w.cell? ⟨b, j, none⟩ := fun j => ((unhide HK1).cell (by simp; omega) ((unhide HP).old_not hb)).trans (by go_simp)
      have e0 := (fr _).trans (hck 0 _ rfl)
      have e1 := (fr _).trans (hck 1 _ rfl)
      have e2 := (fr _).trans (hck 2 _ rfl)
      have e3 := (fr _).trans (hck 3 _ rfl)
      have e4 := (fr _).trans (hck 4 _ rfl)
      have e5 := (fr _).trans (hck 5 _ rfl)
      have e6 := (fr _).trans (hck 6 _ rfl)
      have t6 : wr.cell? ⟨w.heap.size, 6, none⟩ = some (.slice (some ⟨b, o, none⟩) kids.length cc) := ((unhide HK1).cell (by simp) ((unhide HP).new_not (Nat.le_refl _))).trans (by go_simp)
      have htw : TreeAt (fun k => k < base) wr _ _ := ((htk0.more (w' := w.alloc _) fun k _ hk => Below.heap_alloc w (.cells #[.int .i64 5, .int .i64 code, .bool neg, .slice As set.length cs', .int .i64 mn, .int .i64 mx, .slice (some ⟨b, o, none⟩) kids.length cc] 26) k hk).more fun k hk1 hk2 => (unhide HK1).block k hk2 ((unhide HP).old_not hk1))
      simp at e0
      have hlx : (makeCat (List.drop m kids) next I).2.length ≤ 1000 := by rw [hd]; omega
      have HOK := hide hok; have HTW := hide htw; have HD := hide hd
      clear hok htw hd fr hck htk0 hmo hds
      go_wp2_with fail
      refine ((unhide HOK) _ _ vI' _ base bp fold bytes _ (unhide HP1) (unhide HTW) i0 i1 (by rw [unhide HD] at hlx; exact hlx)).mono ?_
      rintro e w2 ⟨rfl, vI2, hP2, hK2, hA2⟩
      have HP2 := hide hP2; have HK2 := hide hK2; have HA2 := hide hA2
      clear hP2 hK2 hA2
      go_wp2_with fail
      go_roundw
      case rel =>
        refine ⟨m, vI2, by omega, rfl, ?_, ?_, (unhide HK1).trans (unhide HK2) (fun k hk ht => Turnp.of_at (unhide HA1) k hk ht), At.trans (unhide HA1) (unhide HA2) (unhide HK1).size⟩
        · rw [unhide HD]
        · rw [unhide HD]; exact HP2
      case measure => simp [intOf]
end Go.Proofs.YtanmlgliibgpcaaDoor

/- The walk of make: a choice. -/
namespace Go.Proofs.YtanmlgliibgpcaaDoor
open Go.RowKit Thr
set_option linter.unusedVariables false
set_option linter.unusedSimpArgs false

theorem alt_last {ks : List Rx} {m : Nat} (hm : m + 1 = ks.length) (next : Int) (I : List Inst) : makeAlt (ks.drop m) next I = make (ks[m]'(by omega)) next I := by
  rw [List.drop_eq_getElem_cons (by omega)]
  simp only [makeAlt]
  rw [if_pos (List.drop_eq_nil_of_le (by omega))]
theorem alt_drop {ks : List Rx} {m : Nat} (hm : m + 1 < ks.length) (next : Int) (I : List Inst) : makeAlt (ks.drop m) next I =
    (((make (ks[m]'(by omega)) next (makeAlt (ks.drop (m + 1)) next I).2).2.length : Int), (make (ks[m]'(by omega)) next (makeAlt (ks.drop (m + 1)) next I).2).2 ++ [⟨2, noNode, (make (ks[m]'(by omega)) next (makeAlt (ks.drop (m + 1)) next I).2).1, (makeAlt (ks.drop (m + 1)) next I).1⟩]) := by
  rw [List.drop_eq_getElem_cons (show m < ks.length by omega)]
  simp only [makeAlt]
  rw [if_neg (by intro e; have := congrArg List.length e; simp at this; omega)]
theorem alt_in {ks : List Rx} (h : MakesAll ks) {next : Int} {I : List Inst} (h0 : 0 ≤ next) (h1 : next < I.length) (n : Nat) (hn : n < ks.length) :
    0 ≤ (makeAlt (ks.drop n) next I).1 ∧ (makeAlt (ks.drop n) next I).1 < (makeAlt (ks.drop n) next I).2.length ∧ I.length ≤ (makeAlt (ks.drop n) next I).2.length := by
  have := makeAlt_made (ks.drop n) next I (by intro e; have := congrArg List.length e; simp at this; omega) (makes_drop h n) h0 h1
  exact ⟨this.start.1, this.start.2, this.len⟩
theorem alt_mono {ks : List Rx} (h : MakesAll ks) {next : Int} {I : List Inst} (h0 : 0 ≤ next) (h1 : next < I.length) : ∀ n, n < ks.length → (makeAlt (ks.drop n) next I).2.length ≤ (makeAlt ks next I).2.length
  | 0, _ => by simp
  | n + 1, hn => by
    have ih := alt_mono h h0 h1 n (by omega)
    rw [alt_drop hn] at ih
    have c := alt_in h h0 h1 (n + 1) hn
    have := (make_made (ks[n]'(by omega)) next _ (h.get _ (List.getElem_mem (by omega))) h0 (show next < (makeAlt (ks.drop (n + 1)) next I).2.length by omega)).len
    simp at ih
    omega

set_option maxRecDepth 100000 in
set_option maxHeartbeats 8000000 in
theorem make_alt (code : Int) (neg : Bool) (set : List (Int × Int)) (mn mx : Int) (kids : List Rx) (hk : ∀ k ∈ kids, MakeOK k) (hv : MakesAll kids) (hne : 0 < kids.length) : MakeOK (.mk 6 code neg set mn mx kids) := by
  intro next I vI w base bp fold bytes cs hP ht h0 h1 hl
  simp only [TreeAt] at ht
  obtain ⟨vs, A, cc, rfl, ⟨As, cs', rfl, -⟩, hc1, hc2, hkids⟩ := ht
  have e0 : make (.mk 6 code neg set mn mx kids) next I = makeAlt kids next I := by simp [make]
  rw [e0] at hl ⊢
  obtain ⟨R, hR⟩ : ∃ R, makeAlt kids next I = R := ⟨_, rfl⟩
  rw [hR]
  rw [hR] at hl
  obtain ⟨l, hlk⟩ : ∃ l, kids.length = l + 1 := ⟨kids.length - 1, by omega⟩
  have HP := hide hP; have HK := hide hk; have HV := hide hv; have HR := hide hR; have HKI := hide hkids
  have hbp := hP.bp_lt
  have hbb := hP.lt
  clear hP e0 hk hv hR hkids hne
  have hll : l < kids.length := by omega
  obtain ⟨b, o, rfl, hb, csk, htk, hck⟩ := kid_cells (unhide HKI) l hll
  have hmo := alt_mono (unhide HV) h0 h1 l hll
  have hal := alt_last (by omega : l + 1 = kids.length) next I
  rw [unhide HR, hal] at hmo
  have hok := (unhide HK) kids[l] (List.getElem_mem hll)
  have hwrap : ((l + 1 : Nat) : Int) - 1 = (l : Int) := by omega
  generalize kids[l] = kid at *
  obtain ⟨kind', code', neg', set', mn', mx', kids'⟩ := kid
  have htk0 := htk
  simp only [TreeAt] at htk
  obtain ⟨vs', A', cc', rfl, ⟨As', cs'', rfl, -⟩, -⟩ := htk
  have hbl : b < w.heap.size := by omega
  have e0 := hck 0 _ rfl
  have e1 := hck 1 _ rfl
  have e2 := hck 2 _ rfl
  have e3 := hck 3 _ rfl
  have e4 := hck 4 _ rfl
  have e5 := hck 5 _ rfl
  have e6 := hck 6 _ rfl
  have HTW := hide (htk0.more (w' := w.alloc _) fun k _ hk => Below.heap_alloc w (.cells #[.int .i64 6, .int .i64 code, .bool neg, .slice As set.length cs', .int .i64 mn, .int .i64 mx, .slice (some ⟨b, o, none⟩) kids.length cc] 26) k hk)
  simp at e0
  have HOK := hide hok; have HAL := hide hal
  rw [hlk] at HTW ⊢
  clear hok hck htk0 hal
  go_enter Tryd.func14, Tryd.ntmps14
  go_wp2_with fail
  refine ((unhide HOK) _ _ vI _ base bp fold bytes _ ((unhide HP).alloc _) (unhide HTW) h0 h1 (by omega)).mono ?_
  rintro e w2 ⟨rfl, vI2, hP2, hK2, hA2⟩
  have t6 : w2.cell? ⟨w.heap.size, 6, none⟩ = some (.slice (some ⟨b, o, none⟩) (l + 1) cc) := (hK2.cell (by simp) ((unhide HP).new_not (Nat.le_refl _))).trans (by go_simp)
  rw [← unhide HAL] at hP2 ⊢
  have HP2 := hide hP2; have HK2 := hide hK2; have HA2 := hide hA2
  clear hP2 hK2 hA2 HTW HOK e0 e1 e2 e3 e4 e5 e6 hmo HAL
  go_wp2_with fail
  go_loopw [8, 9] (fun at_ i_ wr => ∃ (n : Nat) (vI' : Value), n ≤ l ∧ i_ = .int .i64 ((n : Int) - 1) ∧ at_ = .int .i64 (makeAlt (kids.drop n) next I).1 ∧ Hid (MkP wr base bp fold bytes (makeAlt (kids.drop n) next I).2 vI') ∧ Hid (Keeps (TurnP bp vI) (w.alloc (.cells #[.int .i64 6, .int .i64 code, .bool neg, .slice As set.length cs', .int .i64 mn, .int .i64 mx, .slice (some ⟨b, o, none⟩) (l + 1) cc] 26)) wr) ∧ Hid (At (w.alloc (.cells #[.int .i64 6, .int .i64 code, .bool neg, .slice As set.length cs', .int .i64 mn, .int .i64 mx, .slice (some ⟨b, o, none⟩) (l + 1) cc] 26)) vI vI'))
    (fun _ i_ _ => (intOf i_ + 1).toNat)
  case atStart =>
    refine ⟨l, vI2, Nat.le_refl _, ?_, rfl, HP2, HK2, HA2⟩
    go_num
  case round =>
    clear HP2 HK2 HA2 t6
    obtain ⟨n, vI', hn, rfl, rfl, HP1, HK1, HA1⟩ := hrel
    by_cases hn0 : n = 0
    · subst hn0
      rw [List.drop_zero, unhide HR] at HP1 ⊢
      go_wp2_with fail
      go_ret
      exact ⟨rfl, vI', unhide HP1, ((Keeps.refl _ _).alloc _).trans (unhide HK1) (fun _ _ h => h), At.later (unhide HA1) (by simp)⟩
    · obtain ⟨m, rfl⟩ : ∃ m, n = m + 1 := ⟨n - 1, by omega⟩
      have hm : m < kids.length := by omega
      obtain ⟨b2, o2, hA, hb2, csk, htk, hck⟩ := kid_cells (unhide HKI) m hm
      obtain ⟨rfl, rfl⟩ : b = b2 ∧ o = o2 := by cases hA; exact ⟨rfl, rfl⟩
      have hmem := List.getElem_mem hm
      have hd := alt_drop (show m + 1 < kids.length by omega) next I
      have hmo := alt_mono (unhide HV) h0 h1 m hm
      rw [unhide HR, hd] at hmo
      obtain ⟨i0, i1, i2⟩ := alt_in (unhide HV) h0 h1 (m + 1) (by omega)
      have hok := (unhide HK) kids[m] hmem
      rw [show (((m + 1 : Nat) : Int) - 1) = (m : Int) by omega]
      generalize kids[m] = kid at *
      obtain ⟨kind', code', neg', set', mn', mx', kids'⟩ := kid
      have htk0 := htk
      simp only [TreeAt] at htk
      obtain ⟨vs', A', cc', rfl, ⟨As', cs'', rfl, -⟩, -⟩ := htk
      have fr : ∀ j, wr.cell? ⟨b, j, none⟩ = w.cell? ⟨b, j, none⟩ := fun j => ((unhide HK1).cell (by simp; omega) ((unhide HP).old_not hb)).trans (by go_simp)
      have e0 := (fr _).trans (hck 0 _ rfl)
      have e1 := (fr _).trans (hck 1 _ rfl)
      have e2 := (fr _).trans (hck 2 _ rfl)
      have e3 := (fr _).trans (hck 3 _ rfl)
      have e4 := (fr _).trans (hck 4 _ rfl)
      have e5 := (fr _).trans (hck 5 _ rfl)
      have e6 := (fr _).trans (hck 6 _ rfl)
      have t6 : wr.cell? ⟨w.heap.size, 6, none⟩ = some (.slice (some ⟨b, o, none⟩) (l + 1) cc) := ((unhide HK1).cell (by simp) ((unhide HP).new_not (Nat.le_refl _))).trans (by go_simp)
      have htw : TreeAt (fun k => k < base) wr _ _ := ((htk0.more (w' := (w.alloc (.cells #[.int .i64 6, .int .i64 code, .bool neg, .slice As set.length cs', .int .i64 mn, .int .i64 mx, .slice (some ⟨b, o, none⟩) (l + 1) cc] 26))) fun k _ hk => Below.heap_alloc w _ k hk).more fun k hk1 hk2 => (unhide HK1).block k hk2 ((unhide HP).old_not hk1))
      simp at e0
      have HOK := hide hok; have HTW := hide htw; have HD := hide hd
      simp at hmo
      clear hok htw hd fr hck htk0 
      go_wp2_with fail
      refine ((unhide HOK) _ _ vI' _ base bp fold bytes _ (unhide HP1) (unhide HTW) h0 (by omega) (by omega)).mono ?_
      rintro e w2 ⟨rfl, vI2, hP2, hK2, hA2⟩
      have HP2 := hide hP2; have HK2 := hide hK2; have HA2 := hide hA2
      clear hP2 hK2 hA2
      go_wp2_with fail
      refine (add_calls ⟨2, noNode, _, _⟩ _ _ (unhide HP2) (no_tree _ _) (by omega)).mono ?_
      rintro e w3 ⟨rfl, vI3, hP3, hK3, hA3⟩
      have HP3 := hide hP3; have HK3 := hide hK3; have HA3 := hide hA3
      clear hP3 hK3 hA3
      go_wp2_with fail
      go_roundw
      case rel =>
        have hK4 := (unhide HK1).trans (unhide HK2) (fun k hk ht => Turnp.of_at (unhide HA1) k hk ht)
        have hA4 := At.trans (unhide HA1) (unhide HA2) (unhide HK1).size
        refine ⟨m, vI3, by omega, rfl, ?_, ?_, hK4.trans (unhide HK3) (fun k hk ht => Turnp.of_at hA4 k hk ht), At.trans hA4 (unhide HA3) hK4.size⟩
        · rw [unhide HD]
        · rw [unhide HD]; exact HP3
      case measure => simp [intOf]
end Go.Proofs.YtanmlgliibgpcaaDoor

/- The walk of repeat. -/
namespace Go.Proofs.YtanmlgliibgpcaaDoor
open Go.RowKit Thr
set_option linter.unusedVariables false
set_option linter.unusedSimpArgs false

theorem MkP.put {w : World} {base bp : Nat} {fold bytes : Bool} {I : List Inst} {vI : Value} (h : MkP w base bp fold bytes I vI) {n : Nat} (hn : n < I.length) (c : Int) :
    ∃ g cap u, vI = .slice (some ⟨g, 0, none⟩) I.length cap ∧ g ≠ bp ∧ g < w.heap.size ∧ w.cell? ⟨g, n * 10 + 8, none⟩ = some (.int .i64 u) ∧ w.frozen? ⟨g, n * 10 + 8, none⟩ = false ∧
      MkP (w.setCell ⟨g, n * 10 + 8, none⟩ (.int .i64 c)) base bp fold bytes (setX I n c) vI := by
  obtain ⟨xs, ho, hr⟩ := h.own
  have hne := h.ne
  rcases ho with ⟨hl, ⟨rfl, h0⟩ | ⟨g, cap, cur, rfl, hg, hh, hc1, hc2, hc3, hc4⟩⟩
  · omega
  have hgb : g ≠ bp := by rintro rfl; exact hne rfl
  obtain ⟨q, hq⟩ : ∃ q, I[n]? = some q := ⟨_, List.getElem?_eq_getElem hn⟩
  obtain ⟨cs, ht, hc⟩ := hr.2 n q hq
  have h8 := hc 8 (.int .i64 q.x) (by simp [instVals, List.getElem?_append, ht.len])
  have hsz : n * 10 + 8 < cur.size := by rw [hc3]; omega
  refine ⟨g, cap, q.x, rfl, hgb, (Array.getElem?_eq_some_iff.1 hh).1, ?_, by simp [World.frozen?, hh], ?_⟩
  · rw [cell_of_row w g _ cur _ (0, 0) hh, ← Array.getElem?_toList, ← h8, ← hc4, List.getElem?_take, if_pos (by omega)]
  · refine ⟨h.row.far (Ne.symm hgb) _, ⟨xs.set (n * 10 + 8) (.int .i64 c), ⟨?_, .inr ⟨g, cap, cur.setIfInBounds (n * 10 + 8) (.int .i64 c), ?_, hg, ?_, ?_, hc2, by simpa using hc3, ?_⟩⟩, ?_⟩, h.lt⟩
    · rw [List.length_set, setX_len]; exact hl
    · rw [setX_len]
    · exact Blk.set_ (w := w) hh _ _
    · rw [setX_len]; exact hc1
    · rw [setX_len, Array.toList_setIfInBounds, List.take_set, hc4]
    · exact (hr.put hn c).step (fun k hk hkl => Below.heap_setCell _ _ _ k (by simp only; omega))

theorem make_rep_eq (code : Int) (neg : Bool) (set : List (Int × Int)) (mn mx : Int) (k : Rx) (next : Int) (I : List Inst) : make (.mk 7 code neg set mn mx [k]) next I =
    timesF (make k) mn.toNat (optF (make k) (mx - mn).toNat (if mx < 0 then starF (make k) next I else (next, I)).1 (if mx < 0 then starF (make k) next I else (next, I)).2).1 (optF (make k) (mx - mn).toNat (if mx < 0 then starF (make k) next I else (next, I)).1 (if mx < 0 then starF (make k) next I else (next, I)).2).2 := by
  have e : (fun n J => makeHd [k] n J) = make k := by funext n J; simp [makeHd]
  simp only [make, if_neg (show ¬ (7 : Int) = 1 by omega), if_neg (show ¬ ((7 : Int) = 2 ∨ (7 : Int) = 3 ∨ (7 : Int) = 4) by omega), if_neg (show ¬ (7 : Int) = 5 by omega), if_neg (show ¬ (7 : Int) = 6 by omega), if_true, e]

theorem opt_in {k : Rx} (hk : Makes k) (m : Nat) {next : Int} {I : List Inst} (h0 : 0 ≤ next) (h1 : next < I.length) :
    0 ≤ (optF (make k) m next I).1 ∧ (optF (make k) m next I).1 < (optF (make k) m next I).2.length ∧ I.length ≤ (optF (make k) m next I).2.length := by
  have := opt_made (K := fun J => Frag J k) (F := make k) (fun n J a b => make_made k n J hk a b) m next I h0 h1
  exact ⟨this.start.1, this.start.2, this.len⟩
theorem times_in {k : Rx} (hk : Makes k) (m : Nat) {next : Int} {I : List Inst} (h0 : 0 ≤ next) (h1 : next < I.length) :
    0 ≤ (timesF (make k) m next I).1 ∧ (timesF (make k) m next I).1 < (timesF (make k) m next I).2.length ∧ I.length ≤ (timesF (make k) m next I).2.length := by
  have := times_made (K := fun J => Frag J k) (F := make k) (fun n J a b => make_made k n J hk a b) m next I h0 h1
  exact ⟨this.start.1, this.start.2, this.len⟩
theorem star_in {k : Rx} (hk : Makes k) {next : Int} {I : List Inst} (h0 : 0 ≤ next) (h1 : next < I.length) :
    0 ≤ (starF (make k) next I).1 ∧ (starF (make k) next I).1 < (starF (make k) next I).2.length ∧ I.length ≤ (starF (make k) next I).2.length := by
  have := star_made (K := fun J => Frag J k) (F := make k) (fun n J a b => make_made k n J hk a b) next I h0 h1
  exact ⟨this.start.1, this.start.2, this.len⟩
theorem TreeAt.form {ok : Nat → Prop} {W : World} {t : Rx} {cs : List Value} (h : TreeAt ok W t cs) : ∃ (kind code : Int) (neg : Bool) (As : Option Addr) (ls cs' : Nat) (mn mx : Int) (A : Option Addr) (lk cc : Nat), cs = [.int .i64 kind, .int .i64 code, .bool neg, .slice As ls cs', .int .i64 mn, .int .i64 mx, .slice A lk cc] := by
  obtain ⟨kind, code, neg, set, mn, mx, kids⟩ := t
  simp only [TreeAt] at h
  obtain ⟨vs, A, cc, rfl, ⟨As, cs', rfl, -⟩, -⟩ := h
  exact ⟨_, _, _, _, _, _, _, _, _, _, _, rfl⟩

/-REP-/
set_option maxRecDepth 100000 in
set_option maxHeartbeats 16000000 in
theorem repeat_calls (code : Int) (neg : Bool) (set : List (Int × Int)) (mn mx : Int) (kid : Rx) (hok : MakeOK kid) (hmk : Makes kid) (hmn : 0 ≤ mn) (hmx : -1 ≤ mx) (hmx1 : mx ≤ 1000) (hmn1 : mn ≤ 1000) (next : Int) (I : List Inst) (vI : Value) (w : World) (base bp : Nat) (fold bytes : Bool) (cs : List Value)
    (hP : MkP w base bp fold bytes I vI) (ht : TreeAt (fun k => k < base) w (.mk 7 code neg set mn mx [kid]) cs) (h0 : 0 ≤ next) (h1 : next < I.length) (hl : (make (.mk 7 code neg set mn mx [kid]) next I).2.length ≤ 1000) :
    Calls Tryd.prog 26 #[.pointer (some ⟨bp, 0, none⟩), .agg cs.toArray, .int .i64 next] w fun e w' => e = .returned (.int .i64 (make (.mk 7 code neg set mn mx [kid]) next I).1) ∧ ∃ vI', MkP w' base bp fold bytes (make (.mk 7 code neg set mn mx [kid]) next I).2 vI' ∧ Keeps (TurnP bp vI) w w' ∧ At w vI vI' := by
  rw [make_rep_eq] at hl ⊢
  obtain ⟨R0, hR0⟩ : ∃ R0, (if mx < 0 then starF (make kid) next I else (next, I)) = R0 := ⟨_, rfl⟩
  rw [hR0] at hl ⊢
  obtain ⟨R1, hR1⟩ : ∃ R1, optF (make kid) (mx - mn).toNat R0.1 R0.2 = R1 := ⟨_, rfl⟩
  rw [hR1] at hl ⊢
  obtain ⟨R, hRR⟩ : ∃ R, timesF (make kid) mn.toNat R1.1 R1.2 = R := ⟨_, rfl⟩
  rw [hRR] at hl ⊢
  have hR0in : 0 ≤ R0.1 ∧ R0.1 < R0.2.length ∧ I.length ≤ R0.2.length := by
    rw [← hR0]
    split
    · exact star_in hmk h0 h1
    · exact ⟨h0, h1, Nat.le_refl _⟩
  have hR1in := opt_in hmk (mx - mn).toNat hR0in.1 hR0in.2.1
  rw [hR1] at hR1in
  have hRin := times_in hmk mn.toNat hR1in.1 hR1in.2.1
  rw [hRR] at hRin
  simp only [TreeAt] at ht
  obtain ⟨vs, A, cc, rfl, ⟨As, cs', rfl, -⟩, hc1, hc2, hkids⟩ := ht
  obtain ⟨b, o, rfl, hb, csk, htk, hck⟩ := kid_cells hkids 0 (by simp)
  simp only [List.getElem_cons_zero] at htk
  have HP := hide hP; have HOK := hide hok; have HMK := hide hmk; have HRR := hide hRR; have HR1 := hide hR1
  have hbp := hP.bp_lt
  have hbb := hP.lt
  clear hP hok hRR hR1 hkids
  have htk0 := htk
  obtain ⟨kind', code', neg', As', ls', cs'', mn', mx', A', lk', cc', rfl⟩ := htk.form
  have hbl : b < w.heap.size := by omega
  have e0 := hck 0 _ rfl
  have e1 := hck 1 _ rfl
  have e2 := hck 2 _ rfl
  have e3 := hck 3 _ rfl
  have e4 := hck 4 _ rfl
  have e5 := hck 5 _ rfl
  have e6 := hck 6 _ rfl
  simp at e0 e1 e2 e3 e4 e5 e6
  have hfr : ∀ wr, Keeps (TurnP bp vI) ((w.alloc (.cells #[.int .i64 7, .int .i64 code, .bool neg, .slice As set.length cs', .int .i64 mn, .int .i64 mx, .slice (some ⟨b, o, none⟩) 1 cc] 26)).alloc (.cells #[.int .i64 kind', .int .i64 code', .bool neg', .slice As' ls' cs'', .int .i64 mn', .int .i64 mx', .slice A' lk' cc'] 26)) wr → wr.cell? ⟨w.heap.size, 4, none⟩ = some (.int .i64 mn) ∧ wr.cell? ⟨w.heap.size, 5, none⟩ = some (.int .i64 mx) ∧ wr.cell? ⟨w.heap.size + 1, 0, none⟩ = some (.int .i64 kind') ∧ wr.cell? ⟨w.heap.size + 1, 1, none⟩ = some (.int .i64 code') ∧
      wr.cell? ⟨w.heap.size + 1, 2, none⟩ = some (.bool neg') ∧ wr.cell? ⟨w.heap.size + 1, 3, none⟩ = some (.slice As' ls' cs'') ∧ wr.cell? ⟨w.heap.size + 1, 4, none⟩ = some (.int .i64 mn') ∧ wr.cell? ⟨w.heap.size + 1, 5, none⟩ = some (.int .i64 mx') ∧ wr.cell? ⟨w.heap.size + 1, 6, none⟩ = some (.slice A' lk' cc') ∧ w.heap.size + 1 < wr.heap.size := by
    intro wr hK
    have k0 : ∀ j, wr.cell? ⟨w.heap.size, j, none⟩ = ((w.alloc (.cells #[.int .i64 7, .int .i64 code, .bool neg, .slice As set.length cs', .int .i64 mn, .int .i64 mx, .slice (some ⟨b, o, none⟩) 1 cc] 26)).alloc (.cells #[.int .i64 kind', .int .i64 code', .bool neg', .slice As' ls' cs'', .int .i64 mn', .int .i64 mx', .slice A' lk' cc'] 26)).cell? ⟨w.heap.size, j, none⟩ := fun j => hK.cell (by simp; omega) ((unhide HP).new_not (Nat.le_refl _))
    have k1 : ∀ j, wr.cell? ⟨w.heap.size + 1, j, none⟩ = ((w.alloc (.cells #[.int .i64 7, .int .i64 code, .bool neg, .slice As set.length cs', .int .i64 mn, .int .i64 mx, .slice (some ⟨b, o, none⟩) 1 cc] 26)).alloc (.cells #[.int .i64 kind', .int .i64 code', .bool neg', .slice As' ls' cs'', .int .i64 mn', .int .i64 mx', .slice A' lk' cc'] 26)).cell? ⟨w.heap.size + 1, j, none⟩ := fun j => hK.cell (by simp) ((unhide HP).new_not (by omega))
    have hs := hK.size
    refine ⟨(k0 4).trans (by go_simp), (k0 5).trans (by go_simp), (k1 0).trans (by go_simp), (k1 1).trans (by go_simp), (k1 2).trans (by go_simp), (k1 3).trans (by go_simp), (k1 4).trans (by go_simp), (k1 5).trans (by go_simp), (k1 6).trans (by go_simp), by simp at hs; omega⟩
  have htr : ∀ wr, Keeps (TurnP bp vI) ((w.alloc (.cells #[.int .i64 7, .int .i64 code, .bool neg, .slice As set.length cs', .int .i64 mn, .int .i64 mx, .slice (some ⟨b, o, none⟩) 1 cc] 26)).alloc (.cells #[.int .i64 kind', .int .i64 code', .bool neg', .slice As' ls' cs'', .int .i64 mn', .int .i64 mx', .slice A' lk' cc'] 26)) wr → TreeAt (fun k => k < base) wr kid [.int .i64 kind', .int .i64 code', .bool neg', .slice As' ls' cs'', .int .i64 mn', .int .i64 mx', .slice A' lk' cc'] := by
    intro wr hK
    exact (((htk.more (fun k _ hk => Below.heap_alloc w _ k hk)).more (fun k hk1 hk => Below.heap_alloc _ _ k hk)).more fun k hk1 hk2 => hK.block k hk2 ((unhide HP).old_not hk1))
  have HFR := hide hfr; have HTR := hide htr
  clear hfr htr hck htk htk0
  by_cases hs : mx < 0
  · have hs' : decide (mx < 0) = true := by simpa using hs
    rw [if_pos hs] at hR0
    have e00 : (mx - mn).toNat = 0 := by omega
    have hR1b := unhide HR1
    rw [e00] at hR1b
    simp only [optF] at hR1b
    have hst := make_made kid I.length (I ++ [⟨2, noNode, 0, next⟩]) hmk (by omega) (by simp; omega)
    have hst0 := hst.start
    have hst1 := hst.len
    simp only [starF] at hR0
    have hln : (make kid I.length (I ++ [⟨2, noNode, 0, next⟩])).2.length = R0.2.length := by rw [← hR0]; simp only [setX_len]
    have hR0' := hR0
    simp at hst1
    have HR0 := hide hR0
    clear hR0 hR0' hst
    go_enter Tryd.func26, Tryd.ntmps26
    go_wp2_with fail
    refine (add_calls ⟨2, noNode, 0, next⟩ _ _ (((unhide HP).alloc _).alloc _) (no_tree _ _) (by omega)).mono ?_
    rintro e w1 ⟨rfl, vI1, hP1, hK1, hA1⟩
    obtain ⟨c4, c5, d0, d1, d2, d3, d4, d5, d6, hsz⟩ := (unhide HFR) w1 hK1
    have HTW := hide ((unhide HTR) w1 hK1)
    have HP1 := hide hP1; have HK1 := hide hK1; have HA1 := hide hA1
    clear hP1 hK1 hA1
    go_wp2_with fail
    refine ((unhide HOK) _ _ vI1 _ base bp fold bytes _ (unhide HP1) (unhide HTW) (by omega) (by simp; omega) (by omega)).mono ?_
    rintro e w2 ⟨rfl, vI2, hP2, hK2, hA2⟩
    have hK4 := (unhide HK1).trans hK2 (fun k hk ht => Turnp.of_at (unhide HA1) k hk ht)
    have hA4 := At.trans (unhide HA1) hA2 (unhide HK1).size
    obtain ⟨g, cap, u, rfl, hgb, hgl, hg1, hg2, hP3⟩ := hP2.put (n := I.length) (by omega) (make kid I.length (I ++ [⟨2, noNode, 0, next⟩])).1
    have p2 : w2.cell? ⟨bp, 2, none⟩ = some (.slice (some ⟨g, 0, none⟩) (make kid I.length (I ++ [⟨2, noNode, 0, next⟩])).2.length cap) := (hP2.row.cell 2).trans (by simp)
    have hbp2 := hP2.bp_lt
    have hgn : ¬ g < base := fun h => hP2.old_not h (.inr rfl)
    have hgT : TurnP bp vI g ∨ ((w.alloc (.cells #[.int .i64 7, .int .i64 code, .bool neg, .slice As set.length cs', .int .i64 mn, .int .i64 mx, .slice (some ⟨b, o, none⟩) 1 cc] 26)).alloc (.cells #[.int .i64 kind', .int .i64 code', .bool neg', .slice As' ls' cs'', .int .i64 mn', .int .i64 mx', .slice A' lk' cc'] 26)).heap.size ≤ g := by
      rcases hA4 with h | ⟨g', h, hg'⟩
      · exact .inl (.inr (by rw [← h]; rfl))
      · exact .inr (by have : g = g' := by simpa [Value.ownBlock] using h
                       omega)
    have hK5 : Keeps (TurnP bp vI) ((w.alloc (.cells #[.int .i64 7, .int .i64 code, .bool neg, .slice As set.length cs', .int .i64 mn, .int .i64 mx, .slice (some ⟨b, o, none⟩) 1 cc] 26)).alloc (.cells #[.int .i64 kind', .int .i64 code', .bool neg', .slice As' ls' cs'', .int .i64 mn', .int .i64 mx', .slice A' lk' cc'] 26)) (w2.setCell ⟨g, I.length * 10 + 8, none⟩ (.int .i64 (make kid I.length (I ++ [⟨2, noNode, 0, next⟩])).1)) := hK4.setCell hgT _
    obtain ⟨q4, q5, q0⟩ := (unhide HFR) _ hK5
    have e0R := unhide HR0
    have hfin : setX (make kid I.length (I ++ [⟨2, noNode, 0, next⟩])).2 I.length (make kid I.length (I ++ [⟨2, noNode, 0, next⟩])).1 = R0.2 := by rw [← e0R]
    have hfi2 : (I.length : Int) = R0.1 := by rw [← e0R]
    rw [hfin] at hP3
    have HP3 := hide hP3; have HK5 := hide hK5; have HA4 := hide hA4; have HFI := hide hfi2
    clear hfi2 hP2 hK2 hA2 hK4 hP3 hK5 hA4 hgT q0 e0R hfin
    go_wp2_with fail
    go_loopw [2, 10] (fun next_ i_ wr => ∃ (i cur : Int) (J : List Inst) (vI' : Value), i_ = .int .i64 i ∧ next_ = .int .i64 cur ∧ i ≤ mx ∧ -1 ≤ i ∧ 0 ≤ cur ∧ cur < J.length ∧ Hid (optF (make kid) (i - mn).toNat cur J = R1) ∧ Hid (MkP wr base bp fold bytes J vI') ∧ Hid (Keeps (TurnP bp vI) ((w.alloc (.cells #[.int .i64 7, .int .i64 code, .bool neg, .slice As set.length cs', .int .i64 mn, .int .i64 mx, .slice (some ⟨b, o, none⟩) 1 cc] 26)).alloc (.cells #[.int .i64 kind', .int .i64 code', .bool neg', .slice As' ls' cs'', .int .i64 mn', .int .i64 mx', .slice A' lk' cc'] 26)) wr) ∧ Hid (At ((w.alloc (.cells #[.int .i64 7, .int .i64 code, .bool neg, .slice As set.length cs', .int .i64 mn, .int .i64 mx, .slice (some ⟨b, o, none⟩) 1 cc] 26)).alloc (.cells #[.int .i64 kind', .int .i64 code', .bool neg', .slice As' ls' cs'', .int .i64 mn', .int .i64 mx', .slice A' lk' cc'] 26)) vI vI'))
      (fun _ i_ _ => (intOf i_ - mn).toNat)
    case atStart => exact ⟨mx, I.length, R0.2, _, rfl, rfl, Int.le_refl _, hmx, by omega, by have := unhide HFI; omega, hide (by have := unhide HR1; rw [← unhide HFI] at this; exact this), HP3, HK5, HA4⟩
    case round =>
      clear HP3 HK5 HA4 HP1 HK1 HA1 q4 q5 c4 c5 d0 d1 d2 d3 d4 d5 d6 hsz p2 hg1 hg2 HTW
      obtain ⟨i, cur, J, vI', rfl, rfl, hi1, hi2, hc0, hc1, HR, HP1, HK1, HA1⟩ := hrel
      have hb1 := (opt_in (unhide HMK) (i - mn).toNat hc0 hc1).2.2
      rw [unhide HR] at hb1
      obtain ⟨c4, c5, d0, d1, d2, d3, d4, d5, d6, hsz⟩ := (unhide HFR) wr (unhide HK1)
      have htw := (unhide HTR) wr (unhide HK1)
      have HTW := hide htw
      clear htw
      by_cases hgt : mn < i
      · exact absurd hgt (by omega)
      · have hz : (i - mn).toNat = 0 := by omega
        have hr := unhide HR
        rw [hz] at hr
        simp only [optF] at hr
        obtain rfl := hr
        clear HR hb1 hz
        go_wp2_with fail
        go_loopw [2, 53] (fun next_ c_ wr => ∃ (c : Nat) (cur : Int) (J : List Inst) (vI' : Value), c_ = .int .i64 c ∧ next_ = .int .i64 cur ∧ c ≤ mn ∧ 0 ≤ cur ∧ cur < J.length ∧ Hid (timesF (make kid) (mn.toNat - c) cur J = R) ∧ Hid (MkP wr base bp fold bytes J vI') ∧ Hid (Keeps (TurnP bp vI) ((w.alloc (.cells #[.int .i64 7, .int .i64 code, .bool neg, .slice As set.length cs', .int .i64 mn, .int .i64 mx, .slice (some ⟨b, o, none⟩) 1 cc] 26)).alloc (.cells #[.int .i64 kind', .int .i64 code', .bool neg', .slice As' ls' cs'', .int .i64 mn', .int .i64 mx', .slice A' lk' cc'] 26)) wr) ∧ Hid (At ((w.alloc (.cells #[.int .i64 7, .int .i64 code, .bool neg, .slice As set.length cs', .int .i64 mn, .int .i64 mx, .slice (some ⟨b, o, none⟩) 1 cc] 26)).alloc (.cells #[.int .i64 kind', .int .i64 code', .bool neg', .slice As' ls' cs'', .int .i64 mn', .int .i64 mx', .slice A' lk' cc'] 26)) vI vI'))
          (fun _ c_ _ => mn.toNat - (intOf c_).toNat)
        case atStart => exact ⟨0, cur, J, vI', rfl, rfl, by omega, hc0, hc1, hide (by rw [Nat.sub_zero]; exact unhide HRR), HP1, HK1, HA1⟩
        case round =>
          clear HP1 HK1 HA1 HTW c4 c5 d0 d1 d2 d3 d4 d5 d6 hsz HRR
          obtain ⟨c, cur, J, vI', rfl, rfl, hcm, hc0, hc1, HR, HP1, HK1, HA1⟩ := hrel
          have hb1 := (times_in (unhide HMK) (mn.toNat - c) hc0 hc1).2.2
          rw [unhide HR] at hb1
          obtain ⟨c4, c5, d0, d1, d2, d3, d4, d5, d6, hsz⟩ := (unhide HFR) wr (unhide HK1)
          have htw := (unhide HTR) wr (unhide HK1)
          have HTW := hide htw
          clear htw
          by_cases hlt : (c : Int) < mn
          · obtain ⟨d, hd⟩ : ∃ d : Nat, mn.toNat - c = d + 1 := ⟨mn.toNat - c - 1, by omega⟩
            have hr := unhide HR
            rw [hd] at hr
            simp only [timesF] at hr
            have hF := make_made kid cur J (unhide HMK) hc0 hc1
            have hf0 := hF.start
            have hfl := hF.len
            have hb2 := (times_in (unhide HMK) d hf0.1 hf0.2).2.2
            rw [hr] at hb2
            have HR' := hide hr
            clear hF hr
            go_wp2_with fail
            refine ((unhide HOK) _ _ vI' _ base bp fold bytes _ (unhide HP1) (unhide HTW) hc0 hc1 (by omega)).mono ?_
            rintro e w2 ⟨rfl, vI2, hP2, hK2, hA2⟩
            have hK4 := (unhide HK1).trans hK2 (fun k hk ht => Turnp.of_at (unhide HA1) k hk ht)
            have hA4 := At.trans (unhide HA1) hA2 (unhide HK1).size
            have HP2 := hide hP2; have HK4 := hide hK4; have HA4 := hide hA4
            clear hP2 hK2 hA2 hK4 hA4
            go_wp2_with fail
            go_roundw
            case rel =>
              refine ⟨c + 1, _, _, vI2, by go_num, rfl, by omega, hf0.1, hf0.2, ?_, HP2, HK4, HA4⟩
              rw [show mn.toNat - (c + 1) = d by omega]; exact HR'
            case measure => simp only [intOf]; omega
          · have hz : mn.toNat - c = 0 := by omega
            have hr := unhide HR
            rw [hz] at hr
            simp only [timesF] at hr
            obtain rfl := hr
            clear HR hb1 hz
            go_wp2_with fail
            go_ret
            exact ⟨rfl, vI', unhide HP1, (((Keeps.refl _ _).alloc _).alloc _).trans (unhide HK1) (fun _ _ h => h), At.later (unhide HA1) (by simp <;> omega)⟩
  · have hs' : decide (mx < 0) = false := by simpa using hs
    rw [if_neg hs] at hR0
    subst hR0
    obtain ⟨c4, c5, d0, d1, d2, d3, d4, d5, d6, hsz⟩ := (unhide HFR) _ (Keeps.refl _ _)
    have HPs := hide (((unhide HP).alloc (.cells #[.int .i64 7, .int .i64 code, .bool neg, .slice As set.length cs', .int .i64 mn, .int .i64 mx, .slice (some ⟨b, o, none⟩) 1 cc] 26)).alloc (.cells #[.int .i64 kind', .int .i64 code', .bool neg', .slice As' ls' cs'', .int .i64 mn', .int .i64 mx', .slice A' lk' cc'] 26))
    have HKs := hide (Keeps.refl (TurnP bp vI) ((w.alloc (.cells #[.int .i64 7, .int .i64 code, .bool neg, .slice As set.length cs', .int .i64 mn, .int .i64 mx, .slice (some ⟨b, o, none⟩) 1 cc] 26)).alloc (.cells #[.int .i64 kind', .int .i64 code', .bool neg', .slice As' ls' cs'', .int .i64 mn', .int .i64 mx', .slice A' lk' cc'] 26)))
    have HAs : Hid (At ((w.alloc (.cells #[.int .i64 7, .int .i64 code, .bool neg, .slice As set.length cs', .int .i64 mn, .int .i64 mx, .slice (some ⟨b, o, none⟩) 1 cc] 26)).alloc (.cells #[.int .i64 kind', .int .i64 code', .bool neg', .slice As' ls' cs'', .int .i64 mn', .int .i64 mx', .slice A' lk' cc'] 26)) vI vI) := .inl rfl
    go_enter Tryd.func26, Tryd.ntmps26
    go_wp2_with fail
    go_loopw [2, 10] (fun next_ i_ wr => ∃ (i cur : Int) (J : List Inst) (vI' : Value), i_ = .int .i64 i ∧ next_ = .int .i64 cur ∧ i ≤ mx ∧ -1 ≤ i ∧ 0 ≤ cur ∧ cur < J.length ∧ Hid (optF (make kid) (i - mn).toNat cur J = R1) ∧ Hid (MkP wr base bp fold bytes J vI') ∧ Hid (Keeps (TurnP bp vI) ((w.alloc (.cells #[.int .i64 7, .int .i64 code, .bool neg, .slice As set.length cs', .int .i64 mn, .int .i64 mx, .slice (some ⟨b, o, none⟩) 1 cc] 26)).alloc (.cells #[.int .i64 kind', .int .i64 code', .bool neg', .slice As' ls' cs'', .int .i64 mn', .int .i64 mx', .slice A' lk' cc'] 26)) wr) ∧ Hid (At ((w.alloc (.cells #[.int .i64 7, .int .i64 code, .bool neg, .slice As set.length cs', .int .i64 mn, .int .i64 mx, .slice (some ⟨b, o, none⟩) 1 cc] 26)).alloc (.cells #[.int .i64 kind', .int .i64 code', .bool neg', .slice As' ls' cs'', .int .i64 mn', .int .i64 mx', .slice A' lk' cc'] 26)) vI vI'))
      (fun _ i_ _ => (intOf i_ - mn).toNat)
    case atStart => exact ⟨mx, next, I, vI, rfl, rfl, Int.le_refl _, hmx, h0, h1, HR1, HPs, HKs, HAs⟩
    case round =>
      clear HPs HKs HAs c4 c5 d0 d1 d2 d3 d4 d5 d6 hsz
      obtain ⟨i, cur, J, vI', rfl, rfl, hi1, hi2, hc0, hc1, HR, HP1, HK1, HA1⟩ := hrel
      have hb1 := (opt_in (unhide HMK) (i - mn).toNat hc0 hc1).2.2
      rw [unhide HR] at hb1
      obtain ⟨c4, c5, d0, d1, d2, d3, d4, d5, d6, hsz⟩ := (unhide HFR) wr (unhide HK1)
      have htw := (unhide HTR) wr (unhide HK1)
      have HTW := hide htw
      clear htw
      by_cases hgt : mn < i
      · obtain ⟨d, hd⟩ : ∃ d : Nat, (i - mn).toNat = d + 1 := ⟨(i - mn).toNat - 1, by omega⟩
        have hr := unhide HR
        rw [hd] at hr
        simp only [optF] at hr
        have hF := make_made kid cur J (unhide HMK) hc0 hc1
        have hf0 := hF.start
        have hfl := hF.len
        have hb2 := (opt_in (unhide HMK) d (next := (make kid cur J).2.length) (I := (make kid cur J).2 ++ [⟨2, noNode, (make kid cur J).1, cur⟩]) (by omega) (by simp; omega)).2.2
        rw [hr] at hb2
        simp at hb2
        have HR' := hide hr
        clear hF hr
        go_wp2_with fail
        refine ((unhide HOK) _ _ vI' _ base bp fold bytes _ (unhide HP1) (unhide HTW) hc0 hc1 (by omega)).mono ?_
        rintro e w2 ⟨rfl, vI2, hP2, hK2, hA2⟩
        have HP2 := hide hP2; have HK2 := hide hK2; have HA2 := hide hA2
        clear hP2 hK2 hA2
        go_wp2_with fail
        refine (add_calls ⟨2, noNode, _, _⟩ _ _ (unhide HP2) (no_tree _ _) (by omega)).mono ?_
        rintro e w3 ⟨rfl, vI3, hP3, hK3, hA3⟩
        have hK4 := (unhide HK1).trans (unhide HK2) (fun k hk ht => Turnp.of_at (unhide HA1) k hk ht)
        have hA4 := At.trans (unhide HA1) (unhide HA2) (unhide HK1).size
        have hK5 := hK4.trans hK3 (fun k hk ht => Turnp.of_at hA4 k hk ht)
        have hA5 := At.trans hA4 hA3 hK4.size
        have HP3 := hide hP3; have HK5 := hide hK5; have HA5 := hide hA5
        clear hP3 hK3 hA3 hK4 hA4 hK5 hA5
        go_wp2_with fail
        go_roundw
        case rel =>
          refine ⟨i - 1, _, _, vI3, by go_num, rfl, by omega, by omega, by omega, ?_, ?_, HP3, HK5, HA5⟩
          · simp; omega
          · rw [show (i - 1 - mn).toNat = d by omega]; exact HR'
        case measure => simp only [intOf]; omega
      · have hz : (i - mn).toNat = 0 := by omega
        have hr := unhide HR
        rw [hz] at hr
        simp only [optF] at hr
        obtain rfl := hr
        clear HR hb1 hz
        go_wp2_with fail
        go_loopw [2, 53] (fun next_ c_ wr => ∃ (c : Nat) (cur : Int) (J : List Inst) (vI' : Value), c_ = .int .i64 c ∧ next_ = .int .i64 cur ∧ c ≤ mn ∧ 0 ≤ cur ∧ cur < J.length ∧ Hid (timesF (make kid) (mn.toNat - c) cur J = R) ∧ Hid (MkP wr base bp fold bytes J vI') ∧ Hid (Keeps (TurnP bp vI) ((w.alloc (.cells #[.int .i64 7, .int .i64 code, .bool neg, .slice As set.length cs', .int .i64 mn, .int .i64 mx, .slice (some ⟨b, o, none⟩) 1 cc] 26)).alloc (.cells #[.int .i64 kind', .int .i64 code', .bool neg', .slice As' ls' cs'', .int .i64 mn', .int .i64 mx', .slice A' lk' cc'] 26)) wr) ∧ Hid (At ((w.alloc (.cells #[.int .i64 7, .int .i64 code, .bool neg, .slice As set.length cs', .int .i64 mn, .int .i64 mx, .slice (some ⟨b, o, none⟩) 1 cc] 26)).alloc (.cells #[.int .i64 kind', .int .i64 code', .bool neg', .slice As' ls' cs'', .int .i64 mn', .int .i64 mx', .slice A' lk' cc'] 26)) vI vI'))
          (fun _ c_ _ => mn.toNat - (intOf c_).toNat)
        case atStart => exact ⟨0, cur, J, vI', rfl, rfl, by omega, hc0, hc1, hide (by rw [Nat.sub_zero]; exact unhide HRR), HP1, HK1, HA1⟩
        case round =>
          clear HP1 HK1 HA1 HTW c4 c5 d0 d1 d2 d3 d4 d5 d6 hsz HRR
          obtain ⟨c, cur, J, vI', rfl, rfl, hcm, hc0, hc1, HR, HP1, HK1, HA1⟩ := hrel
          have hb1 := (times_in (unhide HMK) (mn.toNat - c) hc0 hc1).2.2
          rw [unhide HR] at hb1
          obtain ⟨c4, c5, d0, d1, d2, d3, d4, d5, d6, hsz⟩ := (unhide HFR) wr (unhide HK1)
          have htw := (unhide HTR) wr (unhide HK1)
          have HTW := hide htw
          clear htw
          by_cases hlt : (c : Int) < mn
          · obtain ⟨d, hd⟩ : ∃ d : Nat, mn.toNat - c = d + 1 := ⟨mn.toNat - c - 1, by omega⟩
            have hr := unhide HR
            rw [hd] at hr
            simp only [timesF] at hr
            have hF := make_made kid cur J (unhide HMK) hc0 hc1
            have hf0 := hF.start
            have hfl := hF.len
            have hb2 := (times_in (unhide HMK) d hf0.1 hf0.2).2.2
            rw [hr] at hb2
            have HR' := hide hr
            clear hF hr
            go_wp2_with fail
            refine ((unhide HOK) _ _ vI' _ base bp fold bytes _ (unhide HP1) (unhide HTW) hc0 hc1 (by omega)).mono ?_
            rintro e w2 ⟨rfl, vI2, hP2, hK2, hA2⟩
            have hK4 := (unhide HK1).trans hK2 (fun k hk ht => Turnp.of_at (unhide HA1) k hk ht)
            have hA4 := At.trans (unhide HA1) hA2 (unhide HK1).size
            have HP2 := hide hP2; have HK4 := hide hK4; have HA4 := hide hA4
            clear hP2 hK2 hA2 hK4 hA4
            go_wp2_with fail
            go_roundw
            case rel =>
              refine ⟨c + 1, _, _, vI2, by go_num, rfl, by omega, hf0.1, hf0.2, ?_, HP2, HK4, HA4⟩
              rw [show mn.toNat - (c + 1) = d by omega]; exact HR'
            case measure => simp only [intOf]; omega
          · have hz : mn.toNat - c = 0 := by omega
            have hr := unhide HR
            rw [hz] at hr
            simp only [timesF] at hr
            obtain rfl := hr
            clear HR hb1 hz
            go_wp2_with fail
            go_ret
            exact ⟨rfl, vI', unhide HP1, (((Keeps.refl _ _).alloc _).alloc _).trans (unhide HK1) (fun _ _ h => h), At.later (unhide HA1) (by simp <;> omega)⟩
end Go.Proofs.YtanmlgliibgpcaaDoor

/- The walk of make, whole. -/
namespace Go.Proofs.YtanmlgliibgpcaaDoor
open Go.RowKit Thr
set_option linter.unusedVariables false
set_option linter.unusedSimpArgs false

set_option maxHeartbeats 4000000 in
theorem make_rep (code : Int) (neg : Bool) (set : List (Int × Int)) (mn mx : Int) (kid : Rx) (hok : MakeOK kid) (hmk : Makes kid) (hmn : 0 ≤ mn) (hmx : -1 ≤ mx) (hmx1 : mx ≤ 1000) (hmn1 : mn ≤ 1000) : MakeOK (.mk 7 code neg set mn mx [kid]) := by
  intro next I vI w base bp fold bytes cs hP ht h0 h1 hl
  have hrp := fun w1 h1' ht1 => repeat_calls code neg set mn mx kid hok hmk hmn hmx hmx1 hmn1 next I vI w1 base bp fold bytes cs h1' ht1 h0 h1 hl
  obtain ⟨kind', code', neg', As', ls', cs'', mn', mx', A', lk', cc', rfl⟩ := ht.form
  have hk : kind' = 7 := by
    simp only [TreeAt] at ht
    obtain ⟨_, _, _, h, _⟩ := ht
    simp at h; omega
  subst hk
  generalize make (.mk 7 code neg set mn mx [kid]) next I = R at *
  have HP := hide hP; have HT := hide ht; have HRP := hide hrp
  clear hP ht hrp hok hmk
  go_enter Tryd.func14, Tryd.ntmps14
  go_wp2_with fail
  refine ((unhide HRP) _ ((unhide HP).alloc _) ((unhide HT).more fun k _ hk => Below.heap_alloc _ _ _ hk)).mono ?_
  rintro e w1 ⟨rfl, vI1, hP1, hK1, hA1⟩
  go_wp2_with fail
  go_ret
  exact ⟨rfl, vI1, hP1, ((Keeps.refl _ _).alloc _).trans hK1 (fun _ _ h => h), At.later hA1 (by simp)⟩

mutual
theorem make_calls : ∀ t : Rx, Valids t → MakeOK t
  | .mk kind code neg set mn mx kids, h => by
    have hks := makes_calls kids h.2
    have hmk := validsAll_makes kids h.2
    by_cases k7 : kind = 7
    · subst k7
      obtain ⟨⟨k, rfl⟩, r1, r2, r3, r4, r5⟩ := valid_rep h.1
      exact make_rep code neg set mn mx k (hks k (by simp)) hmk.1 r1 r3 (by omega) (by omega)
    by_cases k5 : kind = 5
    · subst k5
      exact make_cat code neg set mn mx kids hks hmk
    by_cases k6 : kind = 6
    · subst k6
      exact make_alt code neg set mn mx kids hks hmk (by have := valid_many h.1 (.inr rfl); omega)
    by_cases k1 : kind = 1
    · subst k1
      exact make_empty code neg set mn mx kids
    by_cases k2 : kind = 2 ∨ kind = 3 ∨ kind = 4
    · exact make_char kind code neg set mn mx kids k2
    exact make_check kind code neg set mn mx kids ⟨k1, by omega, by omega, by omega, k5, k6, k7⟩
theorem makes_calls : ∀ ks : List Rx, ValidsAll ks → ∀ k ∈ ks, MakeOK k
  | [], _, k, hk => by simp at hk
  | k' :: ks, h, k, hk => by
    rcases List.mem_cons.1 hk with e | hk
    · rw [e]; exact make_calls k' h.1
    · exact makes_calls ks h.2 k hk
end
end Go.Proofs.YtanmlgliibgpcaaDoor

/- The walks of Weight, valid, within, Valid. -/
namespace Go.Proofs.YtanmlgliibgpcaaDoor
open Go.RowKit Thr
set_option linter.unusedVariables false
set_option linter.unusedSimpArgs false

mutual
theorem weight_range : ∀ t : Rx, 0 ≤ weightF t ∧ weightF t ≤ 1048576
  | .mk kind code neg set mn mx kids => by
    have h := weights_range kids 0 (by omega) (by omega)
    have hb : bigW = 1048576 := rfl
    simp only [weightF, hb]
    split
    · exact h
    · split
      · have h0 : 0 ≤ weightsF kids 0 * (if mx < 0 then min (max mn 0) 1048576 + 1 else min (max mx 0) 1048576) := by
          refine Int.mul_nonneg (by omega) ?_
          split <;> omega
        omega
      · omega
theorem weights_range : ∀ (ks : List Rx) (n : Int), 0 ≤ n → n ≤ 1048576 → 0 ≤ weightsF ks n ∧ weightsF ks n ≤ 1048576
  | [], n, h0, h1 => by simp only [weightsF]; omega
  | k :: ks, n, h0, h1 => by
    have h := weight_range k
    have hb : bigW = 1048576 := rfl
    simp only [weightsF, hb]
    exact weights_range ks _ (by omega) (by omega)
end
theorem weights_drop {ks : List Rx} {m : Nat} (hm : m < ks.length) (n : Int) : weightsF (ks.drop m) n = weightsF (ks.drop (m + 1)) (min (n + weightF ks[m]) 1048576) := by
  rw [List.drop_eq_getElem_cons hm, weightsF]
  rfl

def WeightOK (ok : Nat → Prop) (t : Rx) : Prop := ∀ (cs : List Value) (w : World), TreeAt ok w t cs → Calls Tryd.prog 25 #[.agg cs.toArray] w fun e w' => e = .returned (.int .i64 (weightF t)) ∧ Below w.heap.size w w'

theorem prod_range {a b : Int} (ha : 0 ≤ a) (ha1 : a ≤ 1048576) (hb : 0 ≤ b) (hb1 : b ≤ 1048577) : 0 ≤ a * b ∧ a * b ≤ 1099512676352 := by
  refine ⟨Int.mul_nonneg ha hb, ?_⟩
  have h1 : a * b ≤ 1048576 * b := Int.mul_le_mul_of_nonneg_right ha1 hb
  omega

set_option maxRecDepth 100000 in
set_option maxHeartbeats 4000000 in
theorem weight_one {ok : Nat → Prop} (kind code : Int) (neg : Bool) (set : List (Int × Int)) (mn mx : Int) (kids : List Rx) (hk : ∀ k ∈ kids, WeightOK ok k) : WeightOK ok (.mk kind code neg set mn mx kids) := by
  intro cs w ht
  have ht0 := ht
  simp only [TreeAt] at ht
  obtain ⟨vs, A, cc, rfl, ⟨As, cs', rfl, -⟩, hc1, hc2, hkids⟩ := ht
  obtain ⟨W, hW⟩ : ∃ W, weightsF kids 0 = W := ⟨_, rfl⟩
  have hWr := weights_range kids 0 (by omega) (by omega)
  rw [hW] at hWr
  have HT := hide ht0; have HK := hide hk; have HKI := hide hkids; have HW := hide hW
  clear ht0 hk hkids hW
  have hfin : weightF (.mk kind code neg set mn mx kids) = if kind = 5 then W else if kind = 7 then min (W * (if mx < 0 then min (max mn 0) 1048576 + 1 else min (max mx 0) 1048576) + 1) 1048576 else min (W + 1) 1048576 := by
    rw [weightF, unhide HW]; rfl
  rw [hfin]
  clear hfin
  obtain ⟨F, hF⟩ : ∃ F, (if kind = 5 then W else if kind = 7 then min (W * (if mx < 0 then min (max mn 0) 1048576 + 1 else min (max mx 0) 1048576) + 1) 1048576 else min (W + 1) 1048576) = F := ⟨_, rfl⟩
  rw [hF]
  have HFIN := hide hF
  clear hF
  go_enter Tryd.func25, Tryd.ntmps25
  go_wp2_with fail
  go_loopw [3, 10] (fun n_ m_ wr => ∃ (m : Nat) (n : Int), m ≤ kids.length ∧ m_ = .int .i64 m ∧ n_ = .int .i64 n ∧ 0 ≤ n ∧ n ≤ 1048576 ∧ Hid (weightsF (kids.drop m) n = W) ∧ Hid (Below w.heap.size w wr) ∧ Hid (wr.cell? ⟨w.heap.size, 0, none⟩ = some (.int .i64 kind) ∧ wr.cell? ⟨w.heap.size, 4, none⟩ = some (.int .i64 mn) ∧ wr.cell? ⟨w.heap.size, 5, none⟩ = some (.int .i64 mx) ∧ w.heap.size < wr.heap.size))
    (fun _ m_ _ => kids.length - (intOf m_).toNat)
  case atStart => exact ⟨0, 0, by omega, rfl, rfl, by omega, by omega, HW, hide (by repeat (first | exact Below.refl _ _ | assumption | refine below_drewN ?_ _ | refine Below.drew ?_ | refine below_alloc' ?_ _)), by go_simp, by go_simp, by go_simp, by simp⟩
  case round =>
    obtain ⟨m, n, hm, rfl, rfl, hn0, hn1, HR, HB, HF⟩ := hrel
    by_cases hlt : m < kids.length
    · obtain ⟨b, o, rfl, hb, csk, htk, hck⟩ := kid_cells (unhide HKI) m hlt
      have hok := (unhide HK) kids[m] (List.getElem_mem hlt)
      have hr := unhide HR
      rw [weights_drop hlt] at hr
      have hwk := weight_range kids[m]
      generalize kids[m] = kid at *
      obtain ⟨kind', code', neg', As', ls', cs'', mn', mx', A', lk', cc', rfl⟩ := htk.form
      have hbl : b < w.heap.size := World.block_lt_of_cell? w _ (hck 0 _ rfl)
      have fr : ∀ j, wr.cell? ⟨b, j, none⟩ = w.cell? ⟨b, j, none⟩ := fun j => (bcell (unhide HB)).1 _ _ hbl
      have e0 := (fr _).trans (hck 0 _ rfl)
      have e1 := (fr _).trans (hck 1 _ rfl)
      have e2 := (fr _).trans (hck 2 _ rfl)
      have e3 := (fr _).trans (hck 3 _ rfl)
      have e4 := (fr _).trans (hck 4 _ rfl)
      have e5 := (fr _).trans (hck 5 _ rfl)
      have e6 := (fr _).trans (hck 6 _ rfl)
      simp at e0
      have hlb : (m : Int) < kids.length := by omega
      have hblr : b < wr.heap.size := World.block_lt_of_cell? wr _ e0
      have hsz : w.heap.size < wr.heap.size := (unhide HF).2.2.2
      have HOK := hide hok; have HR' := hide hr; have HTK := hide htk
      clear hok hr htk hck fr HR
      go_wp2_with fail
      refine ((unhide HOK) _ _ (((unhide HTK).below (unhide HB)).below (by repeat (first | exact Below.refl _ _ | assumption | refine below_drewN ?_ _ | refine Below.drew ?_ | refine below_alloc' ?_ _)))).mono ?_
      rintro e w2 ⟨rfl, hb2⟩
      have HB2 := hide hb2
      clear hb2
      go_wp2_with fail
      go_roundw
      case rel =>
        refine ⟨m + 1, min (n + weightF kid) 1048576, by omega, by go_num, rfl, by omega, by omega, HR', ?_, ?_⟩
        · exact below_then (unhide HB) (below_then (by repeat (first | exact Below.refl _ _ | assumption | refine below_drewN ?_ _ | refine Below.drew ?_ | refine below_alloc' ?_ _)) (unhide HB2))
        · obtain ⟨f0, f4, f5, f6⟩ := unhide HF
          have hb3 := (bcell (below_then (w := wr) (by repeat (first | exact Below.refl _ _ | assumption | refine below_drewN ?_ _ | refine Below.drew ?_ | refine below_alloc' ?_ _)) (unhide HB2))).1
          exact ⟨(hb3 _ 0 f6).trans f0, (hb3 _ 4 f6).trans f4, (hb3 _ 5 f6).trans f5, by have := (unhide HB2).size; simp at this; omega⟩
      case measure => simp only [intOf]; omega
    · obtain rfl : m = kids.length := by omega
      obtain rfl : n = W := by have := unhide HR; rw [List.drop_length] at this; simpa [weightsF] using this
      obtain ⟨f0, f4, f5, f6⟩ := unhide HF
      by_cases k5 : kind = 5
      · subst k5
        have HFI : Hid (n = F) := by have := unhide HFIN; rw [if_pos rfl] at this; exact this
        go_wp2_with fail
        go_ret
        exact ⟨ret_int (unhide HFI), unhide HB⟩
      · have k5' : (kind == 5) = false := by simpa using k5
        by_cases k7 : kind = 7
        · subst k7
          by_cases hx : mx < 0
          · have hx' : decide (mx < 0) = true := by simpa using hx
            have HFI : Hid (min (n * (min (max mn 0) 1048576 + 1) + 1) 1048576 = F) := by have := unhide HFIN; rw [if_neg (by omega), if_pos rfl, if_pos hx] at this; exact this
            have hpr := prod_range (a := n) (b := min (max mn 0) 1048576 + 1) (by omega) (by omega) (by omega) (by omega)
            go_wp2_with fail
            go_ret
            exact ⟨ret_int (unhide HFI), unhide HB⟩
          · have hx' : decide (mx < 0) = false := by simpa using hx
            have HFI : Hid (min (n * min (max mx 0) 1048576 + 1) 1048576 = F) := by have := unhide HFIN; rw [if_neg (by omega), if_pos rfl, if_neg hx] at this; exact this
            have hpr := prod_range (a := n) (b := min (max mx 0) 1048576) (by omega) (by omega) (by omega) (by omega)
            go_wp2_with fail
            go_ret
            exact ⟨ret_int (unhide HFI), unhide HB⟩
        · have k7' : (kind == 7) = false := by simpa using k7
          have HFI : Hid (min (n + 1) 1048576 = F) := by have := unhide HFIN; rw [if_neg k5, if_neg k7] at this; exact this
          go_wp2_with fail
          go_ret
          exact ⟨ret_int (unhide HFI), unhide HB⟩
mutual
theorem Weight_calls {ok : Nat → Prop} : ∀ t : Rx, WeightOK ok t
  | .mk kind code neg set mn mx kids => weight_one kind code neg set mn mx kids (Weights_calls kids)
theorem Weights_calls {ok : Nat → Prop} : ∀ ks : List Rx, ∀ k ∈ ks, WeightOK ok k
  | [], k, hk => by simp at hk
  | k' :: ks, k, hk => by
    rcases List.mem_cons.1 hk with e | hk
    · rw [e]; exact Weight_calls k'
    · exact Weights_calls ks k hk
end
end Go.Proofs.YtanmlgliibgpcaaDoor

/- The walk of valid. -/
namespace Go.Proofs.YtanmlgliibgpcaaDoor
open Go.RowKit Thr
set_option linter.unusedVariables false
set_option linter.unusedSimpArgs false

theorem setOk_false {set : List (Int × Int)} {i : Nat} (hi : i < set.length) (h : badAt set i = true) : setOkF set = false := by
  rw [Bool.eq_false_iff]
  intro hs
  have := List.all_eq_true.1 hs i (List.mem_range.2 hi)
  rw [h] at this
  cases this
theorem setOk_true {set : List (Int × Int)} (h : ∀ i, i < set.length → badAt set i = false) : setOkF set = true :=
  List.all_eq_true.2 fun i hi => by rw [h i (List.mem_range.1 hi)]; rfl

set_option maxRecDepth 100000 in
set_option maxHeartbeats 16000000 in
theorem valid_calls {ok : Nat → Prop} (t : Rx) (cs : List Value) (w : World) (ht : TreeAt ok w t cs) :
    Calls Tryd.prog 39 #[.agg cs.toArray] w fun e w' => e = .returned (.bool (validF t)) ∧ Below w.heap.size w w' := by
  obtain ⟨kind, code, neg, set, mn, mx, kids⟩ := t
  simp only [TreeAt] at ht
  obtain ⟨vs, A, cc, rfl, hset, hc1, hc2, -⟩ := ht
  obtain ⟨F, hF⟩ : ∃ F, validF (.mk kind code neg set mn mx kids) = F := ⟨_, rfl⟩
  rw [hF]
  simp only [validF] at hF
  have HF := hide hF
  clear hF
  by_cases k5 : kind = 5
  · subst k5
    obtain ⟨As, cs', rfl, hl1, hl2, -⟩ := hset
    go_enter Tryd.func39, Tryd.ntmps39
    go_wp2_with fail
    go_ret
    refine ⟨ret_bool ?_, (by repeat (first | exact Below.refl _ _ | assumption | refine below_drewN ?_ _ | refine Below.drew ?_ | refine below_alloc' ?_ _))⟩
    rw [← unhide HF, if_pos (by simp), Bool.eq_iff_iff]; simp; omega
  have k5' : (kind == 5) = false := by simpa using k5
  by_cases k6 : kind = 6
  · subst k6
    obtain ⟨As, cs', rfl, hl1, hl2, -⟩ := hset
    go_enter Tryd.func39, Tryd.ntmps39
    go_wp2_with fail
    go_ret
    refine ⟨ret_bool ?_, (by repeat (first | exact Below.refl _ _ | assumption | refine below_drewN ?_ _ | refine Below.drew ?_ | refine below_alloc' ?_ _))⟩
    rw [← unhide HF, if_pos (by simp), Bool.eq_iff_iff]; simp; omega
  have k6' : (kind == 6) = false := by simpa using k6
  by_cases k7 : kind = 7
  · subst k7
    obtain ⟨As, cs', rfl, hl1, hl2, -⟩ := hset
    have hf := unhide HF
    rw [if_neg (by omega), if_pos rfl] at hf
    have HF2 := hide hf
    clear hf HF k5 k6 k5' k6'
    go_enter Tryd.func39, Tryd.ntmps39
    go_wp2_with fail
    all_goals
      go_ret
      refine ⟨ret_bool ?_, (by repeat (first | exact Below.refl _ _ | assumption | refine below_drewN ?_ _ | refine Below.drew ?_ | refine below_alloc' ?_ _))⟩
      rw [← unhide HF2]
      clear HF2
      rw [Bool.eq_iff_iff]
      simp_all <;> omega
  have k7' : (kind == 7) = false := by simpa using k7
  by_cases k4 : kind = 4
  · subst k4
    have hf := unhide HF
    rw [if_neg (by omega), if_neg (by omega), if_pos rfl] at hf
    have HF2 := hide hf
    have HS := hide hset
    obtain ⟨As, cs', rfl, hl1, hl2, hcs⟩ := hset
    have HCS := fun (k : Nat) (hk : k < set.length) => (show ∃ b o, As = some ⟨b, o, none⟩ ∧ w.cell? ⟨b, o + k * 2, none⟩ = some (.int .i64 set[k].1) ∧ w.cell? ⟨b, o + k * 2 + 1, none⟩ = some (.int .i64 set[k].2) by
      rcases hcs with rfl | ⟨b, o, hA, hb, h⟩
      · simp at hk
      · exact ⟨b, o, hA, h k set[k] (List.getElem?_eq_getElem hk)⟩)
    have HCS := hide HCS
    clear hf HF k5 k6 k5' k6' k7 k7' hcs
    go_enter Tryd.func39, Tryd.ntmps39
    go_wp2_with fail
    go_loopw [57] (fun i wr => ∃ m : Nat, m ≤ set.length ∧ i = .int .i64 m ∧ Hid (∀ i, i < m → badAt set i = false) ∧ Hid (Below w.heap.size w wr) ∧ wr.cell? ⟨w.heap.size, 0, none⟩ = some (.int .i64 4) ∧ wr.cell? ⟨w.heap.size, 3, none⟩ = some (.slice As set.length cs') ∧ wr.cell? ⟨w.heap.size, 6, none⟩ = some (.slice A kids.length cc) ∧ w.heap.size < wr.heap.size)
      (fun i _ => set.length - (intOf i).toNat)
    case atStart => exact ⟨0, by omega, rfl, hide (fun i hi => by omega), hide (by repeat (first | exact Below.refl _ _ | assumption | refine below_drewN ?_ _ | refine Below.drew ?_ | refine below_alloc' ?_ _)), by go_simp, by go_simp, by go_simp, by simp⟩
    case round =>
      obtain ⟨m, hm, rfl, HN, HB, f0, f3, f6, hsz⟩ := hrel
      by_cases hlt : m < set.length
      · obtain ⟨b, o, rfl, e0, e1⟩ := (unhide HCS) m hlt
        have hbl := World.block_lt_of_cell? w _ e0
        have e0' := ((bcell (unhide HB)).1 b _ hbl).trans e0
        have e1' := ((bcell (unhide HB)).1 b _ hbl).trans e1
        have hbw := World.block_lt_of_cell? wr _ e0'
        have hlt' : (m : Int) < set.length := by omega
        have hbad : badAt set m = (decide (set[m].1 < 0) || decide (set[m].1 > set[m].2) || decide (set[m].2 > 1114367) || (decide (0 < m) && nearF set[m].1 set[m - 1]?)) := by
          simp [badAt, List.getElem?_eq_getElem hlt]
        by_cases hm0 : m = 0
        · subst hm0
          simp only [show decide (0 < 0) = false from rfl, Bool.false_and, Bool.or_false] at hbad
          generalize set[0] = x at *
          obtain ⟨x1, x2⟩ := x
          simp only at hbad e0' e1'
          have HBAD := hide hbad
          clear hbad e0 e1
          simp at e0' e1'
          by_cases c0 : x1 < 0
          · have d0 : decide (x1 < 0) = true := by simpa using c0
            clear c0
            go_wp2_with fail
            go_quiet (fail)
            go_wp2_with fail
            go_ret
            refine ⟨ret_bool ?_, below_drewN ((unhide HB).alloc (by omega) _) _⟩
            rw [← unhide HF2, setOk_false hlt (by rw [unhide HBAD]; simp at d0; simp; omega), Bool.false_and]
          have d0 : decide (x1 < 0) = false := by simpa using c0
          clear c0
          by_cases c1 : x2 < x1
          · have d1 : decide (x2 < x1) = true := by simpa using c1
            clear c1
            go_wp2_with fail
            go_quiet (fail)
            go_wp2_with fail
            go_ret
            refine ⟨ret_bool ?_, below_drewN ((unhide HB).alloc (by omega) _) _⟩
            rw [← unhide HF2, setOk_false hlt (by rw [unhide HBAD]; simp at d1; simp; omega), Bool.false_and]
          have d1 : decide (x2 < x1) = false := by simpa using c1
          clear c1
          by_cases c2 : 1114367 < x2
          · have d2 : decide (1114367 < x2) = true := by simpa using c2
            clear c2
            go_wp2_with fail
            go_quiet (fail)
            go_wp2_with fail
            go_ret
            refine ⟨ret_bool ?_, below_drewN ((unhide HB).alloc (by omega) _) _⟩
            rw [← unhide HF2, setOk_false hlt (by rw [unhide HBAD]; simp at d2; simp; omega), Bool.false_and]
          have d2 : decide (1114367 < x2) = false := by simpa using c2
          clear c2
          go_wp2_with fail
          go_quiet (fail)
          go_wp2_with fail
          go_roundw
          case rel =>
            refine ⟨1, by omega, by go_num, hide ?_, hide (below_drewN ((unhide HB).alloc (by omega) _) _), by go_simp, by go_simp, by go_simp, by simp; omega⟩
            intro i hi
            rcases Nat.lt_or_ge i 0 with h | h
            · exact unhide HN i (by omega)
            · obtain rfl : i = 0 := by omega
              rw [unhide HBAD]
              simp_all
          case measure => simp [intOf]; omega
        · obtain ⟨k, rfl⟩ : ∃ k, m = k + 1 := ⟨m - 1, by omega⟩
          obtain ⟨b2, o2, hA, d0, d1⟩ := (unhide HCS) k (by omega)
          obtain ⟨rfl, rfl⟩ : b = b2 ∧ o = o2 := by cases hA; exact ⟨rfl, rfl⟩
          have d1' := ((bcell (unhide HB)).1 b _ hbl).trans d1
          rw [show k + 1 - 1 = k by omega, List.getElem?_eq_getElem (show k < set.length by omega), show decide (0 < k + 1) = true by simp] at hbad
          have hprev := unhide HN k (by omega)
          have hpb : set[k].2 ≤ 1114367 ∧ 0 ≤ set[k].1 ∧ set[k].1 ≤ set[k].2 := by
            simp only [badAt, List.getElem?_eq_getElem (show k < set.length by omega)] at hprev
            simp only [Bool.or_eq_false_iff, decide_eq_false_iff_not] at hprev
            omega
          generalize set[k + 1] = x at *
          generalize set[k] = y at *
          obtain ⟨x1, x2⟩ := x
          obtain ⟨y1, y2⟩ := y
          simp only [Bool.true_and, nearF] at hbad e0' e1' d1' hpb
          have HBAD := hide hbad
          clear hbad e0 e1 d0 d1 hprev
          by_cases c0 : x1 < 0
          · have d0 : decide (x1 < 0) = true := by simpa using c0
            clear c0
            go_wp2_with fail
            go_quiet (fail)
            go_wp2_with fail
            go_ret
            refine ⟨ret_bool ?_, below_drewN ((unhide HB).alloc (by omega) _) _⟩
            rw [← unhide HF2, setOk_false hlt (by rw [unhide HBAD]; simp at d0; simp; omega), Bool.false_and]
          have d0 : decide (x1 < 0) = false := by simpa using c0
          clear c0
          by_cases c1 : x2 < x1
          · have d1 : decide (x2 < x1) = true := by simpa using c1
            clear c1
            go_wp2_with fail
            go_quiet (fail)
            go_wp2_with fail
            go_ret
            refine ⟨ret_bool ?_, below_drewN ((unhide HB).alloc (by omega) _) _⟩
            rw [← unhide HF2, setOk_false hlt (by rw [unhide HBAD]; simp at d1; simp; omega), Bool.false_and]
          have d1 : decide (x2 < x1) = false := by simpa using c1
          clear c1
          by_cases c2 : 1114367 < x2
          · have d2 : decide (1114367 < x2) = true := by simpa using c2
            clear c2
            go_wp2_with fail
            go_quiet (fail)
            go_wp2_with fail
            go_ret
            refine ⟨ret_bool ?_, below_drewN ((unhide HB).alloc (by omega) _) _⟩
            rw [← unhide HF2, setOk_false hlt (by rw [unhide HBAD]; simp at d2; simp; omega), Bool.false_and]
          have d2 : decide (1114367 < x2) = false := by simpa using c2
          clear c2
          by_cases c3 : x1 ≤ y2 + 1
          · have d3 : decide (x1 ≤ y2 + 1) = true := by simpa using c3
            clear c3
            go_wp2_with fail
            go_quiet (fail)
            go_wp2_with fail
            go_ret
            refine ⟨ret_bool ?_, below_drewN ((unhide HB).alloc (by omega) _) _⟩
            rw [← unhide HF2, setOk_false hlt (by rw [unhide HBAD]; simp at d3; simp; omega), Bool.false_and]
          have d3 : decide (x1 ≤ y2 + 1) = false := by simpa using c3
          clear c3
          go_wp2_with fail
          go_quiet (fail)
          go_wp2_with fail
          go_roundw
          case rel =>
            refine ⟨(k + 2), by omega, by go_num, hide ?_, hide (below_drewN ((unhide HB).alloc (by omega) _) _), by go_simp, by go_simp, by go_simp, by simp; omega⟩
            intro i hi
            rcases Nat.lt_or_ge i (k + 1) with h | h
            · exact unhide HN i (by omega)
            · obtain rfl : i = (k + 1) := by omega
              rw [unhide HBAD]
              simp_all
          case measure => simp [intOf]; omega
      · obtain rfl : m = set.length := by omega
        go_wp2_with fail
        all_goals
          go_ret
          refine ⟨ret_bool ?_, unhide HB⟩
          rw [← unhide HF2, setOk_true (unhide HN)]
          rw [Bool.eq_iff_iff]
          simp_all
  · have k4' : (kind == 4) = false := by simpa using k4
    obtain ⟨As, cs', rfl, hl1, hl2, -⟩ := hset
    have hf := unhide HF
    rw [if_neg (by omega), if_neg (by omega), if_neg k4] at hf
    have HF2 := hide hf
    clear hf HF k5 k6 k7 k4
    go_enter Tryd.func39, Tryd.ntmps39
    go_wp2_with fail
    all_goals
      go_ret
      refine ⟨ret_bool ?_, (by repeat (first | exact Below.refl _ _ | assumption | refine below_drewN ?_ _ | refine Below.drew ?_ | refine below_alloc' ?_ _))⟩
      rw [← unhide HF2]
      clear HF2
      rw [Bool.eq_iff_iff]
      simp_all <;> omega
end Go.Proofs.YtanmlgliibgpcaaDoor

/- The walks of within and Valid. -/
namespace Go.Proofs.YtanmlgliibgpcaaDoor
open Go.RowKit Thr
set_option linter.unusedVariables false
set_option linter.unusedSimpArgs false

/-- The number of the first that may not be so deep. -/
def badFrom (d : Nat) : List Rx → Int → Int
  | [], _ => -1
  | k :: ks, i => if withinF k d = true then badFrom d ks (i + 1) else i
theorem badFrom_iff (d : Nat) : ∀ (ks : List Rx) (i : Int), 0 ≤ i → (0 ≤ badFrom d ks i ↔ withinAll ks d = false)
  | [], i, h => by simp [badFrom, withinAll]
  | k :: ks, i, h => by
    have ih := badFrom_iff d ks (i + 1) (by omega)
    simp only [badFrom, withinAll]
    by_cases hk : withinF k d = true
    · rw [if_pos hk, hk, ih]; simp
    · rw [if_neg hk]
      simp only [Bool.not_eq_true] at hk
      rw [hk]; simp [h]
theorem badFrom_sign (d : Nat) (ks : List Rx) (i : Int) (h : 0 ≤ i) : decide (0 ≤ badFrom d ks i) = !withinAll ks d := by
  have := badFrom_iff d ks i h
  rw [Bool.eq_iff_iff, decide_eq_true_eq, this]; simp

def WithinOK (ok : Nat → Prop) (t : Rx) : Prop := ∀ (d : Nat) (cs : List Value) (w : World), d ≤ 100000 → TreeAt ok w t cs → Calls Tryd.prog 24 #[.agg cs.toArray, .int .i64 d] w fun e w' => e = .returned (.bool (withinF t d)) ∧ Below w.heap.size w w'

set_option maxHeartbeats 4000000 in
theorem within1_calls {ok : Nat → Prop} {t : Rx} (h : WithinOK ok t) (d : Nat) (hd : d ≤ 99999) (bd : Nat) (cs : List Value) (w : World) (ht : TreeAt ok w t cs) (hb : w.cell? ⟨bd, 0, none⟩ = some (.int .i64 ((d : Int) + 1))) :
    Calls Tryd.prog 41 #[.agg cs.toArray, .pointer (some ⟨bd, 0, none⟩)] w fun e w' => e = .returned (.bool (!withinF t d)) ∧ Below w.heap.size w w' := by
  obtain ⟨kind', code', neg', As', ls', cs'', mn', mx', A', lk', cc', rfl⟩ := ht.form
  have hbl := World.block_lt_of_cell? w _ hb
  have H := hide (h d _ (w.alloc _) (by omega) (ht.below (Below.refl _ _ |>.alloc (Nat.le_refl _) (.cells #[.int .i64 kind', .int .i64 code', .bool neg', .slice As' ls' cs'', .int .i64 mn', .int .i64 mx', .slice A' lk' cc'] 26))))
  clear h ht
  go_enter Tryd.func41, Tryd.ntmps41
  go_wp2_with fail
  refine (unhide H).mono ?_
  rintro e w1 ⟨rfl, hb1⟩
  go_wp2_with fail
  go_ret
  exact ⟨rfl, below_then (by repeat (first | exact Below.refl _ _ | assumption | refine below_drewN ?_ _ | refine Below.drew ?_ | refine below_alloc' ?_ _)) hb1⟩

set_option maxHeartbeats 4000000 in
theorem IndexFunc_calls {ok : Nat → Prop} (kids : List Rx) (hk : ∀ k ∈ kids, WithinOK ok k) (d : Nat) (hd : d ≤ 99999) (bd : Nat) (A : Option Addr) (cc : Nat) (w : World) (hc1 : kids.length ≤ cc) (hc2 : cc ≤ 9223372036854775807)
    (hkids : kids = [] ∨ ∃ b o, A = some ⟨b, o, none⟩ ∧ ok b ∧ KidsAt ok w kids b o) (hb : w.cell? ⟨bd, 0, none⟩ = some (.int .i64 ((d : Int) + 1))) :
    Calls Tryd.prog 54 #[.slice A kids.length cc, .func (.func 41) #[] #[.pointer (some ⟨bd, 0, none⟩)]] w fun e w' => e = .returned (.int .i64 (badFrom d kids 0)) ∧ Below w.heap.size w w' := by
  obtain ⟨F, hF⟩ : ∃ F, badFrom d kids 0 = F := ⟨_, rfl⟩
  rw [hF]
  have HK := hide hk; have HKI := hide hkids; have HF := hide hF
  have hbl := World.block_lt_of_cell? w _ hb
  clear hk hkids hF
  go_enter Tryd.func54, Tryd.ntmps54
  go_wp2_with fail
  go_loopw [8] (fun m_ wr => ∃ (m : Nat), m ≤ kids.length ∧ m_ = .int .i64 m ∧ Hid (badFrom d (kids.drop m) m = F) ∧ Hid (Below w.heap.size w wr))
    (fun m_ _ => kids.length - (intOf m_).toNat)
  case atStart => exact ⟨0, by omega, rfl, HF, Below.refl _ _⟩
  case round =>
    obtain ⟨m, hm, rfl, HR, HB⟩ := hrel
    by_cases hlt : m < kids.length
    · obtain ⟨b, o, rfl, hob, csk, htk, hck⟩ := kid_cells (unhide HKI) m hlt
      have hok := (unhide HK) kids[m] (List.getElem_mem hlt)
      have hr := unhide HR
      rw [List.drop_eq_getElem_cons hlt] at hr
      simp only [badFrom] at hr
      generalize kids[m] = kid at *
      obtain ⟨kind', code', neg', As', ls', cs'', mn', mx', A', lk', cc', rfl⟩ := htk.form
      have hbl2 : b < w.heap.size := World.block_lt_of_cell? w _ (hck 0 _ rfl)
      have fr : ∀ j, wr.cell? ⟨b, j, none⟩ = w.cell? ⟨b, j, none⟩ := fun j => (bcell (unhide HB)).1 _ _ hbl2
      have e0 := (fr _).trans (hck 0 _ rfl)
      have e1 := (fr _).trans (hck 1 _ rfl)
      have e2 := (fr _).trans (hck 2 _ rfl)
      have e3 := (fr _).trans (hck 3 _ rfl)
      have e4 := (fr _).trans (hck 4 _ rfl)
      have e5 := (fr _).trans (hck 5 _ rfl)
      have e6 := (fr _).trans (hck 6 _ rfl)
      simp at e0
      have hlb : (m : Int) < kids.length := by omega
      have hcall := within1_calls hok d hd bd _ wr (htk.below (unhide HB)) (((bcell (unhide HB)).1 bd 0 hbl).trans hb)
      have HTK := hide htk; have HOK := hide hok
      clear htk hck fr HR hok
      cases hq : withinF kid d with
      | true =>
        rw [hq, if_pos rfl] at hr
        rw [hq] at hcall
        have HCALL := hide hcall; have HR := hide hr
        clear hcall hr hq
        go_wp2_with fail
        refine (unhide HCALL).mono ?_
        rintro e w2 ⟨rfl, hb2⟩
        go_wp2_with fail
        go_roundw
        case rel => exact ⟨m + 1, by omega, by go_num, HR, below_then (unhide HB) hb2⟩
        case measure => simp only [intOf]; omega
      | false =>
        rw [hq, if_neg (by simp)] at hr
        rw [hq] at hcall
        have HCALL := hide hcall; have HR := hide hr
        clear hcall hr hq
        go_wp2_with fail
        refine (unhide HCALL).mono ?_
        rintro e w2 ⟨rfl, hb2⟩
        go_wp2_with fail
        go_ret
        exact ⟨ret_int (unhide HR), below_then (unhide HB) hb2⟩
    · obtain rfl : m = kids.length := by omega
      have hr := unhide HR
      rw [List.drop_length] at hr
      simp only [badFrom] at hr
      have HR := hide hr
      clear hr
      go_wp2_with fail
      go_ret
      exact ⟨ret_int (unhide HR), unhide HB⟩

set_option maxHeartbeats 4000000 in
theorem ContainsFunc_calls {ok : Nat → Prop} (kids : List Rx) (hk : ∀ k ∈ kids, WithinOK ok k) (d : Nat) (hd : d ≤ 99999) (bd : Nat) (A : Option Addr) (cc : Nat) (w : World) (hc1 : kids.length ≤ cc) (hc2 : cc ≤ 9223372036854775807)
    (hkids : kids = [] ∨ ∃ b o, A = some ⟨b, o, none⟩ ∧ ok b ∧ KidsAt ok w kids b o) (hb : w.cell? ⟨bd, 0, none⟩ = some (.int .i64 ((d : Int) + 1))) :
    Calls Tryd.prog 40 #[.slice A kids.length cc, .func (.func 41) #[] #[.pointer (some ⟨bd, 0, none⟩)]] w fun e w' => e = .returned (.bool (!withinAll kids d)) ∧ Below w.heap.size w w' := by
  have hs := badFrom_sign d kids 0 (by omega)
  have H := hide (IndexFunc_calls kids hk d hd bd A cc w hc1 hc2 hkids hb)
  have HS := hide hs
  clear hs hk hkids
  go_enter Tryd.func40, Tryd.ntmps40
  go_wp2_with fail
  refine (unhide H).mono ?_
  rintro e w1 ⟨rfl, hb1⟩
  go_wp2_with fail
  go_ret
  exact ⟨ret_bool (unhide HS), hb1⟩

theorem kids_below {ok : Nat → Prop} {W W' : World} {kids : List Rx} {b o : Nat} (h : KidsAt ok W kids b o) (hb : ok b) (k : Below W.heap.size W W') : KidsAt ok W' kids b o := KidsAt.step (fun j _ hlt => k.block j hlt) kids b o hb h
set_option maxHeartbeats 4000000 in
theorem within_one {ok : Nat → Prop} (kind code : Int) (neg : Bool) (set : List (Int × Int)) (mn mx : Int) (kids : List Rx) (hk : ∀ k ∈ kids, WithinOK ok k) : WithinOK ok (.mk kind code neg set mn mx kids) := by
  intro d cs w hd ht
  have hv := fun w1 hb => valid_calls (ok := ok) (.mk kind code neg set mn mx kids) cs w1 (ht.below hb)
  have ht0 := ht
  simp only [TreeAt] at ht
  obtain ⟨vs, A, cc, rfl, ⟨As, cs', rfl, -⟩, hc1, hc2, hkids⟩ := ht
  cases d with
  | zero =>
    simp only [withinF]
    clear hv ht0 hk hkids
    go_enter Tryd.func24, Tryd.ntmps24
    go_wp2_with fail
    go_ret
    exact ⟨rfl, (by repeat (first | exact Below.refl _ _ | assumption | refine below_drewN ?_ _ | refine Below.drew ?_ | refine below_alloc' ?_ _))⟩
  | succ d =>
    simp only [withinF]
    have HV := hide hv; have HK := hide hk; have HKI := hide hkids
    clear hv ht0 hk hkids
    cases hF : validF (.mk kind code neg set mn mx kids) with
    | false =>
      rw [hF] at HV
      clear hF
      go_enter Tryd.func24, Tryd.ntmps24
      go_wp2_with fail
      refine ((unhide HV) _ (by repeat (first | exact Below.refl _ _ | assumption | refine below_drewN ?_ _ | refine Below.drew ?_ | refine below_alloc' ?_ _))).mono ?_
      rintro e w1 ⟨rfl, hb1⟩
      go_wp2_with fail
      go_ret
      exact ⟨rfl, below_then (by repeat (first | exact Below.refl _ _ | assumption | refine below_drewN ?_ _ | refine Below.drew ?_ | refine below_alloc' ?_ _)) hb1⟩
    | true =>
      rw [hF] at HV
      clear hF
      go_enter Tryd.func24, Tryd.ntmps24
      go_wp2_with fail
      refine ((unhide HV) _ (by repeat (first | exact Below.refl _ _ | assumption | refine below_drewN ?_ _ | refine Below.drew ?_ | refine below_alloc' ?_ _))).mono ?_
      rintro e w1 ⟨rfl, hb1⟩
      have s6 : w1.cell? ⟨w.heap.size, 6, none⟩ = some (.slice A kids.length cc) := ((bcell hb1).1 _ _ (by simp; omega)).trans (by go_simp)
      have sd : w1.cell? ⟨w.heap.size + 1, 0, none⟩ = some (.int .i64 ((d : Int) + 1)) := ((bcell hb1).1 _ _ (by simp)).trans (by go_simp)
      have HB1 := hide (below_then (w := w) (by repeat (first | exact Below.refl _ _ | assumption | refine below_drewN ?_ _ | refine Below.drew ?_ | refine below_alloc' ?_ _)) hb1)
      have hcon := ContainsFunc_calls (ok := ok) kids (unhide HK) d (by omega) (w.heap.size + 1) A cc w1 hc1 hc2 ((unhide HKI).imp id (fun ⟨b, o, h1, h2, h3⟩ => ⟨b, o, h1, h2, kids_below h3 h2 (unhide HB1)⟩)) sd
      have HCON := hide hcon
      clear hb1 hcon
      go_wp2_with fail
      refine (unhide HCON).mono ?_
      rintro e w2 ⟨rfl, hb2⟩
      go_wp2_with fail
      go_ret
      exact ⟨ret_bool (by simp), below_then (unhide HB1) hb2⟩
mutual
theorem within_calls {ok : Nat → Prop} : ∀ t : Rx, WithinOK ok t
  | .mk kind code neg set mn mx kids => within_one kind code neg set mn mx kids (withins_calls kids)
theorem withins_calls {ok : Nat → Prop} : ∀ ks : List Rx, ∀ k ∈ ks, WithinOK ok k
  | [], k, hk => by simp at hk
  | k' :: ks, k, hk => by
    rcases List.mem_cons.1 hk with e | hk
    · rw [e]; exact within_calls k'
    · exact withins_calls ks k hk
end

def validTop (t : Rx) : Bool := withinF t 1024 && decide (weightF t ≤ 200)
set_option maxHeartbeats 4000000 in
theorem Valid_calls {ok : Nat → Prop} (t : Rx) (cs : List Value) (w : World) (ht : TreeAt ok w t cs) :
    Calls Tryd.prog 13 #[.agg cs.toArray] w fun e w' => e = .returned (.bool (validTop t)) ∧ Below w.heap.size w w' := by
  obtain ⟨kind', code', neg', As', ls', cs'', mn', mx', A', lk', cc', rfl⟩ := ht.form
  have HV := hide (fun w1 hb => within_calls t 1024 _ w1 (by omega) (ht.below hb))
  have HW := hide (fun w1 hb => Weight_calls t _ w1 (ht.below hb))
  clear ht
  unfold validTop
  obtain ⟨W, hW⟩ : ∃ W, weightF t = W := ⟨_, rfl⟩
  rw [hW] at HW ⊢
  clear hW
  cases hF : withinF t 1024 with
  | false =>
    rw [hF] at HV
    clear hF
    go_enter Tryd.func13, Tryd.ntmps13
    go_wp2_with fail
    refine ((unhide HV) _ (by repeat (first | exact Below.refl _ _ | assumption | refine below_drewN ?_ _ | refine Below.drew ?_ | refine below_alloc' ?_ _))).mono ?_
    rintro e w1 ⟨rfl, hb1⟩
    go_wp2_with fail
    go_ret
    exact ⟨rfl, below_then (by repeat (first | exact Below.refl _ _ | assumption | refine below_drewN ?_ _ | refine Below.drew ?_ | refine below_alloc' ?_ _)) hb1⟩
  | true =>
    rw [hF] at HV
    clear hF
    go_enter Tryd.func13, Tryd.ntmps13
    go_wp2_with fail
    refine ((unhide HV) _ (by repeat (first | exact Below.refl _ _ | assumption | refine below_drewN ?_ _ | refine Below.drew ?_ | refine below_alloc' ?_ _))).mono ?_
    rintro e w1 ⟨rfl, hb1⟩
    have k0 := (bcell hb1).1 w.heap.size
    have s0 := (k0 0 (by simp)).trans (show _ = some (.int .i64 kind') by go_simp)
    have s1 := (k0 1 (by simp)).trans (show _ = some (.int .i64 code') by go_simp)
    have s2 := (k0 2 (by simp)).trans (show _ = some (.bool neg') by go_simp)
    have s3 := (k0 3 (by simp)).trans (show _ = some (.slice As' ls' cs'') by go_simp)
    have s4 := (k0 4 (by simp)).trans (show _ = some (.int .i64 mn') by go_simp)
    have s5 := (k0 5 (by simp)).trans (show _ = some (.int .i64 mx') by go_simp)
    have s6 := (k0 6 (by simp)).trans (show _ = some (.slice A' lk' cc') by go_simp)
    have HB1 := hide (below_then (w := w) (by repeat (first | exact Below.refl _ _ | assumption | refine below_drewN ?_ _ | refine Below.drew ?_ | refine below_alloc' ?_ _)) hb1)
    have hsz := hb1.size
    simp at hsz
    clear hb1 k0
    go_wp2_with fail
    refine ((unhide HW) _ (unhide HB1)).mono ?_
    rintro e w2 ⟨rfl, hb2⟩
    go_wp2_with fail
    go_ret
    exact ⟨ret_bool (by simp), below_then (unhide HB1) hb2⟩
end Go.Proofs.YtanmlgliibgpcaaDoor

/- Plain Lean: sets of codes as rising ranges that stand apart: two ways to come to the same list. -/
namespace Thr
abbrev Rng := Int × Int

def mem (l : List Rng) (c : Int) : Prop := ∃ r ∈ l, r.1 ≤ c ∧ c ≤ r.2

/-- Rising, and apart; from lo on. -/
def NS : Int → List Rng → Prop
  | _, [] => True
  | lo, r :: l => lo ≤ r.1 ∧ r.1 ≤ r.2 ∧ NS (r.2 + 2) l

theorem NS.lower {a b : Int} (h : a ≤ b) : ∀ {l : List Rng}, NS b l → NS a l
  | [], _ => trivial
  | _ :: _, hn => ⟨Int.le_trans h hn.1, hn.2⟩

theorem NS.mem_lo {a c : Int} : ∀ {l : List Rng}, NS a l → mem l c → a ≤ c
  | [], _, h => by obtain ⟨r, hr, _⟩ := h; cases hr
  | r :: l, hn, h => by
    obtain ⟨x, hx, h1, h2⟩ := h
    rcases List.mem_cons.1 hx with rfl | hx
    · exact Int.le_trans hn.1 h1
    · have := NS.mem_lo hn.2.2 ⟨x, hx, h1, h2⟩
      have := hn.1; have := hn.2.1; omega

theorem NS.each {a : Int} : ∀ {l : List Rng}, NS a l → ∀ y ∈ l, a ≤ y.1 ∧ y.1 ≤ y.2
  | [], _, y, h => by cases h
  | r :: l, hn, y, h => by
    rcases List.mem_cons.1 h with rfl | h
    · exact ⟨hn.1, hn.2.1⟩
    · have := NS.each hn.2.2 y h
      have := hn.1; have := hn.2.1; omega

theorem mem_cons {r : Rng} {l : List Rng} {c : Int} : mem (r :: l) c ↔ (r.1 ≤ c ∧ c ≤ r.2) ∨ mem l c := by
  unfold mem
  constructor
  · rintro ⟨x, hx, h⟩
    rcases List.mem_cons.1 hx with rfl | hx
    · exact .inl h
    · exact .inr ⟨x, hx, h⟩
  · rintro (h | ⟨x, hx, h⟩)
    · exact ⟨r, by simp, h⟩
    · exact ⟨x, by simp [hx], h⟩

/-- One list alone tells a set. -/
theorem NS.unique : ∀ {a b : List Rng} {x y : Int}, NS x a → NS y b → (∀ c, mem a c ↔ mem b c) → a = b
  | [], [], _, _, _, _, _ => rfl
  | [], r :: l, x, y, ha, hb, h => by
    obtain ⟨z, hz, _⟩ := (h r.1).2 ⟨r, by simp, Int.le_refl _, hb.2.1⟩
    cases hz
  | r :: l, [], x, y, ha, hb, h => by
    obtain ⟨z, hz, _⟩ := (h r.1).1 ⟨r, by simp, Int.le_refl _, ha.2.1⟩
    cases hz
  | r :: l, s :: k, x, y, ha, hb, h => by
    obtain ⟨_, ha1, ha2⟩ := ha
    obtain ⟨_, hb1, hb2⟩ := hb
    have e1 : r.1 = s.1 := by
      have h1 : s.1 ≤ r.1 := by
        rcases mem_cons.1 ((h r.1).1 ⟨r, by simp, Int.le_refl _, ha1⟩) with h1 | h1
        · exact h1.1
        · have := hb2.mem_lo h1; omega
      have h2 : r.1 ≤ s.1 := by
        rcases mem_cons.1 ((h s.1).2 ⟨s, by simp, Int.le_refl _, hb1⟩) with h1 | h1
        · exact h1.1
        · have := ha2.mem_lo h1; omega
      omega
    have e2 : r.2 = s.2 := by
      have h1 : r.2 ≤ s.2 := by
        by_cases hc : r.2 ≤ s.2
        · exact hc
        · rcases mem_cons.1 ((h (s.2 + 1)).1 ⟨r, by simp, by omega, by omega⟩) with h1 | h1
          · omega
          · have := hb2.mem_lo h1; omega
      have h2 : s.2 ≤ r.2 := by
        by_cases hc : s.2 ≤ r.2
        · exact hc
        · rcases mem_cons.1 ((h (r.2 + 1)).2 ⟨s, by simp, by omega, by omega⟩) with h1 | h1
          · omega
          · have := ha2.mem_lo h1; omega
      omega
    obtain ⟨r1, r2⟩ := r
    obtain ⟨s1, s2⟩ := s
    simp only at e1 e2
    subst e1; subst e2
    refine congrArg _ (NS.unique ha2 hb2 fun c => ?_)
    constructor
    · intro hc
      have := ha2.mem_lo hc
      rcases mem_cons.1 ((h c).1 (mem_cons.2 (.inr hc))) with h1 | h1
      · simp only at h1 this; omega
      · exact h1
    · intro hc
      have := hb2.mem_lo hc
      rcases mem_cons.1 ((h c).2 (mem_cons.2 (.inr hc))) with h1 | h1
      · simp only at h1 this; omega
      · exact h1

/-- A range taken in, with all that it meets or touches. -/
def absorb : List Rng → Rng → List Rng
  | [], r => [r]
  | x :: l, r => if x.1 ≤ r.2 + 1 then absorb l (min r.1 x.1, max r.2 x.2) else r :: x :: l
def withR : List Rng → Rng → List Rng
  | [], r => [r]
  | x :: l, r => if x.2 + 1 < r.1 then x :: withR l r else absorb (x :: l) r

theorem absorb_ns : ∀ (l : List Rng) (r : Rng) (a : Int), NS a l → r.1 ≤ r.2 → (∀ x ∈ l, r.1 ≤ x.2 + 1) → NS (min a r.1) (absorb l r) ∧ ∀ c, mem (absorb l r) c ↔ (r.1 ≤ c ∧ c ≤ r.2) ∨ mem l c
  | [], r, a, hn, hr, _ => by
    refine ⟨⟨by omega, hr, trivial⟩, fun c => ?_⟩
    simp only [absorb]; rw [mem_cons]
  | x :: l, r, a, hn, hr, hm => by
    obtain ⟨h1, h2, h3⟩ := hn
    simp only [absorb]
    by_cases hx : x.1 ≤ r.2 + 1
    · rw [if_pos hx]
      have hx0 : r.1 ≤ x.2 + 1 := hm x (by simp)
      obtain ⟨i1, i2⟩ := absorb_ns l (min r.1 x.1, max r.2 x.2) (x.2 + 2) h3 (by simp only; omega) (fun y hy => by have := hm y (by simp [hy]); simp only; omega)
      refine ⟨i1.lower (by simp only; omega), fun c => ?_⟩
      rw [i2 c, mem_cons]
      simp only
      constructor
      · rintro (h | h)
        · by_cases hc : c ≤ r.2
          · by_cases hc' : r.1 ≤ c
            · exact .inl ⟨hc', hc⟩
            · exact .inr (.inl ⟨by omega, by omega⟩)
          · exact .inr (.inl ⟨by omega, by omega⟩)
        · exact .inr (.inr h)
      · rintro (h | h | h)
        · exact .inl ⟨by omega, by omega⟩
        · exact .inl ⟨by omega, by omega⟩
        · exact .inr h
    · rw [if_neg hx]
      refine ⟨⟨by omega, hr, by omega, h2, h3⟩, fun c => ?_⟩
      rw [mem_cons]

theorem with_ns : ∀ (l : List Rng) (r : Rng) (a : Int), NS a l → r.1 ≤ r.2 → NS (min a r.1) (withR l r) ∧ ∀ c, mem (withR l r) c ↔ (r.1 ≤ c ∧ c ≤ r.2) ∨ mem l c
  | [], r, a, hn, hr => by
    refine ⟨⟨by omega, hr, trivial⟩, fun c => ?_⟩
    simp only [withR]; rw [mem_cons]
  | x :: l, r, a, hn, hr => by
    simp only [withR]
    by_cases hx : x.2 + 1 < r.1
    · rw [if_pos hx]
      obtain ⟨h1, h2, h3⟩ := hn
      obtain ⟨i1, i2⟩ := with_ns l r (x.2 + 2) h3 hr
      refine ⟨⟨by omega, h2, i1.lower (by omega)⟩, fun c => ?_⟩
      rw [mem_cons, i2 c, mem_cons]
      constructor
      · rintro (h | h | h)
        · exact .inr (.inl h)
        · exact .inl h
        · exact .inr (.inr h)
      · rintro (h | h | h)
        · exact .inr (.inl h)
        · exact .inl h
        · exact .inr (.inr h)
    · rw [if_neg hx]
      refine absorb_ns (x :: l) r a hn hr fun y hy => ?_
      rcases List.mem_cons.1 hy with rfl | hy
      · omega
      · obtain ⟨h1, h2⟩ := hn.2.2.each y hy
        omega

/-- What is at hand, and the rest of a list that rises by where its ranges begin. -/
def mergeGo : Rng → List Rng → List Rng
  | cur, [] => [cur]
  | cur, r :: l => if r.1 ≤ cur.2 + 1 then mergeGo (cur.1, max cur.2 r.2) l else cur :: mergeGo r l
def mergeAll : List Rng → List Rng
  | [] => []
  | r :: l => mergeGo r l

/-- Rising by where they begin. -/
def Rising : Int → List Rng → Prop
  | _, [] => True
  | lo, r :: l => lo ≤ r.1 ∧ r.1 ≤ r.2 ∧ Rising r.1 l

theorem mergeGo_ns : ∀ (l : List Rng) (cur : Rng), cur.1 ≤ cur.2 → Rising cur.1 l → NS cur.1 (mergeGo cur l) ∧ ∀ c, mem (mergeGo cur l) c ↔ (cur.1 ≤ c ∧ c ≤ cur.2) ∨ mem l c
  | [], cur, h, _ => by
    refine ⟨⟨Int.le_refl _, h, trivial⟩, fun c => ?_⟩
    simp only [mergeGo]; rw [mem_cons]
  | r :: l, cur, h, hr => by
    obtain ⟨h1, h2, h3⟩ := hr
    simp only [mergeGo]
    by_cases hx : r.1 ≤ cur.2 + 1
    · rw [if_pos hx]
      have hl : ∀ {a b : Int} {l : List Rng}, a ≤ b → Rising b l → Rising a l := by
        intro a b l hab hh
        cases l with
        | nil => trivial
        | cons x l => exact ⟨Int.le_trans hab hh.1, hh.2⟩
      obtain ⟨i1, i2⟩ := mergeGo_ns l (cur.1, max cur.2 r.2) (by simp only; omega) (hl h1 h3)
      refine ⟨i1, fun c => ?_⟩
      rw [i2 c, mem_cons]
      simp only
      constructor
      · rintro (h | h)
        · by_cases hc : c ≤ cur.2
          · exact .inl ⟨h.1, hc⟩
          · exact .inr (.inl ⟨by omega, by omega⟩)
        · exact .inr (.inr h)
      · rintro (h | h | h)
        · exact .inl ⟨by omega, by omega⟩
        · exact .inl ⟨by omega, by omega⟩
        · exact .inr h
    · rw [if_neg hx]
      obtain ⟨i1, i2⟩ := mergeGo_ns l r h2 h3
      refine ⟨⟨Int.le_refl _, h, i1.lower (by omega)⟩, fun c => ?_⟩
      rw [mem_cons, i2 c, mem_cons]

theorem mergeAll_ns : ∀ (l : List Rng) (a : Int), Rising a l → NS a (mergeAll l) ∧ ∀ c, mem (mergeAll l) c ↔ mem l c
  | [], a, _ => ⟨trivial, fun c => Iff.rfl⟩
  | r :: l, a, h => by
    obtain ⟨h1, h2, h3⟩ := h
    obtain ⟨i1, i2⟩ := mergeGo_ns l r h2 h3
    exact ⟨i1.lower h1, fun c => by simp only [mergeAll]; rw [i2 c, mem_cons]⟩

theorem foldl_with_ns : ∀ (l acc : List Rng) (a : Int), NS a acc → (∀ r ∈ l, r.1 ≤ r.2) → (∃ b, NS b (l.foldl withR acc)) ∧ ∀ c, mem (l.foldl withR acc) c ↔ mem acc c ∨ mem l c
  | [], acc, a, hn, _ => ⟨⟨a, hn⟩, fun c => by simp [mem]⟩
  | r :: l, acc, a, hn, h => by
    obtain ⟨i1, i2⟩ := with_ns acc r a hn (h r (by simp))
    obtain ⟨j1, j2⟩ := foldl_with_ns l _ _ i1 (fun x hx => h x (by simp [hx]))
    refine ⟨j1, fun c => ?_⟩
    simp only [List.foldl_cons]
    rw [j2 c, i2 c, mem_cons]
    constructor
    · rintro ((h | h) | h)
      · exact .inr (.inl h)
      · exact .inl h
      · exact .inr (.inr h)
    · rintro (h | h | h)
      · exact .inl (.inr h)
      · exact .inl (.inl h)
      · exact .inr h

theorem rising_of_pairwise : ∀ (l : List Rng) (a : Int), (∀ r ∈ l, a ≤ r.1 ∧ r.1 ≤ r.2) → l.Pairwise (fun x y => x.1 ≤ y.1) → Rising a l
  | [], _, _, _ => trivial
  | r :: l, a, h, hp => by
    obtain ⟨h1, h2⟩ := List.pairwise_cons.1 hp
    exact ⟨(h r (by simp)).1, (h r (by simp)).2, rising_of_pairwise l r.1 (fun x hx => ⟨h1 x hx, (h x (by simp [hx])).2⟩) h2⟩

/-- The ranges sorted and made one are those taken in one by one. -/
theorem sets_same {l l' : List Rng} (hp : l'.Perm l) (hs : l'.Pairwise (fun x y => x.1 ≤ y.1)) (h : ∀ r ∈ l, r.1 ≤ r.2) : mergeAll l' = l.foldl withR [] := by
  obtain ⟨⟨b, hb⟩, hm⟩ := foldl_with_ns l [] 0 trivial h
  have hr : ∃ a, Rising a l' := by
    cases l' with
    | nil => exact ⟨0, trivial⟩
    | cons x t =>
      refine ⟨x.1, rising_of_pairwise _ _ (fun r hr => ⟨?_, h r (hp.mem_iff.1 hr)⟩) hs⟩
      rcases List.mem_cons.1 hr with rfl | hr
      · exact Int.le_refl _
      · exact (List.pairwise_cons.1 hs).1 r hr
  obtain ⟨a, ha⟩ := hr
  obtain ⟨i1, i2⟩ := mergeAll_ns l' a ha
  refine NS.unique i1 hb fun c => ?_
  rw [i2 c, hm c]
  constructor
  · rintro ⟨r, hr, h⟩; exact .inr ⟨r, hp.mem_iff.1 hr, h⟩
  · rintro (⟨r, hr, _⟩ | ⟨r, hr, h⟩)
    · cases hr
    · exact ⟨r, hp.mem_iff.2 hr, h⟩
end Thr

/- Plain Lean: what a pattern means: one answer for the descent and for the stack. -/
namespace Thr

def leaf (k : Int) : Rx := .mk k 0 false [] 0 0 []
def chrN (c : Int) : Rx := .mk 2 c false [] 0 0 []
def setN (neg : Bool) (set : List (Int × Int)) : Rx := .mk 4 0 neg set 0 0 []
def catN (ks : List Rx) : Rx := .mk 5 0 false [] 0 0 ks
def altN (ks : List Rx) : Rx := .mk 6 0 false [] 0 0 ks
def repN (lo hi : Int) (k : Rx) : Rx := .mk 7 0 false [] lo hi [k]
def joinF : List Rx → Rx
  | [] => leaf 1
  | [x] => x
  | x :: y :: l => catN (x :: y :: l)
def oneF : List Rx → Rx
  | [x] => x
  | l => altN l
def shutF (alts cat : List Rx) : Rx := oneF (alts ++ [joinF cat])

def isDig (c : Int) : Bool := decide (48 ≤ c ∧ c ≤ 57)
/-- The number at a place, and where it ends. -/
def digF (s : ByteArray) : Nat → Nat → Int → Int × Nat
  | 0, i, v => (v, i)
  | f + 1, i, v => if i < s.size ∧ isDig (byt s i) = true then digF s f (i + 1) (min (10 * v + (byt s i - 48)) 1000) else (v, i)
/-- What stands behind a '{': its numbers, where it ends. -/
def itvF (s : ByteArray) (i : Nat) : Option (Int × Int × Nat) :=
  if (digF s s.size (i + 1) 0).2 = i + 1 ∨ s.size ≤ (digF s s.size (i + 1) 0).2 then none
  else if byt s (digF s s.size (i + 1) 0).2 = 44 then
    if (digF s s.size ((digF s s.size (i + 1) 0).2 + 1) 0).2 < s.size ∧ byt s (digF s s.size ((digF s s.size (i + 1) 0).2 + 1) 0).2 = 125 then
      some ((digF s s.size (i + 1) 0).1, if (digF s s.size ((digF s s.size (i + 1) 0).2 + 1) 0).2 = (digF s s.size (i + 1) 0).2 + 1 then -1 else (digF s s.size ((digF s s.size (i + 1) 0).2 + 1) 0).1, (digF s s.size ((digF s s.size (i + 1) 0).2 + 1) 0).2 + 1)
    else none
  else if byt s (digF s s.size (i + 1) 0).2 = 125 then some ((digF s s.size (i + 1) 0).1, (digF s s.size (i + 1) 0).1, (digF s s.size (i + 1) 0).2 + 1)
  else none

inductive Again where
  | no
  | fault (e : Int)
  | yes (lo hi : Int) (k : Nat)
def againF (s : ByteArray) (i : Nat) : Again :=
  if byt s i = 42 then .yes 0 (-1) (i + 1)
  else if byt s i = 43 then .yes 1 (-1) (i + 1)
  else if byt s i = 63 then .yes 0 1 (i + 1)
  else if byt s i = 123 then
    match itvF s i with
    | none => .no
    | some (lo, hi, k) => if 30 < lo ∨ 30 < hi then .fault 91 else if 0 ≤ hi ∧ hi < lo then .fault 90 else .yes lo hi k
  else .no

def isLet (c : Int) : Bool := decide (48 ≤ c ∧ c ≤ 57 ∨ 97 ≤ c ∧ c ≤ 122 ∨ 65 ≤ c ∧ c ≤ 90)
/-- What a character behind a backslash stands for. -/
def singleF (c : Int) : Option Int :=
  if c = 110 then some 10 else if c = 116 then some 9 else if c = 114 then some 13 else if c = 102 then some 12 else if c = 118 then some 11 else if c = 97 then some 7 else if c = 98 then some 8
  else if isLet c = true then none else some c

def wordS : List (Int × Int) := [(48, 57), (65, 90), (95, 95), (97, 122)]
def spaceS : List (Int × Int) := [(9, 13), (32, 32)]
def escF (s : ByteArray) (i : Nat) (bytes : Bool) : Option (Rx × Nat) :=
  if (nextF s (i + 1) bytes).2 = 0 then none
  else
    let k := i + 1 + (nextF s (i + 1) bytes).2.toNat
    let c := (nextF s (i + 1) bytes).1
    if c = 121 then some (leaf 10, k) else if c = 66 then some (leaf 11, k) else if c = 60 then some (leaf 12, k) else if c = 62 then some (leaf 13, k) else if c = 96 then some (leaf 8, k) else if c = 39 then some (leaf 9, k)
    else if c = 119 ∨ c = 87 then some (setN (c = 87) wordS, k) else if c = 115 ∨ c = 83 then some (setN (c = 83) spaceS, k)
    else match singleF c with | none => none | some x => some (chrN x, k)

/-- A text's bytes, as they stand in the source. -/
def lit (l : List UInt8) : ByteArray := ⟨l.toArray⟩
def classTab : List (ByteArray × List (Int × Int)) :=
  [(lit [97, 108, 112, 104, 97], [(65, 90), (97, 122)]), (lit [100, 105, 103, 105, 116], [(48, 57)]), (lit [97, 108, 110, 117, 109], [(48, 57), (65, 90), (97, 122)]), (lit [117, 112, 112, 101, 114], [(65, 90)]),
   (lit [108, 111, 119, 101, 114], [(97, 122)]), (lit [115, 112, 97, 99, 101], [(9, 13), (32, 32)]), (lit [98, 108, 97, 110, 107], [(9, 9), (32, 32)]), (lit [112, 117, 110, 99, 116], [(33, 47), (58, 64), (91, 96), (123, 126)]),
   (lit [112, 114, 105, 110, 116], [(32, 126)]), (lit [103, 114, 97, 112, 104], [(33, 126)]), (lit [99, 110, 116, 114, 108], [(0, 31), (127, 127)]), (lit [120, 100, 105, 103, 105, 116], [(48, 57), (65, 70), (97, 102)])]
def lookF (n : ByteArray) : List (ByteArray × List (Int × Int)) → Option (List (Int × Int))
  | [] => none
  | x :: l => if n = x.1 then some x.2 else lookF n l
def classF (n : ByteArray) : Option (List (Int × Int)) := lookF n classTab

/-- The first ":]" from a place on. -/
def shutAt (s : ByteArray) : Nat → Nat → Option Nat
  | 0, _ => none
  | f + 1, k => if s.size ≤ k + 1 then none else if byt s k = 58 ∧ byt s (k + 1) = 93 then some k else shutAt s f (k + 1)
def namedF (s : ByteArray) (i : Nat) : Option (List (Int × Int) × Nat) :=
  match shutAt s s.size (i + 2) with
  | none => none
  | some k => match classF (s.extract (i + 2) k) with | none => none | some l => some (l, k + 2)
def memberF (s : ByteArray) (i : Nat) (bytes : Bool) : Option (Int × Nat) :=
  if (nextF s i bytes).2 = 0 then none
  else if (nextF s i bytes).1 ≠ 92 then some ((nextF s i bytes).1, i + (nextF s i bytes).2.toNat)
  else if (nextF s (i + 1) bytes).2 = 0 then none
  else match singleF (nextF s (i + 1) bytes).1 with | none => none | some x => some (x, i + 1 + (nextF s (i + 1) bytes).2.toNat)
def two (s : ByteArray) (i : Nat) (a b : Int) : Bool := decide (i + 1 < s.size ∧ byt s i = a ∧ byt s (i + 1) = b)
def one (s : ByteArray) (i : Nat) (a : Int) : Bool := decide (i < s.size ∧ byt s i = a)
/-- What a set's members are, one behind the other, and where it ends. -/
def setsF (s : ByteArray) (bytes : Bool) : Nat → Nat → Bool → List (Int × Int) → Option (List (Int × Int) × Nat)
  | 0, _, _, _ => none
  | f + 1, i, first, acc =>
    if first = false ∧ one s i 93 = true then some (acc, i + 1)
    else if two s i 91 58 = true then
      match namedF s i with
      | none => none
      | some (l, k) => setsF s bytes f k false (acc ++ l)
    else match memberF s i bytes with
      | none => none
      | some (lo, k) =>
        if one s k 45 = true ∧ k + 1 < s.size ∧ byt s (k + 1) ≠ 93 then
          if two s (k + 1) 91 58 = true then none
          else match memberF s (k + 1) bytes with
            | none => none
            | some (hi, k') => if hi < lo then none else setsF s bytes f k' false (acc ++ [(lo, hi)])
        else setsF s bytes f k false (acc ++ [(lo, lo)])
def setF (s : ByteArray) (i : Nat) (bytes : Bool) : Option (Rx × Nat) :=
  match setsF s bytes (s.size + 1) (if one s (i + 1) 94 = true then i + 2 else i + 1) true [] with
  | none => none
  | some (l, k) => some (setN (one s (i + 1) 94) (l.foldl withR []), k)

def plainF (c : Int) : Rx := if c = 46 then leaf 3 else if c = 94 then leaf 8 else if c = 36 then leaf 9 else chrN c

/-- How a group ends: in a fault, or where nothing of it goes on. -/
inductive Res where
  | fault (i : Nat) (e : Int)
  | stop (alts cat : List Rx) (i : Nat)

def initL : List Rx → List Rx
  | [] => []
  | [_] => []
  | x :: y :: l => x :: initL (y :: l)
def lastL : List Rx → Rx
  | [] => leaf 1
  | [x] => x
  | _ :: y :: l => lastL (y :: l)

/-- A group from a place on, with what it has so far. -/
def innerF (s : ByteArray) (bytes : Bool) : Nat → Nat → List Rx → List Rx → Nat → Option Res
  | 0, _, _, _, _ => none
  | f + 1, nest, alts, cat, i =>
    if s.size ≤ i then some (.stop alts cat i)
    else match (if cat = [] then Again.no else againF s i) with
      | .fault e => some (.fault i e)
      | .yes lo hi k => innerF s bytes f nest alts (initL cat ++ [repN lo hi (lastL cat)]) k
      | .no =>
        if byt s i = 124 then innerF s bytes f nest (alts ++ [joinF cat]) [] (i + 1)
        else if byt s i = 40 then
          if nest = 40 then some (.fault i 91)
          else match innerF s bytes f (nest + 1) [] [] (i + 1) with
            | none => none
            | some (.fault j e) => some (.fault j e)
            | some (.stop alts' cat' j) => if j < s.size then innerF s bytes f nest alts (cat ++ [shutF alts' cat']) (j + 1) else some (.fault i 90)
        else if byt s i = 41 then if nest = 0 then some (.fault i 90) else some (.stop alts cat i)
        else if byt s i = 91 then match setF s i bytes with | none => some (.fault i 90) | some (x, k) => innerF s bytes f nest alts (cat ++ [x]) k
        else if byt s i = 92 then match escF s i bytes with | none => some (.fault i 90) | some (x, k) => innerF s bytes f nest alts (cat ++ [x]) k
        else innerF s bytes f nest alts (cat ++ [plainF (nextF s i bytes).1]) (i + (nextF s i bytes).2.toNat)

/-! ### It ends -/
theorem dig_le (s : ByteArray) : ∀ (f i : Nat) (v : Int), i ≤ (digF s f i v).2 ∧ ((digF s f i v).2 ≤ s.size ∨ (digF s f i v).2 = i)
  | 0, i, v => by simp [digF]
  | f + 1, i, v => by
    simp only [digF]
    split
    · have := dig_le s f (i + 1) (min (10 * v + (byt s i - 48)) 1000)
      omega
    · simp
theorem itv_le {s : ByteArray} {i : Nat} {lo hi : Int} {k : Nat} (h : itvF s i = some (lo, hi, k)) : i < k ∧ k ≤ s.size := by
  have h1 := dig_le s s.size (i + 1) 0
  have h2 := dig_le s s.size ((digF s s.size (i + 1) 0).2 + 1) 0
  unfold itvF at h
  split at h
  · cases h
  · split at h
    · split at h
      · simp only [Option.some.injEq, Prod.mk.injEq] at h
        omega
      · cases h
    · split at h
      · simp only [Option.some.injEq, Prod.mk.injEq] at h
        omega
      · cases h
theorem again_le {s : ByteArray} {i : Nat} {lo hi : Int} {k : Nat} (hi0 : i < s.size) (h : againF s i = .yes lo hi k) : i < k ∧ k ≤ s.size := by
  unfold againF at h
  split at h
  · injection h; omega
  split at h
  · injection h; omega
  split at h
  · injection h; omega
  split at h
  · split at h
    · cases h
    · rename_i hit
      have := itv_le hit
      split at h
      · cases h
      · split at h
        · cases h
        · injection h; omega
  · cases h
theorem next_le {s : ByteArray} {i : Nat} {bytes : Bool} (hs : Sized s bytes) : 0 ≤ (nextF s i bytes).2 ∧ (i < s.size → 1 ≤ (nextF s i bytes).2 ∧ i + (nextF s i bytes).2.toNat ≤ s.size) ∧ (s.size ≤ i → (nextF s i bytes).2 = 0) := by
  rcases Nat.lt_or_ge i s.size with h | h
  · have := hs.at_ i h
    exact ⟨by omega, fun _ => by omega, fun h' => by omega⟩
  · have : nextF s i bytes = (0, 0) := by unfold nextF; rw [if_pos (by omega)]
    rw [this]
    exact ⟨by simp, fun h' => by omega, fun _ => rfl⟩
theorem esc_le {s : ByteArray} {i : Nat} {bytes : Bool} (hs : Sized s bytes) {x : Rx} {k : Nat} (h : escF s i bytes = some (x, k)) : i < k ∧ k ≤ s.size := by
  have hn := next_le (i := i + 1) hs
  have hc : ((i + 1 : Nat) : Int) = (i : Int) + 1 := by omega
  rw [hc] at hn
  unfold escF at h
  split at h
  · cases h
  · rename_i h0
    have hi : i + 1 < s.size := by
      rcases Nat.lt_or_ge (i + 1) s.size with h | h
      · exact h
      · exact absurd (hn.2.2 h) h0
    have hk := hn.2.1 hi
    have hfin : ∀ (y : Rx), some (y, i + 1 + (nextF s (i + 1) bytes).2.toNat) = some (x, k) → i < k ∧ k ≤ s.size := by
      intro y e
      simp only [Option.some.injEq, Prod.mk.injEq] at e
      omega
    simp only at h
    repeat' split at h
    all_goals first | exact hfin _ h | cases h
theorem shutAt_le {s : ByteArray} : ∀ (f k j : Nat), shutAt s f k = some j → k ≤ j ∧ j + 1 < s.size
  | 0, k, j, h => by simp [shutAt] at h
  | f + 1, k, j, h => by
    simp only [shutAt] at h
    split at h
    · cases h
    · split at h
      · injection h; omega
      · have := shutAt_le f (k + 1) j h
        omega
theorem named_le {s : ByteArray} {i k : Nat} {l : List (Int × Int)} (h : namedF s i = some (l, k)) : i < k ∧ k ≤ s.size := by
  unfold namedF at h
  split at h
  · cases h
  · rename_i hk
    have := shutAt_le _ _ _ hk
    split at h
    · cases h
    · simp only [Option.some.injEq, Prod.mk.injEq] at h
      omega
theorem member_le {s : ByteArray} {i k : Nat} {bytes : Bool} (hs : Sized s bytes) {x : Int} (h : memberF s i bytes = some (x, k)) : i < k ∧ k ≤ s.size := by
  have h1 := next_le (i := i) hs
  have h2 := next_le (i := i + 1) hs
  have hc : ((i + 1 : Nat) : Int) = (i : Int) + 1 := by omega
  rw [hc] at h2
  unfold memberF at h
  split at h
  · cases h
  · rename_i h0
    have hi : i < s.size := by
      rcases Nat.lt_or_ge i s.size with h | h
      · exact h
      · exact absurd (h1.2.2 h) h0
    split at h
    · simp only [Option.some.injEq, Prod.mk.injEq] at h
      have := h1.2.1 hi
      omega
    · split at h
      · cases h
      · rename_i h0'
        have hi' : i + 1 < s.size := by
          rcases Nat.lt_or_ge (i + 1) s.size with h | h
          · exact h
          · exact absurd (h2.2.2 h) h0'
        split at h
        · cases h
        · simp only [Option.some.injEq, Prod.mk.injEq] at h
          have := h2.2.1 hi'
          omega
theorem sets_le {s : ByteArray} {bytes : Bool} (hs : Sized s bytes) : ∀ (f i : Nat) (first : Bool) (acc : List (Int × Int)) (l : List (Int × Int)) (k : Nat), setsF s bytes f i first acc = some (l, k) → i < k ∧ k ≤ s.size
  | 0, i, first, acc, l, k, h => by simp [setsF] at h
  | f + 1, i, first, acc, l, k, h => by
    simp only [setsF] at h
    split at h
    · rename_i h1
      simp only [Option.some.injEq, Prod.mk.injEq] at h
      have : i < s.size := by have := h1.2; simp [one] at this; exact this.1
      omega
    · split at h
      · split at h
        · cases h
        · rename_i hn
          have := named_le hn
          have := sets_le hs f _ _ _ _ _ h
          omega
      · split at h
        · cases h
        · rename_i hm
          have h1 := member_le hs hm
          split at h
          · split at h
            · cases h
            · split at h
              · cases h
              · rename_i hm2
                have h2 := member_le hs hm2
                split at h
                · cases h
                · have := sets_le hs f _ _ _ _ _ h
                  omega
          · have := sets_le hs f _ _ _ _ _ h
            omega
theorem set_le {s : ByteArray} {i k : Nat} {bytes : Bool} (hs : Sized s bytes) {x : Rx} (h : setF s i bytes = some (x, k)) : i < k ∧ k ≤ s.size := by
  unfold setF at h
  split at h
  · cases h
  · rename_i hk
    have := sets_le hs _ _ _ _ _ _ hk
    simp only [Option.some.injEq, Prod.mk.injEq] at h
    split at this <;> omega
theorem inner_ends {s : ByteArray} {bytes : Bool} (hs : Sized s bytes) : ∀ (f nest : Nat) (alts cat : List Rx) (i : Nat), s.size - i < f → i ≤ s.size →
    ∃ r, innerF s bytes f nest alts cat i = some r ∧ ∀ a c j, r = .stop a c j → i ≤ j ∧ j ≤ s.size ∧ (j < s.size → byt s j = 41 ∧ 0 < nest)
  | 0, nest, alts, cat, i, h, hi => by omega
  | f + 1, nest, alts, cat, i, h, hi => by
    have go : ∀ (nest' : Nat) (alts' cat' : List Rx) (k : Nat), i < k → k ≤ s.size → ∃ r, innerF s bytes f nest' alts' cat' k = some r ∧ ∀ a c j, r = .stop a c j → i ≤ j ∧ j ≤ s.size ∧ (j < s.size → byt s j = 41 ∧ 0 < nest') := by
      intro nest' alts' cat' k h1 h2
      obtain ⟨r, hr, hp⟩ := inner_ends hs f nest' alts' cat' k (by omega) h2
      exact ⟨r, hr, fun a c j e => by have := hp a c j e; exact ⟨by omega, this.2⟩⟩
    simp only [innerF]
    by_cases hge : s.size ≤ i
    · rw [if_pos hge]
      exact ⟨_, rfl, fun a c j e => by injection e; omega⟩
    rw [if_neg hge]
    have hlt : i < s.size := by omega
    have hn := next_le (i := i) hs
    generalize hag : (if cat = [] then Again.no else againF s i) = ag
    cases ag with
    | fault e => exact ⟨_, rfl, fun a c j e => by cases e⟩
    | yes lo hi' k =>
      have hk : i < k ∧ k ≤ s.size := by
        split at hag
        · cases hag
        · exact again_le hlt hag
      exact go _ _ _ _ hk.1 hk.2
    | no =>
      simp only
      split
      · exact go _ _ _ _ (by omega) (by omega)
      split
      · split
        · exact ⟨_, rfl, fun a c j e => by cases e⟩
        · obtain ⟨r, hr, hp⟩ := go (nest + 1) [] [] (i + 1) (by omega) (by omega)
          rw [hr]
          cases r with
          | fault j e => exact ⟨_, rfl, fun a c j e => by cases e⟩
          | stop a c j =>
            have := hp a c j rfl
            simp only
            split
            · exact go _ _ _ _ (by omega) (by omega)
            · exact ⟨_, rfl, fun a c j e => by cases e⟩
      split
      · split
        · exact ⟨_, rfl, fun a c j e => by cases e⟩
        · rename_i h41 hnest
          exact ⟨_, rfl, fun a c j e => by injection e with _ _ e; subst e; exact ⟨by omega, by omega, fun _ => ⟨h41, by omega⟩⟩⟩
      split
      · split
        · exact ⟨_, rfl, fun a c j e => by cases e⟩
        · rename_i hx
          have := set_le hs hx
          exact go _ _ _ _ this.1 this.2
      split
      · split
        · exact ⟨_, rfl, fun a c j e => by cases e⟩
        · rename_i hx
          have := esc_le hs hx
          exact go _ _ _ _ this.1 this.2
      · have := hn.2.1 hlt
        exact go _ _ _ _ (by omega) (by omega)

/-- The answer: the tree, or where the fault is. -/
inductive Ans where
  | fault (i : Nat) (e : Int)
  | tree (t : Rx)
def topF : Res → Ans
  | .fault i e => .fault i e
  | .stop alts cat _ => if 200 < weightF (shutF alts cat) then .fault 0 91 else .tree (shutF alts cat)
def parseF (s : ByteArray) (bytes : Bool) : Ans :=
  if 1024 < s.size then .fault 0 3
  else match innerF s bytes (s.size + 1) 0 [] [] 0 with
    | none => .fault 0 0
    | some r => topF r
end Thr
