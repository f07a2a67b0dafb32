/- Rows of trees; how a group's parts end. -/
import Derived.Test.YtanmlgliibgpcaaDoorRxO
namespace Go.Proofs.YtanmlgliibgpcaaDoor
open Go.RowKit Thr
set_option linter.unusedVariables false
set_option linter.unusedSimpArgs false

/-! ### Plain -/
inductive One where
  | fault (i : Nat) (e : Int)
  | node (x : Rx) (k : Nat)
def groupR (s : ByteArray) (i : Nat) : Res → One
  | .fault j e => .fault j e
  | .stop a c j => if j < s.size then .node (shutF a c) (j + 1) else .fault i 90
def oneOf (i : Nat) : Option (Rx × Nat) → One
  | none => .fault i 90
  | some (x, k) => .node x k
def atomF (s : ByteArray) (bytes : Bool) (f nest i : Nat) : Option One :=
  if byt s i = 40 then (if nest = 40 then some (.fault i 91) else (innerF s bytes f (nest + 1) [] [] (i + 1)).map (groupR s i))
  else if byt s i = 41 then some (.fault i 90)
  else if byt s i = 91 then some (oneOf i (setF s i bytes))
  else if byt s i = 92 then some (oneOf i (escF s i bytes))
  else some (.node (plainF (nextF s i bytes).1) (i + (nextF s i bytes).2.toNat))
theorem inner_atom {s : ByteArray} {bytes : Bool} {f nest i : Nat} {alts cat : List Rx} {r : Res} (h : innerF s bytes (f + 1) nest alts cat i = some r) (hi : i < s.size) (ha : (if cat = [] then Again.no else againF s i) = .no)
    (h1 : byt s i ≠ 124) (h2 : ¬ (0 < nest ∧ byt s i = 41)) :
    ∃ o, atomF s bytes f nest i = some o ∧ match o with | .fault j e => r = .fault j e | .node x k => innerF s bytes f nest alts (cat ++ [x]) k = some r := by
  simp only [innerF] at h
  rw [if_neg (by omega), ha] at h
  simp only at h
  rw [if_neg h1] at h
  unfold atomF
  by_cases e40 : byt s i = 40
  · rw [if_pos e40] at h ⊢
    by_cases hn : nest = 40
    · rw [if_pos hn] at h ⊢
      exact ⟨_, rfl, by injection h with h; exact h.symm⟩
    · rw [if_neg hn] at h ⊢
      cases hin : innerF s bytes f (nest + 1) [] [] (i + 1) with
      | none => rw [hin] at h; cases h
      | some q =>
        rw [hin] at h
        refine ⟨_, rfl, ?_⟩
        cases q with
        | fault j e => simp only [groupR]; injection h with h; exact h.symm
        | stop a c j =>
          simp only [groupR] at h ⊢
          by_cases hj : j < s.size
          · rw [if_pos hj] at h ⊢; exact h
          · rw [if_neg hj] at h ⊢; injection h with h; exact h.symm
  rw [if_neg e40] at h ⊢
  by_cases e41 : byt s i = 41
  · rw [if_pos e41] at h ⊢
    have hn : nest = 0 := by omega
    rw [if_pos hn] at h
    exact ⟨_, rfl, by injection h with h; exact h.symm⟩
  rw [if_neg e41] at h ⊢
  by_cases e91 : byt s i = 91
  · rw [if_pos e91] at h ⊢
    refine ⟨_, rfl, ?_⟩
    cases hs : setF s i bytes with
    | none => rw [hs] at h; simp only [oneOf]; injection h with h; exact h.symm
    | some q => rw [hs] at h; exact h
  rw [if_neg e91] at h ⊢
  by_cases e92 : byt s i = 92
  · rw [if_pos e92] at h ⊢
    refine ⟨_, rfl, ?_⟩
    cases hs : escF s i bytes with
    | none => rw [hs] at h; simp only [oneOf]; injection h with h; exact h.symm
    | some q => rw [hs] at h; exact h
  rw [if_neg e92] at h ⊢
  exact ⟨_, rfl, h⟩

/-! ### Rows of trees -/
def TreesRow (ok : Nat → Prop) (W : World) (ts : List Rx) (xs : List Value) : Prop :=
  xs.length = ts.length * 7 ∧ ∀ (i : Nat) (t : Rx), ts[i]? = some t → ∃ cs, TreeAt ok W t cs ∧ ∀ (j : Nat) (u : Value), cs[j]? = some u → xs[i * 7 + j]? = some u
section
variable {ok ok' : Nat → Prop} {W W' : World} {ts : List Rx} {xs : List Value}
theorem TreesRow.nil (ok : Nat → Prop) (W : World) : TreesRow ok W [] [] := ⟨rfl, fun i t h => by simp at h⟩
theorem TreesRow.snoc (h : TreesRow ok W ts xs) {t : Rx} {cs : List Value} (ht : TreeAt ok W t cs) : TreesRow ok W (ts ++ [t]) (xs ++ cs) := by
  refine ⟨by simp [h.1, ht.len]; omega, fun i p hp => ?_⟩
  rcases Nat.lt_or_ge i ts.length with hi | hi
  · rw [List.getElem?_append_left hi] at hp
    obtain ⟨cs', ht', hc⟩ := h.2 i p hp
    refine ⟨cs', ht', fun j u hu => ?_⟩
    have hj := (List.getElem?_eq_some_iff.1 hu).1
    rw [ht'.len] at hj
    rw [List.getElem?_append_left (by rw [h.1]; omega)]
    exact hc j u hu
  · have hi2 := (List.getElem?_eq_some_iff.1 hp).1
    simp at hi2
    obtain rfl : i = ts.length := by omega
    simp at hp
    subst hp
    refine ⟨cs, ht, fun j u hu => ?_⟩
    rw [List.getElem?_append_right (by rw [h.1]; omega), h.1, show ts.length * 7 + j - ts.length * 7 = j by omega]
    exact hu
theorem TreesRow.step (h : TreesRow ok W ts xs) (hk : ∀ k, ok k → k < W.heap.size → W'.heap[k]? = W.heap[k]?) : TreesRow ok W' ts xs :=
  ⟨h.1, fun i t ht => by obtain ⟨cs, a, b⟩ := h.2 i t ht; exact ⟨cs, TreeAt.step hk _ _ a, b⟩⟩
theorem TreesRow.mono (h : TreesRow ok W ts xs) (hk : ∀ k, ok k → ok' k) : TreesRow ok' W ts xs :=
  ⟨h.1, fun i t ht => by obtain ⟨cs, a, b⟩ := h.2 i t ht; exact ⟨cs, TreeAt.mono hk _ _ a, b⟩⟩
theorem TreesRow.bound (h : TreesRow ok W ts xs) : TreesRow (fun k => ok k ∧ k < W.heap.size) W ts xs :=
  ⟨h.1, fun i t ht => by obtain ⟨cs, a, b⟩ := h.2 i t ht; exact ⟨cs, TreeAt.bound _ _ a, b⟩⟩
theorem TreesRow.put {pre : List Rx} {t t' : Rx} {cs' : List Value} (h : TreesRow ok W (pre ++ [t]) xs) (ht : TreeAt ok W t' cs') : TreesRow ok W (pre ++ [t']) (xs.take (pre.length * 7) ++ cs') := by
  have hl : xs.length = pre.length * 7 + 7 := by rw [h.1]; simp; omega
  refine TreesRow.snoc ⟨by simp [hl], fun i p hp => ?_⟩ ht
  have hi := (List.getElem?_eq_some_iff.1 hp).1
  obtain ⟨cs, a, b⟩ := h.2 i p (by rw [List.getElem?_append_left hi]; exact hp)
  refine ⟨cs, a, fun j u hu => ?_⟩
  have hj := (List.getElem?_eq_some_iff.1 hu).1
  rw [a.len] at hj
  rw [List.getElem?_take, if_pos (by omega)]
  exact b j u hu
theorem tree_kids (kind : Int) {base : Nat} {vK : Value} (ho : W.ownsRow base 26 7 vK ts.length xs) (hr : TreesRow ok W ts xs) (hok : ∀ k, ok k → ok' k) (hb : ∀ k, base ≤ k → ok' k) :
    TreeAt ok' W (.mk kind 0 false [] 0 0 ts) [.int .i64 kind, .int .i64 0, .bool false, .slice none 0 0, .int .i64 0, .int .i64 0, vK] := by
  simp only [TreeAt]
  obtain ⟨hl, ⟨rfl, h0⟩ | ⟨g, cap, cur, rfl, hg, hh, h1, h2, h3, h4⟩⟩ := ho
  · obtain rfl := List.eq_nil_of_length_eq_zero h0
    exact ⟨_, _, _, rfl, SetAt.nil _ _, Nat.le_refl _, by omega, .inl rfl⟩
  · unfold maxLen at h2
    refine ⟨_, _, _, rfl, SetAt.nil _ _, h1, by omega, .inr ⟨g, 0, rfl, hb g hg, KidsAt.mk fun i t ht => ?_⟩⟩
    obtain ⟨cs, a, b⟩ := hr.2 i t ht
    refine ⟨cs, TreeAt.mono hok _ _ a, fun j u hu => ?_⟩
    rw [Nat.zero_add]
    exact (own_cell (n := ts.length) (size := 7) ⟨hl, .inr ⟨g, cap, cur, rfl, hg, hh, h1, by unfold maxLen; omega, h3, h4⟩⟩ (b j u hu)).1
end

/-- Seven cells from a place on stored one by one. -/
def putAt (w : World) (g k : Nat) (x0 x1 x2 x3 x4 x5 x6 : Value) : World :=
  ((((((w.setCell ⟨g, k, none⟩ x0).setCell ⟨g, k + 1, none⟩ x1).setCell ⟨g, k + 2, none⟩ x2).setCell ⟨g, k + 3, none⟩ x3).setCell ⟨g, k + 4, none⟩ x4).setCell ⟨g, k + 5, none⟩ x5).setCell ⟨g, k + 6, none⟩ x6
theorem heap_putAt (w : World) (g k : Nat) (x0 x1 x2 x3 x4 x5 x6 : Value) (j : Nat) (hj : j ≠ g) : (putAt w g k x0 x1 x2 x3 x4 x5 x6).heap[j]? = w.heap[j]? := by
  unfold putAt
  repeat rw [Below.heap_setCell _ _ _ j (by simpa using hj)]
theorem Keeps.putAt {S : Nat → Prop} {a w : World} (h : Keeps S a w) {g k : Nat} (hg : S g ∨ a.heap.size ≤ g) (x0 x1 x2 x3 x4 x5 x6 : Value) : Keeps S a (putAt w g k x0 x1 x2 x3 x4 x5 x6) :=
  ((((((h.setCell (p := ⟨g, k, none⟩) hg x0).setCell (p := ⟨g, k + 1, none⟩) hg x1).setCell (p := ⟨g, k + 2, none⟩) hg x2).setCell (p := ⟨g, k + 3, none⟩) hg x3).setCell (p := ⟨g, k + 4, none⟩) hg x4).setCell (p := ⟨g, k + 5, none⟩) hg x5).setCell (p := ⟨g, k + 6, none⟩) hg x6
theorem set_seven (xs : List Value) (k : Nat) (hl : xs.length = k + 7) (x0 x1 x2 x3 x4 x5 x6 : Value) :
    ((((((xs.set k x0).set (k + 1) x1).set (k + 2) x2).set (k + 3) x3).set (k + 4) x4).set (k + 5) x5).set (k + 6) x6 = xs.take k ++ [x0, x1, x2, x3, x4, x5, x6] := by
  apply List.ext_getElem?
  intro j
  have hl7 : (((((xs.set k x0).set (k + 1) x1).set (k + 2) x2).set (k + 3) x3).set (k + 4) x4).length = xs.length := by simp
  rcases Nat.lt_or_ge j k with hj | hj
  · rw [List.getElem?_append_left (by simp; omega), List.getElem?_take, if_pos hj]
    simp only [List.getElem?_set, List.length_set]
    repeat rw [if_neg (by omega)]
  · rw [List.getElem?_append_right (by simp; omega)]
    have hlen : (xs.take k).length = k := by simp; omega
    rw [hlen]
    have : j = k ∨ j = k + 1 ∨ j = k + 2 ∨ j = k + 3 ∨ j = k + 4 ∨ j = k + 5 ∨ j = k + 6 ∨ k + 7 ≤ j := by omega
    rcases this with rfl | rfl | rfl | rfl | rfl | rfl | rfl | h
    all_goals first
      | (rw [List.getElem?_eq_none (by simp; omega), List.getElem?_eq_none (by simp; omega)]; done)
      | (simp [List.getElem?_set, hl])
theorem own_putAt {w : World} {base n g cap k : Nat} {e : TypeId} {xs : List Value} (h : w.ownsRow base e 7 (.slice (some ⟨g, 0, none⟩) n cap) n xs) (hl : xs.length = k + 7) (x0 x1 x2 x3 x4 x5 x6 : Value) :
    (putAt w g k x0 x1 x2 x3 x4 x5 x6).ownsRow base e 7 (.slice (some ⟨g, 0, none⟩) n cap) n (xs.take k ++ [x0, x1, x2, x3, x4, x5, x6]) := by
  rw [← set_seven xs k hl]
  exact own_set (own_set (own_set (own_set (own_set (own_set (own_set h k x0 (by omega)) (k + 1) x1 (by simp; omega)) (k + 2) x2 (by simp; omega)) (k + 3) x3 (by simp; omega)) (k + 4) x4 (by simp; omega)) (k + 5) x5 (by simp; omega)) (k + 6) x6 (by simp; omega)

/-- A row of trees that is being grown: of a call that began in w0. -/
structure RowW (w0 W : World) (bp : Nat) (s : ByteArray) (bytes : Bool) (nest i : Nat) (vK : Value) (ts : List Rx) (xs : List Value) : Prop where
  res : Blk W w0.heap.size 26 zero7
  at_ : PAt W bp s i bytes nest
  own : W.ownsRow (w0.heap.size + 1) 26 7 vK ts.length xs
  row : TreesRow (fun k => w0.heap.size + 1 ≤ k ∧ vK.ownBlock ≠ some k) W ts xs
  kept : Keeps (fun k => k = bp) w0 W
  lt : bp < w0.heap.size
section
variable {w0 W W' : World} {bp : Nat} {s : ByteArray} {bytes : Bool} {nest i : Nat} {vK : Value} {ts : List Rx} {xs : List Value}
theorem RowW.move (h : RowW w0 W bp s bytes nest i vK ts xs) {k : Nat} (hk : Keeps (fun k => k = bp) W W') (hP : PAt W' bp s k bytes nest) : RowW w0 W' bp s bytes nest k vK ts xs := by
  have hlt := h.lt
  refine ⟨h.res.keeps hk (by omega), hP, own_step h.own (fun j hj => ?_), h.row.step (fun j hj hl => hk.block j hl (by omega)), h.kept.trans hk (fun _ _ h => h), hlt⟩
  have := own_lt h.own j hj
  exact hk.block j this.2 (by omega)
theorem RowW.below (h : RowW w0 W bp s bytes nest i vK ts xs) (hb : Below W.heap.size W W') : RowW w0 W' bp s bytes nest i vK ts xs := h.move (Keeps.of_below hb _) (h.at_.below hb)
theorem RowW.app {Wb W2 w3 : World} (h : RowW w0 W bp s bytes nest i vK ts xs) {x : Rx} {cs : List Value} (ht : TreeAt (fun k => Wb.heap.size ≤ k) W x cs) (h1 : w0.heap.size < Wb.heap.size) (h2 : ∀ k, vK.ownBlock = some k → k < Wb.heap.size)
    (hb : Below W.heap.size W W2) (hg : W2.grownBy w3 vK.ownBlock) {go cap : Nat} (ho : w3.ownsRow (w0.heap.size + 1) 26 7 (.slice (some ⟨go, 0, none⟩) (ts.length + 1) cap) (ts.length + 1) (xs ++ cs)) (hgo : vK.ownBlock = some go ∨ go = W2.heap.size) :
    RowW w0 w3 bp s bytes nest i (.slice (some ⟨go, 0, none⟩) (ts.length + 1) cap) (ts ++ [x]) (xs ++ cs) := by
  have hlt := h.lt
  have hW2 := h.below hb
  have hlow : ∀ k, k < w0.heap.size + 1 → some k ≠ vK.ownBlock := fun k hk e => by
    have := (own_lt hW2.own k e.symm).1
    omega
  have hsz := hb.size
  refine ⟨hW2.res.grown hg (hlow _ (by omega)), hW2.at_.grown hg (hlow _ (by omega)), by simpa using ho, ?_, hW2.kept.grown hg (fun k hk => by
    have := (own_lt hW2.own k hk).1
    exact .inr (by omega)), hlt⟩
  have hsame : ∀ k, k < W.heap.size → vK.ownBlock ≠ some k → w3.heap[k]? = W.heap[k]? := fun k hk hn => (hg.block k (by omega) (Ne.symm hn)).trans (hb.block k hk)
  have hgk : ∀ k, k < W.heap.size → vK.ownBlock ≠ some k → (Value.slice (some ⟨go, 0, none⟩) (ts.length + 1) cap).ownBlock ≠ some k := by
    intro k hk hn e
    have e : go = k := by simpa [Value.ownBlock] using e
    rcases hgo with hgo | hgo
    · exact hn (hgo.trans (by rw [e]))
    · omega
  refine TreesRow.snoc ?_ ?_
  · exact ((h.row.bound).step (W' := w3) (fun k hk _ => hsame k hk.2 hk.1.2)).mono (fun k hk => ⟨hk.1.1, hgk k hk.2 hk.1.2⟩)
  · have hn : ∀ k, Wb.heap.size ≤ k → vK.ownBlock ≠ some k := fun k hk e => by have := h2 k e; omega
    exact TreeAt.mono (fun k hk => ⟨by have := hk.1; omega, hgk k hk.2 (hn k hk.1)⟩) _ _ (TreeAt.step (W' := w3) (fun k hk _ => hsame k hk.2 (hn k hk.1)) _ _ (TreeAt.bound _ _ ht))
theorem RowW.put {pre : List Rx} {t t' : Rx} {g m cap : Nat} {x0 x1 x2 x3 x4 x5 x6 : Value} (h : RowW w0 W bp s bytes nest i (.slice (some ⟨g, 0, none⟩) (m + 1) cap) (pre ++ [t]) xs) (hm : pre.length = m)
    (ht : TreeAt (fun k => w0.heap.size + 1 ≤ k ∧ g ≠ k) W t' [x0, x1, x2, x3, x4, x5, x6]) :
    RowW w0 (putAt W g (m * 7) x0 x1 x2 x3 x4 x5 x6) bp s bytes nest i (.slice (some ⟨g, 0, none⟩) (m + 1) cap) (pre ++ [t']) (xs.take (m * 7) ++ [x0, x1, x2, x3, x4, x5, x6]) := by
  have hlt := h.lt
  have hg := (own_lt h.own g rfl).1
  have hl : xs.length = m * 7 + 7 := by rw [h.own.1]; simp [hm]; omega
  have ho := own_putAt (n := m + 1) (k := m * 7) (by have := h.own; simp [hm] at this; exact this) hl x0 x1 x2 x3 x4 x5 x6
  refine ⟨(heap_putAt _ _ _ _ _ _ _ _ _ _ _ (by omega)).trans h.res, (heap_putAt _ _ _ _ _ _ _ _ _ _ _ (by omega)).trans h.at_, by simp [hm]; exact ho, ?_, h.kept.putAt (.inr (by omega)) _ _ _ _ _ _ _, hlt⟩
  subst hm
  have h1 := h.row.put (t' := t') (cs' := [x0, x1, x2, x3, x4, x5, x6]) (TreeAt.mono (fun k hk => ⟨hk.1, by simpa [Value.ownBlock] using hk.2⟩) _ _ ht)
  exact h1.step (fun k hk _ => heap_putAt _ _ _ _ _ _ _ _ _ _ k (fun e => hk.2 (by simp [Value.ownBlock, e])))
end

def OnePost (bp : Nat) (s : ByteArray) (bytes : Bool) (nest : Nat) (w w' : World) (e : Ending) : One → Prop
  | .fault i er => Gives bp i er w w' e
  | .node x k => ∃ cs, e = .returned (.agg cs.toArray) ∧ TreeAt (fun k => w.heap.size ≤ k) w' x cs ∧ PAt w' bp s k bytes nest ∧ Keeps (fun k => k = bp) w w'
def AltPost (bp : Nat) (s : ByteArray) (bytes : Bool) (nest : Nat) (w w' : World) (e : Ending) : Res → Prop
  | .fault j er => Gives bp j er w w' e
  | .stop a c j => ∃ cs, e = .returned (.agg cs.toArray) ∧ TreeAt (fun k => w.heap.size ≤ k) w' (shutF a c) cs ∧ PAt w' bp s j bytes nest ∧ Keeps (fun k => k = bp) w w'
end Go.Proofs.YtanmlgliibgpcaaDoor
