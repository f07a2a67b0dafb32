/- Plain Lean: what a pattern writes may be. -/
import Derived.Test.YtanmlgliibgpcaaDoorPureParse
namespace Thr

mutual
theorem within_mono : ∀ (t : Rx) (d d' : Nat), withinF t d = true → d ≤ d' → withinF t d' = true
  | .mk kind code neg set mn mx kids, 0, d', h, hd => by simp [withinF] at h
  | .mk kind code neg set mn mx kids, d + 1, 0, h, hd => by omega
  | .mk kind code neg set mn mx kids, d + 1, d' + 1, h, hd => by
    simp only [withinF, Bool.and_eq_true] at h ⊢
    exact ⟨h.1, withinAll_mono kids d d' h.2 (by omega)⟩
theorem withinAll_mono : ∀ (ks : List Rx) (d d' : Nat), withinAll ks d = true → d ≤ d' → withinAll ks d' = true
  | [], d, d', h, hd => by simp [withinAll]
  | k :: ks, d, d', h, hd => by
    simp only [withinAll, Bool.and_eq_true] at h ⊢
    exact ⟨within_mono k d d' h.1 hd, withinAll_mono ks d d' h.2 hd⟩
end
theorem withinAll_of : ∀ (ks : List Rx) (d : Nat), (∀ k ∈ ks, withinF k d = true) → withinAll ks d = true
  | [], d, h => by simp [withinAll]
  | k :: ks, d, h => by
    simp only [withinAll, Bool.and_eq_true]
    exact ⟨h k (by simp), withinAll_of ks d (fun x hx => h x (by simp [hx]))⟩
theorem w_leaf (k : Int) (d : Nat) (h1 : 1 ≤ k) (h2 : k ≤ 13) (h4 : k ≠ 4) (h5 : k ≠ 5) (h6 : k ≠ 6) (h7 : k ≠ 7) (hd : 1 ≤ d) : withinF (leaf k) d = true := by
  obtain ⟨d, rfl⟩ : ∃ e, d = e + 1 := ⟨d - 1, by omega⟩
  simp only [leaf, withinF, withinAll, validF]
  rw [if_neg (by omega), if_neg h7, if_neg h4]
  simp [h1, h2]
theorem w_chr (c : Int) (d : Nat) (hd : 1 ≤ d) : withinF (chrN c) d = true := by
  obtain ⟨d, rfl⟩ : ∃ e, d = e + 1 := ⟨d - 1, by omega⟩
  simp [chrN, withinF, withinAll, validF]
theorem w_set (neg : Bool) (l : List (Int × Int)) (d : Nat) (hd : 1 ≤ d) (h : setOkF l = true) : withinF (setN neg l) d = true := by
  obtain ⟨d, rfl⟩ : ∃ e, d = e + 1 := ⟨d - 1, by omega⟩
  simp [setN, withinF, withinAll, validF, h]
theorem w_cat (ks : List Rx) (d : Nat) (h1 : 1 < ks.length) (h : ∀ k ∈ ks, withinF k d = true) : withinF (catN ks) (d + 1) = true := by
  simp only [catN, withinF, Bool.and_eq_true]
  exact ⟨by simp [validF, h1], withinAll_of ks d h⟩
theorem w_alt (ks : List Rx) (d : Nat) (h1 : 1 < ks.length) (h : ∀ k ∈ ks, withinF k d = true) : withinF (altN ks) (d + 1) = true := by
  simp only [altN, withinF, Bool.and_eq_true]
  exact ⟨by simp [validF, h1], withinAll_of ks d h⟩
theorem w_rep (lo hi : Int) (k : Rx) (d : Nat) (h1 : 0 ≤ lo) (h2 : lo ≤ 30) (h3 : -1 ≤ hi) (h4 : hi ≤ 30) (h5 : hi < 0 ∨ lo ≤ hi) (h : withinF k d = true) : withinF (repN lo hi k) (d + 1) = true := by
  simp only [repN, withinF, Bool.and_eq_true, withinAll, and_true]
  refine ⟨?_, h⟩
  simp [validF, h1, h2, h3, h4]
  omega

/-! ### Sets -/
theorem NS.near : ∀ {l : List Rng} {a : Int}, NS a l → ∀ (i : Nat) (r q : Rng), l[i + 1]? = some r → l[i]? = some q → q.2 + 2 ≤ r.1
  | [], a, _, i, r, q, h, _ => by simp at h
  | x :: l, a, hn, 0, r, q, h, h' => by
    simp at h h'
    subst h'
    cases l with
    | nil => simp at h
    | cons y l =>
      simp at h; subst h
      exact hn.2.2.1
  | x :: l, a, hn, i + 1, r, q, h, h' => NS.near hn.2.2 i r q (by simpa using h) (by simpa using h')
theorem setOk_of {l : List Rng} {a : Int} (h : NS a l) (h0 : ∀ r ∈ l, 0 ≤ r.1 ∧ r.2 ≤ 1114367) : setOkF l = true := by
  unfold setOkF
  rw [List.all_eq_true]
  intro i hi
  have hi' : i < l.length := by simpa using hi
  have hg := List.getElem?_eq_getElem hi'
  obtain ⟨r, hr⟩ : ∃ r, l[i] = r := ⟨_, rfl⟩
  rw [hr] at hg
  have hm : r ∈ l := by rw [← hr]; exact List.getElem_mem _
  have hb := h0 r hm
  have he := h.each r hm
  unfold badAt
  rw [hg]
  simp only [Bool.not_eq_true']
  have h1 : decide (r.1 < 0) = false := by simp; omega
  have h2 : decide (r.1 > r.2) = false := by simp; omega
  have h3 : decide (r.2 > 1114367) = false := by simp; omega
  rw [h1, h2, h3]
  simp only [Bool.false_or]
  cases i with
  | zero => simp
  | succ i =>
    rw [show i + 1 - 1 = i from rfl, List.getElem?_eq_getElem (show i < l.length by omega)]
    have := h.near i r _ hg (List.getElem?_eq_getElem (show i < l.length by omega))
    simp [nearF]
    omega
theorem setOk_fold {l : List Rng} (h : ∀ r ∈ l, 0 ≤ r.1 ∧ r.1 ≤ r.2 ∧ r.2 ≤ 1114367) : setOkF (l.foldl withR []) = true := by
  obtain ⟨⟨b, hb⟩, hm⟩ := foldl_with_ns l [] 0 trivial (fun r hr => (h r hr).2.1)
  refine setOk_of hb fun r hr => ?_
  have he := hb.each r hr
  obtain ⟨x, hx, hx1, hx2⟩ | ⟨x, hx, hx1, hx2⟩ := (hm r.1).1 ⟨r, hr, by omega, by omega⟩
  · cases hx
  · obtain ⟨y, hy, hy1, hy2⟩ | ⟨y, hy, hy1, hy2⟩ := (hm r.2).1 ⟨r, hr, by omega, by omega⟩
    · cases hy
    · have := h x hx
      have := h y hy
      omega
theorem look_in : ∀ (n : ByteArray) (tab : List (ByteArray × List (Int × Int))) (l : List (Int × Int)), lookF n tab = some l → ∃ x ∈ tab, x.2 = l
  | n, [], l, h => by simp [lookF] at h
  | n, x :: tab, l, h => by
    simp only [lookF] at h
    split at h
    · exact ⟨x, by simp, by simpa using h⟩
    · obtain ⟨y, hy, he⟩ := look_in n tab l h
      exact ⟨y, by simp [hy], he⟩
def fineR (r : Int × Int) : Prop := 0 ≤ r.1 ∧ r.1 ≤ r.2 ∧ r.2 ≤ 1114367
instance (r : Int × Int) : Decidable (fineR r) := by unfold fineR; infer_instance
theorem tab_fine : ∀ x ∈ classTab, ∀ r ∈ x.2, fineR r := by decide
theorem class_fine {n : ByteArray} {l : List (Int × Int)} (h : classF n = some l) : ∀ r ∈ l, fineR r := by
  obtain ⟨x, hx, rfl⟩ := look_in _ _ _ h
  exact tab_fine x hx
theorem single_range {c x : Int} (h : singleF c = some x) (h0 : 0 ≤ c) (h1 : c ≤ 1114367) : 0 ≤ x ∧ x ≤ 1114367 := by
  unfold singleF at h
  repeat' split at h
  all_goals first | (simp only [Option.some.injEq] at h; omega) | cases h | (have := h; simp at this)
theorem next_range {s : ByteArray} {bytes : Bool} (hs : Sized s bytes) (i : Nat) (h : (nextF s i bytes).2 ≠ 0) : 0 ≤ (nextF s i bytes).1 ∧ (nextF s i bytes).1 ≤ 1114367 := by
  rcases Nat.lt_or_ge i s.size with hi | hi
  · exact (hs.at_ i hi).2.2
  · exact absurd ((next_le hs).2.2 hi) h
theorem member_range {s : ByteArray} {bytes : Bool} (hs : Sized s bytes) {i k : Nat} {x : Int} (h : memberF s i bytes = some (x, k)) : 0 ≤ x ∧ x ≤ 1114367 := by
  unfold memberF at h
  split at h
  · cases h
  · rename_i h0
    have hr := next_range hs i h0
    split at h
    · simp only [Option.some.injEq, Prod.mk.injEq] at h
      omega
    · split at h
      · cases h
      · rename_i h1
        rw [show (i : Int) + 1 = ((i + 1 : Nat) : Int) by omega] at h h1
        have hr2 := next_range hs (i + 1) h1
        split at h
        · cases h
        · rename_i hsg
          have := single_range hsg hr2.1 hr2.2
          simp only [Option.some.injEq, Prod.mk.injEq] at h
          omega
theorem sets_fine {s : ByteArray} {bytes : Bool} (hs : Sized s bytes) : ∀ (f i : Nat) (first : Bool) (acc l : List (Int × Int)) (k : Nat), (∀ r ∈ acc, fineR r) → setsF s bytes f i first acc = some (l, k) → ∀ r ∈ l, fineR r
  | 0, i, first, acc, l, k, ha, h => by simp [setsF] at h
  | f + 1, i, first, acc, l, k, ha, h => by
    have app : ∀ (m : List (Int × Int)), (∀ r ∈ m, fineR r) → ∀ r ∈ acc ++ m, fineR r := by
      intro m hm r hr
      rcases List.mem_append.1 hr with hr | hr
      · exact ha r hr
      · exact hm r hr
    simp only [setsF] at h
    split at h
    · simp only [Option.some.injEq, Prod.mk.injEq] at h
      rw [← h.1]; exact ha
    · split at h
      · split at h
        · cases h
        · rename_i hn
          refine sets_fine hs f _ _ _ _ _ (app _ ?_) h
          unfold namedF at hn
          split at hn
          · cases hn
          · split at hn
            · cases hn
            · rename_i hc
              simp only [Option.some.injEq, Prod.mk.injEq] at hn
              rw [← hn.1]
              exact class_fine hc
      · split at h
        · cases h
        · rename_i hm
          have h1 := member_range hs hm
          split at h
          · split at h
            · cases h
            · split at h
              · cases h
              · rename_i hm2
                have h2 := member_range hs hm2
                split at h
                · cases h
                · refine sets_fine hs f _ _ _ _ _ (app _ ?_) h
                  intro r hr
                  obtain rfl := List.mem_singleton.1 hr
                  exact ⟨h1.1, by simp only; omega, h2.2⟩
          · refine sets_fine hs f _ _ _ _ _ (app _ ?_) h
            intro r hr
            obtain rfl := List.mem_singleton.1 hr
            exact ⟨h1.1, by simp only; omega, h1.2⟩
theorem set_good {s : ByteArray} {bytes : Bool} (hs : Sized s bytes) {i k : Nat} {x : Rx} (h : setF s i bytes = some (x, k)) (d : Nat) (hd : 1 ≤ d) : withinF x d = true := by
  unfold setF at h
  split at h
  · cases h
  · rename_i hk
    simp only [Option.some.injEq, Prod.mk.injEq] at h
    rw [← h.1]
    exact w_set _ _ _ hd (setOk_fold (sets_fine hs _ _ _ _ _ _ (by simp) hk))
theorem esc_good {s : ByteArray} {bytes : Bool} {i k : Nat} {x : Rx} (h : escF s i bytes = some (x, k)) (d : Nat) (hd : 1 ≤ d) : withinF x d = true := by
  unfold escF at h
  split at h
  · cases h
  · simp only at h
    repeat' split at h
    all_goals first
      | (simp only [Option.some.injEq, Prod.mk.injEq] at h; rw [← h.1]; first | exact w_leaf _ _ (by omega) (by omega) (by omega) (by omega) (by omega) (by omega) hd | exact w_chr _ _ hd | exact w_set _ _ _ hd (by decide))
      | cases h
theorem plain_good (c : Int) (d : Nat) (hd : 1 ≤ d) : withinF (plainF c) d = true := by
  unfold plainF
  split
  · exact w_leaf _ _ (by omega) (by omega) (by omega) (by omega) (by omega) (by omega) hd
  split
  · exact w_leaf _ _ (by omega) (by omega) (by omega) (by omega) (by omega) (by omega) hd
  split
  · exact w_leaf _ _ (by omega) (by omega) (by omega) (by omega) (by omega) (by omega) hd
  · exact w_chr _ _ hd

/-! ### Groups -/
theorem init_last : ∀ {l : List Rx}, l ≠ [] → l = initL l ++ [lastL l]
  | [], h => absurd rfl h
  | [x], _ => rfl
  | x :: y :: l, _ => by
    have := init_last (l := y :: l) (by simp)
    simp only [initL, lastL, List.cons_append]
    rw [← this]
/-- So many bytes are gone (T), so many since the last bar (U). -/
structure Inv (T : Nat) (alts cat : List Rx) (U : Nat) : Prop where
  a : ∀ x ∈ alts, withinF x (max 1 (T - 1)) = true
  c : ∀ x ∈ cat, withinF x (U + 1 - cat.length) = true
  l : cat.length ≤ U
  u : U ≤ T
  t : alts ≠ [] → U + 1 ≤ T
theorem Inv.join {T U : Nat} {alts cat : List Rx} (h : Inv T alts cat U) : withinF (joinF cat) (max 1 U) = true := by
  have hc := h.c
  have hl := h.l
  match cat, hc, hl with
  | [], _, _ => exact w_leaf 1 _ (by omega) (by omega) (by omega) (by omega) (by omega) (by omega) (by omega)
  | [x], hc, _ => exact within_mono _ _ _ (hc x (by simp)) (by simp only [List.length_cons, List.length_nil]; omega)
  | x :: y :: l, hc, hl =>
    simp only [List.length_cons] at hl hc
    obtain ⟨d, hd⟩ : ∃ d, max 1 U = d + 1 := ⟨max 1 U - 1, by omega⟩
    rw [hd]
    exact w_cat _ d (by simp) (fun k hk => within_mono _ _ _ (hc k hk) (by omega))
theorem Inv.shut {T U : Nat} {alts cat : List Rx} (h : Inv T alts cat U) : withinF (shutF alts cat) (max 2 T) = true := by
  have hj := h.join
  have hu := h.u
  by_cases ha : alts = []
  · subst ha
    exact within_mono _ _ _ hj (by omega)
  · have ht := h.t ha
    have e : shutF alts cat = altN (alts ++ [joinF cat]) := by
      unfold shutF
      match alts, ha with
      | x :: l, _ =>
        cases l with
        | nil => rfl
        | cons y l => rfl
    rw [e]
    obtain ⟨d, hd⟩ : ∃ d, max 2 T = d + 1 := ⟨max 2 T - 1, by omega⟩
    rw [hd]
    refine w_alt _ d ?_ fun k hk => ?_
    · have : 0 < alts.length := List.length_pos_iff.2 ha
      simp; omega
    · rcases List.mem_append.1 hk with hk | hk
      · exact within_mono _ _ _ (h.a k hk) (by omega)
      · obtain rfl := List.mem_singleton.1 hk
        exact within_mono _ _ _ hj (by omega)
theorem Inv.add {T U : Nat} {alts cat : List Rx} (h : Inv T alts cat U) {x : Rx} {k : Nat} (hx : withinF x k = true) (hk : 1 ≤ k) : Inv (T + k) alts (cat ++ [x]) (U + k) := by
  have h1 := h.l; have h2 := h.u
  refine ⟨fun y hy => within_mono _ _ _ (h.a y hy) (by omega), fun y hy => ?_, by simp; omega, by omega, fun ha => by have := h.t ha; omega⟩
  simp only [List.length_append, List.length_cons, List.length_nil]
  rcases List.mem_append.1 hy with hy | hy
  · exact within_mono _ _ _ (h.c y hy) (by omega)
  · obtain rfl := List.mem_singleton.1 hy
    exact within_mono _ _ _ hx (by omega)
theorem Inv.bar {T U : Nat} {alts cat : List Rx} (h : Inv T alts cat U) : Inv (T + 1) (alts ++ [joinF cat]) [] 0 := by
  have h2 := h.u
  refine ⟨fun y hy => ?_, by simp, by simp, by omega, fun _ => by omega⟩
  rcases List.mem_append.1 hy with hy | hy
  · exact within_mono _ _ _ (h.a y hy) (by omega)
  · obtain rfl := List.mem_singleton.1 hy
    exact within_mono _ _ _ h.join (by omega)
theorem Inv.rep {T U : Nat} {alts cat : List Rx} (h : Inv T alts cat U) (hc : cat ≠ []) {lo hi : Int} {k : Nat} (hk : 1 ≤ k) (h1 : 0 ≤ lo) (h2 : lo ≤ 30) (h3 : -1 ≤ hi) (h4 : hi ≤ 30) (h5 : hi < 0 ∨ lo ≤ hi) :
    Inv (T + k) alts (initL cat ++ [repN lo hi (lastL cat)]) (U + k) := by
  have e := init_last hc
  have hlen : (initL cat ++ [repN lo hi (lastL cat)]).length = cat.length := by
    have := congrArg List.length e
    simp at this ⊢
    omega
  have hm : ∀ l, l = initL cat ++ [lastL cat] → lastL cat ∈ l := by rintro _ rfl; simp
  have g1 := h.l; have g2 := h.u
  refine ⟨fun y hy => within_mono _ _ _ (h.a y hy) (by omega), fun y hy => ?_, by rw [hlen]; omega, by omega, fun ha => by have := h.t ha; omega⟩
  rw [hlen]
  rcases List.mem_append.1 hy with hy | hy
  · exact within_mono _ _ _ (h.c y (by rw [e]; simp [hy])) (by omega)
  · obtain rfl := List.mem_singleton.1 hy
    exact within_mono _ _ _ (w_rep _ _ _ _ h1 h2 h3 h4 h5 (h.c (lastL cat) (hm cat e))) (by omega)
theorem dig_bounds (s : ByteArray) : ∀ (f i : Nat) (v : Int), 0 ≤ v → 0 ≤ (digF s f i v).1
  | 0, i, v, h => by simpa [digF] using h
  | f + 1, i, v, h => by
    simp only [digF]
    split
    · rename_i hc
      have : 48 ≤ byt s i := by have := hc.2; simp [isDig] at this; exact this.1
      exact dig_bounds s f (i + 1) _ (by omega)
    · exact h
theorem again_good {s : ByteArray} {i : Nat} {lo hi : Int} {k : Nat} (h : againF s i = .yes lo hi k) : 0 ≤ lo ∧ lo ≤ 30 ∧ -1 ≤ hi ∧ hi ≤ 30 ∧ (hi < 0 ∨ lo ≤ hi) := by
  unfold againF at h
  split at h
  · injection h; omega
  split at h
  · injection h; omega
  split at h
  · injection h; omega
  split at h
  · split at h
    · cases h
    · rename_i a b c hit
      have hb : 0 ≤ a ∧ -1 ≤ b := by
        have d1 := dig_bounds s s.size (i + 1) 0 (by omega)
        have d2 := dig_bounds s s.size ((digF s s.size (i + 1) 0).2 + 1) 0 (by omega)
        unfold itvF at hit
        split at hit
        · cases hit
        · split at hit
          · split at hit
            · simp only [Option.some.injEq, Prod.mk.injEq] at hit
              obtain ⟨rfl, rfl, _⟩ := hit
              refine ⟨d1, ?_⟩
              split <;> omega
            · cases hit
          · split at hit
            · simp only [Option.some.injEq, Prod.mk.injEq] at hit
              obtain ⟨rfl, rfl, _⟩ := hit
              omega
            · cases hit
      split at h
      · cases h
      · split at h
        · cases h
        · injection h
          subst_vars
          omega
  · cases h
theorem inner_good {s : ByteArray} {bytes : Bool} (hs : Sized s bytes) : ∀ (f nest : Nat) (alts cat : List Rx) (i : Nat) (a c : List Rx) (j T U : Nat), innerF s bytes f nest alts cat i = some (.stop a c j) → i ≤ s.size → Inv T alts cat U → i ≤ j ∧ j ≤ s.size ∧ ∃ U', Inv (T + (j - i)) a c U'
  | 0, nest, alts, cat, i, a, c, j, T, U, h, hi, hI => by simp [innerF] at h
  | f + 1, nest, alts, cat, i, a, c, j, T, U, h, hi, hI => by
    have go : ∀ (nest' : Nat) (alts' cat' : List Rx) (k : Nat) (U' : Nat), i < k → k ≤ s.size → Inv (T + (k - i)) alts' cat' U' → innerF s bytes f nest' alts' cat' k = some (.stop a c j) → i ≤ j ∧ j ≤ s.size ∧ ∃ U', Inv (T + (j - i)) a c U' := by
      intro nest' alts' cat' k U' h1 h2 h3 h4
      obtain ⟨g1, g2, U2, g3⟩ := inner_good hs f nest' alts' cat' k a c j _ _ h4 h2 h3
      exact ⟨by omega, g2, U2, by rw [show T + (k - i) + (j - k) = T + (j - i) by omega] at g3; exact g3⟩
    simp only [innerF] at h
    by_cases hge : s.size ≤ i
    · rw [if_pos hge] at h
      injection h with h
      injection h with e1 e2 e3
      subst e1; subst e2; subst e3
      exact ⟨Nat.le_refl _, hi, U, by simpa using hI⟩
    rw [if_neg hge] at h
    have hlt : i < s.size := by omega
    have hn := (next_le (i := i) hs).2.1 hlt
    have put : ∀ (x : Rx) (k : Nat), i < k → k ≤ s.size → withinF x (k - i) = true → innerF s bytes f nest alts (cat ++ [x]) k = some (.stop a c j) → i ≤ j ∧ j ≤ s.size ∧ ∃ U', Inv (T + (j - i)) a c U' :=
      fun x k h1 h2 hx h3 => go _ _ _ k _ h1 h2 (hI.add hx (by omega)) h3
    generalize hag : (if cat = [] then Again.no else againF s i) = ag at h
    cases ag with
    | fault e => cases h
    | yes lo hi' k =>
      have hcat : cat ≠ [] := by
        intro e
        rw [if_pos e] at hag
        cases hag
      rw [if_neg hcat] at hag
      have hk := again_le hlt hag
      have hb := again_good hag
      exact go _ _ _ k _ hk.1 hk.2 (hI.rep hcat (by omega) hb.1 hb.2.1 hb.2.2.1 hb.2.2.2.1 hb.2.2.2.2) h
    | no =>
      simp only at h
      split at h
      · refine go _ _ _ (i + 1) 0 (by omega) (by omega) ?_ h
        rw [show i + 1 - i = 1 by omega]
        exact hI.bar
      split at h
      · split at h
        · cases h
        · cases hin : innerF s bytes f (nest + 1) [] [] (i + 1) with
          | none => rw [hin] at h; cases h
          | some r =>
            rw [hin] at h
            cases r with
            | fault j' e => cases h
            | stop a' c' j' =>
              simp only at h
              obtain ⟨g1, g2, U2, g3⟩ := inner_good hs f (nest + 1) [] [] (i + 1) a' c' j' 0 0 hin (by omega) ⟨by simp, by simp, by simp, by omega, by simp⟩
              split at h
              · refine put _ (j' + 1) (by omega) (by omega) (within_mono _ _ _ g3.shut (by omega)) h
              · cases h
      split at h
      · split at h
        · cases h
        · injection h with h
          injection h with e1 e2 e3
          subst e1; subst e2; subst e3
          exact ⟨Nat.le_refl _, hi, U, by simpa using hI⟩
      split at h
      · split at h
        · cases h
        · rename_i hx
          have := set_le hs hx
          exact put _ _ this.1 this.2 (set_good hs hx _ (by omega)) h
      split at h
      · split at h
        · cases h
        · rename_i hx
          have := esc_le hs hx
          exact put _ _ this.1 this.2 (esc_good hx _ (by omega)) h
      · exact put _ _ (by omega) (by omega) (plain_good _ _ (by omega)) h
theorem parse_good {s : ByteArray} {bytes : Bool} (hs : Sized s bytes) {t : Rx} (h : parseF s bytes = .tree t) : withinF t 1024 = true ∧ weightF t ≤ 200 := by
  unfold parseF at h
  split at h
  · cases h
  · rename_i hsz
    split at h
    · cases h
    · rename_i r hr
      cases r with
      | fault i e => cases h
      | stop a c j =>
        simp only [topF] at h
        split at h
        · cases h
        · rename_i hw
          injection h with h
          subst h
          obtain ⟨g1, g2, U, g3⟩ := inner_good hs _ _ _ _ _ _ _ _ 0 0 hr (by omega) ⟨by simp, by simp, by simp, by omega, by simp⟩
          exact ⟨within_mono _ _ _ g3.shut (by omega), by omega⟩
end Thr
