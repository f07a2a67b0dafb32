/- Plain Lean: sets of codes as rising ranges that stand apart: two ways to come to the same list. -/
namespace Thr
abbrev Rng := Int × Int

def mem (l : List Rng) (c : Int) : Prop := ∃ r ∈ l, r.1 ≤ c ∧ c ≤ r.2

/-- Rising, and apart; from lo on. -/
def NS : Int → List Rng → Prop
  | _, [] => True
  | lo, r :: l => lo ≤ r.1 ∧ r.1 ≤ r.2 ∧ NS (r.2 + 2) l

theorem NS.lower {a b : Int} (h : a ≤ b) : ∀ {l : List Rng}, NS b l → NS a l
  | [], _ => trivial
  | _ :: _, hn => ⟨Int.le_trans h hn.1, hn.2⟩

theorem NS.mem_lo {a c : Int} : ∀ {l : List Rng}, NS a l → mem l c → a ≤ c
  | [], _, h => by obtain ⟨r, hr, _⟩ := h; cases hr
  | r :: l, hn, h => by
    obtain ⟨x, hx, h1, h2⟩ := h
    rcases List.mem_cons.1 hx with rfl | hx
    · exact Int.le_trans hn.1 h1
    · have := NS.mem_lo hn.2.2 ⟨x, hx, h1, h2⟩
      have := hn.1; have := hn.2.1; omega

theorem NS.each {a : Int} : ∀ {l : List Rng}, NS a l → ∀ y ∈ l, a ≤ y.1 ∧ y.1 ≤ y.2
  | [], _, y, h => by cases h
  | r :: l, hn, y, h => by
    rcases List.mem_cons.1 h with rfl | h
    · exact ⟨hn.1, hn.2.1⟩
    · have := NS.each hn.2.2 y h
      have := hn.1; have := hn.2.1; omega

theorem mem_cons {r : Rng} {l : List Rng} {c : Int} : mem (r :: l) c ↔ (r.1 ≤ c ∧ c ≤ r.2) ∨ mem l c := by
  unfold mem
  constructor
  · rintro ⟨x, hx, h⟩
    rcases List.mem_cons.1 hx with rfl | hx
    · exact .inl h
    · exact .inr ⟨x, hx, h⟩
  · rintro (h | ⟨x, hx, h⟩)
    · exact ⟨r, by simp, h⟩
    · exact ⟨x, by simp [hx], h⟩

/-- One list alone tells a set. -/
theorem NS.unique : ∀ {a b : List Rng} {x y : Int}, NS x a → NS y b → (∀ c, mem a c ↔ mem b c) → a = b
  | [], [], _, _, _, _, _ => rfl
  | [], r :: l, x, y, ha, hb, h => by
    obtain ⟨z, hz, _⟩ := (h r.1).2 ⟨r, by simp, Int.le_refl _, hb.2.1⟩
    cases hz
  | r :: l, [], x, y, ha, hb, h => by
    obtain ⟨z, hz, _⟩ := (h r.1).1 ⟨r, by simp, Int.le_refl _, ha.2.1⟩
    cases hz
  | r :: l, s :: k, x, y, ha, hb, h => by
    obtain ⟨_, ha1, ha2⟩ := ha
    obtain ⟨_, hb1, hb2⟩ := hb
    have e1 : r.1 = s.1 := by
      have h1 : s.1 ≤ r.1 := by
        rcases mem_cons.1 ((h r.1).1 ⟨r, by simp, Int.le_refl _, ha1⟩) with h1 | h1
        · exact h1.1
        · have := hb2.mem_lo h1; omega
      have h2 : r.1 ≤ s.1 := by
        rcases mem_cons.1 ((h s.1).2 ⟨s, by simp, Int.le_refl _, hb1⟩) with h1 | h1
        · exact h1.1
        · have := ha2.mem_lo h1; omega
      omega
    have e2 : r.2 = s.2 := by
      have h1 : r.2 ≤ s.2 := by
        by_cases hc : r.2 ≤ s.2
        · exact hc
        · rcases mem_cons.1 ((h (s.2 + 1)).1 ⟨r, by simp, by omega, by omega⟩) with h1 | h1
          · omega
          · have := hb2.mem_lo h1; omega
      have h2 : s.2 ≤ r.2 := by
        by_cases hc : s.2 ≤ r.2
        · exact hc
        · rcases mem_cons.1 ((h (r.2 + 1)).2 ⟨s, by simp, by omega, by omega⟩) with h1 | h1
          · omega
          · have := ha2.mem_lo h1; omega
      omega
    obtain ⟨r1, r2⟩ := r
    obtain ⟨s1, s2⟩ := s
    simp only at e1 e2
    subst e1; subst e2
    refine congrArg _ (NS.unique ha2 hb2 fun c => ?_)
    constructor
    · intro hc
      have := ha2.mem_lo hc
      rcases mem_cons.1 ((h c).1 (mem_cons.2 (.inr hc))) with h1 | h1
      · simp only at h1 this; omega
      · exact h1
    · intro hc
      have := hb2.mem_lo hc
      rcases mem_cons.1 ((h c).2 (mem_cons.2 (.inr hc))) with h1 | h1
      · simp only at h1 this; omega
      · exact h1

/-- A range taken in, with all that it meets or touches. -/
def absorb : List Rng → Rng → List Rng
  | [], r => [r]
  | x :: l, r => if x.1 ≤ r.2 + 1 then absorb l (min r.1 x.1, max r.2 x.2) else r :: x :: l
def withR : List Rng → Rng → List Rng
  | [], r => [r]
  | x :: l, r => if x.2 + 1 < r.1 then x :: withR l r else absorb (x :: l) r

theorem absorb_ns : ∀ (l : List Rng) (r : Rng) (a : Int), NS a l → r.1 ≤ r.2 → (∀ x ∈ l, r.1 ≤ x.2 + 1) → NS (min a r.1) (absorb l r) ∧ ∀ c, mem (absorb l r) c ↔ (r.1 ≤ c ∧ c ≤ r.2) ∨ mem l c
  | [], r, a, hn, hr, _ => by
    refine ⟨⟨by omega, hr, trivial⟩, fun c => ?_⟩
    simp only [absorb]; rw [mem_cons]
  | x :: l, r, a, hn, hr, hm => by
    obtain ⟨h1, h2, h3⟩ := hn
    simp only [absorb]
    by_cases hx : x.1 ≤ r.2 + 1
    · rw [if_pos hx]
      have hx0 : r.1 ≤ x.2 + 1 := hm x (by simp)
      obtain ⟨i1, i2⟩ := absorb_ns l (min r.1 x.1, max r.2 x.2) (x.2 + 2) h3 (by simp only; omega) (fun y hy => by have := hm y (by simp [hy]); simp only; omega)
      refine ⟨i1.lower (by simp only; omega), fun c => ?_⟩
      rw [i2 c, mem_cons]
      simp only
      constructor
      · rintro (h | h)
        · by_cases hc : c ≤ r.2
          · by_cases hc' : r.1 ≤ c
            · exact .inl ⟨hc', hc⟩
            · exact .inr (.inl ⟨by omega, by omega⟩)
          · exact .inr (.inl ⟨by omega, by omega⟩)
        · exact .inr (.inr h)
      · rintro (h | h | h)
        · exact .inl ⟨by omega, by omega⟩
        · exact .inl ⟨by omega, by omega⟩
        · exact .inr h
    · rw [if_neg hx]
      refine ⟨⟨by omega, hr, by omega, h2, h3⟩, fun c => ?_⟩
      rw [mem_cons]

theorem with_ns : ∀ (l : List Rng) (r : Rng) (a : Int), NS a l → r.1 ≤ r.2 → NS (min a r.1) (withR l r) ∧ ∀ c, mem (withR l r) c ↔ (r.1 ≤ c ∧ c ≤ r.2) ∨ mem l c
  | [], r, a, hn, hr => by
    refine ⟨⟨by omega, hr, trivial⟩, fun c => ?_⟩
    simp only [withR]; rw [mem_cons]
  | x :: l, r, a, hn, hr => by
    simp only [withR]
    by_cases hx : x.2 + 1 < r.1
    · rw [if_pos hx]
      obtain ⟨h1, h2, h3⟩ := hn
      obtain ⟨i1, i2⟩ := with_ns l r (x.2 + 2) h3 hr
      refine ⟨⟨by omega, h2, i1.lower (by omega)⟩, fun c => ?_⟩
      rw [mem_cons, i2 c, mem_cons]
      constructor
      · rintro (h | h | h)
        · exact .inr (.inl h)
        · exact .inl h
        · exact .inr (.inr h)
      · rintro (h | h | h)
        · exact .inr (.inl h)
        · exact .inl h
        · exact .inr (.inr h)
    · rw [if_neg hx]
      refine absorb_ns (x :: l) r a hn hr fun y hy => ?_
      rcases List.mem_cons.1 hy with rfl | hy
      · omega
      · obtain ⟨h1, h2⟩ := hn.2.2.each y hy
        omega

/-- What is at hand, and the rest of a list that rises by where its ranges begin. -/
def mergeGo : Rng → List Rng → List Rng
  | cur, [] => [cur]
  | cur, r :: l => if r.1 ≤ cur.2 + 1 then mergeGo (cur.1, max cur.2 r.2) l else cur :: mergeGo r l
def mergeAll : List Rng → List Rng
  | [] => []
  | r :: l => mergeGo r l

/-- Rising by where they begin. -/
def Rising : Int → List Rng → Prop
  | _, [] => True
  | lo, r :: l => lo ≤ r.1 ∧ r.1 ≤ r.2 ∧ Rising r.1 l

theorem mergeGo_ns : ∀ (l : List Rng) (cur : Rng), cur.1 ≤ cur.2 → Rising cur.1 l → NS cur.1 (mergeGo cur l) ∧ ∀ c, mem (mergeGo cur l) c ↔ (cur.1 ≤ c ∧ c ≤ cur.2) ∨ mem l c
  | [], cur, h, _ => by
    refine ⟨⟨Int.le_refl _, h, trivial⟩, fun c => ?_⟩
    simp only [mergeGo]; rw [mem_cons]
  | r :: l, cur, h, hr => by
    obtain ⟨h1, h2, h3⟩ := hr
    simp only [mergeGo]
    by_cases hx : r.1 ≤ cur.2 + 1
    · rw [if_pos hx]
      have hl : ∀ {a b : Int} {l : List Rng}, a ≤ b → Rising b l → Rising a l := by
        intro a b l hab hh
        cases l with
        | nil => trivial
        | cons x l => exact ⟨Int.le_trans hab hh.1, hh.2⟩
      obtain ⟨i1, i2⟩ := mergeGo_ns l (cur.1, max cur.2 r.2) (by simp only; omega) (hl h1 h3)
      refine ⟨i1, fun c => ?_⟩
      rw [i2 c, mem_cons]
      simp only
      constructor
      · rintro (h | h)
        · by_cases hc : c ≤ cur.2
          · exact .inl ⟨h.1, hc⟩
          · exact .inr (.inl ⟨by omega, by omega⟩)
        · exact .inr (.inr h)
      · rintro (h | h | h)
        · exact .inl ⟨by omega, by omega⟩
        · exact .inl ⟨by omega, by omega⟩
        · exact .inr h
    · rw [if_neg hx]
      obtain ⟨i1, i2⟩ := mergeGo_ns l r h2 h3
      refine ⟨⟨Int.le_refl _, h, i1.lower (by omega)⟩, fun c => ?_⟩
      rw [mem_cons, i2 c, mem_cons]

theorem mergeAll_ns : ∀ (l : List Rng) (a : Int), Rising a l → NS a (mergeAll l) ∧ ∀ c, mem (mergeAll l) c ↔ mem l c
  | [], a, _ => ⟨trivial, fun c => Iff.rfl⟩
  | r :: l, a, h => by
    obtain ⟨h1, h2, h3⟩ := h
    obtain ⟨i1, i2⟩ := mergeGo_ns l r h2 h3
    exact ⟨i1.lower h1, fun c => by simp only [mergeAll]; rw [i2 c, mem_cons]⟩

theorem foldl_with_ns : ∀ (l acc : List Rng) (a : Int), NS a acc → (∀ r ∈ l, r.1 ≤ r.2) → (∃ b, NS b (l.foldl withR acc)) ∧ ∀ c, mem (l.foldl withR acc) c ↔ mem acc c ∨ mem l c
  | [], acc, a, hn, _ => ⟨⟨a, hn⟩, fun c => by simp [mem]⟩
  | r :: l, acc, a, hn, h => by
    obtain ⟨i1, i2⟩ := with_ns acc r a hn (h r (by simp))
    obtain ⟨j1, j2⟩ := foldl_with_ns l _ _ i1 (fun x hx => h x (by simp [hx]))
    refine ⟨j1, fun c => ?_⟩
    simp only [List.foldl_cons]
    rw [j2 c, i2 c, mem_cons]
    constructor
    · rintro ((h | h) | h)
      · exact .inr (.inl h)
      · exact .inl h
      · exact .inr (.inr h)
    · rintro (h | h | h)
      · exact .inl (.inr h)
      · exact .inl (.inl h)
      · exact .inr h

theorem rising_of_pairwise : ∀ (l : List Rng) (a : Int), (∀ r ∈ l, a ≤ r.1 ∧ r.1 ≤ r.2) → l.Pairwise (fun x y => x.1 ≤ y.1) → Rising a l
  | [], _, _, _ => trivial
  | r :: l, a, h, hp => by
    obtain ⟨h1, h2⟩ := List.pairwise_cons.1 hp
    exact ⟨(h r (by simp)).1, (h r (by simp)).2, rising_of_pairwise l r.1 (fun x hx => ⟨h1 x hx, (h x (by simp [hx])).2⟩) h2⟩

/-- The ranges sorted and made one are those taken in one by one. -/
theorem sets_same {l l' : List Rng} (hp : l'.Perm l) (hs : l'.Pairwise (fun x y => x.1 ≤ y.1)) (h : ∀ r ∈ l, r.1 ≤ r.2) : mergeAll l' = l.foldl withR [] := by
  obtain ⟨⟨b, hb⟩, hm⟩ := foldl_with_ns l [] 0 trivial h
  have hr : ∃ a, Rising a l' := by
    cases l' with
    | nil => exact ⟨0, trivial⟩
    | cons x t =>
      refine ⟨x.1, rising_of_pairwise _ _ (fun r hr => ⟨?_, h r (hp.mem_iff.1 hr)⟩) hs⟩
      rcases List.mem_cons.1 hr with rfl | hr
      · exact Int.le_refl _
      · exact (List.pairwise_cons.1 hs).1 r hr
  obtain ⟨a, ha⟩ := hr
  obtain ⟨i1, i2⟩ := mergeAll_ns l' a ha
  refine NS.unique i1 hb fun c => ?_
  rw [i2 c, hm c]
  constructor
  · rintro ⟨r, hr, h⟩; exact .inr ⟨r, hp.mem_iff.1 hr, h⟩
  · rintro (⟨r, hr, _⟩ | ⟨r, hr, h⟩)
    · cases hr
    · exact ⟨r, hp.mem_iff.2 hr, h⟩
end Thr
