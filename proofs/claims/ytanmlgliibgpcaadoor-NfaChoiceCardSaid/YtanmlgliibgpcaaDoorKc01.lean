/- NfaChoice returns true of every two texts, every string and every place: no condition beyond the statement's own (a part of its proof). -/

/- Plain Lean: trees of regular expressions, from where to where they lead, and the machine with splits that does the same. -/
namespace Thr

inductive Rx where
  | mk (kind code : Int) (neg : Bool) (set : List (Int × Int)) (min max : Int) (kids : List Rx)

namespace Rx
def kind : Rx → Int | mk k _ _ _ _ _ _ => k
def code : Rx → Int | mk _ c _ _ _ _ _ => c
def neg : Rx → Bool | mk _ _ n _ _ _ _ => n
def set : Rx → List (Int × Int) | mk _ _ _ s _ _ _ => s
def min : Rx → Int | mk _ _ _ _ m _ _ => m
def max : Rx → Int | mk _ _ _ _ _ m _ => m
def kids : Rx → List Rx | mk _ _ _ _ _ _ k => k
end Rx

/-- What is asked of a string: where a character stands, where the next one begins, which of them fit a node, which places do. -/
structure Txt where
  has : Nat → Bool
  nxt : Nat → Nat
  fit : Rx → Nat → Bool
  hold : Rx → Nat → Bool

def iter (R : Nat → Nat → Prop) : Nat → Nat → Nat → Prop
  | 0, i, j => i = j
  | m + 1, i, j => ∃ k, R i k ∧ iter R m k j

theorem iter_add (R : Nat → Nat → Prop) : ∀ (a b i j : Nat), iter R (a + b) i j ↔ ∃ k, iter R a i k ∧ iter R b k j
  | 0, b, i, j => by simp [iter]
  | a + 1, b, i, j => by
    rw [show a + 1 + b = (a + b) + 1 from by omega]
    simp only [iter, iter_add R a b]
    constructor
    · rintro ⟨k, h, l, h1, h2⟩; exact ⟨l, ⟨k, h, h1⟩, h2⟩
    · rintro ⟨l, ⟨k, h, h1⟩, h2⟩; exact ⟨k, h, l, h1, h2⟩

theorem iter_one (R : Nat → Nat → Prop) (i j : Nat) : iter R 1 i j ↔ R i j := by simp [iter]
theorem iter_snoc (R : Nat → Nat → Prop) (a i j : Nat) : iter R (a + 1) i j ↔ ∃ k, iter R a i k ∧ R k j := by
  rw [iter_add]; simp [iter]

mutual
def den (T : Txt) : Rx → Nat → Nat → Prop
  | .mk kind code neg set mn mx kids => fun i j =>
    if kind = 2 ∨ kind = 3 ∨ kind = 4 then j = T.nxt i ∧ T.has i = true ∧ T.fit (.mk kind code neg set mn mx kids) i = true
    else if kind = 5 then denCat T kids i j
    else if kind = 6 then denAlt T kids i j
    else if kind = 7 then ∃ m : Nat, mn ≤ m ∧ (mx < 0 ∨ (m : Int) ≤ mx) ∧ iter (denHd T kids) m i j
    else i = j ∧ (kind = 1 ∨ T.hold (.mk kind code neg set mn mx kids) i = true)
def denCat (T : Txt) : List Rx → Nat → Nat → Prop
  | [] => fun i j => i = j
  | k :: ks => fun i j => ∃ l, den T k i l ∧ denCat T ks l j
def denAlt (T : Txt) : List Rx → Nat → Nat → Prop
  | [] => fun _ _ => False
  | k :: ks => fun i j => den T k i j ∨ denAlt T ks i j
def denHd (T : Txt) : List Rx → Nat → Nat → Prop
  | [] => fun _ _ => False
  | k :: _ => den T k
end

/-- An instruction: 0 a character, 1 a check, 2 a split, 3 the match. -/
structure Inst where
  op : Int
  node : Rx
  x : Int
  y : Int

def noNode : Rx := .mk 0 0 false [] 0 0 []

/-- From an instruction at a place, in n steps, the match is come to at a place. -/
def Acc (T : Txt) (I : List Inst) : Nat → Int → Nat → Nat → Prop
  | 0, s, i, j => i = j ∧ 0 ≤ s ∧ ∃ q, I[s.toNat]? = some q ∧ q.op = 3
  | m + 1, s, i, j => 0 ≤ s ∧ ∃ q, I[s.toNat]? = some q ∧
      ((q.op = 0 ∧ T.has i = true ∧ T.fit q.node i = true ∧ Acc T I m q.x (T.nxt i) j) ∨
       (q.op = 1 ∧ T.hold q.node i = true ∧ Acc T I m q.x i j) ∨
       (q.op = 2 ∧ (Acc T I m q.x i j ∨ Acc T I m q.y i j)))

mutual
/-- The instructions of a node, from `start` on, go on at `next`. -/
def Frag (I : List Inst) : Rx → Int → Int → Prop
  | .mk kind code neg set mn mx kids => fun start next =>
    if kind = 1 then start = next
    else if kind = 2 ∨ kind = 3 ∨ kind = 4 then 0 ≤ start ∧ ∃ y, I[start.toNat]? = some ⟨0, .mk kind code neg set mn mx kids, next, y⟩
    else if kind = 5 then FragCat I kids start next
    else if kind = 6 then FragAlt I kids start next
    else if kind = 7 then
      (0 ≤ mn ∧ (0 ≤ mx → mn ≤ mx)) ∧ ∃ mid, (if mx < 0 then 0 ≤ mid ∧ ∃ q, I[mid.toNat]? = some q ∧ q.op = 2 ∧ q.y = next ∧ FragHd I kids q.x mid
        else FragOpt I (fun a b => FragHd I kids a b) (mx - mn).toNat mid next) ∧
        FragTimes (fun a b => FragHd I kids a b) mn.toNat start mid
    else 0 ≤ start ∧ ∃ y, I[start.toNat]? = some ⟨1, .mk kind code neg set mn mx kids, next, y⟩
def FragCat (I : List Inst) : List Rx → Int → Int → Prop
  | [] => fun a b => a = b
  | k :: ks => fun a b => ∃ c, Frag I k a c ∧ FragCat I ks c b
def FragAlt (I : List Inst) : List Rx → Int → Int → Prop
  | [] => fun _ _ => False
  | k :: ks => fun a b => (ks = [] ∧ Frag I k a b) ∨ (ks ≠ [] ∧ 0 ≤ a ∧ ∃ q, I[a.toNat]? = some q ∧ q.op = 2 ∧ Frag I k q.x b ∧ FragAlt I ks q.y b)
def FragHd (I : List Inst) : List Rx → Int → Int → Prop
  | [] => fun _ _ => False
  | k :: _ => Frag I k
/-- so many times, each of which may be left out -/
def FragOpt (I : List Inst) (F : Int → Int → Prop) : Nat → Int → Int → Prop
  | 0 => fun a b => a = b
  | m + 1 => fun a b => 0 ≤ a ∧ ∃ q, I[a.toNat]? = some q ∧ q.op = 2 ∧ F q.x q.y ∧ FragOpt I F m q.y b
def FragTimes (F : Int → Int → Prop) : Nat → Int → Int → Prop
  | 0 => fun a b => a = b
  | m + 1 => fun a b => ∃ c, F a c ∧ FragTimes F m c b
end

section
variable {T : Txt} {I : List Inst}

theorem times_sound {F : Int → Int → Prop} {R : Nat → Nat → Prop}
    (hF : ∀ a b n i j, F a b → Acc T I n a i j → ∃ k m, m ≤ n ∧ R i k ∧ Acc T I m b k j) :
    ∀ (c : Nat) (a b : Int) (n i j : Nat), FragTimes F c a b → Acc T I n a i j → ∃ k m, m ≤ n ∧ iter R c i k ∧ Acc T I m b k j
  | 0, a, b, n, i, j, h, ha => by
    simp only [FragTimes] at h; subst h
    exact ⟨i, n, Nat.le_refl _, rfl, ha⟩
  | c + 1, a, b, n, i, j, h, ha => by
    simp only [FragTimes] at h
    obtain ⟨d, h1, h2⟩ := h
    obtain ⟨k, m, hm, hr, hk⟩ := hF _ _ _ _ _ h1 ha
    obtain ⟨l, m', hm', hr', hl⟩ := times_sound hF c _ _ _ _ _ h2 hk
    exact ⟨l, m', by omega, ⟨k, hr, hr'⟩, hl⟩

theorem times_complete {F : Int → Int → Prop} {R : Nat → Nat → Prop}
    (hF : ∀ a b m i k j, F a b → R i k → Acc T I m b k j → ∃ n, Acc T I n a i j) :
    ∀ (c : Nat) (a b : Int) (m i k j : Nat), FragTimes F c a b → iter R c i k → Acc T I m b k j → ∃ n, Acc T I n a i j
  | 0, a, b, m, i, k, j, h, hr, ha => by
    simp only [FragTimes] at h; simp only [iter] at hr; subst h; subst hr
    exact ⟨m, ha⟩
  | c + 1, a, b, m, i, k, j, h, hr, ha => by
    simp only [FragTimes] at h
    obtain ⟨d, h1, h2⟩ := h
    obtain ⟨l, r1, r2⟩ := hr
    obtain ⟨n, hn⟩ := times_complete hF c _ _ _ _ _ _ h2 r2 ha
    exact hF _ _ _ _ _ _ h1 r1 hn

theorem opt_sound {F : Int → Int → Prop} {R : Nat → Nat → Prop}
    (hF : ∀ a b n i j, F a b → Acc T I n a i j → ∃ k m, m ≤ n ∧ R i k ∧ Acc T I m b k j) :
    ∀ (c : Nat) (a b : Int) (n i j : Nat), FragOpt I F c a b → Acc T I n a i j → ∃ e k m, m ≤ n ∧ e ≤ c ∧ iter R e i k ∧ Acc T I m b k j
  | 0, a, b, n, i, j, h, ha => by
    simp only [FragOpt] at h; subst h
    exact ⟨0, i, n, Nat.le_refl _, Nat.le_refl _, rfl, ha⟩
  | c + 1, a, b, n, i, j, h, ha => by
    simp only [FragOpt] at h
    obtain ⟨h0, q, hq, hop, hx, hy⟩ := h
    match n, ha with
    | 0, ha =>
      obtain ⟨_, _, q', hq', ho'⟩ := ha
      rw [hq] at hq'; obtain rfl := Option.some.inj hq'; omega
    | n + 1, ha =>
      obtain ⟨_, q', hq', h⟩ := ha
      rw [hq] at hq'; obtain rfl := Option.some.inj hq'
      rcases h with ⟨ho, _⟩ | ⟨ho, _⟩ | ⟨_, h | h⟩
      · omega
      · omega
      · obtain ⟨k, m, hm, hr, hk⟩ := hF _ _ _ _ _ hx h
        obtain ⟨e, l, m', hm', he, hr', hl⟩ := opt_sound hF c _ _ _ _ _ hy hk
        exact ⟨e + 1, l, m', by omega, by omega, ⟨k, hr, hr'⟩, hl⟩
      · obtain ⟨e, l, m', hm', he, hr', hl⟩ := opt_sound hF c _ _ _ _ _ hy h
        exact ⟨e, l, m', by omega, by omega, hr', hl⟩

theorem opt_complete {F : Int → Int → Prop} {R : Nat → Nat → Prop}
    (hF : ∀ a b m i k j, F a b → R i k → Acc T I m b k j → ∃ n, Acc T I n a i j) :
    ∀ (c : Nat) (e : Nat) (a b : Int) (m i k j : Nat), e ≤ c → FragOpt I F c a b → iter R e i k → Acc T I m b k j → ∃ n, Acc T I n a i j
  | 0, e, a, b, m, i, k, j, he, h, hr, ha => by
    obtain rfl : e = 0 := by omega
    simp only [FragOpt] at h; simp only [iter] at hr; subst h; subst hr
    exact ⟨m, ha⟩
  | c + 1, e, a, b, m, i, k, j, he, h, hr, ha => by
    simp only [FragOpt] at h
    obtain ⟨h0, q, hq, hop, hx, hy⟩ := h
    match e, hr with
    | 0, hr =>
      obtain ⟨n, hn⟩ := opt_complete hF c 0 _ _ _ _ _ _ (by omega) hy hr ha
      exact ⟨n + 1, h0, q, hq, .inr (.inr ⟨hop, .inr hn⟩)⟩
    | e + 1, hr =>
      obtain ⟨l, r1, r2⟩ := hr
      obtain ⟨n, hn⟩ := opt_complete hF c e _ _ _ _ _ _ (by omega) hy r2 ha
      obtain ⟨n', hn'⟩ := hF _ _ _ _ _ _ hx r1 hn
      exact ⟨n' + 1, h0, q, hq, .inr (.inr ⟨hop, .inl hn'⟩)⟩

theorem loop_sound {F : Int → Int → Prop} {R : Nat → Nat → Prop} {s next : Int} {q : Inst}
    (hq : I[s.toNat]? = some q) (hop : q.op = 2) (hy : q.y = next) (hx : F q.x s)
    (hF : ∀ a b n i j, F a b → Acc T I n a i j → ∃ k m, m ≤ n ∧ R i k ∧ Acc T I m b k j) :
    ∀ (n i j : Nat), Acc T I n s i j → ∃ e k m, m ≤ n ∧ iter R e i k ∧ Acc T I m next k j := by
  intro n
  induction n using Nat.strongRecOn with
  | _ n ih =>
    intro i j ha
    match n, ih, ha with
    | 0, ih, ha =>
      obtain ⟨_, _, q', hq', ho'⟩ := ha
      rw [hq] at hq'; obtain rfl := Option.some.inj hq'; omega
    | n + 1, ih, ha =>
      obtain ⟨_, q', hq', h⟩ := ha
      rw [hq] at hq'; obtain rfl := Option.some.inj hq'
      rcases h with ⟨ho, _⟩ | ⟨ho, _⟩ | ⟨_, h | h⟩
      · omega
      · omega
      · obtain ⟨k, m, hm, hr, hk⟩ := hF _ _ _ _ _ hx h
        obtain ⟨e, l, m', hm', hr', hl⟩ := ih m (by omega) _ _ hk
        exact ⟨e + 1, l, m', by omega, ⟨k, hr, hr'⟩, hl⟩
      · rw [hy] at h
        exact ⟨0, i, n, by omega, rfl, h⟩

theorem loop_complete {F : Int → Int → Prop} {R : Nat → Nat → Prop} {s next : Int} {q : Inst} (h0 : 0 ≤ s)
    (hq : I[s.toNat]? = some q) (hop : q.op = 2) (hy : q.y = next) (hx : F q.x s)
    (hF : ∀ a b m i k j, F a b → R i k → Acc T I m b k j → ∃ n, Acc T I n a i j) :
    ∀ (e m i k j : Nat), iter R e i k → Acc T I m next k j → ∃ n, Acc T I n s i j
  | 0, m, i, k, j, hr, ha => by
    simp only [iter] at hr; subst hr
    exact ⟨m + 1, h0, q, hq, .inr (.inr ⟨hop, .inr (by rw [hy]; exact ha)⟩)⟩
  | e + 1, m, i, k, j, hr, ha => by
    obtain ⟨l, r1, r2⟩ := hr
    obtain ⟨n, hn⟩ := loop_complete h0 hq hop hy hx hF e _ _ _ _ r2 ha
    obtain ⟨n', hn'⟩ := hF _ _ _ _ _ _ hx r1 hn
    exact ⟨n' + 1, h0, q, hq, .inr (.inr ⟨hop, .inl hn'⟩)⟩

mutual
theorem frag_sound : ∀ (t : Rx) (a b : Int) (n i j : Nat), Frag I t a b → Acc T I n a i j → ∃ k m, m ≤ n ∧ den T t i k ∧ Acc T I m b k j
  | .mk kind code neg set mn mx kids, a, b, n, i, j, hf, ha => by
    simp only [Frag] at hf
    simp only [den]
    by_cases h1 : kind = 1
    · rw [if_pos h1] at hf; subst hf; subst h1
      exact ⟨i, n, Nat.le_refl _, by simp, ha⟩
    rw [if_neg h1] at hf
    by_cases h2 : kind = 2 ∨ kind = 3 ∨ kind = 4
    · rw [if_pos h2] at hf
      obtain ⟨h0, y, hq⟩ := hf
      match n, ha with
      | 0, ha => obtain ⟨_, _, q', hq', ho'⟩ := ha; rw [hq] at hq'; obtain rfl := Option.some.inj hq'; simp at ho'
      | n + 1, ha =>
        obtain ⟨_, q', hq', h⟩ := ha
        rw [hq] at hq'; obtain rfl := Option.some.inj hq'
        rcases h with ⟨_, hn, hfit, h⟩ | ⟨ho, _⟩ | ⟨ho, _⟩
        · exact ⟨T.nxt i, n, by omega, by rw [if_pos h2]; exact ⟨rfl, hn, hfit⟩, h⟩
        · simp at ho
        · simp at ho
    rw [if_neg h2] at hf
    by_cases h5 : kind = 5
    · rw [if_pos h5] at hf
      obtain ⟨k, m, hm, hd, hk⟩ := fragCat_sound kids _ _ _ _ _ hf ha
      exact ⟨k, m, hm, by rw [if_neg h2, if_pos h5]; exact hd, hk⟩
    rw [if_neg h5] at hf
    by_cases h6 : kind = 6
    · rw [if_pos h6] at hf
      obtain ⟨k, m, hm, hd, hk⟩ := fragAlt_sound kids _ _ _ _ _ hf ha
      exact ⟨k, m, hm, by rw [if_neg h2, if_neg h5, if_pos h6]; exact hd, hk⟩
    rw [if_neg h6] at hf
    by_cases h7 : kind = 7
    · rw [if_pos h7] at hf
      obtain ⟨⟨hv0, hv1⟩, mid, hm, ht⟩ := hf
      obtain ⟨k, m, hmn, hr, hk⟩ := times_sound (R := denHd T kids) (fun a b n i j => fragHd_sound kids a b n i j) _ _ _ _ _ _ ht ha
      by_cases hx : mx < 0
      · rw [if_pos hx] at hm
        obtain ⟨h0, q, hq, hop, hy, hx'⟩ := hm
        obtain ⟨e, l, m', hm', hr', hl⟩ := loop_sound (R := denHd T kids) hq hop hy hx' (fun a b n i j => fragHd_sound kids a b n i j) _ _ _ hk
        refine ⟨l, m', by omega, ?_, hl⟩
        rw [if_neg h2, if_neg h5, if_neg h6, if_pos h7]
        exact ⟨mn.toNat + e, by omega, .inl hx, (iter_add _ _ _ _ _).2 ⟨k, hr, hr'⟩⟩
      · rw [if_neg hx] at hm
        obtain ⟨e, l, m', hm', he, hr', hl⟩ := opt_sound (R := denHd T kids) (fun a b n i j => fragHd_sound kids a b n i j) _ _ _ _ _ _ hm hk
        refine ⟨l, m', by omega, ?_, hl⟩
        rw [if_neg h2, if_neg h5, if_neg h6, if_pos h7]
        have hc := hv1 (by omega)
        exact ⟨mn.toNat + e, by omega, .inr (by omega), (iter_add _ _ _ _ _).2 ⟨k, hr, hr'⟩⟩
    rw [if_neg h7] at hf
    obtain ⟨h0, y, hq⟩ := hf
    match n, ha with
    | 0, ha => obtain ⟨_, _, q', hq', ho'⟩ := ha; rw [hq] at hq'; obtain rfl := Option.some.inj hq'; simp at ho'
    | n + 1, ha =>
      obtain ⟨_, q', hq', h⟩ := ha
      rw [hq] at hq'; obtain rfl := Option.some.inj hq'
      rcases h with ⟨ho, _⟩ | ⟨_, hh, h⟩ | ⟨ho, _⟩
      · simp at ho
      · exact ⟨i, n, by omega, by rw [if_neg h2, if_neg h5, if_neg h6, if_neg h7]; exact ⟨rfl, .inr hh⟩, h⟩
      · simp at ho
theorem fragCat_sound : ∀ (ks : List Rx) (a b : Int) (n i j : Nat), FragCat I ks a b → Acc T I n a i j → ∃ k m, m ≤ n ∧ denCat T ks i k ∧ Acc T I m b k j
  | [], a, b, n, i, j, hf, ha => by
    simp only [FragCat] at hf; subst hf
    exact ⟨i, n, Nat.le_refl _, by simp [denCat], ha⟩
  | k :: ks, a, b, n, i, j, hf, ha => by
    simp only [FragCat] at hf
    obtain ⟨c, h1, h2⟩ := hf
    obtain ⟨l, m, hm, hd, hk⟩ := frag_sound k _ _ _ _ _ h1 ha
    obtain ⟨l', m', hm', hd', hk'⟩ := fragCat_sound ks _ _ _ _ _ h2 hk
    exact ⟨l', m', by omega, by simp only [denCat]; exact ⟨l, hd, hd'⟩, hk'⟩
theorem fragAlt_sound : ∀ (ks : List Rx) (a b : Int) (n i j : Nat), FragAlt I ks a b → Acc T I n a i j → ∃ k m, m ≤ n ∧ denAlt T ks i k ∧ Acc T I m b k j
  | [], a, b, n, i, j, hf, ha => by simp only [FragAlt] at hf
  | k :: ks, a, b, n, i, j, hf, ha => by
    simp only [FragAlt] at hf
    simp only [denAlt]
    rcases hf with ⟨_, h⟩ | ⟨_, h0, q, hq, hop, hx, hy⟩
    · obtain ⟨l, m, hm, hd, hk⟩ := frag_sound k _ _ _ _ _ h ha
      exact ⟨l, m, hm, .inl hd, hk⟩
    · match n, ha with
      | 0, ha =>
        obtain ⟨_, _, q', hq', ho'⟩ := ha
        rw [hq] at hq'; obtain rfl := Option.some.inj hq'; omega
      | n + 1, ha =>
        obtain ⟨_, q', hq', h⟩ := ha
        rw [hq] at hq'; obtain rfl := Option.some.inj hq'
        rcases h with ⟨ho, _⟩ | ⟨ho, _⟩ | ⟨_, h | h⟩
        · omega
        · omega
        · obtain ⟨l, m, hm, hd, hk⟩ := frag_sound k _ _ _ _ _ hx h
          exact ⟨l, m, by omega, .inl hd, hk⟩
        · obtain ⟨l, m, hm, hd, hk⟩ := fragAlt_sound ks _ _ _ _ _ hy h
          exact ⟨l, m, by omega, .inr hd, hk⟩
theorem fragHd_sound : ∀ (ks : List Rx) (a b : Int) (n i j : Nat), FragHd I ks a b → Acc T I n a i j → ∃ k m, m ≤ n ∧ denHd T ks i k ∧ Acc T I m b k j
  | [], a, b, n, i, j, hf, ha => by simp only [FragHd] at hf
  | k :: ks, a, b, n, i, j, hf, ha => by
    simp only [FragHd] at hf
    simp only [denHd]
    exact frag_sound k _ _ _ _ _ hf ha
end

mutual
theorem frag_complete : ∀ (t : Rx) (a b : Int) (m i k j : Nat), Frag I t a b → den T t i k → Acc T I m b k j → ∃ n, Acc T I n a i j
  | .mk kind code neg set mn mx kids, a, b, m, i, k, j, hf, hd, ha => by
    simp only [Frag] at hf
    simp only [den] at hd
    by_cases h1 : kind = 1
    · rw [if_pos h1] at hf; subst hf; subst h1
      rw [if_neg (by omega), if_neg (by omega), if_neg (by omega), if_neg (by omega)] at hd
      obtain ⟨rfl, _⟩ := hd
      exact ⟨m, ha⟩
    rw [if_neg h1] at hf
    by_cases h2 : kind = 2 ∨ kind = 3 ∨ kind = 4
    · rw [if_pos h2] at hf hd
      obtain ⟨h0, y, hq⟩ := hf
      obtain ⟨rfl, hn, hfit⟩ := hd
      exact ⟨m + 1, h0, _, hq, .inl ⟨rfl, hn, hfit, ha⟩⟩
    rw [if_neg h2] at hf hd
    by_cases h5 : kind = 5
    · rw [if_pos h5] at hf hd
      exact fragCat_complete kids _ _ _ _ _ _ hf hd ha
    rw [if_neg h5] at hf hd
    by_cases h6 : kind = 6
    · rw [if_pos h6] at hf hd
      exact fragAlt_complete kids _ _ _ _ _ _ hf hd ha
    rw [if_neg h6] at hf hd
    by_cases h7 : kind = 7
    · rw [if_pos h7] at hf hd
      obtain ⟨⟨hv0, hv1⟩, mid, hm, ht⟩ := hf
      obtain ⟨c, hc1, hc2, hc⟩ := hd
      obtain ⟨e, rfl⟩ : ∃ e, c = mn.toNat + e := ⟨c - mn.toNat, by omega⟩
      obtain ⟨l, r1, r2⟩ := (iter_add _ _ _ _ _).1 hc
      have hmid : ∃ n, Acc T I n mid l j := by
        by_cases hx : mx < 0
        · rw [if_pos hx] at hm
          obtain ⟨h0, q, hq, hop, hy, hx'⟩ := hm
          exact loop_complete (R := denHd T kids) h0 hq hop hy hx' (fun a b m i k j => fragHd_complete kids a b m i k j) _ _ _ _ _ r2 ha
        · rw [if_neg hx] at hm
          exact opt_complete (R := denHd T kids) (fun a b m i k j => fragHd_complete kids a b m i k j) _ e _ _ _ _ _ _ (by have := hv1 (by omega); omega) hm r2 ha
      obtain ⟨n, hn⟩ := hmid
      exact times_complete (R := denHd T kids) (fun a b m i k j => fragHd_complete kids a b m i k j) _ _ _ _ _ _ _ ht r1 hn
    rw [if_neg h7] at hf hd
    obtain ⟨h0, y, hq⟩ := hf
    obtain ⟨rfl, hh⟩ := hd
    exact ⟨m + 1, h0, _, hq, .inr (.inl ⟨rfl, hh.resolve_left h1, ha⟩)⟩
theorem fragCat_complete : ∀ (ks : List Rx) (a b : Int) (m i k j : Nat), FragCat I ks a b → denCat T ks i k → Acc T I m b k j → ∃ n, Acc T I n a i j
  | [], a, b, m, i, k, j, hf, hd, ha => by
    simp only [FragCat] at hf; subst hf
    simp only [denCat] at hd; subst hd
    exact ⟨m, ha⟩
  | t :: ks, a, b, m, i, k, j, hf, hd, ha => by
    simp only [FragCat] at hf
    simp only [denCat] at hd
    obtain ⟨c, h1, h2⟩ := hf
    obtain ⟨l, d1, d2⟩ := hd
    obtain ⟨n, hn⟩ := fragCat_complete ks _ _ _ _ _ _ h2 d2 ha
    exact frag_complete t _ _ _ _ _ _ h1 d1 hn
theorem fragAlt_complete : ∀ (ks : List Rx) (a b : Int) (m i k j : Nat), FragAlt I ks a b → denAlt T ks i k → Acc T I m b k j → ∃ n, Acc T I n a i j
  | [], a, b, m, i, k, j, hf, hd, ha => by simp only [FragAlt] at hf
  | t :: ks, a, b, m, i, k, j, hf, hd, ha => by
    simp only [FragAlt] at hf
    simp only [denAlt] at hd
    rcases hf with ⟨rfl, h⟩ | ⟨_, h0, q, hq, hop, hx, hy⟩
    · simp only [denAlt, or_false] at hd
      exact frag_complete t _ _ _ _ _ _ h hd ha
    · rcases hd with hd | hd
      · obtain ⟨n, hn⟩ := frag_complete t _ _ _ _ _ _ hx hd ha
        exact ⟨n + 1, h0, q, hq, .inr (.inr ⟨hop, .inl hn⟩)⟩
      · obtain ⟨n, hn⟩ := fragAlt_complete ks _ _ _ _ _ _ hy hd ha
        exact ⟨n + 1, h0, q, hq, .inr (.inr ⟨hop, .inr hn⟩)⟩
theorem fragHd_complete : ∀ (ks : List Rx) (a b : Int) (m i k j : Nat), FragHd I ks a b → denHd T ks i k → Acc T I m b k j → ∃ n, Acc T I n a i j
  | [], a, b, m, i, k, j, hf, hd, ha => by simp only [FragHd] at hf
  | t :: ks, a, b, m, i, k, j, hf, hd, ha => by
    simp only [FragHd] at hf
    simp only [denHd] at hd
    exact frag_complete t _ _ _ _ _ _ hf hd ha
end
end

/-! ### What `follow` meets -/
def followF (I : List Inst) (chk : Rx → Bool) : Nat → List Bool → List Int → Int → Option (List Bool × List Int)
  | 0, _, _, _ => none
  | f + 1, has, list, i =>
    if has.getD i.toNat false = true then some (has, list)
    else match I[i.toNat]? with
      | none => none
      | some q =>
        if q.op = 2 then (followF I chk f (has.set i.toNat true) list q.x).bind fun r => followF I chk f r.1 r.2 q.y
        else if q.op = 1 then
          if chk q.node = true then followF I chk f (has.set i.toNat true) list q.x else some (has.set i.toNat true, list)
        else some (has.set i.toNat true, list ++ [i])

/-- Each instruction leads to instructions. -/
def Sound (I : List Inst) : Prop := ∀ (s : Nat) (q : Inst), I[s]? = some q →
  (q.op = 0 ∨ q.op = 1 ∨ q.op = 2 ∨ q.op = 3) ∧ (q.op = 0 ∨ q.op = 1 ∨ q.op = 2 → 0 ≤ q.x ∧ q.x < I.length) ∧ (q.op = 2 → 0 ≤ q.y ∧ q.y < I.length)

def marked (has : List Bool) (j : Nat) : Prop := has[j]? = some true
/-- How many aren't marked. -/
def bare : List Bool → Nat
  | [] => 0
  | b :: l => (if b = true then 0 else 1) + bare l

theorem bare_le : ∀ l : List Bool, bare l ≤ l.length
  | [] => by simp [bare]
  | b :: l => by have := bare_le l; simp only [bare, List.length_cons]; split <;> omega

theorem bare_set : ∀ (l : List Bool) (i : Nat), l[i]? = some false → bare (l.set i true) + 1 = bare l
  | [], i, h => by simp at h
  | b :: l, 0, h => by simp at h; subst h; simp [bare]; omega
  | b :: l, i + 1, h => by
    simp only [List.getElem?_cons_succ] at h
    have := bare_set l i h
    simp only [List.set_cons_succ, bare]; omega

theorem bare_mono : ∀ (l l' : List Bool), l.length = l'.length → (∀ j, marked l j → marked l' j) → bare l' ≤ bare l
  | [], [], _, _ => Nat.le_refl _
  | b :: l, c :: l', h, hm => by
    have h1 := bare_mono l l' (by simpa using h) (fun j hj => by have := hm (j + 1); simpa [marked] using this hj)
    have h0 := hm 0
    simp only [marked, List.getElem?_cons_zero, Option.some.injEq] at h0
    simp only [bare]
    cases b <;> cases c <;> simp_all <;> omega

theorem marked_set {has : List Bool} {i j : Nat} : marked (has.set i true) j ↔ (i = j ∧ i < has.length) ∨ marked has j := by
  unfold marked
  rw [List.getElem?_set]
  by_cases h : i = j
  · subst h
    by_cases h2 : i < has.length <;> simp [h2]
  · simp [h]

theorem getD_marked {has : List Bool} {i : Nat} : has.getD i false = true ↔ marked has i := by
  unfold marked; rw [List.getD_eq_getElem?_getD]
  cases h : has[i]? with
  | none => simp
  | some b => simp

/-- It ends, and what it does to the marks. -/
theorem follow_ends {I : List Inst} {chk : Rx → Bool} (hI : Sound I) : ∀ (f : Nat) (has : List Bool) (list : List Int) (i : Int), has.length = I.length → 0 ≤ i → i < I.length → bare has < f →
    ∃ r, followF I chk f has list i = some r ∧ r.1.length = I.length ∧ (∀ j, marked has j → marked r.1 j)
  | 0, has, list, i, hl, h0, h1, hf => by omega
  | f + 1, has, list, i, hl, h0, h1, hf => by
    simp only [followF]
    by_cases hm : has.getD i.toNat false = true
    · rw [if_pos hm]; exact ⟨_, rfl, hl, fun j h => h⟩
    rw [if_neg hm]
    have hlt : i.toNat < I.length := by omega
    have hf' : has[i.toNat]? = some false := by
      rw [List.getD_eq_getElem?_getD, List.getElem?_eq_getElem (by omega)] at hm
      rw [List.getElem?_eq_getElem (by omega)]
      simpa using hm
    have hb := bare_set has i.toNat hf'
    have hmono : ∀ j, marked has j → marked (has.set i.toNat true) j := fun j h => marked_set.2 (.inr h)
    rw [List.getElem?_eq_getElem hlt]
    generalize hq : I[i.toNat] = q
    have hq' : I[i.toNat]? = some q := by rw [List.getElem?_eq_getElem hlt, hq]
    obtain ⟨ho, hx, hy⟩ := hI _ _ hq'
    simp only
    by_cases h2 : q.op = 2
    · rw [if_pos h2]
      obtain ⟨hx0, hx1⟩ := hx (by simp [h2])
      obtain ⟨hy0, hy1⟩ := hy h2
      obtain ⟨r, hr, hrl, hrm⟩ := follow_ends hI f (has.set i.toNat true) list q.x (by simpa using hl) hx0 hx1 (by omega)
      have := bare_mono _ _ (by rw [hrl]; simpa using hl) hrm
      obtain ⟨r', hr', hrl', hrm'⟩ := follow_ends hI f r.1 r.2 q.y hrl hy0 hy1 (by omega)
      exact ⟨r', by rw [hr]; exact hr', hrl', fun j h => hrm' j (hrm j (hmono j h))⟩
    rw [if_neg h2]
    by_cases h3 : q.op = 1
    · rw [if_pos h3]
      obtain ⟨hx0, hx1⟩ := hx (by simp [h3])
      by_cases hc : chk q.node = true
      · rw [if_pos hc]
        obtain ⟨r, hr, hrl, hrm⟩ := follow_ends hI f (has.set i.toNat true) list q.x (by simpa using hl) hx0 hx1 (by omega)
        exact ⟨r, hr, hrl, fun j h => hrm j (hmono j h)⟩
      · rw [if_neg hc]; exact ⟨_, rfl, by simpa using hl, hmono⟩
    rw [if_neg h3]
    exact ⟨_, rfl, by simpa using hl, hmono⟩

/-- From an instruction to another one without a character. -/
inductive Eps (I : List Inst) (chk : Rx → Bool) : Int → Int → Prop
  | refl (s : Int) : Eps I chk s s
  | x {s c : Int} {q : Inst} : 0 ≤ s → I[s.toNat]? = some q → (q.op = 2 ∨ q.op = 1 ∧ chk q.node = true) → Eps I chk q.x c → Eps I chk s c
  | y {s c : Int} {q : Inst} : 0 ≤ s → I[s.toNat]? = some q → q.op = 2 → Eps I chk q.y c → Eps I chk s c

/-- What stands behind a call of follow: marks and list. -/
structure Fol (I : List Inst) (chk : Rx → Bool) (has : List Bool) (list : List Int) (r : List Bool × List Int) (i : Int) : Prop where
  mono : ∀ j, marked has j → marked r.1 j
  self : marked r.1 i.toNat
  closed : ∀ (j : Nat) (q : Inst), marked r.1 j → ¬ marked has j → I[j]? = some q → (q.op = 2 ∨ q.op = 1 ∧ chk q.node = true → marked r.1 q.x.toNat) ∧ (q.op = 2 → marked r.1 q.y.toNat)
  news : ∃ new : List Int, r.2 = list ++ new ∧ (∀ c ∈ new, 0 ≤ c ∧ Eps I chk i c ∧ ∃ q, I[c.toNat]? = some q ∧ q.op ≠ 1 ∧ q.op ≠ 2) ∧
    (∀ (j : Nat) (q : Inst), marked r.1 j → ¬ marked has j → I[j]? = some q → q.op ≠ 1 → q.op ≠ 2 → (j : Int) ∈ new)

theorem follow_met {I : List Inst} {chk : Rx → Bool} : ∀ (f : Nat) (has : List Bool) (list : List Int) (i : Int) (r : List Bool × List Int), 0 ≤ i → Sound I → i < I.length → has.length = I.length →
    followF I chk f has list i = some r → Fol I chk has list r i ∧ r.1.length = I.length
  | 0, has, list, i, r, h0, hI, hi, hl, h => by simp [followF] at h
  | f + 1, has, list, i, r, h0, hI, hi, hl, h => by
    simp only [followF] at h
    by_cases hm : has.getD i.toNat false = true
    · rw [if_pos hm] at h
      obtain rfl := Option.some.inj h
      exact ⟨⟨fun j h => h, getD_marked.1 hm, fun j q h1 h2 => absurd h1 h2, [], by simp, by simp, fun j q h1 h2 => absurd h1 h2⟩, hl⟩
    rw [if_neg hm] at h
    have hlt : i.toNat < I.length := by omega
    rw [List.getElem?_eq_getElem hlt] at h
    generalize hq : I[i.toNat] = q at h
    have hq' : I[i.toNat]? = some q := by rw [List.getElem?_eq_getElem hlt, hq]
    obtain ⟨ho, hx, hy⟩ := hI _ _ hq'
    simp only at h
    have hmono : ∀ j, marked has j → marked (has.set i.toNat true) j := fun j h => marked_set.2 (.inr h)
    have hself : marked (has.set i.toNat true) i.toNat := marked_set.2 (.inl ⟨rfl, by omega⟩)
    have hnew : ∀ j, marked (has.set i.toNat true) j → ¬ marked has j → j = i.toNat := fun j h1 h2 => by
      rcases marked_set.1 h1 with ⟨h, _⟩ | h
      · exact h.symm
      · exact absurd h h2
    by_cases h2 : q.op = 2
    · rw [if_pos h2] at h
      obtain ⟨hx0, hx1⟩ := hx (by simp [h2])
      obtain ⟨hy0, hy1⟩ := hy h2
      obtain ⟨r1, hr1, hr⟩ := Option.bind_eq_some_iff.1 h
      obtain ⟨F1, hl1⟩ := follow_met f _ _ _ _ hx0 hI hx1 (by simpa using hl) hr1
      obtain ⟨F2, hl2⟩ := follow_met f _ _ _ _ hy0 hI hy1 hl1 hr
      obtain ⟨n1, e1, a1, b1⟩ := F1.news
      obtain ⟨n2, e2, a2, b2⟩ := F2.news
      refine ⟨⟨fun j h => F2.mono j (F1.mono j (hmono j h)), F2.mono _ (F1.mono _ hself), ?_, n1 ++ n2, by rw [e2, e1]; simp, ?_, ?_⟩, hl2⟩
      · intro j p hj hnj hp
        by_cases hj1 : marked r1.1 j
        · by_cases hj0 : marked (has.set i.toNat true) j
          · obtain rfl := hnew j hj0 hnj
            rw [hq'] at hp; obtain rfl := Option.some.inj hp
            exact ⟨fun _ => F2.mono _ F1.self, fun _ => F2.self⟩
          · obtain ⟨c1, c2⟩ := F1.closed j p hj1 hj0 hp
            exact ⟨fun h => F2.mono _ (c1 h), fun h => F2.mono _ (c2 h)⟩
        · exact F2.closed j p hj hj1 hp
      · intro c hc
        rcases List.mem_append.1 hc with hc | hc
        · obtain ⟨c0, ce, cq⟩ := a1 c hc
          exact ⟨c0, .x h0 hq' (.inl h2) ce, cq⟩
        · obtain ⟨c0, ce, cq⟩ := a2 c hc
          exact ⟨c0, .y h0 hq' h2 ce, cq⟩
      · intro j p hj hnj hp hp1 hp2
        by_cases hj1 : marked r1.1 j
        · by_cases hj0 : marked (has.set i.toNat true) j
          · obtain rfl := hnew j hj0 hnj
            rw [hq'] at hp; obtain rfl := Option.some.inj hp
            exact absurd h2 hp2
          · exact List.mem_append.2 (.inl (b1 j p hj1 hj0 hp hp1 hp2))
        · exact List.mem_append.2 (.inr (b2 j p hj hj1 hp hp1 hp2))
    rw [if_neg h2] at h
    by_cases h3 : q.op = 1
    · rw [if_pos h3] at h
      obtain ⟨hx0, hx1⟩ := hx (by simp [h3])
      by_cases hc : chk q.node = true
      · rw [if_pos hc] at h
        obtain ⟨F1, hl1⟩ := follow_met f _ _ _ _ hx0 hI hx1 (by simpa using hl) h
        obtain ⟨n1, e1, a1, b1⟩ := F1.news
        refine ⟨⟨fun j h => F1.mono j (hmono j h), F1.mono _ hself, ?_, n1, e1, ?_, ?_⟩, hl1⟩
        · intro j p hj hnj hp
          by_cases hj0 : marked (has.set i.toNat true) j
          · obtain rfl := hnew j hj0 hnj
            rw [hq'] at hp; obtain rfl := Option.some.inj hp
            exact ⟨fun _ => F1.self, fun h => absurd h h2⟩
          · exact F1.closed j p hj hj0 hp
        · intro c hc'
          obtain ⟨c0, ce, cq⟩ := a1 c hc'
          exact ⟨c0, .x h0 hq' (.inr ⟨h3, hc⟩) ce, cq⟩
        · intro j p hj hnj hp hp1 hp2
          by_cases hj0 : marked (has.set i.toNat true) j
          · obtain rfl := hnew j hj0 hnj
            rw [hq'] at hp; obtain rfl := Option.some.inj hp
            exact absurd h3 hp1
          · exact b1 j p hj hj0 hp hp1 hp2
      · rw [if_neg hc] at h
        obtain rfl := Option.some.inj h
        refine ⟨⟨hmono, hself, ?_, [], by simp, by simp, ?_⟩, by simpa using hl⟩
        · intro j p hj hnj hp
          obtain rfl := hnew j hj hnj
          rw [hq'] at hp; obtain rfl := Option.some.inj hp
          exact ⟨fun h => by rcases h with h | ⟨_, h⟩; exact absurd h h2; exact absurd h hc, fun h => absurd h h2⟩
        · intro j p hj hnj hp hp1 hp2
          obtain rfl := hnew j hj hnj
          rw [hq'] at hp; obtain rfl := Option.some.inj hp
          exact absurd h3 hp1
    rw [if_neg h3] at h
    obtain rfl := Option.some.inj h
    refine ⟨⟨hmono, hself, ?_, [i], rfl, ?_, ?_⟩, by simpa using hl⟩
    · intro j p hj hnj hp
      obtain rfl := hnew j hj hnj
      rw [hq'] at hp; obtain rfl := Option.some.inj hp
      exact ⟨fun h => by rcases h with h | ⟨h, _⟩; exact absurd h h2; exact absurd h h3, fun h => absurd h h2⟩
    · intro c hc
      obtain rfl := List.mem_singleton.1 hc
      exact ⟨h0, .refl _, q, hq', h3, h2⟩
    · intro j p hj hnj hp hp1 hp2
      obtain rfl := hnew j hj hnj
      simp only [List.mem_singleton]; omega

/-- The marks are closed, and the list tells all that are marked and wait for a character, or match. -/
structure Cl (I : List Inst) (chk : Rx → Bool) (has : List Bool) (list : List Int) (R : Int → Prop) : Prop where
  len : has.length = I.length
  closed : ∀ (j : Nat) (q : Inst), marked has j → I[j]? = some q → (q.op = 2 ∨ q.op = 1 ∧ chk q.node = true → marked has q.x.toNat) ∧ (q.op = 2 → marked has q.y.toNat)
  told : ∀ (j : Nat) (q : Inst), marked has j → I[j]? = some q → q.op ≠ 1 → q.op ≠ 2 → (j : Int) ∈ list
  from_ : ∀ c ∈ list, 0 ≤ c ∧ (∃ s, R s ∧ Eps I chk s c) ∧ ∃ q, I[c.toNat]? = some q ∧ q.op ≠ 1 ∧ q.op ≠ 2
  roots : ∀ s, R s → marked has s.toNat

theorem marked_none (n j : Nat) : ¬ marked (List.replicate n false) j := by
  unfold marked; rw [List.getElem?_replicate]; split <;> simp

theorem Cl.start (I : List Inst) (chk : Rx → Bool) : Cl I chk (List.replicate I.length false) [] (fun _ => False) :=
  ⟨by simp, fun j q h => absurd h (marked_none _ _), fun j q h => absurd h (marked_none _ _), by simp, by simp⟩

theorem Cl.step {I : List Inst} {chk : Rx → Bool} {has : List Bool} {list : List Int} {R : Int → Prop} (h : Cl I chk has list R) {i : Int} {r : List Bool × List Int}
    (hl : r.1.length = I.length) (F : Fol I chk has list r i) : Cl I chk r.1 r.2 (fun s => R s ∨ s = i) := by
  obtain ⟨new, e, a, b⟩ := F.news
  refine ⟨hl, fun j q hj hq => ?_, fun j q hj hq h1 h2 => ?_, fun c hc => ?_, fun s hs => ?_⟩
  · by_cases h0 : marked has j
    · obtain ⟨c1, c2⟩ := h.closed j q h0 hq
      exact ⟨fun x => F.mono _ (c1 x), fun x => F.mono _ (c2 x)⟩
    · exact F.closed j q hj h0 hq
  · rw [e]
    by_cases h0 : marked has j
    · exact List.mem_append.2 (.inl (h.told j q h0 hq h1 h2))
    · exact List.mem_append.2 (.inr (b j q hj h0 hq h1 h2))
  · rw [e] at hc
    rcases List.mem_append.1 hc with hc | hc
    · obtain ⟨c0, ⟨s, hs, he⟩, hq⟩ := h.from_ c hc
      exact ⟨c0, ⟨s, .inl hs, he⟩, hq⟩
    · obtain ⟨c0, ce, hq⟩ := a c hc
      exact ⟨c0, ⟨i, .inr rfl, ce⟩, hq⟩
  · rcases hs with hs | rfl
    · exact F.mono _ (h.roots s hs)
    · exact F.self

theorem Eps.acc {T : Txt} {I : List Inst} {i : Nat} {s c : Int} (h : Eps I (fun t => T.hold t i) s c) : ∀ (n j : Nat), Acc T I n c i j → ∃ m, Acc T I m s i j := by
  induction h with
  | refl s => exact fun n j ha => ⟨n, ha⟩
  | x h0 hq ho _ ih =>
    intro n j ha
    obtain ⟨m, hm⟩ := ih n j ha
    rcases ho with ho | ⟨ho, hc⟩
    · exact ⟨m + 1, h0, _, hq, .inr (.inr ⟨ho, .inl hm⟩)⟩
    · exact ⟨m + 1, h0, _, hq, .inr (.inl ⟨ho, hc, hm⟩)⟩
  | y h0 hq ho _ ih =>
    intro n j ha
    obtain ⟨m, hm⟩ := ih n j ha
    exact ⟨m + 1, h0, _, hq, .inr (.inr ⟨ho, .inr hm⟩)⟩

theorem Cl.acc {T : Txt} {I : List Inst} {i : Nat} {has : List Bool} {list : List Int} {R : Int → Prop} (hI : Sound I) (h : Cl I (fun t => T.hold t i) has list R) :
    ∀ (n : Nat) (s : Int) (j : Nat), 0 ≤ s → marked has s.toNat → Acc T I n s i j → ∃ c ∈ list, ∃ m, Acc T I m c i j
  | 0, s, j, h0, hm, ha => by
    have ha' := ha
    obtain ⟨_, _, q, hq, ho⟩ := ha
    refine ⟨s, ?_, 0, ha'⟩
    have := h.told _ q hm hq (by omega) (by omega)
    rwa [Int.toNat_of_nonneg h0] at this
  | n + 1, s, j, h0, hm, ha => by
    have ha' := ha
    obtain ⟨_, q, hq, hc⟩ := ha
    obtain ⟨_, hx, hy⟩ := hI _ _ hq
    obtain ⟨c1, c2⟩ := h.closed _ q hm hq
    rcases hc with ⟨ho, _⟩ | ⟨ho, hh, hr⟩ | ⟨ho, hr | hr⟩
    · refine ⟨s, ?_, n + 1, ha'⟩
      have := h.told _ q hm hq (by omega) (by omega)
      rwa [Int.toNat_of_nonneg h0] at this
    · exact Cl.acc hI h n q.x j (hx (by simp [ho])).1 (c1 (.inr ⟨ho, hh⟩)) hr
    · exact Cl.acc hI h n q.x j (hx (by simp [ho])).1 (c1 (.inl ho)) hr
    · exact Cl.acc hI h n q.y j (hy ho).1 (c2 ho) hr

theorem Cl.all {T : Txt} {I : List Inst} {i : Nat} {has : List Bool} {list : List Int} {R : Int → Prop} (hI : Sound I) (hR : ∀ s, R s → 0 ≤ s) (h : Cl I (fun t => T.hold t i) has list R) (j : Nat) :
    (∃ c ∈ list, ∃ m, Acc T I m c i j) ↔ ∃ s, R s ∧ ∃ m, Acc T I m s i j := by
  constructor
  · rintro ⟨c, hc, m, ha⟩
    obtain ⟨_, ⟨s, hs, he⟩, _⟩ := h.from_ c hc
    exact ⟨s, hs, he.acc m j ha⟩
  · rintro ⟨s, hs, m, ha⟩
    exact h.acc hI m s j (hR s hs) (h.roots s hs) ha

/-! ### One character further on -/
/-- The instructions of a list that a character fits, followed one by one. -/
def stepF (I : List Inst) (fit : Rx → Bool) (chk : Rx → Bool) (f : Nat) : List Int → List Bool → List Int → Option (List Bool × List Int)
  | [], has, out => some (has, out)
  | c :: rest, has, out =>
    match I[c.toNat]? with
    | none => none
    | some q => if q.op = 0 ∧ fit q.node = true then (followF I chk f has out q.x).bind fun r => stepF I fit chk f rest r.1 r.2
      else stepF I fit chk f rest has out

theorem step_ends {I : List Inst} {fit chk : Rx → Bool} {f : Nat} (hI : Sound I) (hf : I.length < f) : ∀ (l : List Int) (has : List Bool) (out : List Int) (R : Int → Prop), Cl I chk has out R → (∀ c ∈ l, 0 ≤ c ∧ ∃ q, I[c.toNat]? = some q) →
    ∃ r, stepF I fit chk f l has out = some r ∧ Cl I chk r.1 r.2 (fun s => R s ∨ ∃ c ∈ l, ∃ q, I[c.toNat]? = some q ∧ q.op = 0 ∧ fit q.node = true ∧ s = q.x)
  | [], has, out, R, h, hl => by
    refine ⟨_, rfl, ?_⟩
    simpa using h
  | c :: rest, has, out, R, h, hl => by
    obtain ⟨h0, q, hq⟩ := hl c (by simp)
    have hrest : ∀ c ∈ rest, 0 ≤ c ∧ ∃ q, I[c.toNat]? = some q := fun c hc => hl c (by simp [hc])
    simp only [stepF, hq]
    by_cases hc : q.op = 0 ∧ fit q.node = true
    · rw [if_pos hc]
      obtain ⟨hx0, hx1⟩ := (hI _ _ hq).2.1 (.inl hc.1)
      obtain ⟨r1, hr1, hl1, _⟩ := follow_ends (chk := chk) hI f has out q.x h.len hx0 hx1 (by have := bare_le has; have := h.len; omega)
      obtain ⟨F1, _⟩ := follow_met f has out q.x r1 hx0 hI hx1 h.len hr1
      obtain ⟨r, hr, hC⟩ := step_ends hI hf rest r1.1 r1.2 _ (h.step hl1 F1) hrest
      refine ⟨r, by rw [hr1]; exact hr, ?_⟩
      have e : (fun s => (R s ∨ s = q.x) ∨ ∃ c ∈ rest, ∃ q, I[c.toNat]? = some q ∧ q.op = 0 ∧ fit q.node = true ∧ s = q.x) = (fun s => R s ∨ ∃ d ∈ c :: rest, ∃ q, I[d.toNat]? = some q ∧ q.op = 0 ∧ fit q.node = true ∧ s = q.x) := by
        funext s
        apply propext
        constructor
        · rintro ((h | h) | ⟨d, hd, p, hp⟩)
          · exact .inl h
          · exact .inr ⟨c, by simp, q, hq, hc.1, hc.2, h⟩
          · exact .inr ⟨d, by simp [hd], p, hp⟩
        · rintro (h | ⟨d, hd, p, hp, h1, h2, h3⟩)
          · exact .inl (.inl h)
          · rcases List.mem_cons.1 hd with rfl | hd
            · rw [hq] at hp; obtain rfl := Option.some.inj hp
              exact .inl (.inr h3)
            · exact .inr ⟨d, hd, p, hp, h1, h2, h3⟩
      rw [e] at hC
      exact hC
    · rw [if_neg hc]
      obtain ⟨r, hr, hC⟩ := step_ends hI hf rest has out R h hrest
      refine ⟨r, hr, ?_⟩
      have e : (fun s => R s ∨ ∃ c ∈ rest, ∃ q, I[c.toNat]? = some q ∧ q.op = 0 ∧ fit q.node = true ∧ s = q.x) = (fun s => R s ∨ ∃ d ∈ c :: rest, ∃ q, I[d.toNat]? = some q ∧ q.op = 0 ∧ fit q.node = true ∧ s = q.x) := by
        funext s
        apply propext
        constructor
        · rintro (h | ⟨d, hd, p, hp⟩)
          · exact .inl h
          · exact .inr ⟨d, by simp [hd], p, hp⟩
        · rintro (h | ⟨d, hd, p, hp, h1, h2, h3⟩)
          · exact .inl h
          · rcases List.mem_cons.1 hd with rfl | hd
            · rw [hq] at hp; obtain rfl := Option.some.inj hp
              exact absurd ⟨h1, h2⟩ hc
            · exact .inr ⟨d, hd, p, hp, h1, h2, h3⟩
      rw [e] at hC
      exact hC

/-- What is accepted from a list: at this very place, or from one character further on. -/
theorem list_acc {T : Txt} {I : List Inst} {list : List Int} (i j : Nat) (hl : ∀ c ∈ list, 0 ≤ c ∧ ∃ q, I[c.toNat]? = some q ∧ q.op ≠ 1 ∧ q.op ≠ 2) :
    (∃ c ∈ list, ∃ m, Acc T I m c i j) ↔ (j = i ∧ ∃ c ∈ list, ∃ q, I[c.toNat]? = some q ∧ q.op = 3) ∨
      (T.has i = true ∧ ∃ s, (∃ c ∈ list, ∃ q, I[c.toNat]? = some q ∧ q.op = 0 ∧ T.fit q.node i = true ∧ s = q.x) ∧ ∃ m, Acc T I m s (T.nxt i) j) := by
  constructor
  · rintro ⟨c, hc, m, ha⟩
    match m, ha with
    | 0, ha =>
      obtain ⟨rfl, _, q, hq, ho⟩ := ha
      exact .inl ⟨rfl, c, hc, q, hq, ho⟩
    | m + 1, ha =>
      obtain ⟨_, q, hq, h⟩ := ha
      obtain ⟨_, q', hq', n1, n2⟩ := hl c hc
      rw [hq] at hq'; obtain rfl := Option.some.inj hq'
      rcases h with ⟨ho, hh, hf, hr⟩ | ⟨ho, _⟩ | ⟨ho, _⟩
      · exact .inr ⟨hh, q.x, ⟨c, hc, q, hq, ho, hf, rfl⟩, m, hr⟩
      · exact absurd ho n1
      · exact absurd ho n2
  · rintro (⟨rfl, c, hc, q, hq, ho⟩ | ⟨hh, s, ⟨c, hc, q, hq, ho, hf, rfl⟩, m, ha⟩)
    · exact ⟨c, hc, 0, rfl, (hl c hc).1, q, hq, ho⟩
    · exact ⟨c, hc, m + 1, (hl c hc).1, q, hq, .inl ⟨ho, hh, hf, ha⟩⟩

/-! ### The longest match from a place -/
def isMatch (I : List Inst) (c : Int) : Bool := match I[c.toNat]? with | some q => q.op == 3 | none => false

def longF (T : Txt) (I : List Inst) (f : Nat) : Nat → Nat → List Int → Int → Option Int
  | 0, _, _, _ => none
  | k + 1, i, list, e =>
    if T.has i = false ∨ list = [] then some (if list.any (isMatch I) = true then (i : Int) else e)
    else (stepF I (fun t => T.fit t i) (fun t => T.hold t (T.nxt i)) f list (List.replicate I.length false) []).bind fun r =>
      longF T I f k (T.nxt i) r.2 (if list.any (isMatch I) = true then (i : Int) else e)

/-- The last of those that there are; e: there is none. -/
def Last (P : Nat → Prop) (e r : Int) : Prop := (r = e ∧ ∀ j, ¬ P j) ∨ ∃ j : Nat, r = j ∧ P j ∧ ∀ j', P j' → j' ≤ j

theorem Last.unique {P : Nat → Prop} {e r r' : Int} (h : Last P e r) (h' : Last P e r') : r = r' := by
  rcases h with ⟨h, hn⟩ | ⟨j, h, hj, hm⟩
  · rcases h' with ⟨h', _⟩ | ⟨j, _, hj, _⟩
    · rw [h, h']
    · exact absurd hj (hn j)
  · rcases h' with ⟨_, hn⟩ | ⟨j', h', hj', hm'⟩
    · exact absurd hj (hn j)
    · have := hm j' hj'; have := hm' j hj; omega

/-- Places rise, up to an end. -/
structure Txt.Fine (T : Txt) (n : Nat) : Prop where
  up : ∀ i, T.has i = true → i < T.nxt i ∧ T.nxt i ≤ n

theorem Acc.le {T : Txt} {n : Nat} (hT : T.Fine n) {I : List Inst} : ∀ (m : Nat) (s : Int) (i j : Nat), Acc T I m s i j → i ≤ j
  | 0, s, i, j, h => by obtain ⟨h, _⟩ := h; omega
  | m + 1, s, i, j, h => by
    obtain ⟨_, q, _, h⟩ := h
    rcases h with ⟨_, hh, _, h⟩ | ⟨_, _, h⟩ | ⟨_, h | h⟩
    · have := Acc.le hT m _ _ _ h; have := hT.up i hh; omega
    · exact Acc.le hT m _ _ _ h
    · exact Acc.le hT m _ _ _ h
    · exact Acc.le hT m _ _ _ h

theorem any_match {I : List Inst} {list : List Int} : list.any (isMatch I) = true ↔ ∃ c ∈ list, ∃ q, I[c.toNat]? = some q ∧ q.op = 3 := by
  rw [List.any_eq_true]
  constructor
  · rintro ⟨c, hc, h⟩
    unfold isMatch at h
    split at h
    · rename_i q hq; exact ⟨c, hc, q, hq, by simpa using h⟩
    · simp at h
  · rintro ⟨c, hc, q, hq, ho⟩
    exact ⟨c, hc, by unfold isMatch; rw [hq]; simp [ho]⟩

theorem long_ends {T : Txt} {n : Nat} (hT : T.Fine n) {I : List Inst} {f : Nat} (hI : Sound I) (hf : I.length < f) :
    ∀ (k i : Nat) (has : List Bool) (list : List Int) (R : Int → Prop) (e : Int), i ≤ n → n - i < k → (∀ s, R s → 0 ≤ s) → Cl I (fun t => T.hold t i) has list R →
    ∃ r, longF T I f k i list e = some r ∧ Last (fun j => ∃ c ∈ list, ∃ m, Acc T I m c i j) e r
  | 0, i, has, list, R, e, hi, hk, hR, hC => by omega
  | k + 1, i, has, list, R, e, hi, hk, hR, hC => by
    have hl : ∀ c ∈ list, 0 ≤ c ∧ ∃ q, I[c.toNat]? = some q ∧ q.op ≠ 1 ∧ q.op ≠ 2 := fun c hc => ⟨(hC.from_ c hc).1, (hC.from_ c hc).2.2⟩
    have hla := fun j => list_acc (T := T) (I := I) (list := list) i j hl
    simp only [longF]
    by_cases hs : T.has i = false ∨ list = []
    · rw [if_pos hs]
      refine ⟨_, rfl, ?_⟩
      have hno : ∀ j, (∃ c ∈ list, ∃ m, Acc T I m c i j) → j = i ∧ ∃ c ∈ list, ∃ q, I[c.toNat]? = some q ∧ q.op = 3 := fun j h => by
        rcases (hla j).1 h with h | ⟨hh, s, ⟨c, hc, _⟩, _⟩
        · exact h
        · rcases hs with hs | hs
          · rw [hs] at hh; cases hh
          · rw [hs] at hc; cases hc
      by_cases hm : list.any (isMatch I) = true
      · rw [if_pos hm]
        exact .inr ⟨i, rfl, (hla i).2 (.inl ⟨rfl, any_match.1 hm⟩), fun j' h => by rw [(hno j' h).1]; exact Nat.le_refl _⟩
      · rw [if_neg hm]
        exact .inl ⟨rfl, fun j h => hm (any_match.2 (hno j h).2)⟩
    · rw [if_neg hs]
      have hh : T.has i = true := by cases h : T.has i <;> simp_all
      obtain ⟨u1, u2⟩ := hT.up i hh
      obtain ⟨r, hr, hC'⟩ := step_ends (fit := fun t => T.fit t i) (chk := fun t => T.hold t (T.nxt i)) hI hf list _ _ _ (Cl.start I _) (fun c hc => by
        obtain ⟨h0, q, hq, _⟩ := hl c hc; exact ⟨h0, q, hq⟩)
      have hR' : ∀ s, (False ∨ ∃ c ∈ list, ∃ q, I[c.toNat]? = some q ∧ q.op = 0 ∧ T.fit q.node i = true ∧ s = q.x) → 0 ≤ s := by
        rintro s (h | ⟨c, hc, q, hq, ho, _, rfl⟩)
        · exact h.elim
        · exact ((hI _ _ hq).2.1 (.inl ho)).1
      obtain ⟨r', hr', hL⟩ := long_ends hT hI hf k (T.nxt i) r.1 r.2 _ (if list.any (isMatch I) = true then (i : Int) else e) u2 (by omega) hR' hC'
      refine ⟨r', by rw [hr]; exact hr', ?_⟩
      have hall := fun j => hC'.all hI hR' j
      have hnext : ∀ j, (∃ c ∈ r.2, ∃ m, Acc T I m c (T.nxt i) j) → ∃ c ∈ list, ∃ m, Acc T I m c i j := fun j h => by
        obtain ⟨s, hs, hm⟩ := (hall j).1 h
        exact (hla j).2 (.inr ⟨hh, s, hs.resolve_left id, hm⟩)
      have hback : ∀ j, (∃ c ∈ list, ∃ m, Acc T I m c i j) → (j = i ∧ list.any (isMatch I) = true) ∨ ∃ c ∈ r.2, ∃ m, Acc T I m c (T.nxt i) j := fun j h => by
        rcases (hla j).1 h with ⟨h1, h2⟩ | ⟨_, s, hs, hm⟩
        · exact .inl ⟨h1, any_match.2 h2⟩
        · exact .inr ((hall j).2 ⟨s, .inr hs, hm⟩)
      rcases hL with ⟨rfl, hn⟩ | ⟨j, rfl, hj, hmax⟩
      · by_cases hm : list.any (isMatch I) = true
        · rw [if_pos hm]
          refine .inr ⟨i, rfl, (hla i).2 (.inl ⟨rfl, any_match.1 hm⟩), fun j' h => ?_⟩
          rcases hback j' h with ⟨h1, _⟩ | h1
          · omega
          · exact absurd h1 (hn j')
        · rw [if_neg hm]
          refine .inl ⟨rfl, fun j h => ?_⟩
          rcases hback j h with ⟨_, h1⟩ | h1
          · exact hm h1
          · exact hn j h1
      · refine .inr ⟨j, rfl, hnext j hj, fun j' h => ?_⟩
        rcases hback j' h with ⟨h1, _⟩ | h1
        · obtain ⟨c, _, m, ha⟩ := hj
          have := Acc.le hT m _ _ _ ha
          omega
        · exact hmax j' h1

/-! ### The instructions of a tree -/
mutual
/-- What of a valid tree the making leans on. -/
def Makes : Rx → Prop
  | .mk kind _ _ _ mn mx kids => (kind = 6 → kids ≠ []) ∧ (kind = 7 → kids ≠ [] ∧ 0 ≤ mn ∧ (0 ≤ mx → mn ≤ mx)) ∧ MakesAll kids
def MakesAll : List Rx → Prop
  | [] => True
  | k :: ks => Makes k ∧ MakesAll ks
end

def optF (F : Int → List Inst → Int × List Inst) : Nat → Int → List Inst → Int × List Inst
  | 0, next, I => (next, I)
  | m + 1, next, I => optF F m (F next I).2.length ((F next I).2 ++ [⟨2, noNode, (F next I).1, next⟩])
def timesF (F : Int → List Inst → Int × List Inst) : Nat → Int → List Inst → Int × List Inst
  | 0, next, I => (next, I)
  | m + 1, next, I => timesF F m (F next I).1 (F next I).2
/-- An instruction's first way on, set. -/
def setX (I : List Inst) (n : Nat) (c : Int) : List Inst := match I[n]? with | some q => I.set n { q with x := c } | none => I
def starF (F : Int → List Inst → Int × List Inst) (next : Int) (I : List Inst) : Int × List Inst :=
  (I.length, setX (F I.length (I ++ [⟨2, noNode, 0, next⟩])).2 I.length (F I.length (I ++ [⟨2, noNode, 0, next⟩])).1)

mutual
def make : Rx → Int → List Inst → Int × List Inst
  | .mk kind code neg set mn mx kids => fun next I =>
    if kind = 1 then (next, I)
    else if kind = 2 ∨ kind = 3 ∨ kind = 4 then (I.length, I ++ [⟨0, .mk kind code neg set mn mx kids, next, 0⟩])
    else if kind = 5 then makeCat kids next I
    else if kind = 6 then makeAlt kids next I
    else if kind = 7 then
      let r0 := if mx < 0 then starF (fun n J => makeHd kids n J) next I else (next, I)
      let r1 := optF (fun n J => makeHd kids n J) (mx - mn).toNat r0.1 r0.2
      timesF (fun n J => makeHd kids n J) mn.toNat r1.1 r1.2
    else (I.length, I ++ [⟨1, .mk kind code neg set mn mx kids, next, 0⟩])
def makeCat : List Rx → Int → List Inst → Int × List Inst
  | [] => fun next I => (next, I)
  | k :: ks => fun next I => make k (makeCat ks next I).1 (makeCat ks next I).2
def makeAlt : List Rx → Int → List Inst → Int × List Inst
  | [] => fun next I => (next, I)
  | k :: ks => fun next I =>
    if ks = [] then make k next I
    else (((make k next (makeAlt ks next I).2).2.length : Int), (make k next (makeAlt ks next I).2).2 ++ [⟨2, noNode, (make k next (makeAlt ks next I).2).1, (makeAlt ks next I).1⟩])
def makeHd : List Rx → Int → List Inst → Int × List Inst
  | [] => fun next I => (next, I)
  | k :: _ => fun next I => make k next I
end

def OkInst (n : Nat) (q : Inst) : Prop :=
  (q.op = 0 ∨ q.op = 1 ∨ q.op = 2 ∨ q.op = 3) ∧ (q.op = 0 ∨ q.op = 1 ∨ q.op = 2 → 0 ≤ q.x ∧ q.x < n) ∧ (q.op = 2 → 0 ≤ q.y ∧ q.y < n)
theorem OkInst.more {n m : Nat} {q : Inst} (h : OkInst n q) (hm : n ≤ m) : OkInst m q :=
  ⟨h.1, fun x => by have := h.2.1 x; omega, fun x => by have := h.2.2 x; omega⟩

structure Made (F : List Inst → Int → Int → Prop) (next : Int) (I : List Inst) (r : Int × List Inst) : Prop where
  keep : ∀ j, j < I.length → r.2[j]? = I[j]?
  len : I.length ≤ r.2.length
  start : 0 ≤ r.1 ∧ r.1 < r.2.length
  sound : ∀ (j : Nat) (q : Inst), I.length ≤ j → r.2[j]? = some q → OkInst r.2.length q
  frag : ∀ J : List Inst, (∀ j, I.length ≤ j → j < r.2.length → J[j]? = r.2[j]?) → F J r.1 next

theorem made_snoc (F : List Inst → Int → Int → Prop) (next : Int) (I : List Inst) (q : Inst) (hq : OkInst (I.length + 1) q)
    (hF : ∀ J : List Inst, J[I.length]? = some q → F J I.length next) : Made F next I (I.length, I ++ [q]) := by
  refine ⟨fun j hj => by simp [List.getElem?_append_left hj], by simp, by simp; omega, fun j p hj hp => ?_, fun J hJ => ?_⟩
  · obtain rfl : j = I.length := by have := (List.getElem?_eq_some_iff.1 hp).1; simp at this; omega
    simp at hp; subst hp; simpa using hq
  · apply hF
    rw [hJ I.length (Nat.le_refl _) (by simp)]; simp

/-- One made behind another. -/
theorem Made.then_ {F G H : List Inst → Int → Int → Prop} {next : Int} {I : List Inst} {r r' : Int × List Inst} (h : Made F next I r) (k : Made G r.1 r.2 r')
    (hH : ∀ (J : List Inst), F J r.1 next → G J r'.1 r.1 → H J r'.1 next) : Made H next I r' := by
  refine ⟨fun j hj => by rw [k.keep j (by have := h.len; omega), h.keep j hj], Nat.le_trans h.len k.len, k.start, fun j q hj hq => ?_, fun J hJ => ?_⟩
  · by_cases hjr : j < r.2.length
    · rw [k.keep j hjr] at hq
      exact (h.sound j q hj hq).more k.len
    · exact k.sound j q (by omega) hq
  · refine hH J (h.frag J fun j h1 h2 => ?_) (k.frag J fun j h1 h2 => hJ j (by have := h.len; omega) h2)
    rw [hJ j h1 (by have := k.len; omega), k.keep j h2]

theorem times_made {K : List Inst → Int → Int → Prop} {F : Int → List Inst → Int × List Inst} (hF : ∀ next I, 0 ≤ next → next < I.length → Made K next I (F next I)) :
    ∀ (m : Nat) (next : Int) (I : List Inst), 0 ≤ next → next < I.length → Made (fun J => FragTimes (K J) m) next I (timesF F m next I)
  | 0, next, I, h0, h1 => ⟨fun _ _ => rfl, Nat.le_refl _, ⟨h0, h1⟩, fun j q hj hq => by have := (List.getElem?_eq_some_iff.1 hq).1; simp only [timesF] at this; omega, fun J _ => rfl⟩
  | m + 1, next, I, h0, h1 => by
    have h := hF next I h0 h1
    refine h.then_ (times_made hF m _ _ h.start.1 h.start.2) fun J hk ht => ?_
    have key : ∀ (m : Nat) (a b c : Int), FragTimes (K J) m a b → K J b c → FragTimes (K J) (m + 1) a c := by
      intro m
      induction m with
      | zero => intro a b c h1 h2; simp only [FragTimes] at h1 ⊢; subst h1; exact ⟨c, h2, rfl⟩
      | succ m ih =>
        intro a b c h1 h2
        simp only [FragTimes] at h1
        obtain ⟨d, hd, hm⟩ := h1
        exact ⟨d, hd, ih _ _ _ hm h2⟩
    exact key m _ _ _ ht hk

theorem opt_made {K : List Inst → Int → Int → Prop} {F : Int → List Inst → Int × List Inst} (hF : ∀ next I, 0 ≤ next → next < I.length → Made K next I (F next I)) :
    ∀ (m : Nat) (next : Int) (I : List Inst), 0 ≤ next → next < I.length → Made (fun J => FragOpt J (K J) m) next I (optF F m next I)
  | 0, next, I, h0, h1 => ⟨fun _ _ => rfl, Nat.le_refl _, ⟨h0, h1⟩, fun j q hj hq => by have := (List.getElem?_eq_some_iff.1 hq).1; simp only [optF] at this; omega, fun J _ => rfl⟩
  | m + 1, next, I, h0, h1 => by
    have h := hF next I h0 h1
    have h2 : Made (fun J a b => 0 ≤ a ∧ ∃ q, J[a.toNat]? = some q ∧ q.op = 2 ∧ q.y = next ∧ K J q.x next) next I (((F next I).2.length : Int), (F next I).2 ++ [⟨2, noNode, (F next I).1, next⟩]) := by
      refine ⟨fun j hj => ?_, by have := h.len; simp; omega, by simp; omega, fun j p hj hp => ?_, fun J hJ => ?_⟩
      · rw [List.getElem?_append_left (by have := h.len; omega), h.keep j hj]
      · by_cases hjr : j < (F next I).2.length
        · rw [List.getElem?_append_left hjr] at hp
          exact (h.sound j p hj hp).more (by simp)
        · rw [List.getElem?_append_right (by omega)] at hp
          obtain ⟨hlt, hp⟩ := List.getElem?_eq_some_iff.1 hp
          simp at hlt
          have : j - (F next I).2.length = 0 := by omega
          simp [this] at hp
          subst hp
          have := h.start; have := h.len
          refine ⟨by simp, fun _ => ?_, fun _ => ?_⟩ <;> simp <;> omega
      · refine ⟨by simp, ⟨2, noNode, (F next I).1, next⟩, ?_, rfl, rfl, ?_⟩
        · have := h.len
          rw [Int.toNat_natCast, hJ _ (by omega) (by simp)]
          simp
        · refine h.frag J fun j h1 h2 => ?_
          rw [hJ j h1 (by simp; omega), List.getElem?_append_left h2]
    refine h2.then_ (opt_made hF m _ _ h2.start.1 h2.start.2) fun J hk ht => ?_
    have key : ∀ (m : Nat) (a b : Int), FragOpt J (K J) m a b → (0 ≤ b ∧ ∃ q, J[b.toNat]? = some q ∧ q.op = 2 ∧ q.y = next ∧ K J q.x next) → FragOpt J (K J) (m + 1) a next := by
      intro m
      induction m with
      | zero =>
        intro a b h1 h2
        simp only [FragOpt] at h1 ⊢
        subst h1
        obtain ⟨h0, q, hq, ho, hy, hx⟩ := h2
        exact ⟨h0, q, hq, ho, by rw [hy]; exact hx, hy⟩
      | succ m ih =>
        intro a b h1 h2
        simp only [FragOpt] at h1
        obtain ⟨h0, q, hq, ho, hx, hm⟩ := h1
        exact ⟨h0, q, hq, ho, hx, ih _ _ hm h2⟩
    exact key m _ _ ht hk

theorem star_made {K : List Inst → Int → Int → Prop} {F : Int → List Inst → Int × List Inst} (hF : ∀ next I, 0 ≤ next → next < I.length → Made K next I (F next I))
    (next : Int) (I : List Inst) (h0 : 0 ≤ next) (h1 : next < I.length) : Made (fun J a b => 0 ≤ a ∧ ∃ q, J[a.toNat]? = some q ∧ q.op = 2 ∧ q.y = b ∧ K J q.x a) next I (starF F next I) := by
  have hn := hF I.length (I ++ [⟨2, noNode, 0, next⟩]) (by omega) (by simp; omega)
  have hlen := hn.len
  have hst := hn.start
  unfold starF
  generalize F I.length (I ++ [⟨2, noNode, 0, next⟩]) = r at *
  simp at hlen
  have hloop : r.2[I.length]? = some ⟨2, noNode, 0, next⟩ := by rw [hn.keep _ (by simp)]; simp
  have hset : setX r.2 I.length r.1 = r.2.set I.length ⟨2, noNode, r.1, next⟩ := by unfold setX; rw [hloop]
  rw [hset]
  refine ⟨fun j hj => ?_, by simp; omega, by simp; omega, fun j q hj hq => ?_, fun J hJ => ?_⟩
  · simp only
    rw [List.getElem?_set_ne (by omega), hn.keep j (by simp; omega), List.getElem?_append_left hj]
  · simp only at hq ⊢
    rw [List.length_set]
    by_cases he : I.length = j
    · subst he
      rw [List.getElem?_set_self (by omega)] at hq
      obtain rfl := Option.some.inj hq
      refine ⟨by simp, fun _ => ?_, fun _ => ?_⟩ <;> simp <;> omega
    · rw [List.getElem?_set_ne he] at hq
      exact hn.sound j q (by simp; omega) hq
  · simp only at hJ ⊢
    refine ⟨by omega, ⟨2, noNode, r.1, next⟩, ?_, rfl, rfl, ?_⟩
    · rw [Int.toNat_natCast, hJ _ (Nat.le_refl _) (by simp; omega), List.getElem?_set_self (by omega)]
    · refine hn.frag J fun j h1 h2 => ?_
      simp at h1
      rw [hJ j (by omega) (by simp; omega), List.getElem?_set_ne (by omega)]

mutual
theorem make_made : ∀ (t : Rx) (next : Int) (I : List Inst), Makes t → 0 ≤ next → next < I.length → Made (fun J => Frag J t) next I (make t next I)
  | .mk kind code neg set mn mx kids, next, I, hg, h0, h1 => by
    simp only [Makes] at hg
    obtain ⟨g6, g7, gk⟩ := hg
    simp only [make, Frag]
    by_cases c1 : kind = 1
    · simp only [if_pos c1]
      exact ⟨fun _ _ => rfl, Nat.le_refl _, ⟨h0, h1⟩, fun j q hj hq => by have := (List.getElem?_eq_some_iff.1 hq).1; simp only at this; omega, fun J _ => rfl⟩
    simp only [if_neg c1]
    by_cases c2 : kind = 2 ∨ kind = 3 ∨ kind = 4
    · simp only [if_pos c2]
      exact made_snoc _ _ _ _ ⟨by simp, fun _ => by simp; omega, by simp⟩ fun J hJ => ⟨by omega, 0, by simpa using hJ⟩
    simp only [if_neg c2]
    by_cases c5 : kind = 5
    · simp only [if_pos c5]
      exact makeCat_made kids next I gk h0 h1
    simp only [if_neg c5]
    by_cases c6 : kind = 6
    · simp only [if_pos c6]
      exact makeAlt_made kids next I (g6 c6) gk h0 h1
    simp only [if_neg c6]
    by_cases c7 : kind = 7
    · simp only [if_pos c7]
      obtain ⟨gn, gm, gx⟩ := g7 c7
      have hF : ∀ next I, 0 ≤ next → next < I.length → Made (fun J a b => FragHd J kids a b) next I (makeHd kids next I) := fun next I a b => makeHd_made kids next I gn gk a b
      by_cases cx : mx < 0
      · simp only [if_pos cx]
        have hz : (mx - mn).toNat = 0 := by omega
        rw [hz]
        have h2 := star_made hF next I h0 h1
        simp only [optF]
        refine h2.then_ (times_made hF mn.toNat _ _ h2.start.1 h2.start.2) fun J hk ht => ?_
        exact ⟨⟨gm, gx⟩, _, hk, ht⟩
      · simp only [if_neg cx]
        have h2 := opt_made hF (mx - mn).toNat next I h0 h1
        refine h2.then_ (times_made hF mn.toNat _ _ h2.start.1 h2.start.2) fun J hk ht => ?_
        exact ⟨⟨gm, gx⟩, _, hk, ht⟩
    simp only [if_neg c7]
    exact made_snoc _ _ _ _ ⟨by simp, fun _ => by simp; omega, by simp⟩ fun J hJ => ⟨by omega, 0, by simpa using hJ⟩
theorem makeCat_made : ∀ (ks : List Rx) (next : Int) (I : List Inst), MakesAll ks → 0 ≤ next → next < I.length → Made (fun J => FragCat J ks) next I (makeCat ks next I)
  | [], next, I, hg, h0, h1 => ⟨fun _ _ => by simp [makeCat], by simp [makeCat], by simp [makeCat]; omega, fun j q hj hq => by have := (List.getElem?_eq_some_iff.1 hq).1; simp only [makeCat] at this; omega, fun J _ => by simp [makeCat, FragCat]⟩
  | k :: ks, next, I, hg, h0, h1 => by
    simp only [MakesAll] at hg
    have h2 := makeCat_made ks next I hg.2 h0 h1
    simp only [makeCat]
    refine h2.then_ (make_made k _ _ hg.1 h2.start.1 h2.start.2) fun J hk ht => ?_
    simp only [FragCat]
    exact ⟨_, ht, hk⟩
theorem makeAlt_made : ∀ (ks : List Rx) (next : Int) (I : List Inst), ks ≠ [] → MakesAll ks → 0 ≤ next → next < I.length → Made (fun J => FragAlt J ks) next I (makeAlt ks next I)
  | [], next, I, hn, hg, h0, h1 => absurd rfl hn
  | k :: ks, next, I, hn, hg, h0, h1 => by
    simp only [MakesAll] at hg
    simp only [makeAlt]
    by_cases hk : ks = []
    · simp only [if_pos hk]
      have h2 := make_made k next I hg.1 h0 h1
      exact ⟨h2.keep, h2.len, h2.start, h2.sound, fun J hJ => by simp only [FragAlt]; exact .inl ⟨hk, h2.frag J hJ⟩⟩
    · simp only [if_neg hk]
      have h2 := makeAlt_made ks next I hk hg.2 h0 h1
      have h3 := make_made k next (makeAlt ks next I).2 hg.1 h0 (by have := h2.len; omega)
      generalize hr : make k next (makeAlt ks next I).2 = r at *
      generalize hp : makeAlt ks next I = p at *
      have e2 := h2.len; have e3 := h3.len; have s2 := h2.start; have s3 := h3.start
      refine ⟨fun j hj => ?_, by simp; omega, by simp; omega, fun j q hj hq => ?_, fun J hJ => ?_⟩
      · simp only
        rw [List.getElem?_append_left (by omega), h3.keep j (by omega), h2.keep j hj]
      · simp only at hq ⊢
        by_cases hjr : j < r.2.length
        · rw [List.getElem?_append_left hjr] at hq
          by_cases hjp : j < p.2.length
          · rw [h3.keep j hjp] at hq
            exact (h2.sound j q hj hq).more (by simp; omega)
          · exact (h3.sound j q (by omega) hq).more (by simp)
        · rw [List.getElem?_append_right (by omega)] at hq
          obtain ⟨hlt, hq⟩ := List.getElem?_eq_some_iff.1 hq
          simp at hlt
          have : j - r.2.length = 0 := by omega
          simp [this] at hq
          subst hq
          refine ⟨by simp, fun _ => ?_, fun _ => ?_⟩ <;> simp <;> omega
      · simp only [FragAlt] at hJ ⊢
        refine .inr ⟨hk, by simp, ⟨2, noNode, r.1, p.1⟩, ?_, rfl, ?_, ?_⟩
        · rw [Int.toNat_natCast, hJ _ (by omega) (by simp)]; simp
        · refine h3.frag J fun j h4 h5 => ?_
          rw [hJ j (by omega) (by simp; omega), List.getElem?_append_left h5]
        · refine h2.frag J fun j h4 h5 => ?_
          rw [hJ j h4 (by simp; omega), List.getElem?_append_left (by omega), h3.keep j h5]
theorem makeHd_made : ∀ (ks : List Rx) (next : Int) (I : List Inst), ks ≠ [] → MakesAll ks → 0 ≤ next → next < I.length → Made (fun J => FragHd J ks) next I (makeHd ks next I)
  | [], next, I, hn, hg, h0, h1 => absurd rfl hn
  | k :: ks, next, I, hn, hg, h0, h1 => by
    simp only [MakesAll] at hg
    simp only [makeHd, FragHd]
    exact make_made k next I hg.1 h0 h1
end

/-- The program of a tree: its instructions, and where they begin. -/
def compiled (t : Rx) : Int × List Inst := make t 0 [⟨3, noNode, 0, 0⟩]

theorem compiled_sound {t : Rx} (h : Makes t) : Sound (compiled t).2 := by
  have hm := make_made t 0 [⟨3, noNode, 0, 0⟩] h (by omega) (by simp)
  intro s q hq
  by_cases h0 : s = 0
  · subst h0
    have := hm.keep 0 (by simp)
    unfold compiled at hq
    rw [this] at hq
    simp at hq; subst hq
    simp
  · exact hm.sound s q (by simp; omega) hq

theorem compiled_acc {T : Txt} {t : Rx} (h : Makes t) (i j : Nat) : (∃ m, Acc T (compiled t).2 m (compiled t).1 i j) ↔ den T t i j := by
  have hm := make_made t 0 [⟨3, noNode, 0, 0⟩] h (by omega) (by simp)
  have hf := hm.frag (compiled t).2 (fun j _ _ => rfl)
  have h0 : (compiled t).2[(0 : Int).toNat]? = some ⟨3, noNode, 0, 0⟩ := by
    have := hm.keep 0 (by simp)
    unfold compiled
    rw [Int.toNat_zero, this]; rfl
  constructor
  · rintro ⟨m, ha⟩
    obtain ⟨k, n, _, hd, hk⟩ := frag_sound t _ _ _ _ _ hf ha
    match n, hk with
    | 0, hk => obtain ⟨rfl, _⟩ := hk; exact hd
    | n + 1, hk =>
      obtain ⟨_, q, hq, hc⟩ := hk
      rw [h0] at hq
      obtain rfl := Option.some.inj hq
      simp at hc
  · intro hd
    exact frag_complete t _ _ 0 i j j hf hd ⟨rfl, by omega, _, h0, rfl⟩

theorem compiled_start {t : Rx} (h : Makes t) : 0 ≤ (compiled t).1 ∧ (compiled t).1 < (compiled t).2.length :=
  (make_made t 0 [⟨3, noNode, 0, 0⟩] h (by omega) (by simp)).start

/-- The longest match from a place: the first instruction followed, then character by character. -/
def longestF (T : Txt) (t : Rx) (f k : Nat) (i : Nat) : Option Int :=
  (followF (compiled t).2 (fun u => T.hold u i) f (List.replicate (compiled t).2.length false) [] (compiled t).1).bind fun r => longF T (compiled t).2 f k i r.2 (-1)

theorem longest_ends {T : Txt} {n : Nat} (hT : T.Fine n) {t : Rx} (h : Makes t) {f k i : Nat} (hf : (compiled t).2.length < f) (hi : i ≤ n) (hk : n - i < k) :
    ∃ r, longestF T t f k i = some r ∧ Last (den T t i) (-1) r := by
  have hI := compiled_sound h
  obtain ⟨s0, s1⟩ := compiled_start h
  obtain ⟨r1, hr1, hl1, _⟩ := follow_ends (chk := fun u => T.hold u i) hI f (List.replicate (compiled t).2.length false) [] _ (by simp) s0 s1 (by have := bare_le (List.replicate (compiled t).2.length false); simp at this; omega)
  obtain ⟨F1, _⟩ := follow_met f _ _ _ r1 s0 hI s1 (by simp) hr1
  have hC := (Cl.start (compiled t).2 (fun u => T.hold u i)).step hl1 F1
  have hR : ∀ s, (False ∨ s = (compiled t).1) → 0 ≤ s := by rintro s (h | rfl); exact h.elim; exact s0
  obtain ⟨r, hr, hL⟩ := long_ends hT hI hf k i r1.1 r1.2 _ (-1) hi hk hR hC
  refine ⟨r, by unfold longestF; rw [hr1]; exact hr, ?_⟩
  have e : (fun j => ∃ c ∈ r1.2, ∃ m, Acc T (compiled t).2 m c i j) = den T t i := by
    funext j
    apply propext
    rw [hC.all hI hR j, ← compiled_acc h i j]
    constructor
    · rintro ⟨s, h | rfl, hm⟩
      · exact h.elim
      · exact hm
    · rintro ⟨m, hm⟩
      exact ⟨_, .inr rfl, m, hm⟩
  rw [← e]
  exact hL

theorem iter_le {R : Nat → Nat → Prop} {n : Nat} (h : ∀ i j, i ≤ n → R i j → i ≤ j ∧ j ≤ n) : ∀ (m i j : Nat), i ≤ n → iter R m i j → i ≤ j ∧ j ≤ n
  | 0, i, j, hi, hr => by simp only [iter] at hr; subst hr; exact ⟨Nat.le_refl _, hi⟩
  | m + 1, i, j, hi, hr => by
    obtain ⟨k, hk, hr⟩ := hr
    have h1 := h i k hi hk
    have h2 := iter_le h m k j h1.2 hr
    omega

mutual
theorem den_le {T : Txt} {n : Nat} (hT : T.Fine n) : ∀ (t : Rx) (i j : Nat), i ≤ n → den T t i j → i ≤ j ∧ j ≤ n
  | .mk kind code neg set mn mx kids, i, j, hi, hd => by
    simp only [den] at hd
    by_cases c2 : kind = 2 ∨ kind = 3 ∨ kind = 4
    · rw [if_pos c2] at hd
      obtain ⟨rfl, hh, _⟩ := hd
      have := hT.up i hh
      omega
    rw [if_neg c2] at hd
    by_cases c5 : kind = 5
    · rw [if_pos c5] at hd; exact denCat_le hT kids i j hi hd
    rw [if_neg c5] at hd
    by_cases c6 : kind = 6
    · rw [if_pos c6] at hd; exact denAlt_le hT kids i j hi hd
    rw [if_neg c6] at hd
    by_cases c7 : kind = 7
    · rw [if_pos c7] at hd
      obtain ⟨m, _, _, hr⟩ := hd
      exact iter_le (fun i j => denHd_le hT kids i j) m i j hi hr
    rw [if_neg c7] at hd
    obtain ⟨rfl, _⟩ := hd
    exact ⟨Nat.le_refl _, hi⟩
theorem denCat_le {T : Txt} {n : Nat} (hT : T.Fine n) : ∀ (ks : List Rx) (i j : Nat), i ≤ n → denCat T ks i j → i ≤ j ∧ j ≤ n
  | [], i, j, hi, hd => by simp only [denCat] at hd; subst hd; exact ⟨Nat.le_refl _, hi⟩
  | k :: ks, i, j, hi, hd => by
    simp only [denCat] at hd
    obtain ⟨l, h1, h2⟩ := hd
    have a := den_le hT k i l hi h1
    have b := denCat_le hT ks l j a.2 h2
    omega
theorem denAlt_le {T : Txt} {n : Nat} (hT : T.Fine n) : ∀ (ks : List Rx) (i j : Nat), i ≤ n → denAlt T ks i j → i ≤ j ∧ j ≤ n
  | [], i, j, hi, hd => by simp only [denAlt] at hd
  | k :: ks, i, j, hi, hd => by
    simp only [denAlt] at hd
    rcases hd with hd | hd
    · exact den_le hT k i j hi hd
    · exact denAlt_le hT ks i j hi hd
theorem denHd_le {T : Txt} {n : Nat} (hT : T.Fine n) : ∀ (ks : List Rx) (i j : Nat), i ≤ n → denHd T ks i j → i ≤ j ∧ j ≤ n
  | [], i, j, hi, hd => by simp only [denHd] at hd
  | k :: ks, i, j, hi, hd => by simp only [denHd] at hd; exact den_le hT k i j hi hd
end

/-! ### One text told in two ways -/
structure Emb (T T' : Txt) (n : Nat) (φ : Nat → Nat) : Prop where
  fine : T.Fine n
  has : ∀ k, k ≤ n → T'.has (φ k) = T.has k
  nxt : ∀ k, k ≤ n → T.has k = true → T'.nxt (φ k) = φ (T.nxt k)
  fit : ∀ t k, k ≤ n → T.has k = true → T'.fit t (φ k) = T.fit t k
  hold : ∀ t k, k ≤ n → T'.hold t (φ k) = T.hold t k

theorem iter_emb {R R' : Nat → Nat → Prop} {n : Nat} {φ : Nat → Nat} (hle : ∀ i j, i ≤ n → R i j → i ≤ j ∧ j ≤ n) (h : ∀ k j, k ≤ n → (R' (φ k) j ↔ ∃ l, j = φ l ∧ R k l)) :
    ∀ (m k j : Nat), k ≤ n → (iter R' m (φ k) j ↔ ∃ l, j = φ l ∧ iter R m k l)
  | 0, k, j, hk => by
    simp only [iter]
    constructor
    · rintro rfl; exact ⟨k, rfl, rfl⟩
    · rintro ⟨l, rfl, rfl⟩; rfl
  | m + 1, k, j, hk => by
    simp only [iter]
    constructor
    · rintro ⟨x, hx, hr⟩
      obtain ⟨l, rfl, hR⟩ := (h k x hk).1 hx
      obtain ⟨p, rfl, hi⟩ := (iter_emb hle h m l j (hle k l hk hR).2).1 hr
      exact ⟨p, rfl, l, hR, hi⟩
    · rintro ⟨p, rfl, l, hR, hi⟩
      exact ⟨φ l, (h k _ hk).2 ⟨l, rfl, hR⟩, (iter_emb hle h m l _ (hle k l hk hR).2).2 ⟨p, rfl, hi⟩⟩

mutual
theorem den_emb {T T' : Txt} {n : Nat} {φ : Nat → Nat} (hE : Emb T T' n φ) : ∀ (t : Rx) (k j : Nat), k ≤ n → (den T' t (φ k) j ↔ ∃ l, j = φ l ∧ den T t k l)
  | .mk kind code neg set mn mx kids, k, j, hk => by
    simp only [den]
    by_cases c2 : kind = 2 ∨ kind = 3 ∨ kind = 4
    · simp only [if_pos c2]
      rw [hE.has k hk]
      constructor
      · rintro ⟨rfl, hh, hf⟩
        exact ⟨_, hE.nxt k hk hh, rfl, hh, by rw [← hE.fit _ k hk hh]; exact hf⟩
      · rintro ⟨l, rfl, rfl, hh, hf⟩
        exact ⟨(hE.nxt k hk hh).symm, hh, by rw [hE.fit _ k hk hh]; exact hf⟩
    simp only [if_neg c2]
    by_cases c5 : kind = 5
    · simp only [if_pos c5]; exact denCat_emb hE kids k j hk
    simp only [if_neg c5]
    by_cases c6 : kind = 6
    · simp only [if_pos c6]; exact denAlt_emb hE kids k j hk
    simp only [if_neg c6]
    by_cases c7 : kind = 7
    · simp only [if_pos c7]
      constructor
      · rintro ⟨m, h1, h2, hr⟩
        obtain ⟨l, rfl, hi⟩ := (iter_emb (R := denHd T kids) (fun i j => denHd_le hE.fine kids i j) (fun k j => denHd_emb hE kids k j) m k j hk).1 hr
        exact ⟨l, rfl, m, h1, h2, hi⟩
      · rintro ⟨l, rfl, m, h1, h2, hi⟩
        exact ⟨m, h1, h2, (iter_emb (R := denHd T kids) (fun i j => denHd_le hE.fine kids i j) (fun k j => denHd_emb hE kids k j) m k _ hk).2 ⟨l, rfl, hi⟩⟩
    simp only [if_neg c7]
    rw [hE.hold _ k hk]
    constructor
    · rintro ⟨rfl, h⟩; exact ⟨k, rfl, rfl, h⟩
    · rintro ⟨l, rfl, rfl, h⟩; exact ⟨rfl, h⟩
theorem denCat_emb {T T' : Txt} {n : Nat} {φ : Nat → Nat} (hE : Emb T T' n φ) : ∀ (ks : List Rx) (k j : Nat), k ≤ n → (denCat T' ks (φ k) j ↔ ∃ l, j = φ l ∧ denCat T ks k l)
  | [], k, j, hk => by
    simp only [denCat]
    constructor
    · rintro rfl; exact ⟨k, rfl, rfl⟩
    · rintro ⟨l, rfl, rfl⟩; rfl
  | t :: ks, k, j, hk => by
    simp only [denCat]
    constructor
    · rintro ⟨x, hx, hr⟩
      obtain ⟨l, rfl, hd⟩ := (den_emb hE t k x hk).1 hx
      obtain ⟨p, rfl, hi⟩ := (denCat_emb hE ks l j (den_le hE.fine t k l hk hd).2).1 hr
      exact ⟨p, rfl, l, hd, hi⟩
    · rintro ⟨p, rfl, l, hd, hi⟩
      exact ⟨φ l, (den_emb hE t k _ hk).2 ⟨l, rfl, hd⟩, (denCat_emb hE ks l _ (den_le hE.fine t k l hk hd).2).2 ⟨p, rfl, hi⟩⟩
theorem denAlt_emb {T T' : Txt} {n : Nat} {φ : Nat → Nat} (hE : Emb T T' n φ) : ∀ (ks : List Rx) (k j : Nat), k ≤ n → (denAlt T' ks (φ k) j ↔ ∃ l, j = φ l ∧ denAlt T ks k l)
  | [], k, j, hk => by simp only [denAlt]; simp
  | t :: ks, k, j, hk => by
    simp only [denAlt]
    rw [den_emb hE t k j hk, denAlt_emb hE ks k j hk]
    constructor
    · rintro (⟨l, h, hd⟩ | ⟨l, h, hd⟩)
      · exact ⟨l, h, .inl hd⟩
      · exact ⟨l, h, .inr hd⟩
    · rintro ⟨l, h, hd | hd⟩
      · exact .inl ⟨l, h, hd⟩
      · exact .inr ⟨l, h, hd⟩
theorem denHd_emb {T T' : Txt} {n : Nat} {φ : Nat → Nat} (hE : Emb T T' n φ) : ∀ (ks : List Rx) (k j : Nat), k ≤ n → (denHd T' ks (φ k) j ↔ ∃ l, j = φ l ∧ denHd T ks k l)
  | [], k, j, hk => by simp only [denHd]; simp
  | t :: ks, k, j, hk => by simp only [denHd]; exact den_emb hE t k j hk
end
end Thr
