/- NfaChoice returns true of every two texts, every string and every place: no condition beyond the statement's own (a part of its proof). -/
import Derived.Test.YtanmlgliibgpcaaDoorProg
import Derived.Below
import Derived.Laws.OwnMore
import Derived.Deep.Draws
import Derived.Laws.Rows
import Derived.Maps.AppendAt
import Derived.Deep.AppendLies
import Derived.OwnWalk
import Derived.WalkKit
import Derived.WalkLawsBesides
import Derived.WalkSpells
import Derived.Outline
import Derived.Lib.Hide
import Derived.BigQuiet
import Derived.Deep.QuietTactic
import Derived.Deep.DeepFit
import Derived.Deep.DeepMust
import Derived.Deep.LoopGhost
import Derived.Deep.RegionWith
import Derived.Deep.DeepCutAuto
import Derived.Deep.OwnRows

/- Plain Lean: trees of regular expressions, from where to where they lead, and the machine with splits that does the same. -/
namespace Thr

inductive Rx where
  | mk (kind code : Int) (neg : Bool) (set : List (Int × Int)) (min max : Int) (kids : List Rx)

namespace Rx
def kind : Rx → Int | mk k _ _ _ _ _ _ => k
def code : Rx → Int | mk _ c _ _ _ _ _ => c
def neg : Rx → Bool | mk _ _ n _ _ _ _ => n
def set : Rx → List (Int × Int) | mk _ _ _ s _ _ _ => s
def min : Rx → Int | mk _ _ _ _ m _ _ => m
def max : Rx → Int | mk _ _ _ _ _ m _ => m
def kids : Rx → List Rx | mk _ _ _ _ _ _ k => k
end Rx

/-- What is asked of a string: where a character stands, where the next one begins, which of them fit a node, which places do. -/
structure Txt where
  has : Nat → Bool
  nxt : Nat → Nat
  fit : Rx → Nat → Bool
  hold : Rx → Nat → Bool

def iter (R : Nat → Nat → Prop) : Nat → Nat → Nat → Prop
  | 0, i, j => i = j
  | m + 1, i, j => ∃ k, R i k ∧ iter R m k j

theorem iter_add (R : Nat → Nat → Prop) : ∀ (a b i j : Nat), iter R (a + b) i j ↔ ∃ k, iter R a i k ∧ iter R b k j
  | 0, b, i, j => by simp [iter]
  | a + 1, b, i, j => by
    rw [show a + 1 + b = (a + b) + 1 from by omega]
    simp only [iter, iter_add R a b]
    constructor
    · rintro ⟨k, h, l, h1, h2⟩; exact ⟨l, ⟨k, h, h1⟩, h2⟩
    · rintro ⟨l, ⟨k, h, h1⟩, h2⟩; exact ⟨k, h, l, h1, h2⟩

theorem iter_one (R : Nat → Nat → Prop) (i j : Nat) : iter R 1 i j ↔ R i j := by simp [iter]
theorem iter_snoc (R : Nat → Nat → Prop) (a i j : Nat) : iter R (a + 1) i j ↔ ∃ k, iter R a i k ∧ R k j := by
  rw [iter_add]; simp [iter]

mutual
def den (T : Txt) : Rx → Nat → Nat → Prop
  | .mk kind code neg set mn mx kids => fun i j =>
    if kind = 2 ∨ kind = 3 ∨ kind = 4 then j = T.nxt i ∧ T.has i = true ∧ T.fit (.mk kind code neg set mn mx kids) i = true
    else if kind = 5 then denCat T kids i j
    else if kind = 6 then denAlt T kids i j
    else if kind = 7 then ∃ m : Nat, mn ≤ m ∧ (mx < 0 ∨ (m : Int) ≤ mx) ∧ iter (denHd T kids) m i j
    else i = j ∧ (kind = 1 ∨ T.hold (.mk kind code neg set mn mx kids) i = true)
def denCat (T : Txt) : List Rx → Nat → Nat → Prop
  | [] => fun i j => i = j
  | k :: ks => fun i j => ∃ l, den T k i l ∧ denCat T ks l j
def denAlt (T : Txt) : List Rx → Nat → Nat → Prop
  | [] => fun _ _ => False
  | k :: ks => fun i j => den T k i j ∨ denAlt T ks i j
def denHd (T : Txt) : List Rx → Nat → Nat → Prop
  | [] => fun _ _ => False
  | k :: _ => den T k
end

/-- An instruction: 0 a character, 1 a check, 2 a split, 3 the match. -/
structure Inst where
  op : Int
  node : Rx
  x : Int
  y : Int

def noNode : Rx := .mk 0 0 false [] 0 0 []

/-- From an instruction at a place, in n steps, the match is come to at a place. -/
def Acc (T : Txt) (I : List Inst) : Nat → Int → Nat → Nat → Prop
  | 0, s, i, j => i = j ∧ 0 ≤ s ∧ ∃ q, I[s.toNat]? = some q ∧ q.op = 3
  | m + 1, s, i, j => 0 ≤ s ∧ ∃ q, I[s.toNat]? = some q ∧
      ((q.op = 0 ∧ T.has i = true ∧ T.fit q.node i = true ∧ Acc T I m q.x (T.nxt i) j) ∨
       (q.op = 1 ∧ T.hold q.node i = true ∧ Acc T I m q.x i j) ∨
       (q.op = 2 ∧ (Acc T I m q.x i j ∨ Acc T I m q.y i j)))

mutual
/-- The instructions of a node, from `start` on, go on at `next`. -/
def Frag (I : List Inst) : Rx → Int → Int → Prop
  | .mk kind code neg set mn mx kids => fun start next =>
    if kind = 1 then start = next
    else if kind = 2 ∨ kind = 3 ∨ kind = 4 then 0 ≤ start ∧ ∃ y, I[start.toNat]? = some ⟨0, .mk kind code neg set mn mx kids, next, y⟩
    else if kind = 5 then FragCat I kids start next
    else if kind = 6 then FragAlt I kids start next
    else if kind = 7 then
      (0 ≤ mn ∧ (0 ≤ mx → mn ≤ mx)) ∧ ∃ mid, (if mx < 0 then 0 ≤ mid ∧ ∃ q, I[mid.toNat]? = some q ∧ q.op = 2 ∧ q.y = next ∧ FragHd I kids q.x mid
        else FragOpt I (fun a b => FragHd I kids a b) (mx - mn).toNat mid next) ∧
        FragTimes (fun a b => FragHd I kids a b) mn.toNat start mid
    else 0 ≤ start ∧ ∃ y, I[start.toNat]? = some ⟨1, .mk kind code neg set mn mx kids, next, y⟩
def FragCat (I : List Inst) : List Rx → Int → Int → Prop
  | [] => fun a b => a = b
  | k :: ks => fun a b => ∃ c, Frag I k a c ∧ FragCat I ks c b
def FragAlt (I : List Inst) : List Rx → Int → Int → Prop
  | [] => fun _ _ => False
  | k :: ks => fun a b => (ks = [] ∧ Frag I k a b) ∨ (ks ≠ [] ∧ 0 ≤ a ∧ ∃ q, I[a.toNat]? = some q ∧ q.op = 2 ∧ Frag I k q.x b ∧ FragAlt I ks q.y b)
def FragHd (I : List Inst) : List Rx → Int → Int → Prop
  | [] => fun _ _ => False
  | k :: _ => Frag I k
/-- so many times, each of which may be left out -/
def FragOpt (I : List Inst) (F : Int → Int → Prop) : Nat → Int → Int → Prop
  | 0 => fun a b => a = b
  | m + 1 => fun a b => 0 ≤ a ∧ ∃ q, I[a.toNat]? = some q ∧ q.op = 2 ∧ F q.x q.y ∧ FragOpt I F m q.y b
def FragTimes (F : Int → Int → Prop) : Nat → Int → Int → Prop
  | 0 => fun a b => a = b
  | m + 1 => fun a b => ∃ c, F a c ∧ FragTimes F m c b
end

section
variable {T : Txt} {I : List Inst}

theorem times_sound {F : Int → Int → Prop} {R : Nat → Nat → Prop}
    (hF : ∀ a b n i j, F a b → Acc T I n a i j → ∃ k m, m ≤ n ∧ R i k ∧ Acc T I m b k j) :
    ∀ (c : Nat) (a b : Int) (n i j : Nat), FragTimes F c a b → Acc T I n a i j → ∃ k m, m ≤ n ∧ iter R c i k ∧ Acc T I m b k j
  | 0, a, b, n, i, j, h, ha => by
    simp only [FragTimes] at h; subst h
    exact ⟨i, n, Nat.le_refl _, rfl, ha⟩
  | c + 1, a, b, n, i, j, h, ha => by
    simp only [FragTimes] at h
    obtain ⟨d, h1, h2⟩ := h
    obtain ⟨k, m, hm, hr, hk⟩ := hF _ _ _ _ _ h1 ha
    obtain ⟨l, m', hm', hr', hl⟩ := times_sound hF c _ _ _ _ _ h2 hk
    exact ⟨l, m', by omega, ⟨k, hr, hr'⟩, hl⟩

theorem times_complete {F : Int → Int → Prop} {R : Nat → Nat → Prop}
    (hF : ∀ a b m i k j, F a b → R i k → Acc T I m b k j → ∃ n, Acc T I n a i j) :
    ∀ (c : Nat) (a b : Int) (m i k j : Nat), FragTimes F c a b → iter R c i k → Acc T I m b k j → ∃ n, Acc T I n a i j
  | 0, a, b, m, i, k, j, h, hr, ha => by
    simp only [FragTimes] at h; simp only [iter] at hr; subst h; subst hr
    exact ⟨m, ha⟩
  | c + 1, a, b, m, i, k, j, h, hr, ha => by
    simp only [FragTimes] at h
    obtain ⟨d, h1, h2⟩ := h
    obtain ⟨l, r1, r2⟩ := hr
    obtain ⟨n, hn⟩ := times_complete hF c _ _ _ _ _ _ h2 r2 ha
    exact hF _ _ _ _ _ _ h1 r1 hn

theorem opt_sound {F : Int → Int → Prop} {R : Nat → Nat → Prop}
    (hF : ∀ a b n i j, F a b → Acc T I n a i j → ∃ k m, m ≤ n ∧ R i k ∧ Acc T I m b k j) :
    ∀ (c : Nat) (a b : Int) (n i j : Nat), FragOpt I F c a b → Acc T I n a i j → ∃ e k m, m ≤ n ∧ e ≤ c ∧ iter R e i k ∧ Acc T I m b k j
  | 0, a, b, n, i, j, h, ha => by
    simp only [FragOpt] at h; subst h
    exact ⟨0, i, n, Nat.le_refl _, Nat.le_refl _, rfl, ha⟩
  | c + 1, a, b, n, i, j, h, ha => by
    simp only [FragOpt] at h
    obtain ⟨h0, q, hq, hop, hx, hy⟩ := h
    match n, ha with
    | 0, ha =>
      obtain ⟨_, _, q', hq', ho'⟩ := ha
      rw [hq] at hq'; obtain rfl := Option.some.inj hq'; omega
    | n + 1, ha =>
      obtain ⟨_, q', hq', h⟩ := ha
      rw [hq] at hq'; obtain rfl := Option.some.inj hq'
      rcases h with ⟨ho, _⟩ | ⟨ho, _⟩ | ⟨_, h | h⟩
      · omega
      · omega
      · obtain ⟨k, m, hm, hr, hk⟩ := hF _ _ _ _ _ hx h
        obtain ⟨e, l, m', hm', he, hr', hl⟩ := opt_sound hF c _ _ _ _ _ hy hk
        exact ⟨e + 1, l, m', by omega, by omega, ⟨k, hr, hr'⟩, hl⟩
      · obtain ⟨e, l, m', hm', he, hr', hl⟩ := opt_sound hF c _ _ _ _ _ hy h
        exact ⟨e, l, m', by omega, by omega, hr', hl⟩

theorem opt_complete {F : Int → Int → Prop} {R : Nat → Nat → Prop}
    (hF : ∀ a b m i k j, F a b → R i k → Acc T I m b k j → ∃ n, Acc T I n a i j) :
    ∀ (c : Nat) (e : Nat) (a b : Int) (m i k j : Nat), e ≤ c → FragOpt I F c a b → iter R e i k → Acc T I m b k j → ∃ n, Acc T I n a i j
  | 0, e, a, b, m, i, k, j, he, h, hr, ha => by
    obtain rfl : e = 0 := by omega
    simp only [FragOpt] at h; simp only [iter] at hr; subst h; subst hr
    exact ⟨m, ha⟩
  | c + 1, e, a, b, m, i, k, j, he, h, hr, ha => by
    simp only [FragOpt] at h
    obtain ⟨h0, q, hq, hop, hx, hy⟩ := h
    match e, hr with
    | 0, hr =>
      obtain ⟨n, hn⟩ := opt_complete hF c 0 _ _ _ _ _ _ (by omega) hy hr ha
      exact ⟨n + 1, h0, q, hq, .inr (.inr ⟨hop, .inr hn⟩)⟩
    | e + 1, hr =>
      obtain ⟨l, r1, r2⟩ := hr
      obtain ⟨n, hn⟩ := opt_complete hF c e _ _ _ _ _ _ (by omega) hy r2 ha
      obtain ⟨n', hn'⟩ := hF _ _ _ _ _ _ hx r1 hn
      exact ⟨n' + 1, h0, q, hq, .inr (.inr ⟨hop, .inl hn'⟩)⟩

theorem loop_sound {F : Int → Int → Prop} {R : Nat → Nat → Prop} {s next : Int} {q : Inst}
    (hq : I[s.toNat]? = some q) (hop : q.op = 2) (hy : q.y = next) (hx : F q.x s)
    (hF : ∀ a b n i j, F a b → Acc T I n a i j → ∃ k m, m ≤ n ∧ R i k ∧ Acc T I m b k j) :
    ∀ (n i j : Nat), Acc T I n s i j → ∃ e k m, m ≤ n ∧ iter R e i k ∧ Acc T I m next k j := by
  intro n
  induction n using Nat.strongRecOn with
  | _ n ih =>
    intro i j ha
    match n, ih, ha with
    | 0, ih, ha =>
      obtain ⟨_, _, q', hq', ho'⟩ := ha
      rw [hq] at hq'; obtain rfl := Option.some.inj hq'; omega
    | n + 1, ih, ha =>
      obtain ⟨_, q', hq', h⟩ := ha
      rw [hq] at hq'; obtain rfl := Option.some.inj hq'
      rcases h with ⟨ho, _⟩ | ⟨ho, _⟩ | ⟨_, h | h⟩
      · omega
      · omega
      · obtain ⟨k, m, hm, hr, hk⟩ := hF _ _ _ _ _ hx h
        obtain ⟨e, l, m', hm', hr', hl⟩ := ih m (by omega) _ _ hk
        exact ⟨e + 1, l, m', by omega, ⟨k, hr, hr'⟩, hl⟩
      · rw [hy] at h
        exact ⟨0, i, n, by omega, rfl, h⟩

theorem loop_complete {F : Int → Int → Prop} {R : Nat → Nat → Prop} {s next : Int} {q : Inst} (h0 : 0 ≤ s)
    (hq : I[s.toNat]? = some q) (hop : q.op = 2) (hy : q.y = next) (hx : F q.x s)
    (hF : ∀ a b m i k j, F a b → R i k → Acc T I m b k j → ∃ n, Acc T I n a i j) :
    ∀ (e m i k j : Nat), iter R e i k → Acc T I m next k j → ∃ n, Acc T I n s i j
  | 0, m, i, k, j, hr, ha => by
    simp only [iter] at hr; subst hr
    exact ⟨m + 1, h0, q, hq, .inr (.inr ⟨hop, .inr (by rw [hy]; exact ha)⟩)⟩
  | e + 1, m, i, k, j, hr, ha => by
    obtain ⟨l, r1, r2⟩ := hr
    obtain ⟨n, hn⟩ := loop_complete h0 hq hop hy hx hF e _ _ _ _ r2 ha
    obtain ⟨n', hn'⟩ := hF _ _ _ _ _ _ hx r1 hn
    exact ⟨n' + 1, h0, q, hq, .inr (.inr ⟨hop, .inl hn'⟩)⟩

mutual
theorem frag_sound : ∀ (t : Rx) (a b : Int) (n i j : Nat), Frag I t a b → Acc T I n a i j → ∃ k m, m ≤ n ∧ den T t i k ∧ Acc T I m b k j
  | .mk kind code neg set mn mx kids, a, b, n, i, j, hf, ha => by
    simp only [Frag] at hf
    simp only [den]
    by_cases h1 : kind = 1
    · rw [if_pos h1] at hf; subst hf; subst h1
      exact ⟨i, n, Nat.le_refl _, by simp, ha⟩
    rw [if_neg h1] at hf
    by_cases h2 : kind = 2 ∨ kind = 3 ∨ kind = 4
    · rw [if_pos h2] at hf
      obtain ⟨h0, y, hq⟩ := hf
      match n, ha with
      | 0, ha => obtain ⟨_, _, q', hq', ho'⟩ := ha; rw [hq] at hq'; obtain rfl := Option.some.inj hq'; simp at ho'
      | n + 1, ha =>
        obtain ⟨_, q', hq', h⟩ := ha
        rw [hq] at hq'; obtain rfl := Option.some.inj hq'
        rcases h with ⟨_, hn, hfit, h⟩ | ⟨ho, _⟩ | ⟨ho, _⟩
        · exact ⟨T.nxt i, n, by omega, by rw [if_pos h2]; exact ⟨rfl, hn, hfit⟩, h⟩
        · simp at ho
        · simp at ho
    rw [if_neg h2] at hf
    by_cases h5 : kind = 5
    · rw [if_pos h5] at hf
      obtain ⟨k, m, hm, hd, hk⟩ := fragCat_sound kids _ _ _ _ _ hf ha
      exact ⟨k, m, hm, by rw [if_neg h2, if_pos h5]; exact hd, hk⟩
    rw [if_neg h5] at hf
    by_cases h6 : kind = 6
    · rw [if_pos h6] at hf
      obtain ⟨k, m, hm, hd, hk⟩ := fragAlt_sound kids _ _ _ _ _ hf ha
      exact ⟨k, m, hm, by rw [if_neg h2, if_neg h5, if_pos h6]; exact hd, hk⟩
    rw [if_neg h6] at hf
    by_cases h7 : kind = 7
    · rw [if_pos h7] at hf
      obtain ⟨⟨hv0, hv1⟩, mid, hm, ht⟩ := hf
      obtain ⟨k, m, hmn, hr, hk⟩ := times_sound (R := denHd T kids) (fun a b n i j => fragHd_sound kids a b n i j) _ _ _ _ _ _ ht ha
      by_cases hx : mx < 0
      · rw [if_pos hx] at hm
        obtain ⟨h0, q, hq, hop, hy, hx'⟩ := hm
        obtain ⟨e, l, m', hm', hr', hl⟩ := loop_sound (R := denHd T kids) hq hop hy hx' (fun a b n i j => fragHd_sound kids a b n i j) _ _ _ hk
        refine ⟨l, m', by omega, ?_, hl⟩
        rw [if_neg h2, if_neg h5, if_neg h6, if_pos h7]
        exact ⟨mn.toNat + e, by omega, .inl hx, (iter_add _ _ _ _ _).2 ⟨k, hr, hr'⟩⟩
      · rw [if_neg hx] at hm
        obtain ⟨e, l, m', hm', he, hr', hl⟩ := opt_sound (R := denHd T kids) (fun a b n i j => fragHd_sound kids a b n i j) _ _ _ _ _ _ hm hk
        refine ⟨l, m', by omega, ?_, hl⟩
        rw [if_neg h2, if_neg h5, if_neg h6, if_pos h7]
        have hc := hv1 (by omega)
        exact ⟨mn.toNat + e, by omega, .inr (by omega), (iter_add _ _ _ _ _).2 ⟨k, hr, hr'⟩⟩
    rw [if_neg h7] at hf
    obtain ⟨h0, y, hq⟩ := hf
    match n, ha with
    | 0, ha => obtain ⟨_, _, q', hq', ho'⟩ := ha; rw [hq] at hq'; obtain rfl := Option.some.inj hq'; simp at ho'
    | n + 1, ha =>
      obtain ⟨_, q', hq', h⟩ := ha
      rw [hq] at hq'; obtain rfl := Option.some.inj hq'
      rcases h with ⟨ho, _⟩ | ⟨_, hh, h⟩ | ⟨ho, _⟩
      · simp at ho
      · exact ⟨i, n, by omega, by rw [if_neg h2, if_neg h5, if_neg h6, if_neg h7]; exact ⟨rfl, .inr hh⟩, h⟩
      · simp at ho
theorem fragCat_sound : ∀ (ks : List Rx) (a b : Int) (n i j : Nat), FragCat I ks a b → Acc T I n a i j → ∃ k m, m ≤ n ∧ denCat T ks i k ∧ Acc T I m b k j
  | [], a, b, n, i, j, hf, ha => by
    simp only [FragCat] at hf; subst hf
    exact ⟨i, n, Nat.le_refl _, by simp [denCat], ha⟩
  | k :: ks, a, b, n, i, j, hf, ha => by
    simp only [FragCat] at hf
    obtain ⟨c, h1, h2⟩ := hf
    obtain ⟨l, m, hm, hd, hk⟩ := frag_sound k _ _ _ _ _ h1 ha
    obtain ⟨l', m', hm', hd', hk'⟩ := fragCat_sound ks _ _ _ _ _ h2 hk
    exact ⟨l', m', by omega, by simp only [denCat]; exact ⟨l, hd, hd'⟩, hk'⟩
theorem fragAlt_sound : ∀ (ks : List Rx) (a b : Int) (n i j : Nat), FragAlt I ks a b → Acc T I n a i j → ∃ k m, m ≤ n ∧ denAlt T ks i k ∧ Acc T I m b k j
  | [], a, b, n, i, j, hf, ha => by simp only [FragAlt] at hf
  | k :: ks, a, b, n, i, j, hf, ha => by
    simp only [FragAlt] at hf
    simp only [denAlt]
    rcases hf with ⟨_, h⟩ | ⟨_, h0, q, hq, hop, hx, hy⟩
    · obtain ⟨l, m, hm, hd, hk⟩ := frag_sound k _ _ _ _ _ h ha
      exact ⟨l, m, hm, .inl hd, hk⟩
    · match n, ha with
      | 0, ha =>
        obtain ⟨_, _, q', hq', ho'⟩ := ha
        rw [hq] at hq'; obtain rfl := Option.some.inj hq'; omega
      | n + 1, ha =>
        obtain ⟨_, q', hq', h⟩ := ha
        rw [hq] at hq'; obtain rfl := Option.some.inj hq'
        rcases h with ⟨ho, _⟩ | ⟨ho, _⟩ | ⟨_, h | h⟩
        · omega
        · omega
        · obtain ⟨l, m, hm, hd, hk⟩ := frag_sound k _ _ _ _ _ hx h
          exact ⟨l, m, by omega, .inl hd, hk⟩
        · obtain ⟨l, m, hm, hd, hk⟩ := fragAlt_sound ks _ _ _ _ _ hy h
          exact ⟨l, m, by omega, .inr hd, hk⟩
theorem fragHd_sound : ∀ (ks : List Rx) (a b : Int) (n i j : Nat), FragHd I ks a b → Acc T I n a i j → ∃ k m, m ≤ n ∧ denHd T ks i k ∧ Acc T I m b k j
  | [], a, b, n, i, j, hf, ha => by simp only [FragHd] at hf
  | k :: ks, a, b, n, i, j, hf, ha => by
    simp only [FragHd] at hf
    simp only [denHd]
    exact frag_sound k _ _ _ _ _ hf ha
end

mutual
theorem frag_complete : ∀ (t : Rx) (a b : Int) (m i k j : Nat), Frag I t a b → den T t i k → Acc T I m b k j → ∃ n, Acc T I n a i j
  | .mk kind code neg set mn mx kids, a, b, m, i, k, j, hf, hd, ha => by
    simp only [Frag] at hf
    simp only [den] at hd
    by_cases h1 : kind = 1
    · rw [if_pos h1] at hf; subst hf; subst h1
      rw [if_neg (by omega), if_neg (by omega), if_neg (by omega), if_neg (by omega)] at hd
      obtain ⟨rfl, _⟩ := hd
      exact ⟨m, ha⟩
    rw [if_neg h1] at hf
    by_cases h2 : kind = 2 ∨ kind = 3 ∨ kind = 4
    · rw [if_pos h2] at hf hd
      obtain ⟨h0, y, hq⟩ := hf
      obtain ⟨rfl, hn, hfit⟩ := hd
      exact ⟨m + 1, h0, _, hq, .inl ⟨rfl, hn, hfit, ha⟩⟩
    rw [if_neg h2] at hf hd
    by_cases h5 : kind = 5
    · rw [if_pos h5] at hf hd
      exact fragCat_complete kids _ _ _ _ _ _ hf hd ha
    rw [if_neg h5] at hf hd
    by_cases h6 : kind = 6
    · rw [if_pos h6] at hf hd
      exact fragAlt_complete kids _ _ _ _ _ _ hf hd ha
    rw [if_neg h6] at hf hd
    by_cases h7 : kind = 7
    · rw [if_pos h7] at hf hd
      obtain ⟨⟨hv0, hv1⟩, mid, hm, ht⟩ := hf
      obtain ⟨c, hc1, hc2, hc⟩ := hd
      obtain ⟨e, rfl⟩ : ∃ e, c = mn.toNat + e := ⟨c - mn.toNat, by omega⟩
      obtain ⟨l, r1, r2⟩ := (iter_add _ _ _ _ _).1 hc
      have hmid : ∃ n, Acc T I n mid l j := by
        by_cases hx : mx < 0
        · rw [if_pos hx] at hm
          obtain ⟨h0, q, hq, hop, hy, hx'⟩ := hm
          exact loop_complete (R := denHd T kids) h0 hq hop hy hx' (fun a b m i k j => fragHd_complete kids a b m i k j) _ _ _ _ _ r2 ha
        · rw [if_neg hx] at hm
          exact opt_complete (R := denHd T kids) (fun a b m i k j => fragHd_complete kids a b m i k j) _ e _ _ _ _ _ _ (by have := hv1 (by omega); omega) hm r2 ha
      obtain ⟨n, hn⟩ := hmid
      exact times_complete (R := denHd T kids) (fun a b m i k j => fragHd_complete kids a b m i k j) _ _ _ _ _ _ _ ht r1 hn
    rw [if_neg h7] at hf hd
    obtain ⟨h0, y, hq⟩ := hf
    obtain ⟨rfl, hh⟩ := hd
    exact ⟨m + 1, h0, _, hq, .inr (.inl ⟨rfl, hh.resolve_left h1, ha⟩)⟩
theorem fragCat_complete : ∀ (ks : List Rx) (a b : Int) (m i k j : Nat), FragCat I ks a b → denCat T ks i k → Acc T I m b k j → ∃ n, Acc T I n a i j
  | [], a, b, m, i, k, j, hf, hd, ha => by
    simp only [FragCat] at hf; subst hf
    simp only [denCat] at hd; subst hd
    exact ⟨m, ha⟩
  | t :: ks, a, b, m, i, k, j, hf, hd, ha => by
    simp only [FragCat] at hf
    simp only [denCat] at hd
    obtain ⟨c, h1, h2⟩ := hf
    obtain ⟨l, d1, d2⟩ := hd
    obtain ⟨n, hn⟩ := fragCat_complete ks _ _ _ _ _ _ h2 d2 ha
    exact frag_complete t _ _ _ _ _ _ h1 d1 hn
theorem fragAlt_complete : ∀ (ks : List Rx) (a b : Int) (m i k j : Nat), FragAlt I ks a b → denAlt T ks i k → Acc T I m b k j → ∃ n, Acc T I n a i j
  | [], a, b, m, i, k, j, hf, hd, ha => by simp only [FragAlt] at hf
  | t :: ks, a, b, m, i, k, j, hf, hd, ha => by
    simp only [FragAlt] at hf
    simp only [denAlt] at hd
    rcases hf with ⟨rfl, h⟩ | ⟨_, h0, q, hq, hop, hx, hy⟩
    · simp only [denAlt, or_false] at hd
      exact frag_complete t _ _ _ _ _ _ h hd ha
    · rcases hd with hd | hd
      · obtain ⟨n, hn⟩ := frag_complete t _ _ _ _ _ _ hx hd ha
        exact ⟨n + 1, h0, q, hq, .inr (.inr ⟨hop, .inl hn⟩)⟩
      · obtain ⟨n, hn⟩ := fragAlt_complete ks _ _ _ _ _ _ hy hd ha
        exact ⟨n + 1, h0, q, hq, .inr (.inr ⟨hop, .inr hn⟩)⟩
theorem fragHd_complete : ∀ (ks : List Rx) (a b : Int) (m i k j : Nat), FragHd I ks a b → denHd T ks i k → Acc T I m b k j → ∃ n, Acc T I n a i j
  | [], a, b, m, i, k, j, hf, hd, ha => by simp only [FragHd] at hf
  | t :: ks, a, b, m, i, k, j, hf, hd, ha => by
    simp only [FragHd] at hf
    simp only [denHd] at hd
    exact frag_complete t _ _ _ _ _ _ hf hd ha
end
end

/-! ### What `follow` meets -/
def followF (I : List Inst) (chk : Rx → Bool) : Nat → List Bool → List Int → Int → Option (List Bool × List Int)
  | 0, _, _, _ => none
  | f + 1, has, list, i =>
    if has.getD i.toNat false = true then some (has, list)
    else match I[i.toNat]? with
      | none => none
      | some q =>
        if q.op = 2 then (followF I chk f (has.set i.toNat true) list q.x).bind fun r => followF I chk f r.1 r.2 q.y
        else if q.op = 1 then
          if chk q.node = true then followF I chk f (has.set i.toNat true) list q.x else some (has.set i.toNat true, list)
        else some (has.set i.toNat true, list ++ [i])

/-- Each instruction leads to instructions. -/
def Sound (I : List Inst) : Prop := ∀ (s : Nat) (q : Inst), I[s]? = some q →
  (q.op = 0 ∨ q.op = 1 ∨ q.op = 2 ∨ q.op = 3) ∧ (q.op = 0 ∨ q.op = 1 ∨ q.op = 2 → 0 ≤ q.x ∧ q.x < I.length) ∧ (q.op = 2 → 0 ≤ q.y ∧ q.y < I.length)

def marked (has : List Bool) (j : Nat) : Prop := has[j]? = some true
/-- How many aren't marked. -/
def bare : List Bool → Nat
  | [] => 0
  | b :: l => (if b = true then 0 else 1) + bare l

theorem bare_le : ∀ l : List Bool, bare l ≤ l.length
  | [] => by simp [bare]
  | b :: l => by have := bare_le l; simp only [bare, List.length_cons]; split <;> omega

theorem bare_set : ∀ (l : List Bool) (i : Nat), l[i]? = some false → bare (l.set i true) + 1 = bare l
  | [], i, h => by simp at h
  | b :: l, 0, h => by simp at h; subst h; simp [bare]; omega
  | b :: l, i + 1, h => by
    simp only [List.getElem?_cons_succ] at h
    have := bare_set l i h
    simp only [List.set_cons_succ, bare]; omega

theorem bare_mono : ∀ (l l' : List Bool), l.length = l'.length → (∀ j, marked l j → marked l' j) → bare l' ≤ bare l
  | [], [], _, _ => Nat.le_refl _
  | b :: l, c :: l', h, hm => by
    have h1 := bare_mono l l' (by simpa using h) (fun j hj => by have := hm (j + 1); simpa [marked] using this hj)
    have h0 := hm 0
    simp only [marked, List.getElem?_cons_zero, Option.some.injEq] at h0
    simp only [bare]
    cases b <;> cases c <;> simp_all <;> omega

theorem marked_set {has : List Bool} {i j : Nat} : marked (has.set i true) j ↔ (i = j ∧ i < has.length) ∨ marked has j := by
  unfold marked
  rw [List.getElem?_set]
  by_cases h : i = j
  · subst h
    by_cases h2 : i < has.length <;> simp [h2]
  · simp [h]

theorem getD_marked {has : List Bool} {i : Nat} : has.getD i false = true ↔ marked has i := by
  unfold marked; rw [List.getD_eq_getElem?_getD]
  cases h : has[i]? with
  | none => simp
  | some b => simp

/-- It ends, and what it does to the marks. -/
theorem follow_ends {I : List Inst} {chk : Rx → Bool} (hI : Sound I) : ∀ (f : Nat) (has : List Bool) (list : List Int) (i : Int), has.length = I.length → 0 ≤ i → i < I.length → bare has < f →
    ∃ r, followF I chk f has list i = some r ∧ r.1.length = I.length ∧ (∀ j, marked has j → marked r.1 j)
  | 0, has, list, i, hl, h0, h1, hf => by omega
  | f + 1, has, list, i, hl, h0, h1, hf => by
    simp only [followF]
    by_cases hm : has.getD i.toNat false = true
    · rw [if_pos hm]; exact ⟨_, rfl, hl, fun j h => h⟩
    rw [if_neg hm]
    have hlt : i.toNat < I.length := by omega
    have hf' : has[i.toNat]? = some false := by
      rw [List.getD_eq_getElem?_getD, List.getElem?_eq_getElem (by omega)] at hm
      rw [List.getElem?_eq_getElem (by omega)]
      simpa using hm
    have hb := bare_set has i.toNat hf'
    have hmono : ∀ j, marked has j → marked (has.set i.toNat true) j := fun j h => marked_set.2 (.inr h)
    rw [List.getElem?_eq_getElem hlt]
    generalize hq : I[i.toNat] = q
    have hq' : I[i.toNat]? = some q := by rw [List.getElem?_eq_getElem hlt, hq]
    obtain ⟨ho, hx, hy⟩ := hI _ _ hq'
    simp only
    by_cases h2 : q.op = 2
    · rw [if_pos h2]
      obtain ⟨hx0, hx1⟩ := hx (by simp [h2])
      obtain ⟨hy0, hy1⟩ := hy h2
      obtain ⟨r, hr, hrl, hrm⟩ := follow_ends hI f (has.set i.toNat true) list q.x (by simpa using hl) hx0 hx1 (by omega)
      have := bare_mono _ _ (by rw [hrl]; simpa using hl) hrm
      obtain ⟨r', hr', hrl', hrm'⟩ := follow_ends hI f r.1 r.2 q.y hrl hy0 hy1 (by omega)
      exact ⟨r', by rw [hr]; exact hr', hrl', fun j h => hrm' j (hrm j (hmono j h))⟩
    rw [if_neg h2]
    by_cases h3 : q.op = 1
    · rw [if_pos h3]
      obtain ⟨hx0, hx1⟩ := hx (by simp [h3])
      by_cases hc : chk q.node = true
      · rw [if_pos hc]
        obtain ⟨r, hr, hrl, hrm⟩ := follow_ends hI f (has.set i.toNat true) list q.x (by simpa using hl) hx0 hx1 (by omega)
        exact ⟨r, hr, hrl, fun j h => hrm j (hmono j h)⟩
      · rw [if_neg hc]; exact ⟨_, rfl, by simpa using hl, hmono⟩
    rw [if_neg h3]
    exact ⟨_, rfl, by simpa using hl, hmono⟩

/-- From an instruction to another one without a character. -/
inductive Eps (I : List Inst) (chk : Rx → Bool) : Int → Int → Prop
  | refl (s : Int) : Eps I chk s s
  | x {s c : Int} {q : Inst} : 0 ≤ s → I[s.toNat]? = some q → (q.op = 2 ∨ q.op = 1 ∧ chk q.node = true) → Eps I chk q.x c → Eps I chk s c
  | y {s c : Int} {q : Inst} : 0 ≤ s → I[s.toNat]? = some q → q.op = 2 → Eps I chk q.y c → Eps I chk s c

/-- What stands behind a call of follow: marks and list. -/
structure Fol (I : List Inst) (chk : Rx → Bool) (has : List Bool) (list : List Int) (r : List Bool × List Int) (i : Int) : Prop where
  mono : ∀ j, marked has j → marked r.1 j
  self : marked r.1 i.toNat
  closed : ∀ (j : Nat) (q : Inst), marked r.1 j → ¬ marked has j → I[j]? = some q → (q.op = 2 ∨ q.op = 1 ∧ chk q.node = true → marked r.1 q.x.toNat) ∧ (q.op = 2 → marked r.1 q.y.toNat)
  news : ∃ new : List Int, r.2 = list ++ new ∧ (∀ c ∈ new, 0 ≤ c ∧ Eps I chk i c ∧ ∃ q, I[c.toNat]? = some q ∧ q.op ≠ 1 ∧ q.op ≠ 2) ∧
    (∀ (j : Nat) (q : Inst), marked r.1 j → ¬ marked has j → I[j]? = some q → q.op ≠ 1 → q.op ≠ 2 → (j : Int) ∈ new)

theorem follow_met {I : List Inst} {chk : Rx → Bool} : ∀ (f : Nat) (has : List Bool) (list : List Int) (i : Int) (r : List Bool × List Int), 0 ≤ i → Sound I → i < I.length → has.length = I.length →
    followF I chk f has list i = some r → Fol I chk has list r i ∧ r.1.length = I.length
  | 0, has, list, i, r, h0, hI, hi, hl, h => by simp [followF] at h
  | f + 1, has, list, i, r, h0, hI, hi, hl, h => by
    simp only [followF] at h
    by_cases hm : has.getD i.toNat false = true
    · rw [if_pos hm] at h
      obtain rfl := Option.some.inj h
      exact ⟨⟨fun j h => h, getD_marked.1 hm, fun j q h1 h2 => absurd h1 h2, [], by simp, by simp, fun j q h1 h2 => absurd h1 h2⟩, hl⟩
    rw [if_neg hm] at h
    have hlt : i.toNat < I.length := by omega
    rw [List.getElem?_eq_getElem hlt] at h
    generalize hq : I[i.toNat] = q at h
    have hq' : I[i.toNat]? = some q := by rw [List.getElem?_eq_getElem hlt, hq]
    obtain ⟨ho, hx, hy⟩ := hI _ _ hq'
    simp only at h
    have hmono : ∀ j, marked has j → marked (has.set i.toNat true) j := fun j h => marked_set.2 (.inr h)
    have hself : marked (has.set i.toNat true) i.toNat := marked_set.2 (.inl ⟨rfl, by omega⟩)
    have hnew : ∀ j, marked (has.set i.toNat true) j → ¬ marked has j → j = i.toNat := fun j h1 h2 => by
      rcases marked_set.1 h1 with ⟨h, _⟩ | h
      · exact h.symm
      · exact absurd h h2
    by_cases h2 : q.op = 2
    · rw [if_pos h2] at h
      obtain ⟨hx0, hx1⟩ := hx (by simp [h2])
      obtain ⟨hy0, hy1⟩ := hy h2
      obtain ⟨r1, hr1, hr⟩ := Option.bind_eq_some_iff.1 h
      obtain ⟨F1, hl1⟩ := follow_met f _ _ _ _ hx0 hI hx1 (by simpa using hl) hr1
      obtain ⟨F2, hl2⟩ := follow_met f _ _ _ _ hy0 hI hy1 hl1 hr
      obtain ⟨n1, e1, a1, b1⟩ := F1.news
      obtain ⟨n2, e2, a2, b2⟩ := F2.news
      refine ⟨⟨fun j h => F2.mono j (F1.mono j (hmono j h)), F2.mono _ (F1.mono _ hself), ?_, n1 ++ n2, by rw [e2, e1]; simp, ?_, ?_⟩, hl2⟩
      · intro j p hj hnj hp
        by_cases hj1 : marked r1.1 j
        · by_cases hj0 : marked (has.set i.toNat true) j
          · obtain rfl := hnew j hj0 hnj
            rw [hq'] at hp; obtain rfl := Option.some.inj hp
            exact ⟨fun _ => F2.mono _ F1.self, fun _ => F2.self⟩
          · obtain ⟨c1, c2⟩ := F1.closed j p hj1 hj0 hp
            exact ⟨fun h => F2.mono _ (c1 h), fun h => F2.mono _ (c2 h)⟩
        · exact F2.closed j p hj hj1 hp
      · intro c hc
        rcases List.mem_append.1 hc with hc | hc
        · obtain ⟨c0, ce, cq⟩ := a1 c hc
          exact ⟨c0, .x h0 hq' (.inl h2) ce, cq⟩
        · obtain ⟨c0, ce, cq⟩ := a2 c hc
          exact ⟨c0, .y h0 hq' h2 ce, cq⟩
      · intro j p hj hnj hp hp1 hp2
        by_cases hj1 : marked r1.1 j
        · by_cases hj0 : marked (has.set i.toNat true) j
          · obtain rfl := hnew j hj0 hnj
            rw [hq'] at hp; obtain rfl := Option.some.inj hp
            exact absurd h2 hp2
          · exact List.mem_append.2 (.inl (b1 j p hj1 hj0 hp hp1 hp2))
        · exact List.mem_append.2 (.inr (b2 j p hj hj1 hp hp1 hp2))
    rw [if_neg h2] at h
    by_cases h3 : q.op = 1
    · rw [if_pos h3] at h
      obtain ⟨hx0, hx1⟩ := hx (by simp [h3])
      by_cases hc : chk q.node = true
      · rw [if_pos hc] at h
        obtain ⟨F1, hl1⟩ := follow_met f _ _ _ _ hx0 hI hx1 (by simpa using hl) h
        obtain ⟨n1, e1, a1, b1⟩ := F1.news
        refine ⟨⟨fun j h => F1.mono j (hmono j h), F1.mono _ hself, ?_, n1, e1, ?_, ?_⟩, hl1⟩
        · intro j p hj hnj hp
          by_cases hj0 : marked (has.set i.toNat true) j
          · obtain rfl := hnew j hj0 hnj
            rw [hq'] at hp; obtain rfl := Option.some.inj hp
            exact ⟨fun _ => F1.self, fun h => absurd h h2⟩
          · exact F1.closed j p hj hj0 hp
        · intro c hc'
          obtain ⟨c0, ce, cq⟩ := a1 c hc'
          exact ⟨c0, .x h0 hq' (.inr ⟨h3, hc⟩) ce, cq⟩
        · intro j p hj hnj hp hp1 hp2
          by_cases hj0 : marked (has.set i.toNat true) j
          · obtain rfl := hnew j hj0 hnj
            rw [hq'] at hp; obtain rfl := Option.some.inj hp
            exact absurd h3 hp1
          · exact b1 j p hj hj0 hp hp1 hp2
      · rw [if_neg hc] at h
        obtain rfl := Option.some.inj h
        refine ⟨⟨hmono, hself, ?_, [], by simp, by simp, ?_⟩, by simpa using hl⟩
        · intro j p hj hnj hp
          obtain rfl := hnew j hj hnj
          rw [hq'] at hp; obtain rfl := Option.some.inj hp
          exact ⟨fun h => by rcases h with h | ⟨_, h⟩; exact absurd h h2; exact absurd h hc, fun h => absurd h h2⟩
        · intro j p hj hnj hp hp1 hp2
          obtain rfl := hnew j hj hnj
          rw [hq'] at hp; obtain rfl := Option.some.inj hp
          exact absurd h3 hp1
    rw [if_neg h3] at h
    obtain rfl := Option.some.inj h
    refine ⟨⟨hmono, hself, ?_, [i], rfl, ?_, ?_⟩, by simpa using hl⟩
    · intro j p hj hnj hp
      obtain rfl := hnew j hj hnj
      rw [hq'] at hp; obtain rfl := Option.some.inj hp
      exact ⟨fun h => by rcases h with h | ⟨h, _⟩; exact absurd h h2; exact absurd h h3, fun h => absurd h h2⟩
    · intro c hc
      obtain rfl := List.mem_singleton.1 hc
      exact ⟨h0, .refl _, q, hq', h3, h2⟩
    · intro j p hj hnj hp hp1 hp2
      obtain rfl := hnew j hj hnj
      simp only [List.mem_singleton]; omega

/-- The marks are closed, and the list tells all that are marked and wait for a character, or match. -/
structure Cl (I : List Inst) (chk : Rx → Bool) (has : List Bool) (list : List Int) (R : Int → Prop) : Prop where
  len : has.length = I.length
  closed : ∀ (j : Nat) (q : Inst), marked has j → I[j]? = some q → (q.op = 2 ∨ q.op = 1 ∧ chk q.node = true → marked has q.x.toNat) ∧ (q.op = 2 → marked has q.y.toNat)
  told : ∀ (j : Nat) (q : Inst), marked has j → I[j]? = some q → q.op ≠ 1 → q.op ≠ 2 → (j : Int) ∈ list
  from_ : ∀ c ∈ list, 0 ≤ c ∧ (∃ s, R s ∧ Eps I chk s c) ∧ ∃ q, I[c.toNat]? = some q ∧ q.op ≠ 1 ∧ q.op ≠ 2
  roots : ∀ s, R s → marked has s.toNat

theorem marked_none (n j : Nat) : ¬ marked (List.replicate n false) j := by
  unfold marked; rw [List.getElem?_replicate]; split <;> simp

theorem Cl.start (I : List Inst) (chk : Rx → Bool) : Cl I chk (List.replicate I.length false) [] (fun _ => False) :=
  ⟨by simp, fun j q h => absurd h (marked_none _ _), fun j q h => absurd h (marked_none _ _), by simp, by simp⟩

theorem Cl.step {I : List Inst} {chk : Rx → Bool} {has : List Bool} {list : List Int} {R : Int → Prop} (h : Cl I chk has list R) {i : Int} {r : List Bool × List Int}
    (hl : r.1.length = I.length) (F : Fol I chk has list r i) : Cl I chk r.1 r.2 (fun s => R s ∨ s = i) := by
  obtain ⟨new, e, a, b⟩ := F.news
  refine ⟨hl, fun j q hj hq => ?_, fun j q hj hq h1 h2 => ?_, fun c hc => ?_, fun s hs => ?_⟩
  · by_cases h0 : marked has j
    · obtain ⟨c1, c2⟩ := h.closed j q h0 hq
      exact ⟨fun x => F.mono _ (c1 x), fun x => F.mono _ (c2 x)⟩
    · exact F.closed j q hj h0 hq
  · rw [e]
    by_cases h0 : marked has j
    · exact List.mem_append.2 (.inl (h.told j q h0 hq h1 h2))
    · exact List.mem_append.2 (.inr (b j q hj h0 hq h1 h2))
  · rw [e] at hc
    rcases List.mem_append.1 hc with hc | hc
    · obtain ⟨c0, ⟨s, hs, he⟩, hq⟩ := h.from_ c hc
      exact ⟨c0, ⟨s, .inl hs, he⟩, hq⟩
    · obtain ⟨c0, ce, hq⟩ := a c hc
      exact ⟨c0, ⟨i, .inr rfl, ce⟩, hq⟩
  · rcases hs with hs | rfl
    · exact F.mono _ (h.roots s hs)
    · exact F.self

theorem Eps.acc {T : Txt} {I : List Inst} {i : Nat} {s c : Int} (h : Eps I (fun t => T.hold t i) s c) : ∀ (n j : Nat), Acc T I n c i j → ∃ m, Acc T I m s i j := by
  induction h with
  | refl s => exact fun n j ha => ⟨n, ha⟩
  | x h0 hq ho _ ih =>
    intro n j ha
    obtain ⟨m, hm⟩ := ih n j ha
    rcases ho with ho | ⟨ho, hc⟩
    · exact ⟨m + 1, h0, _, hq, .inr (.inr ⟨ho, .inl hm⟩)⟩
    · exact ⟨m + 1, h0, _, hq, .inr (.inl ⟨ho, hc, hm⟩)⟩
  | y h0 hq ho _ ih =>
    intro n j ha
    obtain ⟨m, hm⟩ := ih n j ha
    exact ⟨m + 1, h0, _, hq, .inr (.inr ⟨ho, .inr hm⟩)⟩

theorem Cl.acc {T : Txt} {I : List Inst} {i : Nat} {has : List Bool} {list : List Int} {R : Int → Prop} (hI : Sound I) (h : Cl I (fun t => T.hold t i) has list R) :
    ∀ (n : Nat) (s : Int) (j : Nat), 0 ≤ s → marked has s.toNat → Acc T I n s i j → ∃ c ∈ list, ∃ m, Acc T I m c i j
  | 0, s, j, h0, hm, ha => by
    have ha' := ha
    obtain ⟨_, _, q, hq, ho⟩ := ha
    refine ⟨s, ?_, 0, ha'⟩
    have := h.told _ q hm hq (by omega) (by omega)
    rwa [Int.toNat_of_nonneg h0] at this
  | n + 1, s, j, h0, hm, ha => by
    have ha' := ha
    obtain ⟨_, q, hq, hc⟩ := ha
    obtain ⟨_, hx, hy⟩ := hI _ _ hq
    obtain ⟨c1, c2⟩ := h.closed _ q hm hq
    rcases hc with ⟨ho, _⟩ | ⟨ho, hh, hr⟩ | ⟨ho, hr | hr⟩
    · refine ⟨s, ?_, n + 1, ha'⟩
      have := h.told _ q hm hq (by omega) (by omega)
      rwa [Int.toNat_of_nonneg h0] at this
    · exact Cl.acc hI h n q.x j (hx (by simp [ho])).1 (c1 (.inr ⟨ho, hh⟩)) hr
    · exact Cl.acc hI h n q.x j (hx (by simp [ho])).1 (c1 (.inl ho)) hr
    · exact Cl.acc hI h n q.y j (hy ho).1 (c2 ho) hr

theorem Cl.all {T : Txt} {I : List Inst} {i : Nat} {has : List Bool} {list : List Int} {R : Int → Prop} (hI : Sound I) (hR : ∀ s, R s → 0 ≤ s) (h : Cl I (fun t => T.hold t i) has list R) (j : Nat) :
    (∃ c ∈ list, ∃ m, Acc T I m c i j) ↔ ∃ s, R s ∧ ∃ m, Acc T I m s i j := by
  constructor
  · rintro ⟨c, hc, m, ha⟩
    obtain ⟨_, ⟨s, hs, he⟩, _⟩ := h.from_ c hc
    exact ⟨s, hs, he.acc m j ha⟩
  · rintro ⟨s, hs, m, ha⟩
    exact h.acc hI m s j (hR s hs) (h.roots s hs) ha

/-! ### One character further on -/
/-- The instructions of a list that a character fits, followed one by one. -/
def stepF (I : List Inst) (fit : Rx → Bool) (chk : Rx → Bool) (f : Nat) : List Int → List Bool → List Int → Option (List Bool × List Int)
  | [], has, out => some (has, out)
  | c :: rest, has, out =>
    match I[c.toNat]? with
    | none => none
    | some q => if q.op = 0 ∧ fit q.node = true then (followF I chk f has out q.x).bind fun r => stepF I fit chk f rest r.1 r.2
      else stepF I fit chk f rest has out

theorem step_ends {I : List Inst} {fit chk : Rx → Bool} {f : Nat} (hI : Sound I) (hf : I.length < f) : ∀ (l : List Int) (has : List Bool) (out : List Int) (R : Int → Prop), Cl I chk has out R → (∀ c ∈ l, 0 ≤ c ∧ ∃ q, I[c.toNat]? = some q) →
    ∃ r, stepF I fit chk f l has out = some r ∧ Cl I chk r.1 r.2 (fun s => R s ∨ ∃ c ∈ l, ∃ q, I[c.toNat]? = some q ∧ q.op = 0 ∧ fit q.node = true ∧ s = q.x)
  | [], has, out, R, h, hl => by
    refine ⟨_, rfl, ?_⟩
    simpa using h
  | c :: rest, has, out, R, h, hl => by
    obtain ⟨h0, q, hq⟩ := hl c (by simp)
    have hrest : ∀ c ∈ rest, 0 ≤ c ∧ ∃ q, I[c.toNat]? = some q := fun c hc => hl c (by simp [hc])
    simp only [stepF, hq]
    by_cases hc : q.op = 0 ∧ fit q.node = true
    · rw [if_pos hc]
      obtain ⟨hx0, hx1⟩ := (hI _ _ hq).2.1 (.inl hc.1)
      obtain ⟨r1, hr1, hl1, _⟩ := follow_ends (chk := chk) hI f has out q.x h.len hx0 hx1 (by have := bare_le has; have := h.len; omega)
      obtain ⟨F1, _⟩ := follow_met f has out q.x r1 hx0 hI hx1 h.len hr1
      obtain ⟨r, hr, hC⟩ := step_ends hI hf rest r1.1 r1.2 _ (h.step hl1 F1) hrest
      refine ⟨r, by rw [hr1]; exact hr, ?_⟩
      have e : (fun s => (R s ∨ s = q.x) ∨ ∃ c ∈ rest, ∃ q, I[c.toNat]? = some q ∧ q.op = 0 ∧ fit q.node = true ∧ s = q.x) = (fun s => R s ∨ ∃ d ∈ c :: rest, ∃ q, I[d.toNat]? = some q ∧ q.op = 0 ∧ fit q.node = true ∧ s = q.x) := by
        funext s
        apply propext
        constructor
        · rintro ((h | h) | ⟨d, hd, p, hp⟩)
          · exact .inl h
          · exact .inr ⟨c, by simp, q, hq, hc.1, hc.2, h⟩
          · exact .inr ⟨d, by simp [hd], p, hp⟩
        · rintro (h | ⟨d, hd, p, hp, h1, h2, h3⟩)
          · exact .inl (.inl h)
          · rcases List.mem_cons.1 hd with rfl | hd
            · rw [hq] at hp; obtain rfl := Option.some.inj hp
              exact .inl (.inr h3)
            · exact .inr ⟨d, hd, p, hp, h1, h2, h3⟩
      rw [e] at hC
      exact hC
    · rw [if_neg hc]
      obtain ⟨r, hr, hC⟩ := step_ends hI hf rest has out R h hrest
      refine ⟨r, hr, ?_⟩
      have e : (fun s => R s ∨ ∃ c ∈ rest, ∃ q, I[c.toNat]? = some q ∧ q.op = 0 ∧ fit q.node = true ∧ s = q.x) = (fun s => R s ∨ ∃ d ∈ c :: rest, ∃ q, I[d.toNat]? = some q ∧ q.op = 0 ∧ fit q.node = true ∧ s = q.x) := by
        funext s
        apply propext
        constructor
        · rintro (h | ⟨d, hd, p, hp⟩)
          · exact .inl h
          · exact .inr ⟨d, by simp [hd], p, hp⟩
        · rintro (h | ⟨d, hd, p, hp, h1, h2, h3⟩)
          · exact .inl h
          · rcases List.mem_cons.1 hd with rfl | hd
            · rw [hq] at hp; obtain rfl := Option.some.inj hp
              exact absurd ⟨h1, h2⟩ hc
            · exact .inr ⟨d, hd, p, hp, h1, h2, h3⟩
      rw [e] at hC
      exact hC

/-- What is accepted from a list: at this very place, or from one character further on. -/
theorem list_acc {T : Txt} {I : List Inst} {list : List Int} (i j : Nat) (hl : ∀ c ∈ list, 0 ≤ c ∧ ∃ q, I[c.toNat]? = some q ∧ q.op ≠ 1 ∧ q.op ≠ 2) :
    (∃ c ∈ list, ∃ m, Acc T I m c i j) ↔ (j = i ∧ ∃ c ∈ list, ∃ q, I[c.toNat]? = some q ∧ q.op = 3) ∨
      (T.has i = true ∧ ∃ s, (∃ c ∈ list, ∃ q, I[c.toNat]? = some q ∧ q.op = 0 ∧ T.fit q.node i = true ∧ s = q.x) ∧ ∃ m, Acc T I m s (T.nxt i) j) := by
  constructor
  · rintro ⟨c, hc, m, ha⟩
    match m, ha with
    | 0, ha =>
      obtain ⟨rfl, _, q, hq, ho⟩ := ha
      exact .inl ⟨rfl, c, hc, q, hq, ho⟩
    | m + 1, ha =>
      obtain ⟨_, q, hq, h⟩ := ha
      obtain ⟨_, q', hq', n1, n2⟩ := hl c hc
      rw [hq] at hq'; obtain rfl := Option.some.inj hq'
      rcases h with ⟨ho, hh, hf, hr⟩ | ⟨ho, _⟩ | ⟨ho, _⟩
      · exact .inr ⟨hh, q.x, ⟨c, hc, q, hq, ho, hf, rfl⟩, m, hr⟩
      · exact absurd ho n1
      · exact absurd ho n2
  · rintro (⟨rfl, c, hc, q, hq, ho⟩ | ⟨hh, s, ⟨c, hc, q, hq, ho, hf, rfl⟩, m, ha⟩)
    · exact ⟨c, hc, 0, rfl, (hl c hc).1, q, hq, ho⟩
    · exact ⟨c, hc, m + 1, (hl c hc).1, q, hq, .inl ⟨ho, hh, hf, ha⟩⟩

/-! ### The longest match from a place -/
def isMatch (I : List Inst) (c : Int) : Bool := match I[c.toNat]? with | some q => q.op == 3 | none => false

def longF (T : Txt) (I : List Inst) (f : Nat) : Nat → Nat → List Int → Int → Option Int
  | 0, _, _, _ => none
  | k + 1, i, list, e =>
    if T.has i = false ∨ list = [] then some (if list.any (isMatch I) = true then (i : Int) else e)
    else (stepF I (fun t => T.fit t i) (fun t => T.hold t (T.nxt i)) f list (List.replicate I.length false) []).bind fun r =>
      longF T I f k (T.nxt i) r.2 (if list.any (isMatch I) = true then (i : Int) else e)

/-- The last of those that there are; e: there is none. -/
def Last (P : Nat → Prop) (e r : Int) : Prop := (r = e ∧ ∀ j, ¬ P j) ∨ ∃ j : Nat, r = j ∧ P j ∧ ∀ j', P j' → j' ≤ j

theorem Last.unique {P : Nat → Prop} {e r r' : Int} (h : Last P e r) (h' : Last P e r') : r = r' := by
  rcases h with ⟨h, hn⟩ | ⟨j, h, hj, hm⟩
  · rcases h' with ⟨h', _⟩ | ⟨j, _, hj, _⟩
    · rw [h, h']
    · exact absurd hj (hn j)
  · rcases h' with ⟨_, hn⟩ | ⟨j', h', hj', hm'⟩
    · exact absurd hj (hn j)
    · have := hm j' hj'; have := hm' j hj; omega

/-- Places rise, up to an end. -/
structure Txt.Fine (T : Txt) (n : Nat) : Prop where
  up : ∀ i, T.has i = true → i < T.nxt i ∧ T.nxt i ≤ n

theorem Acc.le {T : Txt} {n : Nat} (hT : T.Fine n) {I : List Inst} : ∀ (m : Nat) (s : Int) (i j : Nat), Acc T I m s i j → i ≤ j
  | 0, s, i, j, h => by obtain ⟨h, _⟩ := h; omega
  | m + 1, s, i, j, h => by
    obtain ⟨_, q, _, h⟩ := h
    rcases h with ⟨_, hh, _, h⟩ | ⟨_, _, h⟩ | ⟨_, h | h⟩
    · have := Acc.le hT m _ _ _ h; have := hT.up i hh; omega
    · exact Acc.le hT m _ _ _ h
    · exact Acc.le hT m _ _ _ h
    · exact Acc.le hT m _ _ _ h

theorem any_match {I : List Inst} {list : List Int} : list.any (isMatch I) = true ↔ ∃ c ∈ list, ∃ q, I[c.toNat]? = some q ∧ q.op = 3 := by
  rw [List.any_eq_true]
  constructor
  · rintro ⟨c, hc, h⟩
    unfold isMatch at h
    split at h
    · rename_i q hq; exact ⟨c, hc, q, hq, by simpa using h⟩
    · simp at h
  · rintro ⟨c, hc, q, hq, ho⟩
    exact ⟨c, hc, by unfold isMatch; rw [hq]; simp [ho]⟩

theorem long_ends {T : Txt} {n : Nat} (hT : T.Fine n) {I : List Inst} {f : Nat} (hI : Sound I) (hf : I.length < f) :
    ∀ (k i : Nat) (has : List Bool) (list : List Int) (R : Int → Prop) (e : Int), i ≤ n → n - i < k → (∀ s, R s → 0 ≤ s) → Cl I (fun t => T.hold t i) has list R →
    ∃ r, longF T I f k i list e = some r ∧ Last (fun j => ∃ c ∈ list, ∃ m, Acc T I m c i j) e r
  | 0, i, has, list, R, e, hi, hk, hR, hC => by omega
  | k + 1, i, has, list, R, e, hi, hk, hR, hC => by
    have hl : ∀ c ∈ list, 0 ≤ c ∧ ∃ q, I[c.toNat]? = some q ∧ q.op ≠ 1 ∧ q.op ≠ 2 := fun c hc => ⟨(hC.from_ c hc).1, (hC.from_ c hc).2.2⟩
    have hla := fun j => list_acc (T := T) (I := I) (list := list) i j hl
    simp only [longF]
    by_cases hs : T.has i = false ∨ list = []
    · rw [if_pos hs]
      refine ⟨_, rfl, ?_⟩
      have hno : ∀ j, (∃ c ∈ list, ∃ m, Acc T I m c i j) → j = i ∧ ∃ c ∈ list, ∃ q, I[c.toNat]? = some q ∧ q.op = 3 := fun j h => by
        rcases (hla j).1 h with h | ⟨hh, s, ⟨c, hc, _⟩, _⟩
        · exact h
        · rcases hs with hs | hs
          · rw [hs] at hh; cases hh
          · rw [hs] at hc; cases hc
      by_cases hm : list.any (isMatch I) = true
      · rw [if_pos hm]
        exact .inr ⟨i, rfl, (hla i).2 (.inl ⟨rfl, any_match.1 hm⟩), fun j' h => by rw [(hno j' h).1]; exact Nat.le_refl _⟩
      · rw [if_neg hm]
        exact .inl ⟨rfl, fun j h => hm (any_match.2 (hno j h).2)⟩
    · rw [if_neg hs]
      have hh : T.has i = true := by cases h : T.has i <;> simp_all
      obtain ⟨u1, u2⟩ := hT.up i hh
      obtain ⟨r, hr, hC'⟩ := step_ends (fit := fun t => T.fit t i) (chk := fun t => T.hold t (T.nxt i)) hI hf list _ _ _ (Cl.start I _) (fun c hc => by
        obtain ⟨h0, q, hq, _⟩ := hl c hc; exact ⟨h0, q, hq⟩)
      have hR' : ∀ s, (False ∨ ∃ c ∈ list, ∃ q, I[c.toNat]? = some q ∧ q.op = 0 ∧ T.fit q.node i = true ∧ s = q.x) → 0 ≤ s := by
        rintro s (h | ⟨c, hc, q, hq, ho, _, rfl⟩)
        · exact h.elim
        · exact ((hI _ _ hq).2.1 (.inl ho)).1
      obtain ⟨r', hr', hL⟩ := long_ends hT hI hf k (T.nxt i) r.1 r.2 _ (if list.any (isMatch I) = true then (i : Int) else e) u2 (by omega) hR' hC'
      refine ⟨r', by rw [hr]; exact hr', ?_⟩
      have hall := fun j => hC'.all hI hR' j
      have hnext : ∀ j, (∃ c ∈ r.2, ∃ m, Acc T I m c (T.nxt i) j) → ∃ c ∈ list, ∃ m, Acc T I m c i j := fun j h => by
        obtain ⟨s, hs, hm⟩ := (hall j).1 h
        exact (hla j).2 (.inr ⟨hh, s, hs.resolve_left id, hm⟩)
      have hback : ∀ j, (∃ c ∈ list, ∃ m, Acc T I m c i j) → (j = i ∧ list.any (isMatch I) = true) ∨ ∃ c ∈ r.2, ∃ m, Acc T I m c (T.nxt i) j := fun j h => by
        rcases (hla j).1 h with ⟨h1, h2⟩ | ⟨_, s, hs, hm⟩
        · exact .inl ⟨h1, any_match.2 h2⟩
        · exact .inr ((hall j).2 ⟨s, .inr hs, hm⟩)
      rcases hL with ⟨rfl, hn⟩ | ⟨j, rfl, hj, hmax⟩
      · by_cases hm : list.any (isMatch I) = true
        · rw [if_pos hm]
          refine .inr ⟨i, rfl, (hla i).2 (.inl ⟨rfl, any_match.1 hm⟩), fun j' h => ?_⟩
          rcases hback j' h with ⟨h1, _⟩ | h1
          · omega
          · exact absurd h1 (hn j')
        · rw [if_neg hm]
          refine .inl ⟨rfl, fun j h => ?_⟩
          rcases hback j h with ⟨_, h1⟩ | h1
          · exact hm h1
          · exact hn j h1
      · refine .inr ⟨j, rfl, hnext j hj, fun j' h => ?_⟩
        rcases hback j' h with ⟨h1, _⟩ | h1
        · obtain ⟨c, _, m, ha⟩ := hj
          have := Acc.le hT m _ _ _ ha
          omega
        · exact hmax j' h1

/-! ### The instructions of a tree -/
mutual
/-- What of a valid tree the making leans on. -/
def Makes : Rx → Prop
  | .mk kind _ _ _ mn mx kids => (kind = 6 → kids ≠ []) ∧ (kind = 7 → kids ≠ [] ∧ 0 ≤ mn ∧ (0 ≤ mx → mn ≤ mx)) ∧ MakesAll kids
def MakesAll : List Rx → Prop
  | [] => True
  | k :: ks => Makes k ∧ MakesAll ks
end

def optF (F : Int → List Inst → Int × List Inst) : Nat → Int → List Inst → Int × List Inst
  | 0, next, I => (next, I)
  | m + 1, next, I => optF F m (F next I).2.length ((F next I).2 ++ [⟨2, noNode, (F next I).1, next⟩])
def timesF (F : Int → List Inst → Int × List Inst) : Nat → Int → List Inst → Int × List Inst
  | 0, next, I => (next, I)
  | m + 1, next, I => timesF F m (F next I).1 (F next I).2
/-- An instruction's first way on, set. -/
def setX (I : List Inst) (n : Nat) (c : Int) : List Inst := match I[n]? with | some q => I.set n { q with x := c } | none => I
def starF (F : Int → List Inst → Int × List Inst) (next : Int) (I : List Inst) : Int × List Inst :=
  (I.length, setX (F I.length (I ++ [⟨2, noNode, 0, next⟩])).2 I.length (F I.length (I ++ [⟨2, noNode, 0, next⟩])).1)

mutual
def make : Rx → Int → List Inst → Int × List Inst
  | .mk kind code neg set mn mx kids => fun next I =>
    if kind = 1 then (next, I)
    else if kind = 2 ∨ kind = 3 ∨ kind = 4 then (I.length, I ++ [⟨0, .mk kind code neg set mn mx kids, next, 0⟩])
    else if kind = 5 then makeCat kids next I
    else if kind = 6 then makeAlt kids next I
    else if kind = 7 then
      let r0 := if mx < 0 then starF (fun n J => makeHd kids n J) next I else (next, I)
      let r1 := optF (fun n J => makeHd kids n J) (mx - mn).toNat r0.1 r0.2
      timesF (fun n J => makeHd kids n J) mn.toNat r1.1 r1.2
    else (I.length, I ++ [⟨1, .mk kind code neg set mn mx kids, next, 0⟩])
def makeCat : List Rx → Int → List Inst → Int × List Inst
  | [] => fun next I => (next, I)
  | k :: ks => fun next I => make k (makeCat ks next I).1 (makeCat ks next I).2
def makeAlt : List Rx → Int → List Inst → Int × List Inst
  | [] => fun next I => (next, I)
  | k :: ks => fun next I =>
    if ks = [] then make k next I
    else (((make k next (makeAlt ks next I).2).2.length : Int), (make k next (makeAlt ks next I).2).2 ++ [⟨2, noNode, (make k next (makeAlt ks next I).2).1, (makeAlt ks next I).1⟩])
def makeHd : List Rx → Int → List Inst → Int × List Inst
  | [] => fun next I => (next, I)
  | k :: _ => fun next I => make k next I
end

def OkInst (n : Nat) (q : Inst) : Prop :=
  (q.op = 0 ∨ q.op = 1 ∨ q.op = 2 ∨ q.op = 3) ∧ (q.op = 0 ∨ q.op = 1 ∨ q.op = 2 → 0 ≤ q.x ∧ q.x < n) ∧ (q.op = 2 → 0 ≤ q.y ∧ q.y < n)
theorem OkInst.more {n m : Nat} {q : Inst} (h : OkInst n q) (hm : n ≤ m) : OkInst m q :=
  ⟨h.1, fun x => by have := h.2.1 x; omega, fun x => by have := h.2.2 x; omega⟩

structure Made (F : List Inst → Int → Int → Prop) (next : Int) (I : List Inst) (r : Int × List Inst) : Prop where
  keep : ∀ j, j < I.length → r.2[j]? = I[j]?
  len : I.length ≤ r.2.length
  start : 0 ≤ r.1 ∧ r.1 < r.2.length
  sound : ∀ (j : Nat) (q : Inst), I.length ≤ j → r.2[j]? = some q → OkInst r.2.length q
  frag : ∀ J : List Inst, (∀ j, I.length ≤ j → j < r.2.length → J[j]? = r.2[j]?) → F J r.1 next

theorem made_snoc (F : List Inst → Int → Int → Prop) (next : Int) (I : List Inst) (q : Inst) (hq : OkInst (I.length + 1) q)
    (hF : ∀ J : List Inst, J[I.length]? = some q → F J I.length next) : Made F next I (I.length, I ++ [q]) := by
  refine ⟨fun j hj => by simp [List.getElem?_append_left hj], by simp, by simp; omega, fun j p hj hp => ?_, fun J hJ => ?_⟩
  · obtain rfl : j = I.length := by have := (List.getElem?_eq_some_iff.1 hp).1; simp at this; omega
    simp at hp; subst hp; simpa using hq
  · apply hF
    rw [hJ I.length (Nat.le_refl _) (by simp)]; simp

/-- One made behind another. -/
theorem Made.then_ {F G H : List Inst → Int → Int → Prop} {next : Int} {I : List Inst} {r r' : Int × List Inst} (h : Made F next I r) (k : Made G r.1 r.2 r')
    (hH : ∀ (J : List Inst), F J r.1 next → G J r'.1 r.1 → H J r'.1 next) : Made H next I r' := by
  refine ⟨fun j hj => by rw [k.keep j (by have := h.len; omega), h.keep j hj], Nat.le_trans h.len k.len, k.start, fun j q hj hq => ?_, fun J hJ => ?_⟩
  · by_cases hjr : j < r.2.length
    · rw [k.keep j hjr] at hq
      exact (h.sound j q hj hq).more k.len
    · exact k.sound j q (by omega) hq
  · refine hH J (h.frag J fun j h1 h2 => ?_) (k.frag J fun j h1 h2 => hJ j (by have := h.len; omega) h2)
    rw [hJ j h1 (by have := k.len; omega), k.keep j h2]

theorem times_made {K : List Inst → Int → Int → Prop} {F : Int → List Inst → Int × List Inst} (hF : ∀ next I, 0 ≤ next → next < I.length → Made K next I (F next I)) :
    ∀ (m : Nat) (next : Int) (I : List Inst), 0 ≤ next → next < I.length → Made (fun J => FragTimes (K J) m) next I (timesF F m next I)
  | 0, next, I, h0, h1 => ⟨fun _ _ => rfl, Nat.le_refl _, ⟨h0, h1⟩, fun j q hj hq => by have := (List.getElem?_eq_some_iff.1 hq).1; simp only [timesF] at this; omega, fun J _ => rfl⟩
  | m + 1, next, I, h0, h1 => by
    have h := hF next I h0 h1
    refine h.then_ (times_made hF m _ _ h.start.1 h.start.2) fun J hk ht => ?_
    have key : ∀ (m : Nat) (a b c : Int), FragTimes (K J) m a b → K J b c → FragTimes (K J) (m + 1) a c := by
      intro m
      induction m with
      | zero => intro a b c h1 h2; simp only [FragTimes] at h1 ⊢; subst h1; exact ⟨c, h2, rfl⟩
      | succ m ih =>
        intro a b c h1 h2
        simp only [FragTimes] at h1
        obtain ⟨d, hd, hm⟩ := h1
        exact ⟨d, hd, ih _ _ _ hm h2⟩
    exact key m _ _ _ ht hk

theorem opt_made {K : List Inst → Int → Int → Prop} {F : Int → List Inst → Int × List Inst} (hF : ∀ next I, 0 ≤ next → next < I.length → Made K next I (F next I)) :
    ∀ (m : Nat) (next : Int) (I : List Inst), 0 ≤ next → next < I.length → Made (fun J => FragOpt J (K J) m) next I (optF F m next I)
  | 0, next, I, h0, h1 => ⟨fun _ _ => rfl, Nat.le_refl _, ⟨h0, h1⟩, fun j q hj hq => by have := (List.getElem?_eq_some_iff.1 hq).1; simp only [optF] at this; omega, fun J _ => rfl⟩
  | m + 1, next, I, h0, h1 => by
    have h := hF next I h0 h1
    have h2 : Made (fun J a b => 0 ≤ a ∧ ∃ q, J[a.toNat]? = some q ∧ q.op = 2 ∧ q.y = next ∧ K J q.x next) next I (((F next I).2.length : Int), (F next I).2 ++ [⟨2, noNode, (F next I).1, next⟩]) := by
      refine ⟨fun j hj => ?_, by have := h.len; simp; omega, by simp; omega, fun j p hj hp => ?_, fun J hJ => ?_⟩
      · rw [List.getElem?_append_left (by have := h.len; omega), h.keep j hj]
      · by_cases hjr : j < (F next I).2.length
        · rw [List.getElem?_append_left hjr] at hp
          exact (h.sound j p hj hp).more (by simp)
        · rw [List.getElem?_append_right (by omega)] at hp
          obtain ⟨hlt, hp⟩ := List.getElem?_eq_some_iff.1 hp
          simp at hlt
          have : j - (F next I).2.length = 0 := by omega
          simp [this] at hp
          subst hp
          have := h.start; have := h.len
          refine ⟨by simp, fun _ => ?_, fun _ => ?_⟩ <;> simp <;> omega
      · refine ⟨by simp, ⟨2, noNode, (F next I).1, next⟩, ?_, rfl, rfl, ?_⟩
        · have := h.len
          rw [Int.toNat_natCast, hJ _ (by omega) (by simp)]
          simp
        · refine h.frag J fun j h1 h2 => ?_
          rw [hJ j h1 (by simp; omega), List.getElem?_append_left h2]
    refine h2.then_ (opt_made hF m _ _ h2.start.1 h2.start.2) fun J hk ht => ?_
    have key : ∀ (m : Nat) (a b : Int), FragOpt J (K J) m a b → (0 ≤ b ∧ ∃ q, J[b.toNat]? = some q ∧ q.op = 2 ∧ q.y = next ∧ K J q.x next) → FragOpt J (K J) (m + 1) a next := by
      intro m
      induction m with
      | zero =>
        intro a b h1 h2
        simp only [FragOpt] at h1 ⊢
        subst h1
        obtain ⟨h0, q, hq, ho, hy, hx⟩ := h2
        exact ⟨h0, q, hq, ho, by rw [hy]; exact hx, hy⟩
      | succ m ih =>
        intro a b h1 h2
        simp only [FragOpt] at h1
        obtain ⟨h0, q, hq, ho, hx, hm⟩ := h1
        exact ⟨h0, q, hq, ho, hx, ih _ _ hm h2⟩
    exact key m _ _ ht hk

theorem star_made {K : List Inst → Int → Int → Prop} {F : Int → List Inst → Int × List Inst} (hF : ∀ next I, 0 ≤ next → next < I.length → Made K next I (F next I))
    (next : Int) (I : List Inst) (h0 : 0 ≤ next) (h1 : next < I.length) : Made (fun J a b => 0 ≤ a ∧ ∃ q, J[a.toNat]? = some q ∧ q.op = 2 ∧ q.y = b ∧ K J q.x a) next I (starF F next I) := by
  have hn := hF I.length (I ++ [⟨2, noNode, 0, next⟩]) (by omega) (by simp; omega)
  have hlen := hn.len
  have hst := hn.start
  unfold starF
  generalize F I.length (I ++ [⟨2, noNode, 0, next⟩]) = r at *
  simp at hlen
  have hloop : r.2[I.length]? = some ⟨2, noNode, 0, next⟩ := by rw [hn.keep _ (by simp)]; simp
  have hset : setX r.2 I.length r.1 = r.2.set I.length ⟨2, noNode, r.1, next⟩ := by unfold setX; rw [hloop]
  rw [hset]
  refine ⟨fun j hj => ?_, by simp; omega, by simp; omega, fun j q hj hq => ?_, fun J hJ => ?_⟩
  · simp only
    rw [List.getElem?_set_ne (by omega), hn.keep j (by simp; omega), List.getElem?_append_left hj]
  · simp only at hq ⊢
    rw [List.length_set]
    by_cases he : I.length = j
    · subst he
      rw [List.getElem?_set_self (by omega)] at hq
      obtain rfl := Option.some.inj hq
      refine ⟨by simp, fun _ => ?_, fun _ => ?_⟩ <;> simp <;> omega
    · rw [List.getElem?_set_ne he] at hq
      exact hn.sound j q (by simp; omega) hq
  · simp only at hJ ⊢
    refine ⟨by omega, ⟨2, noNode, r.1, next⟩, ?_, rfl, rfl, ?_⟩
    · rw [Int.toNat_natCast, hJ _ (Nat.le_refl _) (by simp; omega), List.getElem?_set_self (by omega)]
    · refine hn.frag J fun j h1 h2 => ?_
      simp at h1
      rw [hJ j (by omega) (by simp; omega), List.getElem?_set_ne (by omega)]

mutual
theorem make_made : ∀ (t : Rx) (next : Int) (I : List Inst), Makes t → 0 ≤ next → next < I.length → Made (fun J => Frag J t) next I (make t next I)
  | .mk kind code neg set mn mx kids, next, I, hg, h0, h1 => by
    simp only [Makes] at hg
    obtain ⟨g6, g7, gk⟩ := hg
    simp only [make, Frag]
    by_cases c1 : kind = 1
    · simp only [if_pos c1]
      exact ⟨fun _ _ => rfl, Nat.le_refl _, ⟨h0, h1⟩, fun j q hj hq => by have := (List.getElem?_eq_some_iff.1 hq).1; simp only at this; omega, fun J _ => rfl⟩
    simp only [if_neg c1]
    by_cases c2 : kind = 2 ∨ kind = 3 ∨ kind = 4
    · simp only [if_pos c2]
      exact made_snoc _ _ _ _ ⟨by simp, fun _ => by simp; omega, by simp⟩ fun J hJ => ⟨by omega, 0, by simpa using hJ⟩
    simp only [if_neg c2]
    by_cases c5 : kind = 5
    · simp only [if_pos c5]
      exact makeCat_made kids next I gk h0 h1
    simp only [if_neg c5]
    by_cases c6 : kind = 6
    · simp only [if_pos c6]
      exact makeAlt_made kids next I (g6 c6) gk h0 h1
    simp only [if_neg c6]
    by_cases c7 : kind = 7
    · simp only [if_pos c7]
      obtain ⟨gn, gm, gx⟩ := g7 c7
      have hF : ∀ next I, 0 ≤ next → next < I.length → Made (fun J a b => FragHd J kids a b) next I (makeHd kids next I) := fun next I a b => makeHd_made kids next I gn gk a b
      by_cases cx : mx < 0
      · simp only [if_pos cx]
        have hz : (mx - mn).toNat = 0 := by omega
        rw [hz]
        have h2 := star_made hF next I h0 h1
        simp only [optF]
        refine h2.then_ (times_made hF mn.toNat _ _ h2.start.1 h2.start.2) fun J hk ht => ?_
        exact ⟨⟨gm, gx⟩, _, hk, ht⟩
      · simp only [if_neg cx]
        have h2 := opt_made hF (mx - mn).toNat next I h0 h1
        refine h2.then_ (times_made hF mn.toNat _ _ h2.start.1 h2.start.2) fun J hk ht => ?_
        exact ⟨⟨gm, gx⟩, _, hk, ht⟩
    simp only [if_neg c7]
    exact made_snoc _ _ _ _ ⟨by simp, fun _ => by simp; omega, by simp⟩ fun J hJ => ⟨by omega, 0, by simpa using hJ⟩
theorem makeCat_made : ∀ (ks : List Rx) (next : Int) (I : List Inst), MakesAll ks → 0 ≤ next → next < I.length → Made (fun J => FragCat J ks) next I (makeCat ks next I)
  | [], next, I, hg, h0, h1 => ⟨fun _ _ => by simp [makeCat], by simp [makeCat], by simp [makeCat]; omega, fun j q hj hq => by have := (List.getElem?_eq_some_iff.1 hq).1; simp only [makeCat] at this; omega, fun J _ => by simp [makeCat, FragCat]⟩
  | k :: ks, next, I, hg, h0, h1 => by
    simp only [MakesAll] at hg
    have h2 := makeCat_made ks next I hg.2 h0 h1
    simp only [makeCat]
    refine h2.then_ (make_made k _ _ hg.1 h2.start.1 h2.start.2) fun J hk ht => ?_
    simp only [FragCat]
    exact ⟨_, ht, hk⟩
theorem makeAlt_made : ∀ (ks : List Rx) (next : Int) (I : List Inst), ks ≠ [] → MakesAll ks → 0 ≤ next → next < I.length → Made (fun J => FragAlt J ks) next I (makeAlt ks next I)
  | [], next, I, hn, hg, h0, h1 => absurd rfl hn
  | k :: ks, next, I, hn, hg, h0, h1 => by
    simp only [MakesAll] at hg
    simp only [makeAlt]
    by_cases hk : ks = []
    · simp only [if_pos hk]
      have h2 := make_made k next I hg.1 h0 h1
      exact ⟨h2.keep, h2.len, h2.start, h2.sound, fun J hJ => by simp only [FragAlt]; exact .inl ⟨hk, h2.frag J hJ⟩⟩
    · simp only [if_neg hk]
      have h2 := makeAlt_made ks next I hk hg.2 h0 h1
      have h3 := make_made k next (makeAlt ks next I).2 hg.1 h0 (by have := h2.len; omega)
      generalize hr : make k next (makeAlt ks next I).2 = r at *
      generalize hp : makeAlt ks next I = p at *
      have e2 := h2.len; have e3 := h3.len; have s2 := h2.start; have s3 := h3.start
      refine ⟨fun j hj => ?_, by simp; omega, by simp; omega, fun j q hj hq => ?_, fun J hJ => ?_⟩
      · simp only
        rw [List.getElem?_append_left (by omega), h3.keep j (by omega), h2.keep j hj]
      · simp only at hq ⊢
        by_cases hjr : j < r.2.length
        · rw [List.getElem?_append_left hjr] at hq
          by_cases hjp : j < p.2.length
          · rw [h3.keep j hjp] at hq
            exact (h2.sound j q hj hq).more (by simp; omega)
          · exact (h3.sound j q (by omega) hq).more (by simp)
        · rw [List.getElem?_append_right (by omega)] at hq
          obtain ⟨hlt, hq⟩ := List.getElem?_eq_some_iff.1 hq
          simp at hlt
          have : j - r.2.length = 0 := by omega
          simp [this] at hq
          subst hq
          refine ⟨by simp, fun _ => ?_, fun _ => ?_⟩ <;> simp <;> omega
      · simp only [FragAlt] at hJ ⊢
        refine .inr ⟨hk, by simp, ⟨2, noNode, r.1, p.1⟩, ?_, rfl, ?_, ?_⟩
        · rw [Int.toNat_natCast, hJ _ (by omega) (by simp)]; simp
        · refine h3.frag J fun j h4 h5 => ?_
          rw [hJ j (by omega) (by simp; omega), List.getElem?_append_left h5]
        · refine h2.frag J fun j h4 h5 => ?_
          rw [hJ j h4 (by simp; omega), List.getElem?_append_left (by omega), h3.keep j h5]
theorem makeHd_made : ∀ (ks : List Rx) (next : Int) (I : List Inst), ks ≠ [] → MakesAll ks → 0 ≤ next → next < I.length → Made (fun J => FragHd J ks) next I (makeHd ks next I)
  | [], next, I, hn, hg, h0, h1 => absurd rfl hn
  | k :: ks, next, I, hn, hg, h0, h1 => by
    simp only [MakesAll] at hg
    simp only [makeHd, FragHd]
    exact make_made k next I hg.1 h0 h1
end

/-- The program of a tree: its instructions, and where they begin. -/
def compiled (t : Rx) : Int × List Inst := make t 0 [⟨3, noNode, 0, 0⟩]

theorem compiled_sound {t : Rx} (h : Makes t) : Sound (compiled t).2 := by
  have hm := make_made t 0 [⟨3, noNode, 0, 0⟩] h (by omega) (by simp)
  intro s q hq
  by_cases h0 : s = 0
  · subst h0
    have := hm.keep 0 (by simp)
    unfold compiled at hq
    rw [this] at hq
    simp at hq; subst hq
    simp
  · exact hm.sound s q (by simp; omega) hq

theorem compiled_acc {T : Txt} {t : Rx} (h : Makes t) (i j : Nat) : (∃ m, Acc T (compiled t).2 m (compiled t).1 i j) ↔ den T t i j := by
  have hm := make_made t 0 [⟨3, noNode, 0, 0⟩] h (by omega) (by simp)
  have hf := hm.frag (compiled t).2 (fun j _ _ => rfl)
  have h0 : (compiled t).2[(0 : Int).toNat]? = some ⟨3, noNode, 0, 0⟩ := by
    have := hm.keep 0 (by simp)
    unfold compiled
    rw [Int.toNat_zero, this]; rfl
  constructor
  · rintro ⟨m, ha⟩
    obtain ⟨k, n, _, hd, hk⟩ := frag_sound t _ _ _ _ _ hf ha
    match n, hk with
    | 0, hk => obtain ⟨rfl, _⟩ := hk; exact hd
    | n + 1, hk =>
      obtain ⟨_, q, hq, hc⟩ := hk
      rw [h0] at hq
      obtain rfl := Option.some.inj hq
      simp at hc
  · intro hd
    exact frag_complete t _ _ 0 i j j hf hd ⟨rfl, by omega, _, h0, rfl⟩

theorem compiled_start {t : Rx} (h : Makes t) : 0 ≤ (compiled t).1 ∧ (compiled t).1 < (compiled t).2.length :=
  (make_made t 0 [⟨3, noNode, 0, 0⟩] h (by omega) (by simp)).start

/-- The longest match from a place: the first instruction followed, then character by character. -/
def longestF (T : Txt) (t : Rx) (f k : Nat) (i : Nat) : Option Int :=
  (followF (compiled t).2 (fun u => T.hold u i) f (List.replicate (compiled t).2.length false) [] (compiled t).1).bind fun r => longF T (compiled t).2 f k i r.2 (-1)

theorem longest_ends {T : Txt} {n : Nat} (hT : T.Fine n) {t : Rx} (h : Makes t) {f k i : Nat} (hf : (compiled t).2.length < f) (hi : i ≤ n) (hk : n - i < k) :
    ∃ r, longestF T t f k i = some r ∧ Last (den T t i) (-1) r := by
  have hI := compiled_sound h
  obtain ⟨s0, s1⟩ := compiled_start h
  obtain ⟨r1, hr1, hl1, _⟩ := follow_ends (chk := fun u => T.hold u i) hI f (List.replicate (compiled t).2.length false) [] _ (by simp) s0 s1 (by have := bare_le (List.replicate (compiled t).2.length false); simp at this; omega)
  obtain ⟨F1, _⟩ := follow_met f _ _ _ r1 s0 hI s1 (by simp) hr1
  have hC := (Cl.start (compiled t).2 (fun u => T.hold u i)).step hl1 F1
  have hR : ∀ s, (False ∨ s = (compiled t).1) → 0 ≤ s := by rintro s (h | rfl); exact h.elim; exact s0
  obtain ⟨r, hr, hL⟩ := long_ends hT hI hf k i r1.1 r1.2 _ (-1) hi hk hR hC
  refine ⟨r, by unfold longestF; rw [hr1]; exact hr, ?_⟩
  have e : (fun j => ∃ c ∈ r1.2, ∃ m, Acc T (compiled t).2 m c i j) = den T t i := by
    funext j
    apply propext
    rw [hC.all hI hR j, ← compiled_acc h i j]
    constructor
    · rintro ⟨s, h | rfl, hm⟩
      · exact h.elim
      · exact hm
    · rintro ⟨m, hm⟩
      exact ⟨_, .inr rfl, m, hm⟩
  rw [← e]
  exact hL

theorem iter_le {R : Nat → Nat → Prop} {n : Nat} (h : ∀ i j, i ≤ n → R i j → i ≤ j ∧ j ≤ n) : ∀ (m i j : Nat), i ≤ n → iter R m i j → i ≤ j ∧ j ≤ n
  | 0, i, j, hi, hr => by simp only [iter] at hr; subst hr; exact ⟨Nat.le_refl _, hi⟩
  | m + 1, i, j, hi, hr => by
    obtain ⟨k, hk, hr⟩ := hr
    have h1 := h i k hi hk
    have h2 := iter_le h m k j h1.2 hr
    omega

mutual
theorem den_le {T : Txt} {n : Nat} (hT : T.Fine n) : ∀ (t : Rx) (i j : Nat), i ≤ n → den T t i j → i ≤ j ∧ j ≤ n
  | .mk kind code neg set mn mx kids, i, j, hi, hd => by
    simp only [den] at hd
    by_cases c2 : kind = 2 ∨ kind = 3 ∨ kind = 4
    · rw [if_pos c2] at hd
      obtain ⟨rfl, hh, _⟩ := hd
      have := hT.up i hh
      omega
    rw [if_neg c2] at hd
    by_cases c5 : kind = 5
    · rw [if_pos c5] at hd; exact denCat_le hT kids i j hi hd
    rw [if_neg c5] at hd
    by_cases c6 : kind = 6
    · rw [if_pos c6] at hd; exact denAlt_le hT kids i j hi hd
    rw [if_neg c6] at hd
    by_cases c7 : kind = 7
    · rw [if_pos c7] at hd
      obtain ⟨m, _, _, hr⟩ := hd
      exact iter_le (fun i j => denHd_le hT kids i j) m i j hi hr
    rw [if_neg c7] at hd
    obtain ⟨rfl, _⟩ := hd
    exact ⟨Nat.le_refl _, hi⟩
theorem denCat_le {T : Txt} {n : Nat} (hT : T.Fine n) : ∀ (ks : List Rx) (i j : Nat), i ≤ n → denCat T ks i j → i ≤ j ∧ j ≤ n
  | [], i, j, hi, hd => by simp only [denCat] at hd; subst hd; exact ⟨Nat.le_refl _, hi⟩
  | k :: ks, i, j, hi, hd => by
    simp only [denCat] at hd
    obtain ⟨l, h1, h2⟩ := hd
    have a := den_le hT k i l hi h1
    have b := denCat_le hT ks l j a.2 h2
    omega
theorem denAlt_le {T : Txt} {n : Nat} (hT : T.Fine n) : ∀ (ks : List Rx) (i j : Nat), i ≤ n → denAlt T ks i j → i ≤ j ∧ j ≤ n
  | [], i, j, hi, hd => by simp only [denAlt] at hd
  | k :: ks, i, j, hi, hd => by
    simp only [denAlt] at hd
    rcases hd with hd | hd
    · exact den_le hT k i j hi hd
    · exact denAlt_le hT ks i j hi hd
theorem denHd_le {T : Txt} {n : Nat} (hT : T.Fine n) : ∀ (ks : List Rx) (i j : Nat), i ≤ n → denHd T ks i j → i ≤ j ∧ j ≤ n
  | [], i, j, hi, hd => by simp only [denHd] at hd
  | k :: ks, i, j, hi, hd => by simp only [denHd] at hd; exact den_le hT k i j hi hd
end

/-! ### One text told in two ways -/
structure Emb (T T' : Txt) (n : Nat) (φ : Nat → Nat) : Prop where
  fine : T.Fine n
  has : ∀ k, k ≤ n → T'.has (φ k) = T.has k
  nxt : ∀ k, k ≤ n → T.has k = true → T'.nxt (φ k) = φ (T.nxt k)
  fit : ∀ t k, k ≤ n → T.has k = true → T'.fit t (φ k) = T.fit t k
  hold : ∀ t k, k ≤ n → T'.hold t (φ k) = T.hold t k

theorem iter_emb {R R' : Nat → Nat → Prop} {n : Nat} {φ : Nat → Nat} (hle : ∀ i j, i ≤ n → R i j → i ≤ j ∧ j ≤ n) (h : ∀ k j, k ≤ n → (R' (φ k) j ↔ ∃ l, j = φ l ∧ R k l)) :
    ∀ (m k j : Nat), k ≤ n → (iter R' m (φ k) j ↔ ∃ l, j = φ l ∧ iter R m k l)
  | 0, k, j, hk => by
    simp only [iter]
    constructor
    · rintro rfl; exact ⟨k, rfl, rfl⟩
    · rintro ⟨l, rfl, rfl⟩; rfl
  | m + 1, k, j, hk => by
    simp only [iter]
    constructor
    · rintro ⟨x, hx, hr⟩
      obtain ⟨l, rfl, hR⟩ := (h k x hk).1 hx
      obtain ⟨p, rfl, hi⟩ := (iter_emb hle h m l j (hle k l hk hR).2).1 hr
      exact ⟨p, rfl, l, hR, hi⟩
    · rintro ⟨p, rfl, l, hR, hi⟩
      exact ⟨φ l, (h k _ hk).2 ⟨l, rfl, hR⟩, (iter_emb hle h m l _ (hle k l hk hR).2).2 ⟨p, rfl, hi⟩⟩

mutual
theorem den_emb {T T' : Txt} {n : Nat} {φ : Nat → Nat} (hE : Emb T T' n φ) : ∀ (t : Rx) (k j : Nat), k ≤ n → (den T' t (φ k) j ↔ ∃ l, j = φ l ∧ den T t k l)
  | .mk kind code neg set mn mx kids, k, j, hk => by
    simp only [den]
    by_cases c2 : kind = 2 ∨ kind = 3 ∨ kind = 4
    · simp only [if_pos c2]
      rw [hE.has k hk]
      constructor
      · rintro ⟨rfl, hh, hf⟩
        exact ⟨_, hE.nxt k hk hh, rfl, hh, by rw [← hE.fit _ k hk hh]; exact hf⟩
      · rintro ⟨l, rfl, rfl, hh, hf⟩
        exact ⟨(hE.nxt k hk hh).symm, hh, by rw [hE.fit _ k hk hh]; exact hf⟩
    simp only [if_neg c2]
    by_cases c5 : kind = 5
    · simp only [if_pos c5]; exact denCat_emb hE kids k j hk
    simp only [if_neg c5]
    by_cases c6 : kind = 6
    · simp only [if_pos c6]; exact denAlt_emb hE kids k j hk
    simp only [if_neg c6]
    by_cases c7 : kind = 7
    · simp only [if_pos c7]
      constructor
      · rintro ⟨m, h1, h2, hr⟩
        obtain ⟨l, rfl, hi⟩ := (iter_emb (R := denHd T kids) (fun i j => denHd_le hE.fine kids i j) (fun k j => denHd_emb hE kids k j) m k j hk).1 hr
        exact ⟨l, rfl, m, h1, h2, hi⟩
      · rintro ⟨l, rfl, m, h1, h2, hi⟩
        exact ⟨m, h1, h2, (iter_emb (R := denHd T kids) (fun i j => denHd_le hE.fine kids i j) (fun k j => denHd_emb hE kids k j) m k _ hk).2 ⟨l, rfl, hi⟩⟩
    simp only [if_neg c7]
    rw [hE.hold _ k hk]
    constructor
    · rintro ⟨rfl, h⟩; exact ⟨k, rfl, rfl, h⟩
    · rintro ⟨l, rfl, rfl, h⟩; exact ⟨rfl, h⟩
theorem denCat_emb {T T' : Txt} {n : Nat} {φ : Nat → Nat} (hE : Emb T T' n φ) : ∀ (ks : List Rx) (k j : Nat), k ≤ n → (denCat T' ks (φ k) j ↔ ∃ l, j = φ l ∧ denCat T ks k l)
  | [], k, j, hk => by
    simp only [denCat]
    constructor
    · rintro rfl; exact ⟨k, rfl, rfl⟩
    · rintro ⟨l, rfl, rfl⟩; rfl
  | t :: ks, k, j, hk => by
    simp only [denCat]
    constructor
    · rintro ⟨x, hx, hr⟩
      obtain ⟨l, rfl, hd⟩ := (den_emb hE t k x hk).1 hx
      obtain ⟨p, rfl, hi⟩ := (denCat_emb hE ks l j (den_le hE.fine t k l hk hd).2).1 hr
      exact ⟨p, rfl, l, hd, hi⟩
    · rintro ⟨p, rfl, l, hd, hi⟩
      exact ⟨φ l, (den_emb hE t k _ hk).2 ⟨l, rfl, hd⟩, (denCat_emb hE ks l _ (den_le hE.fine t k l hk hd).2).2 ⟨p, rfl, hi⟩⟩
theorem denAlt_emb {T T' : Txt} {n : Nat} {φ : Nat → Nat} (hE : Emb T T' n φ) : ∀ (ks : List Rx) (k j : Nat), k ≤ n → (denAlt T' ks (φ k) j ↔ ∃ l, j = φ l ∧ denAlt T ks k l)
  | [], k, j, hk => by simp only [denAlt]; simp
  | t :: ks, k, j, hk => by
    simp only [denAlt]
    rw [den_emb hE t k j hk, denAlt_emb hE ks k j hk]
    constructor
    · rintro (⟨l, h, hd⟩ | ⟨l, h, hd⟩)
      · exact ⟨l, h, .inl hd⟩
      · exact ⟨l, h, .inr hd⟩
    · rintro ⟨l, h, hd | hd⟩
      · exact .inl ⟨l, h, hd⟩
      · exact .inr ⟨l, h, hd⟩
theorem denHd_emb {T T' : Txt} {n : Nat} {φ : Nat → Nat} (hE : Emb T T' n φ) : ∀ (ks : List Rx) (k j : Nat), k ≤ n → (denHd T' ks (φ k) j ↔ ∃ l, j = φ l ∧ denHd T ks k l)
  | [], k, j, hk => by simp only [denHd]; simp
  | t :: ks, k, j, hk => by simp only [denHd]; exact den_emb hE t k j hk
end
end Thr

/- Words for what lies in memory: blocks known whole, rows of ints, sets of ranges and trees of expressions that are only read. -/
namespace Go.Proofs.YtanmlgliibgpcaaDoor
open Go.RowKit Thr

theorem hide {p : Prop} (h : p) : Hid p := h
theorem unhide {p : Prop} (h : Hid p) : p := h

theorem ret_int {k : IntKind} {a b : Int} (h : a = b) : Ending.returned (.int k a) = .returned (.int k b) := by rw [h]
theorem ret_bool {a b : Bool} (h : a = b) : Ending.returned (.bool a) = .returned (.bool b) := by rw [h]
theorem ret_str {a b : ByteArray} (h : a = b) : Ending.returned (.string a) = .returned (.string b) := by rw [h]

/-! ### Blocks known whole -/
def Blk (w : World) (g : Nat) (t : TypeId) (cs : Array Value) : Prop := w.heap[g]? = some (.cells cs t (0, 0))

section
variable {w w' : World} {g : Nat} {t : TypeId} {cs : Array Value}
theorem Blk.lt (h : Blk w g t cs) : g < w.heap.size := by
  rcases Nat.lt_or_ge g w.heap.size with hlt | hge
  · exact hlt
  · unfold Blk at h; rw [Array.getElem?_eq_none hge] at h; cases h
theorem Blk.cell (h : Blk w g t cs) (i : Nat) : w.cell? ⟨g, i, none⟩ = cs[i]? := cell_of_row w g i cs t (0, 0) h
theorem Blk.frozen (h : Blk w g t cs) (i : Nat) : w.frozen? ⟨g, i, none⟩ = false := by
  unfold Blk at h
  simp [World.frozen?, h]
theorem Blk.new (w : World) (t : TypeId) (cs : Array Value) : Blk (w.alloc (.cells cs t)) w.heap.size t cs := heap_alloc_new w _
theorem Blk.drew (h : Blk w g t cs) : Blk w.drew g t cs := h
theorem Blk.drewN (h : Blk w g t cs) (n : Nat) : Blk (w.drewN n) g t cs := h
theorem Blk.alloc (h : Blk w g t cs) (o : Obj) : Blk (w.alloc o) g t cs := (Below.heap_alloc w o g h.lt).trans h
theorem Blk.set_ (h : Blk w g t cs) (i : Nat) (u : Value) : Blk (w.setCell ⟨g, i, none⟩ u) g t (cs.setIfInBounds i u) := by
  unfold Blk at h ⊢
  simp [World.setCell, Array.getElem?_modify, h]
theorem Blk.far (h : Blk w g t cs) {p : Addr} (hp : g ≠ p.block) (u : Value) : Blk (w.setCell p u) g t cs := (Below.heap_setCell w p u g hp).trans h
theorem Blk.below {B : Nat} (h : Blk w g t cs) (hb : Below B w w') (hg : g < B) : Blk w' g t cs := (hb.block g hg).trans h
theorem Blk.grown {row : Option Nat} (h : Blk w g t cs) (hb : w.grownBy w' row) (hg : some g ≠ row) : Blk w' g t cs := (hb.block g h.lt hg).trans h
theorem Blk.ne_ {g' : Nat} {t' : TypeId} {cs' : Array Value} (h : Blk w g t cs) (h' : Blk w g' t' cs') (hne : t ≠ t') : g ≠ g' := by
  rintro rfl
  unfold Blk at h h'
  rw [h] at h'
  injection h' with h'
  injection h' with _ ht
  exact hne ht
theorem own_blk_ne {base : Nat} {e : TypeId} {size n : Nat} {v : Value} {xs : List Value} (h : w.ownsRow base e size v n xs) (hg : Blk w g t cs) (hne : e ≠ t) : v.ownBlock ≠ some g := by
  rcases h.2 with ⟨rfl, _⟩ | ⟨g', cap, cur, rfl, _, hh, _⟩
  · simp [Value.ownBlock]
  · intro he
    have : g' = g := by simpa [Value.ownBlock] using he
    subst this
    exact Blk.ne_ (t := e) hh hg hne rfl
end

/-! ### Frames -/
/-- Of the blocks that were there none has turned but those of S. -/
structure Keeps (S : Nat → Prop) (w w' : World) : Prop where
  os : w'.os = w.os
  tape : w'.tape = w.tape
  output : w'.output = w.output
  size : w.heap.size ≤ w'.heap.size
  block : ∀ k, k < w.heap.size → ¬ S k → w'.heap[k]? = w.heap[k]?

section
variable {S S' : Nat → Prop} {a w w' : World}
theorem Keeps.refl (S : Nat → Prop) (w : World) : Keeps S w w := ⟨rfl, rfl, rfl, Nat.le_refl _, fun _ _ _ => rfl⟩
theorem Keeps.trans (h : Keeps S a w) (k : Keeps S' w w') (hS : ∀ k, k < a.heap.size → S' k → S k) : Keeps S a w' :=
  ⟨k.os.trans h.os, k.tape.trans h.tape, k.output.trans h.output, Nat.le_trans h.size k.size, fun i hi hn => (k.block i (Nat.lt_of_lt_of_le hi h.size) (fun x => hn (hS i hi x))).trans (h.block i hi hn)⟩
theorem Keeps.mono (h : Keeps S w w') (hS : ∀ k, k < w.heap.size → S k → S' k) : Keeps S' w w' := ⟨h.os, h.tape, h.output, h.size, fun k hk hn => h.block k hk (fun x => hn (hS k hk x))⟩
theorem Keeps.drew (h : Keeps S a w) : Keeps S a w.drew := ⟨h.os, h.tape, h.output, h.size, h.block⟩
theorem Keeps.drewN (h : Keeps S a w) (n : Nat) : Keeps S a (w.drewN n) := ⟨h.os, h.tape, h.output, h.size, h.block⟩
theorem Keeps.alloc (h : Keeps S a w) (o : Obj) : Keeps S a (w.alloc o) :=
  ⟨h.os, h.tape, h.output, Nat.le_trans h.size (by simp), fun i hi hn => (Below.heap_alloc w o i (Nat.lt_of_lt_of_le hi h.size)).trans (h.block i hi hn)⟩
theorem Keeps.setCell (h : Keeps S a w) {p : Addr} (hp : S p.block ∨ a.heap.size ≤ p.block) (u : Value) : Keeps S a (w.setCell p u) :=
  ⟨h.os, h.tape, h.output, by simpa [World.setCell] using h.size, fun i hi hn => (Below.heap_setCell w p u i (by
    rintro rfl
    rcases hp with hp | hp
    · exact hn hp
    · omega)).trans (h.block i hi hn)⟩
theorem Keeps.grown (h : Keeps S a w) {row : Option Nat} (hg : w.grownBy w' row) (hr : ∀ k, row = some k → S k ∨ a.heap.size ≤ k) : Keeps S a w' :=
  ⟨hg.os.trans h.os, hg.tape.trans h.tape, hg.output.trans h.output, Nat.le_trans h.size hg.size, fun i hi hn => (hg.block i (Nat.lt_of_lt_of_le hi h.size) (fun e => by
    rcases hr i e.symm with h | h
    · exact hn h
    · omega)).trans (h.block i hi hn)⟩
theorem Keeps.then_below (h : Keeps S a w) (k : Below w.heap.size w w') : Keeps S a w' :=
  ⟨k.os.trans h.os, k.tape.trans h.tape, k.output.trans h.output, Nat.le_trans h.size k.size, fun i hi hn => (k.block i (Nat.lt_of_lt_of_le hi h.size)).trans (h.block i hi hn)⟩
theorem Keeps.below (h : Keeps S w w') {B : Nat} (hB : B ≤ w.heap.size) (hS : ∀ k, k < B → ¬ S k) : Below B w w' :=
  ⟨h.os, h.tape, h.output, h.size, fun k hk => h.block k (Nat.lt_of_lt_of_le hk hB) (hS k hk)⟩
theorem Keeps.none_below (h : Keeps (fun _ => False) w w') : Below w.heap.size w w' := h.below (Nat.le_refl _) (fun _ _ => id)
theorem Keeps.of_below (h : Below w.heap.size w w') (S : Nat → Prop) : Keeps S w w' := ⟨h.os, h.tape, h.output, h.size, fun k hk _ => h.block k hk⟩
theorem Keeps.cell (hk : Keeps S w w') {b o : Nat} (hlt : b < w.heap.size) (hn : ¬ S b) : w'.cell? ⟨b, o, none⟩ = w.cell? ⟨b, o, none⟩ := World.cell?_of_block (w := w) (hk.block b hlt hn)
theorem Keeps.frozen (hk : Keeps S w w') {b o : Nat} (hlt : b < w.heap.size) (hn : ¬ S b) : w'.frozen? ⟨b, o, none⟩ = w.frozen? ⟨b, o, none⟩ := World.frozen?_of_block (w := w) (hk.block b hlt hn)
theorem Blk.keeps {g : Nat} {t : TypeId} {cs : Array Value} (h : Blk w g t cs) (hk : Keeps S w w') (hg : ¬ S g) : Blk w' g t cs := (hk.block g h.lt hg).trans h
end
theorem below_drewN {B : Nat} {a w : World} (h : Below B a w) (n : Nat) : Below B a (w.drewN n) := ⟨h.os, h.tape, h.output, h.size, h.block⟩
theorem below_alloc' {w W : World} (h : Below w.heap.size w W) (o : Obj) : Below w.heap.size w (W.alloc o) := h.alloc h.size o
theorem below_then {w a b : World} (h : Below w.heap.size w a) (k : Below a.heap.size a b) : Below w.heap.size w b := h.trans (k.mono h.size)
theorem bcell {W w1 : World} (hb : Below W.heap.size W w1) : (∀ b o, b < W.heap.size → w1.cell? ⟨b, o, none⟩ = W.cell? ⟨b, o, none⟩) ∧ (∀ b o, b < W.heap.size → w1.frozen? ⟨b, o, none⟩ = W.frozen? ⟨b, o, none⟩) :=
  ⟨fun b o h => hb.cell (p := ⟨b, o, none⟩) h, fun b o h => hb.frozen (p := ⟨b, o, none⟩) h⟩
theorem cell_of_same {w w' : World} {a : Addr} (h : w'.heap[a.block]? = w.heap[a.block]?) : w'.cell? a = w.cell? a := World.cell?_of_block h

/-! ### What is only read: sets of ranges, trees -/
/-- A slice of ranges, in a block of ok. -/
def SetAt (ok : Nat → Prop) (W : World) (v : Value) (l : List (Int × Int)) : Prop :=
  ∃ A c, v = .slice A l.length c ∧ l.length ≤ c ∧ c ≤ 9223372036854775807 ∧ (l = [] ∨ ∃ b o, A = some ⟨b, o, none⟩ ∧ ok b ∧
    ∀ (i : Nat) (x : Int × Int), l[i]? = some x → W.cell? ⟨b, o + i * 2, none⟩ = some (.int .i64 x.1) ∧ W.cell? ⟨b, o + i * 2 + 1, none⟩ = some (.int .i64 x.2))

mutual
/-- A node's cells, and all that they lead to, in blocks of ok. -/
def TreeAt (ok : Nat → Prop) (W : World) : Rx → List Value → Prop
  | .mk kind code neg set mn mx kids => fun cs => ∃ vs A c, cs = [.int .i64 kind, .int .i64 code, .bool neg, vs, .int .i64 mn, .int .i64 mx, .slice A kids.length c] ∧ SetAt ok W vs set ∧
      kids.length ≤ c ∧ c ≤ 9223372036854775807 ∧ (kids = [] ∨ ∃ b o, A = some ⟨b, o, none⟩ ∧ ok b ∧ KidsAt ok W kids b o)
def KidsAt (ok : Nat → Prop) (W : World) : List Rx → Nat → Nat → Prop
  | [] => fun _ _ => True
  | k :: ks => fun b o => (∃ cs, TreeAt ok W k cs ∧ ∀ (j : Nat) (v : Value), cs[j]? = some v → W.cell? ⟨b, o + j, none⟩ = some v) ∧ KidsAt ok W ks b (o + 7)
end

theorem KidsAt.kid {ok : Nat → Prop} {W : World} : ∀ {ks : List Rx} {b o : Nat}, KidsAt ok W ks b o → ∀ (i : Nat) (k : Rx), ks[i]? = some k →
    ∃ cs, TreeAt ok W k cs ∧ ∀ (j : Nat) (v : Value), cs[j]? = some v → W.cell? ⟨b, o + i * 7 + j, none⟩ = some v
  | [], b, o, _, i, k, hi => by simp at hi
  | k :: ks, b, o, h, 0, k', hi => by
    simp only [KidsAt] at h
    simp at hi; subst hi
    simpa using h.1
  | k :: ks, b, o, h, i + 1, k', hi => by
    simp only [KidsAt] at h
    simp at hi
    obtain ⟨cs, hc, hj⟩ := KidsAt.kid h.2 i k' hi
    exact ⟨cs, hc, fun j v hv => by rw [← hj j v hv, show o + (i + 1) * 7 + j = o + 7 + i * 7 + j by omega]⟩

theorem KidsAt.mk {ok : Nat → Prop} {W : World} : ∀ {ks : List Rx} {b o : Nat}, (∀ (i : Nat) (k : Rx), ks[i]? = some k →
    ∃ cs, TreeAt ok W k cs ∧ ∀ (j : Nat) (v : Value), cs[j]? = some v → W.cell? ⟨b, o + i * 7 + j, none⟩ = some v) → KidsAt ok W ks b o
  | [], b, o, _ => by simp [KidsAt]
  | k :: ks, b, o, h => by
    simp only [KidsAt]
    refine ⟨by simpa using h 0 k (by simp), KidsAt.mk fun i k' hi => ?_⟩
    obtain ⟨cs, hc, hj⟩ := h (i + 1) k' (by simpa using hi)
    exact ⟨cs, hc, fun j v hv => by rw [← hj j v hv, show o + (i + 1) * 7 + j = o + 7 + i * 7 + j by omega]⟩

section
variable {ok ok' : Nat → Prop} {W W' : World}
theorem SetAt.mono {v : Value} {l : List (Int × Int)} (h : SetAt ok W v l) (hok : ∀ k, ok k → ok' k) : SetAt ok' W v l := by
  obtain ⟨A, c, h1, h2, h3, h⟩ := h
  refine ⟨A, c, h1, h2, h3, h.imp id ?_⟩
  rintro ⟨b, o, hA, hb, hc⟩
  exact ⟨b, o, hA, hok b hb, hc⟩
theorem SetAt.step {v : Value} {l : List (Int × Int)} (h : SetAt ok W v l) (hk : ∀ k, ok k → k < W.heap.size → W'.heap[k]? = W.heap[k]?) : SetAt ok W' v l := by
  obtain ⟨A, c, h1, h2, h3, h⟩ := h
  refine ⟨A, c, h1, h2, h3, h.imp id ?_⟩
  rintro ⟨b, o, hA, hb, hc⟩
  refine ⟨b, o, hA, hb, fun i x hi => ?_⟩
  obtain ⟨c0, c1⟩ := hc i x hi
  have hs : W'.heap[b]? = W.heap[b]? := hk b hb (World.block_lt_of_cell? W _ c0)
  exact ⟨(cell_of_same (a := ⟨b, _, none⟩) hs).trans c0, (cell_of_same (a := ⟨b, _, none⟩) hs).trans c1⟩
theorem SetAt.bound {v : Value} {l : List (Int × Int)} (h : SetAt ok W v l) : SetAt (fun k => ok k ∧ k < W.heap.size) W v l := by
  obtain ⟨A, c, h1, h2, h3, h⟩ := h
  refine ⟨A, c, h1, h2, h3, ?_⟩
  rcases h with h | ⟨b, o, hA, hb, hc⟩
  · exact .inl h
  · cases l with
    | nil => exact .inl rfl
    | cons x l => exact .inr ⟨b, o, hA, ⟨hb, World.block_lt_of_cell? W _ (hc 0 x rfl).1⟩, hc⟩

mutual
theorem TreeAt.mono (hok : ∀ k, ok k → ok' k) : ∀ (t : Rx) (cs : List Value), TreeAt ok W t cs → TreeAt ok' W t cs
  | .mk kind code neg set mn mx kids, cs, h => by
    simp only [TreeAt] at h ⊢
    obtain ⟨vs, A, c, h1, h2, h3, h4, h⟩ := h
    refine ⟨vs, A, c, h1, h2.mono hok, h3, h4, h.imp id ?_⟩
    rintro ⟨b, o, hA, hb, hk⟩
    exact ⟨b, o, hA, hok b hb, KidsAt.mono hok kids b o hk⟩
theorem KidsAt.mono (hok : ∀ k, ok k → ok' k) : ∀ (ks : List Rx) (b o : Nat), KidsAt ok W ks b o → KidsAt ok' W ks b o
  | [], b, o, _ => by simp [KidsAt]
  | k :: ks, b, o, h => by
    simp only [KidsAt] at h ⊢
    obtain ⟨⟨cs, hc, hj⟩, h⟩ := h
    exact ⟨⟨cs, TreeAt.mono hok k cs hc, hj⟩, KidsAt.mono hok ks b (o + 7) h⟩
end
mutual
theorem TreeAt.step (hk : ∀ k, ok k → k < W.heap.size → W'.heap[k]? = W.heap[k]?) : ∀ (t : Rx) (cs : List Value), TreeAt ok W t cs → TreeAt ok W' t cs
  | .mk kind code neg set mn mx kids, cs, h => by
    simp only [TreeAt] at h ⊢
    obtain ⟨vs, A, c, h1, h2, h3, h4, h⟩ := h
    refine ⟨vs, A, c, h1, h2.step hk, h3, h4, h.imp id ?_⟩
    rintro ⟨b, o, hA, hb, hh⟩
    exact ⟨b, o, hA, hb, KidsAt.step hk kids b o hb hh⟩
theorem KidsAt.step (hk : ∀ k, ok k → k < W.heap.size → W'.heap[k]? = W.heap[k]?) : ∀ (ks : List Rx) (b o : Nat), ok b → KidsAt ok W ks b o → KidsAt ok W' ks b o
  | [], b, o, _, _ => by simp [KidsAt]
  | k :: ks, b, o, hb, h => by
    simp only [KidsAt] at h ⊢
    obtain ⟨⟨cs, hc, hj⟩, h⟩ := h
    exact ⟨⟨cs, TreeAt.step hk k cs hc, fun j v hv => (cell_of_same (a := ⟨b, _, none⟩) (hk b hb (World.block_lt_of_cell? W _ (hj j v hv)))).trans (hj j v hv)⟩, KidsAt.step hk ks b (o + 7) hb h⟩
end
mutual
theorem TreeAt.bound : ∀ (t : Rx) (cs : List Value), TreeAt ok W t cs → TreeAt (fun k => ok k ∧ k < W.heap.size) W t cs
  | .mk kind code neg set mn mx kids, cs, h => by
    simp only [TreeAt] at h ⊢
    obtain ⟨vs, A, c, h1, h2, h3, h4, h⟩ := h
    refine ⟨vs, A, c, h1, h2.bound, h3, h4, ?_⟩
    rcases h with h | ⟨b, o, hA, hb, hk⟩
    · exact .inl h
    · by_cases hkn : kids = []
      · exact .inl hkn
      · refine .inr ⟨b, o, hA, ⟨hb, ?_⟩, KidsAt.bound kids b o hk⟩
        cases kids with
        | nil => exact absurd rfl hkn
        | cons k ks =>
          simp only [KidsAt] at hk
          obtain ⟨⟨cs, hc, hj⟩, _⟩ := hk
          obtain ⟨kind, code, neg, set, mn, mx, kids⟩ := k
          simp only [TreeAt] at hc
          obtain ⟨_, _, _, rfl, _⟩ := hc
          exact World.block_lt_of_cell? W _ (hj 0 _ rfl)
theorem KidsAt.bound : ∀ (ks : List Rx) (b o : Nat), KidsAt ok W ks b o → KidsAt (fun k => ok k ∧ k < W.heap.size) W ks b o
  | [], b, o, _ => by simp [KidsAt]
  | k :: ks, b, o, h => by
    simp only [KidsAt] at h ⊢
    obtain ⟨⟨cs, hc, hj⟩, h⟩ := h
    exact ⟨⟨cs, TreeAt.bound k cs hc, hj⟩, KidsAt.bound ks b (o + 7) h⟩
end
theorem TreeAt.len {t : Rx} {cs : List Value} (h : TreeAt ok W t cs) : cs.length = 7 := by
  obtain ⟨kind, code, neg, set, mn, mx, kids⟩ := t
  simp only [TreeAt] at h
  obtain ⟨_, _, _, rfl, _⟩ := h
  rfl
theorem TreeAt.one {t : Rx} {cs : List Value} (h : TreeAt ok W t cs) : ∀ v ∈ cs, v.oneCell' = true := by
  obtain ⟨kind, code, neg, set, mn, mx, kids⟩ := t
  simp only [TreeAt] at h
  obtain ⟨vs, _, _, rfl, ⟨_, _, rfl, _⟩, _⟩ := h
  intro v hv
  simp at hv
  rcases hv with rfl | rfl | rfl | rfl | rfl | rfl | rfl <;> rfl
/-- Behind new blocks: what lay there lies there. -/
theorem TreeAt.below {t : Rx} {cs : List Value} (h : TreeAt ok W t cs) (hb : Below W.heap.size W W') : TreeAt ok W' t cs := TreeAt.step (fun k _ hlt => hb.block k hlt) t cs h
theorem SetAt.below {v : Value} {l : List (Int × Int)} (h : SetAt ok W v l) (hb : Below W.heap.size W W') : SetAt ok W' v l := h.step (fun k _ hlt => hb.block k hlt)
theorem SetAt.nil (ok : Nat → Prop) (W : World) : SetAt ok W (.slice none 0 0) [] := ⟨none, 0, rfl, Nat.le_refl _, by omega, .inl rfl⟩
end
end Go.Proofs.YtanmlgliibgpcaaDoor

/- Plain Lean: characters of a string: their codes and sizes. -/
namespace Thr

/-- The byte at a place; 0 beyond the end. -/
def byt (s : ByteArray) (i : Nat) : Int := if h : i < s.size then ((s[i]'h).toNat : Int) else 0
theorem byt_at {s : ByteArray} {i : Nat} (h : i < s.size) : ((s[i]'h).toNat : Int) = byt s i := by simp [byt, h]
theorem byt_range (s : ByteArray) (i : Nat) : 0 ≤ byt s i ∧ byt s i ≤ 255 := by
  unfold byt
  split
  · rename_i h
    have := (s[i]'h).toNat_lt
    omega
  · omega
theorem byt_extract {s : ByteArray} {a i : Nat} : byt (s.extract a s.size) i = byt s (a + i) := by
  unfold byt
  by_cases h : a + i < s.size
  · have h' : i < (s.extract a s.size).size := by simp [ByteArray.size_extract]; omega
    rw [dif_pos h, dif_pos h']
    simp [ByteArray.getElem_extract]
  · have h' : ¬ i < (s.extract a s.size).size := by simp [ByteArray.size_extract]; omega
    rw [dif_neg h, dif_neg h']

/-- k bytes that go on an encoding, from place i on, r so far. -/
def tailF (s : ByteArray) : Nat → Nat → Int → Option Int
  | 0, _, r => some r
  | k + 1, i, r => if byt s i < 128 ∨ 191 < byt s i then none else tailF s k (i + 1) (64 * r + byt s i - 128)

/-- Of a byte that begins an encoding of several: how many, its own part of the code, the least code. -/
def leadF (b : Int) : Nat × Int × Int :=
  if 194 ≤ b ∧ b ≤ 223 then (2, b % 32, 128) else if 224 ≤ b ∧ b ≤ 239 then (3, b % 16, 2048) else if 240 ≤ b ∧ b ≤ 244 then (4, b % 8, 65536) else (0, 0, 0)
def codeF (n : Int) (least : Int) (o : Option Int) : Int × Int :=
  match o with
  | none => (0, 0)
  | some r => if r < least ∨ 1114111 < r ∨ 55296 ≤ r ∧ r ≤ 57343 then (0, 0) else (n, r)

/-- How many bytes an encoding has with which a string begins; 0: none does. And its code. -/
def sizeF (s : ByteArray) : Int × Int :=
  if byt s 0 < 128 then (1, byt s 0)
  else if (leadF (byt s 0)).1 = 0 ∨ s.size < (leadF (byt s 0)).1 then (0, 0)
  else codeF (leadF (byt s 0)).1 (leadF (byt s 0)).2.2 (tailF s ((leadF (byt s 0)).1 - 1) 1 (leadF (byt s 0)).2.1)

/-- The code at a place, and how many bytes it has. -/
def nextF (s : ByteArray) (i : Int) (bytes : Bool) : Int × Int :=
  if i < 0 ∨ (s.size : Int) ≤ i then (0, 0)
  else if bytes = true then (byt s i.toNat, 1)
  else if (sizeF (s.extract i.toNat s.size)).1 = 0 then (1114112 + byt s i.toNat, 1)
  else ((sizeF (s.extract i.toNat s.size)).2, (sizeF (s.extract i.toNat s.size)).1)
end Thr

/- Plain Lean: small letters, sets of codes, which character fits a node. -/
namespace Thr

def foldF (c : Int) (bytes : Bool) : Int := if 65 ≤ c ∧ c ≤ 90 ∨ bytes = false ∧ 192 ≤ c ∧ c ≤ 222 ∧ c ≠ 215 then c + 32 else c
def upF (low : Int) (bytes : Bool) : Int := if 0 ≤ low - 32 ∧ foldF (low - 32) bytes = low then low - 32 else low
def hitF (r : Int × Int) (c : Int) : Bool := decide (r.1 ≤ c) && decide (c ≤ r.2)
def inR (r : Int × Int) (c low up : Int) (fold : Bool) : Bool := hitF r c || (fold && (hitF r low || hitF r up))
def inF (set : List (Int × Int)) (c : Int) (fold bytes : Bool) : Bool := set.any fun r => inR r c (foldF c bytes) (upF (foldF c bytes) bytes) fold
def fitsF (t : Rx) (c : Int) (fold bytes : Bool) : Bool :=
  if t.kind = 3 then true
  else if t.kind = 2 then decide (c = t.code) || (fold && decide (foldF c bytes = foldF t.code bytes))
  else inF t.set c fold bytes != t.neg
/-- Letters, digits and '_'. -/
def isWordF (c : Int) : Bool := decide (48 ≤ c ∧ c ≤ 57 ∨ 65 ≤ c ∧ c ≤ 90 ∨ c = 95 ∨ 97 ≤ c ∧ c ≤ 122)
def checkF (kind ahead behind : Int) : Bool :=
  if kind = 8 then decide (ahead < 0) else if kind = 9 then decide (behind < 0)
  else if kind = 10 then isWordF ahead != isWordF behind else if kind = 11 then isWordF ahead == isWordF behind
  else if kind = 12 then !isWordF ahead && isWordF behind else isWordF ahead && !isWordF behind

/-- The code at a place; -1: there is none. -/
def codeAt (s : ByteArray) (i : Int) (bytes : Bool) : Int × Int := if (nextF s i bytes).2 = 0 then (-1, 0) else nextF s i bytes
end Thr

/- Walks: isWord, check. -/
namespace Go.Proofs.YtanmlgliibgpcaaDoor
open Go.RowKit Thr

set_option maxHeartbeats 400000 in
theorem isWord_calls (c : Int) (w : World) : Calls Tryd.prog 55 #[.int .i64 c] w fun e w' => e = .returned (.bool (isWordF c)) ∧ w' = w := by
  go_enter Tryd.func55, Tryd.ntmps55
  go_wp2
  all_goals
    go_ret
    refine ⟨ret_bool ?_, rfl⟩
    rw [Bool.eq_iff_iff]
    simp [isWordF]
    omega

set_option maxHeartbeats 1000000 in
theorem check_calls {ok : Nat → Prop} (t : Rx) (cs : List Value) (ahead behind : Int) (w : World) (ht : TreeAt ok w t cs) :
    Calls Tryd.prog 42 #[.agg cs.toArray, .agg #[.int .i64 ahead, .int .i64 behind]] w fun e w' => e = .returned (.bool (checkF t.kind ahead behind)) ∧ Below w.heap.size w w' := by
  obtain ⟨kind, code, neg, set, mn, mx, kids⟩ := t
  simp only [TreeAt] at ht
  obtain ⟨vs, A, c, rfl, ⟨_, _, rfl, -⟩, -⟩ := ht
  simp only [Rx.kind]
  obtain ⟨a, ha⟩ : ∃ a, isWordF ahead = a := ⟨_, rfl⟩
  obtain ⟨b, hb⟩ : ∃ b, isWordF behind = b := ⟨_, rfl⟩
  have ca := fun w => isWord_calls ahead w
  have cb := fun w => isWord_calls behind w
  rw [ha] at ca
  rw [hb] at cb
  obtain ⟨r, hr⟩ : ∃ r, checkF kind ahead behind = r := ⟨_, rfl⟩
  rw [hr]
  unfold checkF at hr
  rw [ha, hb] at hr
  have Hr := hide hr
  have Ca := hide ca
  have Cb := hide cb
  clear ca cb ha hb hr
  go_enter Tryd.func42, Tryd.ntmps42
  go_wp2_with fail
  go_quiet ((first | (go_at_call_of 55 (Value.int IntKind.i64 ahead); exact Calls.quiet_of_same (unhide Ca _)) | (go_at_call 55; exact Calls.quiet_of_same (unhide Cb _))))
  go_wp2
  all_goals
    go_ret
    refine ⟨ret_bool ?_, (by repeat (first | exact Below.refl _ _ | assumption | refine below_drewN ?_ _ | refine Below.drew ?_ | refine below_alloc' ?_ _))⟩
    rw [← unhide Hr]
    clear Hr Ca Cb
    first | (simp_all; done) | (cases a <;> cases b <;> simp_all)
end Go.Proofs.YtanmlgliibgpcaaDoor

/- The walk of follow: an instruction, and all to which it leads without a character. -/
namespace Go.Proofs.YtanmlgliibgpcaaDoor
open Go.RowKit Thr

/-- The instructions of a program, in blocks of ok. -/
def InstsAt (ok : Nat → Prop) (W : World) (v : Value) (I : List Inst) : Prop :=
  ∃ b o c, v = .slice (some ⟨b, o, none⟩) I.length c ∧ I.length ≤ c ∧ c ≤ 9223372036854775807 ∧ ok b ∧
    ∀ (k : Nat) (q : Inst), I[k]? = some q → ∃ cs, TreeAt ok W q.node cs ∧ W.cell? ⟨b, o + k * 10, none⟩ = some (.int .i64 q.op) ∧
      (∀ (j : Nat) (u : Value), cs[j]? = some u → W.cell? ⟨b, o + k * 10 + 1 + j, none⟩ = some u) ∧
      W.cell? ⟨b, o + k * 10 + 8, none⟩ = some (.int .i64 q.x) ∧ W.cell? ⟨b, o + k * 10 + 9, none⟩ = some (.int .i64 q.y)

theorem InstsAt.step {ok : Nat → Prop} {W W' : World} {v : Value} {I : List Inst} (h : InstsAt ok W v I) (hk : ∀ k, ok k → k < W.heap.size → W'.heap[k]? = W.heap[k]?) : InstsAt ok W' v I := by
  obtain ⟨b, o, c, h1, h2, h3, hb, h⟩ := h
  refine ⟨b, o, c, h1, h2, h3, hb, fun k q hq => ?_⟩
  obtain ⟨cs, ht, h4, h5, h6, h7⟩ := h k q hq
  have hs : W'.heap[b]? = W.heap[b]? := hk b hb (World.block_lt_of_cell? W _ h4)
  exact ⟨cs, TreeAt.step hk _ _ ht, (cell_of_same (a := ⟨b, _, none⟩) hs).trans h4, fun j u hu => (cell_of_same (a := ⟨b, _, none⟩) hs).trans (h5 j u hu), (cell_of_same (a := ⟨b, _, none⟩) hs).trans h6, (cell_of_same (a := ⟨b, _, none⟩) hs).trans h7⟩
theorem InstsAt.below {N : Nat} {W W' : World} {v : Value} {I : List Inst} (h : InstsAt (fun k => k < N) W v I) (hb : Below N W W') : InstsAt (fun k => k < N) W' v I := h.step (fun k hk _ => hb.block k hk)

theorem InstsAt.keeps {ok S : Nat → Prop} {W W' : World} {v : Value} {I : List Inst} (h : InstsAt ok W v I) (hb : Keeps S W W') (hS : ∀ k, ok k → ¬ S k) : InstsAt ok W' v I := h.step (fun k hk hlt => hb.block k hlt (hS k hk))

/-- What `set` holds: the marks and the list. -/
structure SetS (w : World) (base bt bh : Nat) (vl : Value) (has : List Bool) (list : List Int) : Prop where
  row : Blk w bt 68 #[.slice (some ⟨bh, 0, none⟩) has.length has.length, vl]
  own : w.ownsRow base 3 1 vl list.length (list.map (Value.int .i64))
  marks : Blk w bh 4 (has.map Value.bool).toArray
  lt : base ≤ bt ∧ base ≤ bh ∧ has.length ≤ 9223372036854775807
/-- The blocks that follow turns. -/
def Turn (bt bh : Nat) (vl : Value) (k : Nat) : Prop := k = bt ∨ k = bh ∨ vl.ownBlock = some k
/-- Where the list lies behind a call. -/
def At (w : World) (vl vl' : Value) : Prop := vl'.ownBlock = vl.ownBlock ∨ ∃ g, vl'.ownBlock = some g ∧ w.heap.size ≤ g

theorem own_lt {w : World} {base n size : Nat} {e : TypeId} {v : Value} {xs : List Value} (h : w.ownsRow base e size v n xs) (k : Nat) (hk : v.ownBlock = some k) : base ≤ k ∧ k < w.heap.size := by
  rcases h.2 with ⟨rfl, _⟩ | ⟨g, cap, cur, rfl, hg, hh, _⟩
  · simp [Value.ownBlock] at hk
  · have : g = k := by simpa [Value.ownBlock] using hk
    subst this
    exact ⟨hg, (Array.getElem?_eq_some_iff.1 hh).1⟩
theorem own_step {w w1 : World} {base n size : Nat} {e : TypeId} {v : Value} {xs : List Value} (h : w.ownsRow base e size v n xs) (hm : ∀ k, v.ownBlock = some k → w1.heap[k]? = w.heap[k]?) : w1.ownsRow base e size v n xs := by
  obtain ⟨h1, h2⟩ := h
  refine ⟨h1, ?_⟩
  rcases h2 with h2 | ⟨g, cap, cur, rfl, hg, hh, r⟩
  · exact .inl h2
  · exact .inr ⟨g, cap, cur, rfl, hg, (hm g (by simp [Value.ownBlock])).trans hh, r⟩

section
variable {w : World} {base bt bh : Nat} {vl : Value} {has : List Bool} {list : List Int}
theorem SetS.alloc (h : SetS w base bt bh vl has list) (o : Obj) : SetS (w.alloc o) base bt bh vl has list := ⟨h.row.alloc o, h.own.alloc o, h.marks.alloc o, h.lt⟩
theorem SetS.bt_lt (h : SetS w base bt bh vl has list) : bt < w.heap.size := h.row.lt
theorem SetS.bh_lt (h : SetS w base bt bh vl has list) : bh < w.heap.size := h.marks.lt
theorem SetS.ne (h : SetS w base bt bh vl has list) : ¬ bt = bh := h.row.ne_ h.marks (by decide)
theorem SetS.mark (h : SetS w base bt bh vl has list) (k : Nat) : SetS (w.setCell ⟨bh, k, none⟩ (.bool true)) base bt bh vl (has.set k true) list := by
  have hne := own_blk_ne h.own h.marks (by decide)
  refine ⟨?_, own_step h.own (fun j hj => Below.heap_setCell w _ _ j (by rintro rfl; exact hne hj)), ?_, ?_⟩
  · rw [List.length_set]; exact h.row.far h.ne _
  · have := h.marks.set_ k (.bool true)
    rw [List.map_set]
    simpa using this
  · rw [List.length_set]; exact h.lt
theorem SetS.new_not {k : Nat} (h : SetS w base bt bh vl has list) (hk : w.heap.size ≤ k) : ¬ Turn bt bh vl k := by
  have h1 := h.bt_lt
  have h2 := h.bh_lt
  rintro (rfl | rfl | e)
  · omega
  · omega
  · have := own_lt h.own k e; omega
theorem SetS.old_not {k : Nat} (h : SetS w base bt bh vl has list) (hk : k < base) : ¬ Turn bt bh vl k := by
  have h1 := h.lt
  rintro (rfl | rfl | e)
  · omega
  · omega
  · have := own_lt h.own k e; omega
end
theorem Turn.of_at {w : World} {bt bh : Nat} {vl vl1 : Value} (h : At w vl vl1) : ∀ k, k < w.heap.size → Turn bt bh vl1 k → Turn bt bh vl k := by
  rintro k hk (rfl | rfl | e)
  · exact .inl rfl
  · exact .inr (.inl rfl)
  · rcases h with h | ⟨g, h, hg⟩
    · exact .inr (.inr (h ▸ e))
    · rw [h] at e; cases e; omega
theorem At.trans {w w1 : World} {v v1 v2 : Value} (h : At w v v1) (k : At w1 v1 v2) (hs : w.heap.size ≤ w1.heap.size) : At w v v2 := by
  rcases k with k | ⟨g, k, hg⟩
  · rcases h with h | ⟨g', h, hg'⟩
    · exact .inl (k.trans h)
    · exact .inr ⟨g', k.trans h, hg'⟩
  · exact .inr ⟨g, k, by omega⟩

theorem At.later {w w1 : World} {v v1 : Value} (h : At w1 v v1) (hs : w.heap.size ≤ w1.heap.size) : At w v v1 := by
  rcases h with h | ⟨g, h, hg⟩
  · exact .inl h
  · exact .inr ⟨g, h, by omega⟩
theorem SetS.below {w w1 : World} {base bt bh : Nat} {vl : Value} {has : List Bool} {list : List Int} (h : SetS w base bt bh vl has list) (hb : Below w.heap.size w w1) : SetS w1 base bt bh vl has list :=
  ⟨h.row.below hb h.bt_lt, own_step h.own (fun k hk => hb.block k (own_lt h.own k hk).2), h.marks.below hb h.bh_lt, h.lt⟩

theorem Tryd.infoInt : (Tryd.prog.info? 3).map (fun i => (i.zero, i.size, i.bytes)) = some (some (.int .i64 0), 1, 8) := by kernel_rfl

set_option maxHeartbeats 1000000 in
theorem follow_marked {base bp bt bh : Nat} {vl : Value} (has : List Bool) (list : List Int) (i : Int) (sa sb : Int) (w : World) (hS : SetS w base bt bh vl has list)
    (h0 : 0 ≤ i) (hi : i < has.length) (hm : has[i.toNat]? = some true) :
    Calls Tryd.prog 27 #[.pointer (some ⟨bp, 0, none⟩), .pointer (some ⟨bt, 0, none⟩), .int .i64 i, .agg #[.int .i64 sa, .int .i64 sb]] w fun e w' =>
      e = .returned (.tuple #[]) ∧ ∃ vl', SetS w' base bt bh vl' has list ∧ Keeps (Turn bt bh vl) w w' ∧ At w vl vl' := by
  obtain ⟨k, rfl⟩ := Int.eq_ofNat_of_zero_le h0
  have hk : k < has.length := by omega
  have c0 := hS.row.cell 0
  have cm := hS.marks.cell k
  have hbt := hS.bt_lt
  have hbh := hS.bh_lt
  have hlt := hS.lt
  have HS := hide hS
  clear hS
  simp only [Int.toNat_natCast] at hm
  have cm' : w.cell? ⟨bh, k, none⟩ = some (.bool true) := by rw [cm]; simp [hm]
  simp at c0
  clear cm
  go_enter Tryd.func27, Tryd.ntmps27
  go_wp2_with fail
  refine bodyPost_ret (results_none rfl _ _ _) rfl ?_
  exact ⟨rfl, vl, (unhide HS).alloc _, (Keeps.refl _ _).alloc _, .inl rfl⟩

/-- Of a list as long as there are marks at most. -/
theorem follow_bound {I : List Inst} {chk : Rx → Bool} : ∀ (f : Nat) (has : List Bool) (list : List Int) (i : Int) (r : List Bool × List Int), has.length = I.length →
    followF I chk f has list i = some r → r.2.length + bare r.1 ≤ list.length + bare has ∧ r.1.length = I.length
  | 0, has, list, i, r, hl, h => by simp [followF] at h
  | f + 1, has, list, i, r, hl, h => by
    simp only [followF] at h
    by_cases hm : has.getD i.toNat false = true
    · rw [if_pos hm] at h
      obtain rfl := Option.some.inj h
      exact ⟨Nat.le_refl _, hl⟩
    rw [if_neg hm] at h
    cases hq : I[i.toNat]? with
    | none => rw [hq] at h; simp at h
    | some q =>
      rw [hq] at h
      simp only at h
      have hlt := (List.getElem?_eq_some_iff.1 hq).1
      have hf' : has[i.toNat]? = some false := by
        rw [List.getD_eq_getElem?_getD, List.getElem?_eq_getElem (by omega)] at hm
        rw [List.getElem?_eq_getElem (by omega)]
        simpa using hm
      have hb := bare_set has i.toNat hf'
      by_cases h2 : q.op = 2
      · rw [if_pos h2] at h
        obtain ⟨r1, h1, h⟩ := Option.bind_eq_some_iff.1 h
        have a := follow_bound f _ _ _ _ (by simpa using hl) h1
        have b := follow_bound f _ _ _ _ a.2 h
        exact ⟨by omega, b.2⟩
      rw [if_neg h2] at h
      by_cases h3 : q.op = 1
      · rw [if_pos h3] at h
        by_cases hc : chk q.node = true
        · rw [if_pos hc] at h
          have a := follow_bound f _ _ _ _ (by simpa using hl) h
          exact ⟨by omega, a.2⟩
        · rw [if_neg hc] at h
          obtain rfl := Option.some.inj h
          exact ⟨by simp; omega, by simpa using hl⟩
      rw [if_neg h3] at h
      obtain rfl := Option.some.inj h
      exact ⟨by simp; omega, by simpa using hl⟩

set_option maxHeartbeats 2000000 in
theorem follow_calls {I : List Inst} {base bp bt bh : Nat} {fold bytes : Bool} {start : Int} {vI : Value} (sa sb : Int) (hI : Sound I) :
    ∀ (f : Nat) (has : List Bool) (list : List Int) (i : Int) (r : List Bool × List Int) (vl : Value) (w : World), followF I (fun t => checkF t.kind sa sb) f has list i = some r →
    Blk w bp 47 #[.bool fold, .bool bytes, vI, .int .i64 start] → bp < base → InstsAt (fun k => k < base) w vI I → has.length = I.length → list.length + bare has ≤ 1000000 → SetS w base bt bh vl has list → 0 ≤ i → i < I.length →
    Calls Tryd.prog 27 #[.pointer (some ⟨bp, 0, none⟩), .pointer (some ⟨bt, 0, none⟩), .int .i64 i, .agg #[.int .i64 sa, .int .i64 sb]] w fun e w' =>
      e = .returned (.tuple #[]) ∧ ∃ vl', SetS w' base bt bh vl' r.1 r.2 ∧ Keeps (Turn bt bh vl) w w' ∧ At w vl vl' := by
  intro f
  induction f with
  | zero => intro has list i r vl w hr; simp [followF] at hr
  | succ f ih =>
    intro has list i r vl w hr hP hbp hIn hl hlen hS h0 hi
    simp only [followF] at hr
    by_cases hm : has.getD i.toNat false = true
    · rw [if_pos hm] at hr
      obtain rfl := Option.some.inj hr
      exact follow_marked has list i sa sb w hS h0 (by omega) (getD_marked.1 hm)
    rw [if_neg hm] at hr
    obtain ⟨k, rfl⟩ := Int.eq_ofNat_of_zero_le h0
    simp only [Int.toNat_natCast] at hr hm
    have hk : k < I.length := by omega
    have hf : has[k]? = some false := by
      rw [List.getD_eq_getElem?_getD, List.getElem?_eq_getElem (by omega)] at hm
      rw [List.getElem?_eq_getElem (by omega)]
      simpa using hm
    have hbare := bare_set has k hf
    obtain ⟨q, hq⟩ : ∃ q, I[k]? = some q := ⟨_, List.getElem?_eq_getElem hk⟩
    rw [hq] at hr
    simp only at hr
    obtain ⟨ho, hx, hy⟩ := hI _ _ hq
    have hIn0 := hIn
    obtain ⟨b, o, c, rfl, hc1, hc2, hb, hcells⟩ := hIn
    obtain ⟨cs, ht, d0, d1, d8, d9⟩ := hcells k q hq
    have ht0 := ht
    obtain ⟨op, node, qx, qy⟩ := q
    obtain ⟨kind, code, neg, set, mn, mx, kids⟩ := node
    simp only [TreeAt] at ht
    obtain ⟨vs, A, cc, rfl, ⟨As, cs', rfl, -⟩, -⟩ := ht
    have e1 := d1 0 _ rfl
    have e2 := d1 1 _ rfl
    have e3 := d1 2 _ rfl
    have e4 := d1 3 _ rfl
    have e5 := d1 4 _ rfl
    have e6 := d1 5 _ rfl
    have e7 := d1 6 _ rfl
    clear d1 hcells
    have hbt := hS.bt_lt
    have hbh := hS.bh_lt
    have hlt := hS.lt
    have hne := hS.ne
    have c0 := hS.row.cell 0
    have c1 := hS.row.cell 1
    have f1 := hS.row.frozen 1
    have cm : w.cell? ⟨bh, k, none⟩ = some (.bool false) := by rw [hS.marks.cell k]; simp [hf]
    have fm := hS.marks.frozen k
    have p2 := hP.cell 2
    have hbpl := hP.lt
    have hbl : b < w.heap.size := World.block_lt_of_cell? w _ d0
    simp at c0 c1 p2 e1
    have n1 : ¬ b = bh := by omega
    have n2 : ¬ bp = bh := by omega
    have hkn : k < has.length := by omega
    have hS1 := hS.mark k
    have hP1 := hP.far (p := ⟨bh, k, none⟩) n2 (.bool true)
    have hI1 : InstsAt (fun k => k < base) (w.setCell ⟨bh, k, none⟩ (.bool true)) (.slice (some ⟨b, o, none⟩) I.length c) I := hIn0.step (fun j hj _ => Below.heap_setCell w _ _ j (by simp only; omega))
    have hK1 : Keeps (Turn bt bh vl) w (w.setCell ⟨bh, k, none⟩ (.bool true)) := (Keeps.refl _ _).setCell (.inl (.inr (.inl rfl))) _
    have hl1 : (has.set k true).length = I.length := by simpa using hl
    have HS := hide hS; have HS1 := hide hS1; have HP1 := hide hP1; have HI1 := hide hI1; have HK1 := hide hK1; have HL1 := hide hl1; have HB := hide hbare; have IH := hide ih; have HI := hide hI; have HR := hide hr; have Hq := hide hq
    clear hS hS1 hP1 hI1 hK1 hl1 hbare hIn0 hr hq hP hm hf ih hI
    by_cases h2 : op = 2
    · subst h2
      have hr := unhide HR
      simp only [if_true] at hr
      obtain ⟨r1, hr1, hr2⟩ := Option.bind_eq_some_iff.1 hr
      obtain ⟨hx0, hx1⟩ := hx (by simp)
      obtain ⟨hy0, hy1⟩ := hy rfl
      simp only at hx0 hx1 hy0 hy1
      have HR1 := hide hr1; have HR2 := hide hr2
      clear hr hr1 hr2 hx hy ho
      go_enter Tryd.func27, Tryd.ntmps27
      go_wp2_with fail
      refine (unhide IH (has.set k true) list qx r1 vl _ (unhide HR1) (((unhide HP1).alloc _).alloc _) hbp (((unhide HI1).step (fun j _ hj => Below.heap_alloc _ _ j hj)).step (fun j _ hj => Below.heap_alloc _ _ j hj)) (unhide HL1) (by have := unhide HB; omega) (((unhide HS1).alloc _).alloc _) hx0 hx1).mono ?_
      rintro e w1 ⟨rfl, vl1, hS2, hk2, hat2⟩
      have nt : ∀ j, w.heap.size ≤ j → ¬ Turn bt bh vl j := fun j hj => (unhide HS).new_not hj
      have s0 : w1.cell? ⟨w.heap.size, 0, none⟩ = some (.int .i64 sa) := (hk2.cell (by simp <;> omega) (nt _ (Nat.le_refl _))).trans (by go_simp)
      have s1 : w1.cell? ⟨w.heap.size, 1, none⟩ = some (.int .i64 sb) := (hk2.cell (by simp <;> omega) (nt _ (Nat.le_refl _))).trans (by go_simp)
      have s9 : w1.cell? ⟨w.heap.size + 1, 9, none⟩ = some (.int .i64 qy) := (hk2.cell (by simp) (nt _ (by omega))).trans (by go_simp)
      have HK2 := hide hk2; have HS2 := hide hS2; have HAT := hide hat2; have NT := hide nt
      clear hk2 hS2 hat2 nt
      go_wp2_with fail
      have hb1 := follow_bound _ _ _ _ _ (unhide HL1) (unhide HR1)
      refine (unhide IH r1.1 r1.2 qy r vl1 _ (unhide HR2) ((((unhide HP1).alloc _).alloc _).keeps (unhide HK2) ((unhide HS).old_not hbp)) hbp
        ((((unhide HI1).step (fun j _ hj => Below.heap_alloc _ _ j hj)).step (fun j _ hj => Below.heap_alloc _ _ j hj)).keeps (unhide HK2) (fun j hj => (unhide HS).old_not hj)) hb1.2 (by have := unhide HB; have := hb1.1; omega) (unhide HS2) hy0 hy1).mono ?_
      rintro e w2 ⟨rfl, vl2, hS3, hk3, hat3⟩
      go_wp2_with fail
      first | go_end0 | refine bodyPost_ret (results_none rfl _ _ _) rfl ?_
      exact ⟨rfl, vl2, hS3, ((((unhide HK1).alloc _).alloc _).trans (unhide HK2) (fun _ _ h => h)).trans hk3 (fun j hj ht => Turn.of_at (unhide HAT) j (by simp <;> omega) ht), At.trans (w := w) (by rcases unhide HAT with h | ⟨g, h, hg⟩; exact .inl h; exact .inr ⟨g, h, by simp at hg; omega⟩) hat3 (by have := (unhide HK2).size; simp at this; omega)⟩
    by_cases h3 : op = 1
    · subst h3
      have hr := unhide HR
      rw [if_neg (by omega), if_pos rfl] at hr
      obtain ⟨hx0, hx1⟩ := hx (by simp)
      simp only at hx0 hx1
      clear hx hy ho h2
      split at hr
      · rename_i hc
        have hck := fun (cs : List Value) (w : World) (h : TreeAt (fun k => k < base) w (.mk kind code neg set mn mx kids) cs) => check_calls (.mk kind code neg set mn mx kids) cs sa sb w h
        rw [show checkF (Rx.mk kind code neg set mn mx kids).kind sa sb = true from hc] at hck
        have HR1 := hide hr
        have HCK := hide hck
        have HT0 := hide ht0
        clear hr hck ht0 hc
        go_enter Tryd.func27, Tryd.ntmps27
        go_wp2_with fail
        refine (unhide HCK _ _ (TreeAt.step (fun j _ hj => Below.heap_alloc _ _ j hj) _ _ (TreeAt.step (fun j _ hj => Below.heap_alloc _ _ j hj) _ _ (TreeAt.step (fun j hj _ => Below.heap_setCell w ⟨bh, k, none⟩ (.bool true) j (by simp only; omega)) _ _ (unhide HT0))))).mono ?_
        rintro e w1 ⟨rfl, hb1⟩
        have s0 : w1.cell? ⟨w.heap.size, 0, none⟩ = some (.int .i64 sa) := ((bcell hb1).1 _ _ (by simp <;> omega)).trans (by go_simp)
        have s1 : w1.cell? ⟨w.heap.size, 1, none⟩ = some (.int .i64 sb) := ((bcell hb1).1 _ _ (by simp <;> omega)).trans (by go_simp)
        have s8 : w1.cell? ⟨w.heap.size + 1, 8, none⟩ = some (.int .i64 qx) := ((bcell hb1).1 _ _ (by simp)).trans (by go_simp)
        have HB1 := hide hb1
        clear hb1
        go_wp2_with fail
        refine (unhide IH (has.set k true) list qx r vl _ (unhide HR1) (((((unhide HP1).alloc _).alloc _)).below (unhide HB1) (by simp <;> omega)) hbp
          ((((unhide HI1).step (fun j _ hj => Below.heap_alloc _ _ j hj)).step (fun j _ hj => Below.heap_alloc _ _ j hj)).step (fun j _ hj => (unhide HB1).block j hj)) (unhide HL1) (by have := unhide HB; omega)
          (((((unhide HS1).alloc _).alloc _)).below (unhide HB1)) hx0 hx1).mono ?_
        rintro e w2 ⟨rfl, vl2, hS3, hk3, hat3⟩
        go_wp2_with fail
        first | go_end0 | refine bodyPost_ret (results_none rfl _ _ _) rfl ?_
        exact ⟨rfl, vl2, hS3, ((((unhide HK1).alloc _).alloc _).then_below (unhide HB1)).trans hk3 (fun j _ ht => ht), At.later hat3 (by have := (unhide HB1).size; simp at this; omega)⟩
      · rename_i hc
        obtain rfl := Option.some.inj hr
        have hck := fun (cs : List Value) (w : World) (h : TreeAt (fun k => k < base) w (.mk kind code neg set mn mx kids) cs) => check_calls (.mk kind code neg set mn mx kids) cs sa sb w h
        rw [show checkF (Rx.mk kind code neg set mn mx kids).kind sa sb = false from by simpa using hc] at hck
        have HCK := hide hck
        have HT0 := hide ht0
        clear hr hck ht0 hc
        go_enter Tryd.func27, Tryd.ntmps27
        go_wp2_with fail
        refine (unhide HCK _ _ (TreeAt.step (fun j _ hj => Below.heap_alloc _ _ j hj) _ _ (TreeAt.step (fun j _ hj => Below.heap_alloc _ _ j hj) _ _ (TreeAt.step (fun j hj _ => Below.heap_setCell w ⟨bh, k, none⟩ (.bool true) j (by simp only; omega)) _ _ (unhide HT0))))).mono ?_
        rintro e w1 ⟨rfl, hb1⟩
        go_wp2_with fail
        first | go_end0 | refine bodyPost_ret (results_none rfl _ _ _) rfl ?_
        exact ⟨rfl, vl, (((unhide HS1).alloc _).alloc _).below hb1, (((unhide HK1).alloc _).alloc _).then_below hb1, .inl rfl⟩
    · have hr := unhide HR
      rw [if_neg h2, if_neg h3] at hr
      obtain rfl := Option.some.inj hr
      clear hx hy
      obtain ⟨i0, hi0, hz0, hz1, hz2⟩ := info_parts Tryd.infoInt
      have t2 : (op == 2) = false := by simpa using h2
      have t3 : (op == 1) = false := by simpa using h3
      clear h2 h3 ho hr
      go_enter Tryd.func27, Tryd.ntmps27
      go_wp2_with (at_builtin; refine wpList_append_lies _ rfl (.tmp 35) (.tmp 37) 58 rfl base 3 i0 (.int .i64 0) 1 8 Tryd.underlying58 hi0 hz0 hz1 hz2 rfl (by decide) vl list.length (list.map (Value.int .i64)) rfl (((unhide HS1).own.alloc _).alloc _ |>.alloc _) ⟨w.heap.size + 2, 0, none⟩ 1 1 [.int .i64 k] rfl rfl ?ca ?cb (by omega) ?cc ?cd ?ce (w.heap.size + 3) (by simp) ?_)
      case cb => first | rfl | (intro u hu; simp at hu; subst hu; rfl)
      case cc => simp only [maxLen]; omega
      case cd => omega
      case ce => omega
      intro g cap w1 hown hg hat hlt1
      have hnb : some bt ≠ vl.ownBlock := fun e => own_blk_ne (unhide HS).own (unhide HS).row (by decide) e.symm
      have hnh : some bh ≠ vl.ownBlock := fun e => own_blk_ne (unhide HS).own (unhide HS).marks (by decide) e.symm
      have hr1 := ((((unhide HS1).row.alloc _).alloc _).alloc _).grown hg hnb
      have hm1 := ((((unhide HS1).marks.alloc _).alloc _).alloc _).grown hg hnh
      have x1 := hr1.cell 1
      have y1 := hr1.frozen 1
      have hkp := ((((unhide HK1).alloc _).alloc _).alloc _).grown hg (fun j hj => .inl (.inr (.inr hj)))
      have hgn : bt ≠ g := by
        rintro rfl
        rcases hat with hat | hat
        · exact hnb hat.symm
        · omega
      simp at x1
      have HO := hide hown; have HR1 := hide hr1; have HM1 := hide hm1; have HKP := hide hkp; have HAT := hide hat
      clear hown hg hat hr1 hm1 hkp hnb hnh
      go_wp2_with fail
      first | go_end0 | refine bodyPost_ret (results_none rfl _ _ _) rfl ?_
      refine ⟨rfl, _, ⟨(unhide HR1).set_ 1 _, ?_, (unhide HM1).far (fun e => hne e.symm) _, by simpa using hlt⟩, (unhide HKP).setCell (.inl (.inl rfl)) _, ?_⟩
      · have := own_step (unhide HO) (w1 := w1.setCell ⟨bt, 1, none⟩ (.slice (some ⟨g, 0, none⟩) (list.length + 1) cap)) (fun j hj => Below.heap_setCell _ _ _ j (by simp [Value.ownBlock] at hj; subst hj; exact hgn.symm))
        simpa using this
      · rcases unhide HAT with h | h
        · exact .inl (by rw [h]; rfl)
        · exact .inr ⟨g, rfl, by omega⟩
end Go.Proofs.YtanmlgliibgpcaaDoor

/- Walks: a string's characters, as the program and as the reference tell them. -/
namespace Go.Proofs.YtanmlgliibgpcaaDoor
open Go.RowKit Thr
set_option linter.unusedVariables false
set_option linter.unusedVariables false

def tb : Nat → Int
  | 1 => 31
  | 2 => 2047
  | 3 => 131071
  | _ => 8388607
theorem tb_step {k : Nat} (h1 : 1 ≤ k) (h : k ≤ 3) : 64 * tb k + 63 ≤ tb (k + 1) := by
  rcases (by omega : k = 1 ∨ k = 2 ∨ k = 3) with rfl | rfl | rfl <;> simp [tb]
theorem tb_le (k : Nat) : tb k ≤ 8388607 := by unfold tb; split <;> omega
theorem ret_two {a b a' b' : Int} (h : (a', b') = (a, b)) : Ending.returned (.tuple #[.int .i64 a', .int .i64 b']) = .returned (.tuple #[.int .i64 a, .int .i64 b]) := by cases h; rfl

set_option maxHeartbeats 1000000 in
theorem size_ascii (s : ByteArray) (w : World) (hs : 0 < s.size) (hm : s.size ≤ 140737488351232) (c1 : byt s 0 < 128) :
    Calls Tryd.prog 46 #[.string s] w fun e w' => e = .returned (.tuple #[.int .i64 (sizeF s).1, .int .i64 (sizeF s).2]) ∧ w' = w := by
  obtain ⟨r1, h1⟩ : ∃ r1, (sizeF s).1 = r1 := ⟨_, rfl⟩
  obtain ⟨r2, h2⟩ : ∃ r2, (sizeF s).2 = r2 := ⟨_, rfl⟩
  rw [h1, h2]
  have hb := byt_at hs
  have hr := byt_range s 0
  obtain ⟨b0, hb0⟩ : ∃ b0, byt s 0 = b0 := ⟨_, rfl⟩
  rw [hb0] at hb hr c1
  have H1 := hide h1; have H2 := hide h2; have HB := hide hb0
  clear h1 h2 hb0
  go_enter Tryd.func46, Tryd.ntmps46
  go_wp2
  go_ret2
  refine ⟨ret_two ?_, rfl⟩
  have e : sizeF s = (1, b0) := by unfold sizeF; rw [unhide HB, if_pos c1]
  rw [← unhide H1, ← unhide H2, e]

set_option maxHeartbeats 2000000 in
theorem size_two (s : ByteArray) (w : World) (hs : 0 < s.size) (hm : s.size ≤ 140737488351232) (c2 : 194 ≤ byt s 0) (c3 : byt s 0 ≤ 223) :
    Calls Tryd.prog 46 #[.string s] w fun e w' => e = .returned (.tuple #[.int .i64 (sizeF s).1, .int .i64 (sizeF s).2]) ∧ w' = w := by
  have e0 : leadF (byt s 0) = (2, byt s 0 % 32, 128) := by
    unfold leadF
    rw [if_pos ⟨c2, c3⟩]
  have e : sizeF s = if s.size < 2 then (0, 0) else codeF 2 128 (tailF s 1 1 (byt s 0 % 32)) := by
    unfold sizeF
    rw [if_neg (by omega), e0]
    by_cases hl : s.size < 2
    · rw [if_pos (.inr hl), if_pos hl]
    · rw [if_neg (by simp only; omega), if_neg hl]
      rfl
  obtain ⟨r1, h1⟩ : ∃ r1, (sizeF s).1 = r1 := ⟨_, rfl⟩
  obtain ⟨r2, h2⟩ : ∃ r2, (sizeF s).2 = r2 := ⟨_, rfl⟩
  rw [h1, h2]
  rw [e] at h1 h2
  have hb := byt_at hs
  have hr := byt_range s 0
  obtain ⟨b0, hb0⟩ : ∃ b0, byt s 0 = b0 := ⟨_, rfl⟩
  rw [hb0] at hb hr c2 c3 h1 h2
  clear e e0
  by_cases hl : s.size < 2
  · rw [if_pos hl] at h1 h2
    subst h1; subst h2
    have HB := hide hb0
    clear hb0
    go_enter Tryd.func46, Tryd.ntmps46
    go_wp2
    go_ret2
    exact ⟨rfl, rfl⟩
  · rw [if_neg hl] at h1 h2
    obtain ⟨T, hT⟩ : ∃ T, tailF s 1 1 (b0 % 32) = T := ⟨_, rfl⟩
    rw [hT] at h1 h2
    have H1 := hide h1; have H2 := hide h2; have HB := hide hb0; have HT := hide hT
    clear h1 h2 hb0 hT
    go_enter Tryd.func46, Tryd.ntmps46
    go_wp2
    go_loop [6, 8] (fun r i => ∃ (k : Nat) (rv : Int), 1 ≤ k ∧ k ≤ 2 ∧ 0 ≤ rv ∧ Hid (rv ≤ tb k) ∧ i = .int .i64 k ∧ r = .int .i64 rv ∧ Hid (tailF s (2 - k) k rv = T)) (fun _ i => 2 - (intOf i).toNat)
    case atStart => exact ⟨1, b0 % 32, by omega, by omega, by omega, hide (by simp only [tb]; omega), rfl, rfl, HT⟩
    case round =>
      obtain ⟨k, rv, k1, k2, k3, k4, rfl, rfl, k5⟩ := hrel
      have k6 : rv ≤ 8388607 := Int.le_trans (unhide k4) (tb_le k)
      by_cases hlt : k < 2
      · have hks : k < s.size := by omega
        have hbk := byt_at hks
        have hrk := byt_range s k
        obtain ⟨bk, hbk0⟩ : ∃ bk, byt s k = bk := ⟨_, rfl⟩
        rw [hbk0] at hbk hrk
        have HBK := hide hbk0
        clear hbk0
        by_cases hc : bk < 128 ∨ 191 < bk
        · have hT0 : T = none := by
            rw [← unhide k5, show 2 - k = (2 - k - 1) + 1 by omega]
            simp only [tailF]; rw [unhide HBK, if_pos hc]
          have HT0 := hide hT0
          clear hT0
          rcases hc with hc | hc
          all_goals
            go_wp2
            go_ret2
            refine ⟨ret_two ?_, rfl⟩
            have h1 := unhide H1; have h2 := unhide H2
            rw [unhide HT0] at h1 h2
            rw [← h1, ← h2]; rfl
        · have hc1 : 128 ≤ bk := by omega
          have hc2 : bk ≤ 191 := by omega
          have hT1 : tailF s (2 - (k + 1)) (k + 1) (64 * rv + bk - 128) = T := by
            rw [← unhide k5, show 2 - k = (2 - (k + 1)) + 1 by omega]
            conv => rhs; simp only [tailF]
            rw [unhide HBK, if_neg hc]
          have HT1 := hide hT1
          have hst := tb_step k1 (by omega : k ≤ 3)
          have hst2 : 64 * rv + bk - 128 ≤ tb (k + 1) := by have := unhide k4; omega
          have HST := hide hst2
          clear hc hT1 hst hst2
          go_wp2
          go_round
          case rel => exact ⟨k + 1, 64 * rv + bk - 128, by omega, by omega, by omega, HST, by go_num, rfl, HT1⟩
          case measure => simp [intOf]; omega
      · obtain rfl : k = 2 := by omega
        have hT1 : T = some rv := by rw [← unhide k5]; rfl
        have h1 := unhide H1; have h2 := unhide H2
        rw [hT1] at h1 h2
        simp only [codeF] at h1 h2
        clear H1 H2 hT1 hlt
        by_cases q1 : rv < 128
        · rw [if_pos (.inl q1)] at h1 h2
          subst h1; subst h2
          go_wp2
          go_ret2
          exact ⟨rfl, rfl⟩
        by_cases q2 : 1114111 < rv
        · rw [if_pos (.inr (.inl q2))] at h1 h2
          subst h1; subst h2
          go_wp2
          go_ret2
          exact ⟨rfl, rfl⟩
        by_cases q3 : 55296 ≤ rv
        · by_cases q4 : rv ≤ 57343
          · rw [if_pos (.inr (.inr ⟨q3, q4⟩))] at h1 h2
            subst h1; subst h2
            go_wp2
            go_ret2
            exact ⟨rfl, rfl⟩
          · rw [if_neg (by omega)] at h1 h2
            subst h1; subst h2
            go_wp2
            go_ret2
            exact ⟨rfl, rfl⟩
        · rw [if_neg (by omega)] at h1 h2
          subst h1; subst h2
          go_wp2
          go_ret2
          exact ⟨rfl, rfl⟩

set_option maxHeartbeats 2000000 in
theorem size_three (s : ByteArray) (w : World) (hs : 0 < s.size) (hm : s.size ≤ 140737488351232) (c2 : 224 ≤ byt s 0) (c3 : byt s 0 ≤ 239) :
    Calls Tryd.prog 46 #[.string s] w fun e w' => e = .returned (.tuple #[.int .i64 (sizeF s).1, .int .i64 (sizeF s).2]) ∧ w' = w := by
  have e0 : leadF (byt s 0) = (3, byt s 0 % 16, 2048) := by
    unfold leadF
    rw [if_neg (by omega), if_pos ⟨c2, c3⟩]
  have e : sizeF s = if s.size < 3 then (0, 0) else codeF 3 2048 (tailF s 2 1 (byt s 0 % 16)) := by
    unfold sizeF
    rw [if_neg (by omega), e0]
    by_cases hl : s.size < 3
    · rw [if_pos (.inr hl), if_pos hl]
    · rw [if_neg (by simp only; omega), if_neg hl]
      rfl
  obtain ⟨r1, h1⟩ : ∃ r1, (sizeF s).1 = r1 := ⟨_, rfl⟩
  obtain ⟨r2, h2⟩ : ∃ r2, (sizeF s).2 = r2 := ⟨_, rfl⟩
  rw [h1, h2]
  rw [e] at h1 h2
  have hb := byt_at hs
  have hr := byt_range s 0
  obtain ⟨b0, hb0⟩ : ∃ b0, byt s 0 = b0 := ⟨_, rfl⟩
  rw [hb0] at hb hr c2 c3 h1 h2
  clear e e0
  by_cases hl : s.size < 3
  · rw [if_pos hl] at h1 h2
    subst h1; subst h2
    have HB := hide hb0
    clear hb0
    go_enter Tryd.func46, Tryd.ntmps46
    go_wp2
    go_ret2
    exact ⟨rfl, rfl⟩
  · rw [if_neg hl] at h1 h2
    obtain ⟨T, hT⟩ : ∃ T, tailF s 2 1 (b0 % 16) = T := ⟨_, rfl⟩
    rw [hT] at h1 h2
    have H1 := hide h1; have H2 := hide h2; have HB := hide hb0; have HT := hide hT
    clear h1 h2 hb0 hT
    go_enter Tryd.func46, Tryd.ntmps46
    go_wp2
    go_loop [6, 8] (fun r i => ∃ (k : Nat) (rv : Int), 1 ≤ k ∧ k ≤ 3 ∧ 0 ≤ rv ∧ Hid (rv ≤ tb k) ∧ i = .int .i64 k ∧ r = .int .i64 rv ∧ Hid (tailF s (3 - k) k rv = T)) (fun _ i => 3 - (intOf i).toNat)
    case atStart => exact ⟨1, b0 % 16, by omega, by omega, by omega, hide (by simp only [tb]; omega), rfl, rfl, HT⟩
    case round =>
      obtain ⟨k, rv, k1, k2, k3, k4, rfl, rfl, k5⟩ := hrel
      have k6 : rv ≤ 8388607 := Int.le_trans (unhide k4) (tb_le k)
      by_cases hlt : k < 3
      · have hks : k < s.size := by omega
        have hbk := byt_at hks
        have hrk := byt_range s k
        obtain ⟨bk, hbk0⟩ : ∃ bk, byt s k = bk := ⟨_, rfl⟩
        rw [hbk0] at hbk hrk
        have HBK := hide hbk0
        clear hbk0
        by_cases hc : bk < 128 ∨ 191 < bk
        · have hT0 : T = none := by
            rw [← unhide k5, show 3 - k = (3 - k - 1) + 1 by omega]
            simp only [tailF]; rw [unhide HBK, if_pos hc]
          have HT0 := hide hT0
          clear hT0
          rcases hc with hc | hc
          all_goals
            go_wp2
            go_ret2
            refine ⟨ret_two ?_, rfl⟩
            have h1 := unhide H1; have h2 := unhide H2
            rw [unhide HT0] at h1 h2
            rw [← h1, ← h2]; rfl
        · have hc1 : 128 ≤ bk := by omega
          have hc2 : bk ≤ 191 := by omega
          have hT1 : tailF s (3 - (k + 1)) (k + 1) (64 * rv + bk - 128) = T := by
            rw [← unhide k5, show 3 - k = (3 - (k + 1)) + 1 by omega]
            conv => rhs; simp only [tailF]
            rw [unhide HBK, if_neg hc]
          have HT1 := hide hT1
          have hst := tb_step k1 (by omega : k ≤ 3)
          have hst2 : 64 * rv + bk - 128 ≤ tb (k + 1) := by have := unhide k4; omega
          have HST := hide hst2
          clear hc hT1 hst hst2
          go_wp2
          go_round
          case rel => exact ⟨k + 1, 64 * rv + bk - 128, by omega, by omega, by omega, HST, by go_num, rfl, HT1⟩
          case measure => simp [intOf]; omega
      · obtain rfl : k = 3 := by omega
        have hT1 : T = some rv := by rw [← unhide k5]; rfl
        have h1 := unhide H1; have h2 := unhide H2
        rw [hT1] at h1 h2
        simp only [codeF] at h1 h2
        clear H1 H2 hT1 hlt
        by_cases q1 : rv < 2048
        · rw [if_pos (.inl q1)] at h1 h2
          subst h1; subst h2
          go_wp2
          go_ret2
          exact ⟨rfl, rfl⟩
        by_cases q2 : 1114111 < rv
        · rw [if_pos (.inr (.inl q2))] at h1 h2
          subst h1; subst h2
          go_wp2
          go_ret2
          exact ⟨rfl, rfl⟩
        by_cases q3 : 55296 ≤ rv
        · by_cases q4 : rv ≤ 57343
          · rw [if_pos (.inr (.inr ⟨q3, q4⟩))] at h1 h2
            subst h1; subst h2
            go_wp2
            go_ret2
            exact ⟨rfl, rfl⟩
          · rw [if_neg (by omega)] at h1 h2
            subst h1; subst h2
            go_wp2
            go_ret2
            exact ⟨rfl, rfl⟩
        · rw [if_neg (by omega)] at h1 h2
          subst h1; subst h2
          go_wp2
          go_ret2
          exact ⟨rfl, rfl⟩

set_option maxHeartbeats 2000000 in
theorem size_four (s : ByteArray) (w : World) (hs : 0 < s.size) (hm : s.size ≤ 140737488351232) (c2 : 240 ≤ byt s 0) (c3 : byt s 0 ≤ 244) :
    Calls Tryd.prog 46 #[.string s] w fun e w' => e = .returned (.tuple #[.int .i64 (sizeF s).1, .int .i64 (sizeF s).2]) ∧ w' = w := by
  have e0 : leadF (byt s 0) = (4, byt s 0 % 8, 65536) := by
    unfold leadF
    rw [if_neg (by omega), if_neg (by omega), if_pos ⟨c2, c3⟩]
  have e : sizeF s = if s.size < 4 then (0, 0) else codeF 4 65536 (tailF s 3 1 (byt s 0 % 8)) := by
    unfold sizeF
    rw [if_neg (by omega), e0]
    by_cases hl : s.size < 4
    · rw [if_pos (.inr hl), if_pos hl]
    · rw [if_neg (by simp only; omega), if_neg hl]
      rfl
  obtain ⟨r1, h1⟩ : ∃ r1, (sizeF s).1 = r1 := ⟨_, rfl⟩
  obtain ⟨r2, h2⟩ : ∃ r2, (sizeF s).2 = r2 := ⟨_, rfl⟩
  rw [h1, h2]
  rw [e] at h1 h2
  have hb := byt_at hs
  have hr := byt_range s 0
  obtain ⟨b0, hb0⟩ : ∃ b0, byt s 0 = b0 := ⟨_, rfl⟩
  rw [hb0] at hb hr c2 c3 h1 h2
  clear e e0
  by_cases hl : s.size < 4
  · rw [if_pos hl] at h1 h2
    subst h1; subst h2
    have HB := hide hb0
    clear hb0
    go_enter Tryd.func46, Tryd.ntmps46
    go_wp2
    go_ret2
    exact ⟨rfl, rfl⟩
  · rw [if_neg hl] at h1 h2
    obtain ⟨T, hT⟩ : ∃ T, tailF s 3 1 (b0 % 8) = T := ⟨_, rfl⟩
    rw [hT] at h1 h2
    have H1 := hide h1; have H2 := hide h2; have HB := hide hb0; have HT := hide hT
    clear h1 h2 hb0 hT
    go_enter Tryd.func46, Tryd.ntmps46
    go_wp2
    go_loop [6, 8] (fun r i => ∃ (k : Nat) (rv : Int), 1 ≤ k ∧ k ≤ 4 ∧ 0 ≤ rv ∧ Hid (rv ≤ tb k) ∧ i = .int .i64 k ∧ r = .int .i64 rv ∧ Hid (tailF s (4 - k) k rv = T)) (fun _ i => 4 - (intOf i).toNat)
    case atStart => exact ⟨1, b0 % 8, by omega, by omega, by omega, hide (by simp only [tb]; omega), rfl, rfl, HT⟩
    case round =>
      obtain ⟨k, rv, k1, k2, k3, k4, rfl, rfl, k5⟩ := hrel
      have k6 : rv ≤ 8388607 := Int.le_trans (unhide k4) (tb_le k)
      by_cases hlt : k < 4
      · have hks : k < s.size := by omega
        have hbk := byt_at hks
        have hrk := byt_range s k
        obtain ⟨bk, hbk0⟩ : ∃ bk, byt s k = bk := ⟨_, rfl⟩
        rw [hbk0] at hbk hrk
        have HBK := hide hbk0
        clear hbk0
        by_cases hc : bk < 128 ∨ 191 < bk
        · have hT0 : T = none := by
            rw [← unhide k5, show 4 - k = (4 - k - 1) + 1 by omega]
            simp only [tailF]; rw [unhide HBK, if_pos hc]
          have HT0 := hide hT0
          clear hT0
          rcases hc with hc | hc
          all_goals
            go_wp2
            go_ret2
            refine ⟨ret_two ?_, rfl⟩
            have h1 := unhide H1; have h2 := unhide H2
            rw [unhide HT0] at h1 h2
            rw [← h1, ← h2]; rfl
        · have hc1 : 128 ≤ bk := by omega
          have hc2 : bk ≤ 191 := by omega
          have hT1 : tailF s (4 - (k + 1)) (k + 1) (64 * rv + bk - 128) = T := by
            rw [← unhide k5, show 4 - k = (4 - (k + 1)) + 1 by omega]
            conv => rhs; simp only [tailF]
            rw [unhide HBK, if_neg hc]
          have HT1 := hide hT1
          have hst := tb_step k1 (by omega : k ≤ 3)
          have hst2 : 64 * rv + bk - 128 ≤ tb (k + 1) := by have := unhide k4; omega
          have HST := hide hst2
          clear hc hT1 hst hst2
          go_wp2
          go_round
          case rel => exact ⟨k + 1, 64 * rv + bk - 128, by omega, by omega, by omega, HST, by go_num, rfl, HT1⟩
          case measure => simp [intOf]; omega
      · obtain rfl : k = 4 := by omega
        have hT1 : T = some rv := by rw [← unhide k5]; rfl
        have h1 := unhide H1; have h2 := unhide H2
        rw [hT1] at h1 h2
        simp only [codeF] at h1 h2
        clear H1 H2 hT1 hlt
        by_cases q1 : rv < 65536
        · rw [if_pos (.inl q1)] at h1 h2
          subst h1; subst h2
          go_wp2
          go_ret2
          exact ⟨rfl, rfl⟩
        by_cases q2 : 1114111 < rv
        · rw [if_pos (.inr (.inl q2))] at h1 h2
          subst h1; subst h2
          go_wp2
          go_ret2
          exact ⟨rfl, rfl⟩
        by_cases q3 : 55296 ≤ rv
        · by_cases q4 : rv ≤ 57343
          · rw [if_pos (.inr (.inr ⟨q3, q4⟩))] at h1 h2
            subst h1; subst h2
            go_wp2
            go_ret2
            exact ⟨rfl, rfl⟩
          · rw [if_neg (by omega)] at h1 h2
            subst h1; subst h2
            go_wp2
            go_ret2
            exact ⟨rfl, rfl⟩
        · rw [if_neg (by omega)] at h1 h2
          subst h1; subst h2
          go_wp2
          go_ret2
          exact ⟨rfl, rfl⟩

set_option maxHeartbeats 1000000 in
theorem size_odd (s : ByteArray) (w : World) (hs : 0 < s.size) (hm : s.size ≤ 140737488351232) (c1 : 128 ≤ byt s 0) (c2 : byt s 0 ≤ 193 ∨ 245 ≤ byt s 0) :
    Calls Tryd.prog 46 #[.string s] w fun e w' => e = .returned (.tuple #[.int .i64 (sizeF s).1, .int .i64 (sizeF s).2]) ∧ w' = w := by
  have e : sizeF s = (0, 0) := by
    have e0 : leadF (byt s 0) = (0, 0, 0) := by unfold leadF; rw [if_neg (by omega), if_neg (by omega), if_neg (by omega)]
    unfold sizeF
    rw [if_neg (by omega), e0, if_pos (.inl rfl)]
  rw [e]
  have hb := byt_at hs
  have hr := byt_range s 0
  obtain ⟨b0, hb0⟩ : ∃ b0, byt s 0 = b0 := ⟨_, rfl⟩
  rw [hb0] at hb hr c1 c2
  have HB := hide hb0
  clear hb0 e
  rcases c2 with c2 | c2
  all_goals
    go_enter Tryd.func46, Tryd.ntmps46
    go_wp2
    go_ret2
    exact ⟨rfl, rfl⟩

theorem size_calls (s : ByteArray) (w : World) (hs : 0 < s.size) (hm : s.size ≤ 140737488351232) :
    Calls Tryd.prog 46 #[.string s] w fun e w' => e = .returned (.tuple #[.int .i64 (sizeF s).1, .int .i64 (sizeF s).2]) ∧ w' = w := by
  by_cases c1 : byt s 0 < 128
  · exact size_ascii s w hs hm c1
  by_cases c2 : 194 ≤ byt s 0 ∧ byt s 0 ≤ 223
  · exact size_two s w hs hm c2.1 c2.2
  by_cases c3 : 224 ≤ byt s 0 ∧ byt s 0 ≤ 239
  · exact size_three s w hs hm c3.1 c3.2
  by_cases c4 : 240 ≤ byt s 0 ∧ byt s 0 ≤ 244
  · exact size_four s w hs hm c4.1 c4.2
  exact size_odd s w hs hm (by omega) (by omega)
end Go.Proofs.YtanmlgliibgpcaaDoor
