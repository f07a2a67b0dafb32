/- NfaChoice returns true of every two texts, every string and every place: no condition beyond the statement's own (a part of its proof). -/
import Derived.Test.YtanmlgliibgpcaaDoorProg
import Derived.Test.YtanmlgliibgpcaaDoorKc01
import Derived.Below
import Derived.Laws.OwnMore
import Derived.Deep.Draws
import Derived.Laws.Rows
import Derived.Maps.AppendAt
import Derived.Deep.AppendLies
import Derived.OwnWalk
import Derived.WalkKit
import Derived.WalkLawsBesides
import Derived.WalkSpells
import Derived.Outline
import Derived.Lib.Hide
import Derived.BigQuiet
import Derived.Deep.QuietTactic
import Derived.Deep.DeepFit
import Derived.Deep.DeepMust
import Derived.Deep.LoopGhost
import Derived.Deep.RegionWith
import Derived.Deep.DeepCutAuto
import Derived.Deep.OwnRows

/- Words for what lies in memory: blocks known whole, rows of ints, sets of ranges and trees of expressions that are only read. -/
namespace Go.Proofs.YtanmlgliibgpcaaDoor
open Go.RowKit Thr

theorem hide {p : Prop} (h : p) : Hid p := h
theorem unhide {p : Prop} (h : Hid p) : p := h

theorem ret_int {k : IntKind} {a b : Int} (h : a = b) : Ending.returned (.int k a) = .returned (.int k b) := by rw [h]
theorem ret_bool {a b : Bool} (h : a = b) : Ending.returned (.bool a) = .returned (.bool b) := by rw [h]
theorem ret_str {a b : ByteArray} (h : a = b) : Ending.returned (.string a) = .returned (.string b) := by rw [h]

/-! ### Blocks known whole -/
def Blk (w : World) (g : Nat) (t : TypeId) (cs : Array Value) : Prop := w.heap[g]? = some (.cells cs t (0, 0))

section
variable {w w' : World} {g : Nat} {t : TypeId} {cs : Array Value}
theorem Blk.lt (h : Blk w g t cs) : g < w.heap.size := by
  rcases Nat.lt_or_ge g w.heap.size with hlt | hge
  · exact hlt
  · unfold Blk at h; rw [Array.getElem?_eq_none hge] at h; cases h
theorem Blk.cell (h : Blk w g t cs) (i : Nat) : w.cell? ⟨g, i, none⟩ = cs[i]? := cell_of_row w g i cs t (0, 0) h
theorem Blk.frozen (h : Blk w g t cs) (i : Nat) : w.frozen? ⟨g, i, none⟩ = false := by
  unfold Blk at h
  simp [World.frozen?, h]
theorem Blk.new (w : World) (t : TypeId) (cs : Array Value) : Blk (w.alloc (.cells cs t)) w.heap.size t cs := heap_alloc_new w _
theorem Blk.drew (h : Blk w g t cs) : Blk w.drew g t cs := h
theorem Blk.drewN (h : Blk w g t cs) (n : Nat) : Blk (w.drewN n) g t cs := h
theorem Blk.alloc (h : Blk w g t cs) (o : Obj) : Blk (w.alloc o) g t cs := (Below.heap_alloc w o g h.lt).trans h
theorem Blk.set_ (h : Blk w g t cs) (i : Nat) (u : Value) : Blk (w.setCell ⟨g, i, none⟩ u) g t (cs.setIfInBounds i u) := by
  unfold Blk at h ⊢
  simp [World.setCell, Array.getElem?_modify, h]
theorem Blk.far (h : Blk w g t cs) {p : Addr} (hp : g ≠ p.block) (u : Value) : Blk (w.setCell p u) g t cs := (Below.heap_setCell w p u g hp).trans h
theorem Blk.below {B : Nat} (h : Blk w g t cs) (hb : Below B w w') (hg : g < B) : Blk w' g t cs := (hb.block g hg).trans h
theorem Blk.grown {row : Option Nat} (h : Blk w g t cs) (hb : w.grownBy w' row) (hg : some g ≠ row) : Blk w' g t cs := (hb.block g h.lt hg).trans h
theorem Blk.ne_ {g' : Nat} {t' : TypeId} {cs' : Array Value} (h : Blk w g t cs) (h' : Blk w g' t' cs') (hne : t ≠ t') : g ≠ g' := by
  rintro rfl
  unfold Blk at h h'
  rw [h] at h'
  injection h' with h'
  injection h' with _ ht
  exact hne ht
theorem own_blk_ne {base : Nat} {e : TypeId} {size n : Nat} {v : Value} {xs : List Value} (h : w.ownsRow base e size v n xs) (hg : Blk w g t cs) (hne : e ≠ t) : v.ownBlock ≠ some g := by
  rcases h.2 with ⟨rfl, _⟩ | ⟨g', cap, cur, rfl, _, hh, _⟩
  · simp [Value.ownBlock]
  · intro he
    have : g' = g := by simpa [Value.ownBlock] using he
    subst this
    exact Blk.ne_ (t := e) hh hg hne rfl
end

/-! ### Frames -/
/-- Of the blocks that were there none has turned but those of S. -/
structure Keeps (S : Nat → Prop) (w w' : World) : Prop where
  os : w'.os = w.os
  tape : w'.tape = w.tape
  output : w'.output = w.output
  size : w.heap.size ≤ w'.heap.size
  block : ∀ k, k < w.heap.size → ¬ S k → w'.heap[k]? = w.heap[k]?

section
variable {S S' : Nat → Prop} {a w w' : World}
theorem Keeps.refl (S : Nat → Prop) (w : World) : Keeps S w w := ⟨rfl, rfl, rfl, Nat.le_refl _, fun _ _ _ => rfl⟩
theorem Keeps.trans (h : Keeps S a w) (k : Keeps S' w w') (hS : ∀ k, k < a.heap.size → S' k → S k) : Keeps S a w' :=
  ⟨k.os.trans h.os, k.tape.trans h.tape, k.output.trans h.output, Nat.le_trans h.size k.size, fun i hi hn => (k.block i (Nat.lt_of_lt_of_le hi h.size) (fun x => hn (hS i hi x))).trans (h.block i hi hn)⟩
theorem Keeps.mono (h : Keeps S w w') (hS : ∀ k, k < w.heap.size → S k → S' k) : Keeps S' w w' := ⟨h.os, h.tape, h.output, h.size, fun k hk hn => h.block k hk (fun x => hn (hS k hk x))⟩
theorem Keeps.drew (h : Keeps S a w) : Keeps S a w.drew := ⟨h.os, h.tape, h.output, h.size, h.block⟩
theorem Keeps.drewN (h : Keeps S a w) (n : Nat) : Keeps S a (w.drewN n) := ⟨h.os, h.tape, h.output, h.size, h.block⟩
theorem Keeps.alloc (h : Keeps S a w) (o : Obj) : Keeps S a (w.alloc o) :=
  ⟨h.os, h.tape, h.output, Nat.le_trans h.size (by simp), fun i hi hn => (Below.heap_alloc w o i (Nat.lt_of_lt_of_le hi h.size)).trans (h.block i hi hn)⟩
theorem Keeps.setCell (h : Keeps S a w) {p : Addr} (hp : S p.block ∨ a.heap.size ≤ p.block) (u : Value) : Keeps S a (w.setCell p u) :=
  ⟨h.os, h.tape, h.output, by simpa [World.setCell] using h.size, fun i hi hn => (Below.heap_setCell w p u i (by
    rintro rfl
    rcases hp with hp | hp
    · exact hn hp
    · omega)).trans (h.block i hi hn)⟩
theorem Keeps.grown (h : Keeps S a w) {row : Option Nat} (hg : w.grownBy w' row) (hr : ∀ k, row = some k → S k ∨ a.heap.size ≤ k) : Keeps S a w' :=
  ⟨hg.os.trans h.os, hg.tape.trans h.tape, hg.output.trans h.output, Nat.le_trans h.size hg.size, fun i hi hn => (hg.block i (Nat.lt_of_lt_of_le hi h.size) (fun e => by
    rcases hr i e.symm with h | h
    · exact hn h
    · omega)).trans (h.block i hi hn)⟩
theorem Keeps.then_below (h : Keeps S a w) (k : Below w.heap.size w w') : Keeps S a w' :=
  ⟨k.os.trans h.os, k.tape.trans h.tape, k.output.trans h.output, Nat.le_trans h.size k.size, fun i hi hn => (k.block i (Nat.lt_of_lt_of_le hi h.size)).trans (h.block i hi hn)⟩
theorem Keeps.below (h : Keeps S w w') {B : Nat} (hB : B ≤ w.heap.size) (hS : ∀ k, k < B → ¬ S k) : Below B w w' :=
  ⟨h.os, h.tape, h.output, h.size, fun k hk => h.block k (Nat.lt_of_lt_of_le hk hB) (hS k hk)⟩
theorem Keeps.none_below (h : Keeps (fun _ => False) w w') : Below w.heap.size w w' := h.below (Nat.le_refl _) (fun _ _ => id)
theorem Keeps.of_below (h : Below w.heap.size w w') (S : Nat → Prop) : Keeps S w w' := ⟨h.os, h.tape, h.output, h.size, fun k hk _ => h.block k hk⟩
theorem Keeps.cell (hk : Keeps S w w') {b o : Nat} (hlt : b < w.heap.size) (hn : ¬ S b) : w'.cell? ⟨b, o, none⟩ = w.cell? ⟨b, o, none⟩ := World.cell?_of_block (w := w) (hk.block b hlt hn)
theorem Keeps.frozen (hk : Keeps S w w') {b o : Nat} (hlt : b < w.heap.size) (hn : ¬ S b) : w'.frozen? ⟨b, o, none⟩ = w.frozen? ⟨b, o, none⟩ := World.frozen?_of_block (w := w) (hk.block b hlt hn)
theorem Blk.keeps {g : Nat} {t : TypeId} {cs : Array Value} (h : Blk w g t cs) (hk : Keeps S w w') (hg : ¬ S g) : Blk w' g t cs := (hk.block g h.lt hg).trans h
end
theorem below_drewN {B : Nat} {a w : World} (h : Below B a w) (n : Nat) : Below B a (w.drewN n) := ⟨h.os, h.tape, h.output, h.size, h.block⟩
theorem below_alloc' {w W : World} (h : Below w.heap.size w W) (o : Obj) : Below w.heap.size w (W.alloc o) := h.alloc h.size o
theorem below_then {w a b : World} (h : Below w.heap.size w a) (k : Below a.heap.size a b) : Below w.heap.size w b := h.trans (k.mono h.size)
theorem bcell {W w1 : World} (hb : Below W.heap.size W w1) : (∀ b o, b < W.heap.size → w1.cell? ⟨b, o, none⟩ = W.cell? ⟨b, o, none⟩) ∧ (∀ b o, b < W.heap.size → w1.frozen? ⟨b, o, none⟩ = W.frozen? ⟨b, o, none⟩) :=
  ⟨fun b o h => hb.cell (p := ⟨b, o, none⟩) h, fun b o h => hb.frozen (p := ⟨b, o, none⟩) h⟩
theorem cell_of_same {w w' : World} {a : Addr} (h : w'.heap[a.block]? = w.heap[a.block]?) : w'.cell? a = w.cell? a := World.cell?_of_block h

/-! ### What is only read: sets of ranges, trees -/
/-- A slice of ranges, in a block of ok. -/
def SetAt (ok : Nat → Prop) (W : World) (v : Value) (l : List (Int × Int)) : Prop :=
  ∃ A c, v = .slice A l.length c ∧ l.length ≤ c ∧ c ≤ 9223372036854775807 ∧ (l = [] ∨ ∃ b o, A = some ⟨b, o, none⟩ ∧ ok b ∧
    ∀ (i : Nat) (x : Int × Int), l[i]? = some x → W.cell? ⟨b, o + i * 2, none⟩ = some (.int .i64 x.1) ∧ W.cell? ⟨b, o + i * 2 + 1, none⟩ = some (.int .i64 x.2))

mutual
/-- A node's cells, and all that they lead to, in blocks of ok. -/
def TreeAt (ok : Nat → Prop) (W : World) : Rx → List Value → Prop
  | .mk kind code neg set mn mx kids => fun cs => ∃ vs A c, cs = [.int .i64 kind, .int .i64 code, .bool neg, vs, .int .i64 mn, .int .i64 mx, .slice A kids.length c] ∧ SetAt ok W vs set ∧
      kids.length ≤ c ∧ c ≤ 9223372036854775807 ∧ (kids = [] ∨ ∃ b o, A = some ⟨b, o, none⟩ ∧ ok b ∧ KidsAt ok W kids b o)
def KidsAt (ok : Nat → Prop) (W : World) : List Rx → Nat → Nat → Prop
  | [] => fun _ _ => True
  | k :: ks => fun b o => (∃ cs, TreeAt ok W k cs ∧ ∀ (j : Nat) (v : Value), cs[j]? = some v → W.cell? ⟨b, o + j, none⟩ = some v) ∧ KidsAt ok W ks b (o + 7)
end

theorem KidsAt.kid {ok : Nat → Prop} {W : World} : ∀ {ks : List Rx} {b o : Nat}, KidsAt ok W ks b o → ∀ (i : Nat) (k : Rx), ks[i]? = some k →
    ∃ cs, TreeAt ok W k cs ∧ ∀ (j : Nat) (v : Value), cs[j]? = some v → W.cell? ⟨b, o + i * 7 + j, none⟩ = some v
  | [], b, o, _, i, k, hi => by simp at hi
  | k :: ks, b, o, h, 0, k', hi => by
    simp only [KidsAt] at h
    simp at hi; subst hi
    simpa using h.1
  | k :: ks, b, o, h, i + 1, k', hi => by
    simp only [KidsAt] at h
    simp at hi
    obtain ⟨cs, hc, hj⟩ := KidsAt.kid h.2 i k' hi
    exact ⟨cs, hc, fun j v hv => by rw [← hj j v hv, show o + (i + 1) * 7 + j = o + 7 + i * 7 + j by omega]⟩

theorem KidsAt.mk {ok : Nat → Prop} {W : World} : ∀ {ks : List Rx} {b o : Nat}, (∀ (i : Nat) (k : Rx), ks[i]? = some k →
    ∃ cs, TreeAt ok W k cs ∧ ∀ (j : Nat) (v : Value), cs[j]? = some v → W.cell? ⟨b, o + i * 7 + j, none⟩ = some v) → KidsAt ok W ks b o
  | [], b, o, _ => by simp [KidsAt]
  | k :: ks, b, o, h => by
    simp only [KidsAt]
    refine ⟨by simpa using h 0 k (by simp), KidsAt.mk fun i k' hi => ?_⟩
    obtain ⟨cs, hc, hj⟩ := h (i + 1) k' (by simpa using hi)
    exact ⟨cs, hc, fun j v hv => by rw [← hj j v hv, show o + (i + 1) * 7 + j = o + 7 + i * 7 + j by omega]⟩

section
variable {ok ok' : Nat → Prop} {W W' : World}
theorem SetAt.mono {v : Value} {l : List (Int × Int)} (h : SetAt ok W v l) (hok : ∀ k, ok k → ok' k) : SetAt ok' W v l := by
  obtain ⟨A, c, h1, h2, h3, h⟩ := h
  refine ⟨A, c, h1, h2, h3, h.imp id ?_⟩
  rintro ⟨b, o, hA, hb, hc⟩
  exact ⟨b, o, hA, hok b hb, hc⟩
theorem SetAt.step {v : Value} {l : List (Int × Int)} (h : SetAt ok W v l) (hk : ∀ k, ok k → k < W.heap.size → W'.heap[k]? = W.heap[k]?) : SetAt ok W' v l := by
  obtain ⟨A, c, h1, h2, h3, h⟩ := h
  refine ⟨A, c, h1, h2, h3, h.imp id ?_⟩
  rintro ⟨b, o, hA, hb, hc⟩
  refine ⟨b, o, hA, hb, fun i x hi => ?_⟩
  obtain ⟨c0, c1⟩ := hc i x hi
  have hs : W'.heap[b]? = W.heap[b]? := hk b hb (World.block_lt_of_cell? W _ c0)
  exact ⟨(cell_of_same (a := ⟨b, _, none⟩) hs).trans c0, (cell_of_same (a := ⟨b, _, none⟩) hs).trans c1⟩
theorem SetAt.bound {v : Value} {l : List (Int × Int)} (h : SetAt ok W v l) : SetAt (fun k => ok k ∧ k < W.heap.size) W v l := by
  obtain ⟨A, c, h1, h2, h3, h⟩ := h
  refine ⟨A, c, h1, h2, h3, ?_⟩
  rcases h with h | ⟨b, o, hA, hb, hc⟩
  · exact .inl h
  · cases l with
    | nil => exact .inl rfl
    | cons x l => exact .inr ⟨b, o, hA, ⟨hb, World.block_lt_of_cell? W _ (hc 0 x rfl).1⟩, hc⟩

mutual
theorem TreeAt.mono (hok : ∀ k, ok k → ok' k) : ∀ (t : Rx) (cs : List Value), TreeAt ok W t cs → TreeAt ok' W t cs
  | .mk kind code neg set mn mx kids, cs, h => by
    simp only [TreeAt] at h ⊢
    obtain ⟨vs, A, c, h1, h2, h3, h4, h⟩ := h
    refine ⟨vs, A, c, h1, h2.mono hok, h3, h4, h.imp id ?_⟩
    rintro ⟨b, o, hA, hb, hk⟩
    exact ⟨b, o, hA, hok b hb, KidsAt.mono hok kids b o hk⟩
theorem KidsAt.mono (hok : ∀ k, ok k → ok' k) : ∀ (ks : List Rx) (b o : Nat), KidsAt ok W ks b o → KidsAt ok' W ks b o
  | [], b, o, _ => by simp [KidsAt]
  | k :: ks, b, o, h => by
    simp only [KidsAt] at h ⊢
    obtain ⟨⟨cs, hc, hj⟩, h⟩ := h
    exact ⟨⟨cs, TreeAt.mono hok k cs hc, hj⟩, KidsAt.mono hok ks b (o + 7) h⟩
end
mutual
theorem TreeAt.step (hk : ∀ k, ok k → k < W.heap.size → W'.heap[k]? = W.heap[k]?) : ∀ (t : Rx) (cs : List Value), TreeAt ok W t cs → TreeAt ok W' t cs
  | .mk kind code neg set mn mx kids, cs, h => by
    simp only [TreeAt] at h ⊢
    obtain ⟨vs, A, c, h1, h2, h3, h4, h⟩ := h
    refine ⟨vs, A, c, h1, h2.step hk, h3, h4, h.imp id ?_⟩
    rintro ⟨b, o, hA, hb, hh⟩
    exact ⟨b, o, hA, hb, KidsAt.step hk kids b o hb hh⟩
theorem KidsAt.step (hk : ∀ k, ok k → k < W.heap.size → W'.heap[k]? = W.heap[k]?) : ∀ (ks : List Rx) (b o : Nat), ok b → KidsAt ok W ks b o → KidsAt ok W' ks b o
  | [], b, o, _, _ => by simp [KidsAt]
  | k :: ks, b, o, hb, h => by
    simp only [KidsAt] at h ⊢
    obtain ⟨⟨cs, hc, hj⟩, h⟩ := h
    exact ⟨⟨cs, TreeAt.step hk k cs hc, fun j v hv => (cell_of_same (a := ⟨b, _, none⟩) (hk b hb (World.block_lt_of_cell? W _ (hj j v hv)))).trans (hj j v hv)⟩, KidsAt.step hk ks b (o + 7) hb h⟩
end
mutual
theorem TreeAt.bound : ∀ (t : Rx) (cs : List Value), TreeAt ok W t cs → TreeAt (fun k => ok k ∧ k < W.heap.size) W t cs
  | .mk kind code neg set mn mx kids, cs, h => by
    simp only [TreeAt] at h ⊢
    obtain ⟨vs, A, c, h1, h2, h3, h4, h⟩ := h
    refine ⟨vs, A, c, h1, h2.bound, h3, h4, ?_⟩
    rcases h with h | ⟨b, o, hA, hb, hk⟩
    · exact .inl h
    · by_cases hkn : kids = []
      · exact .inl hkn
      · refine .inr ⟨b, o, hA, ⟨hb, ?_⟩, KidsAt.bound kids b o hk⟩
        cases kids with
        | nil => exact absurd rfl hkn
        | cons k ks =>
          simp only [KidsAt] at hk
          obtain ⟨⟨cs, hc, hj⟩, _⟩ := hk
          obtain ⟨kind, code, neg, set, mn, mx, kids⟩ := k
          simp only [TreeAt] at hc
          obtain ⟨_, _, _, rfl, _⟩ := hc
          exact World.block_lt_of_cell? W _ (hj 0 _ rfl)
theorem KidsAt.bound : ∀ (ks : List Rx) (b o : Nat), KidsAt ok W ks b o → KidsAt (fun k => ok k ∧ k < W.heap.size) W ks b o
  | [], b, o, _ => by simp [KidsAt]
  | k :: ks, b, o, h => by
    simp only [KidsAt] at h ⊢
    obtain ⟨⟨cs, hc, hj⟩, h⟩ := h
    exact ⟨⟨cs, TreeAt.bound k cs hc, hj⟩, KidsAt.bound ks b (o + 7) h⟩
end
theorem TreeAt.len {t : Rx} {cs : List Value} (h : TreeAt ok W t cs) : cs.length = 7 := by
  obtain ⟨kind, code, neg, set, mn, mx, kids⟩ := t
  simp only [TreeAt] at h
  obtain ⟨_, _, _, rfl, _⟩ := h
  rfl
theorem TreeAt.one {t : Rx} {cs : List Value} (h : TreeAt ok W t cs) : ∀ v ∈ cs, v.oneCell' = true := by
  obtain ⟨kind, code, neg, set, mn, mx, kids⟩ := t
  simp only [TreeAt] at h
  obtain ⟨vs, _, _, rfl, ⟨_, _, rfl, _⟩, _⟩ := h
  intro v hv
  simp at hv
  rcases hv with rfl | rfl | rfl | rfl | rfl | rfl | rfl <;> rfl
/-- Behind new blocks: what lay there lies there. -/
theorem TreeAt.below {t : Rx} {cs : List Value} (h : TreeAt ok W t cs) (hb : Below W.heap.size W W') : TreeAt ok W' t cs := TreeAt.step (fun k _ hlt => hb.block k hlt) t cs h
theorem SetAt.below {v : Value} {l : List (Int × Int)} (h : SetAt ok W v l) (hb : Below W.heap.size W W') : SetAt ok W' v l := h.step (fun k _ hlt => hb.block k hlt)
theorem SetAt.nil (ok : Nat → Prop) (W : World) : SetAt ok W (.slice none 0 0) [] := ⟨none, 0, rfl, Nat.le_refl _, by omega, .inl rfl⟩
end
end Go.Proofs.YtanmlgliibgpcaaDoor

/- Plain Lean: characters of a string: their codes and sizes. -/
namespace Thr

/-- The byte at a place; 0 beyond the end. -/
def byt (s : ByteArray) (i : Nat) : Int := if h : i < s.size then ((s[i]'h).toNat : Int) else 0
theorem byt_at {s : ByteArray} {i : Nat} (h : i < s.size) : ((s[i]'h).toNat : Int) = byt s i := by simp [byt, h]
theorem byt_range (s : ByteArray) (i : Nat) : 0 ≤ byt s i ∧ byt s i ≤ 255 := by
  unfold byt
  split
  · rename_i h
    have := (s[i]'h).toNat_lt
    omega
  · omega
theorem byt_extract {s : ByteArray} {a i : Nat} : byt (s.extract a s.size) i = byt s (a + i) := by
  unfold byt
  by_cases h : a + i < s.size
  · have h' : i < (s.extract a s.size).size := by simp [ByteArray.size_extract]; omega
    rw [dif_pos h, dif_pos h']
    simp [ByteArray.getElem_extract]
  · have h' : ¬ i < (s.extract a s.size).size := by simp [ByteArray.size_extract]; omega
    rw [dif_neg h, dif_neg h']

/-- k bytes that go on an encoding, from place i on, r so far. -/
def tailF (s : ByteArray) : Nat → Nat → Int → Option Int
  | 0, _, r => some r
  | k + 1, i, r => if byt s i < 128 ∨ 191 < byt s i then none else tailF s k (i + 1) (64 * r + byt s i - 128)

/-- Of a byte that begins an encoding of several: how many, its own part of the code, the least code. -/
def leadF (b : Int) : Nat × Int × Int :=
  if 194 ≤ b ∧ b ≤ 223 then (2, b % 32, 128) else if 224 ≤ b ∧ b ≤ 239 then (3, b % 16, 2048) else if 240 ≤ b ∧ b ≤ 244 then (4, b % 8, 65536) else (0, 0, 0)
def codeF (n : Int) (least : Int) (o : Option Int) : Int × Int :=
  match o with
  | none => (0, 0)
  | some r => if r < least ∨ 1114111 < r ∨ 55296 ≤ r ∧ r ≤ 57343 then (0, 0) else (n, r)

/-- How many bytes an encoding has with which a string begins; 0: none does. And its code. -/
def sizeF (s : ByteArray) : Int × Int :=
  if byt s 0 < 128 then (1, byt s 0)
  else if (leadF (byt s 0)).1 = 0 ∨ s.size < (leadF (byt s 0)).1 then (0, 0)
  else codeF (leadF (byt s 0)).1 (leadF (byt s 0)).2.2 (tailF s ((leadF (byt s 0)).1 - 1) 1 (leadF (byt s 0)).2.1)

/-- The code at a place, and how many bytes it has. -/
def nextF (s : ByteArray) (i : Int) (bytes : Bool) : Int × Int :=
  if i < 0 ∨ (s.size : Int) ≤ i then (0, 0)
  else if bytes = true then (byt s i.toNat, 1)
  else if (sizeF (s.extract i.toNat s.size)).1 = 0 then (1114112 + byt s i.toNat, 1)
  else ((sizeF (s.extract i.toNat s.size)).2, (sizeF (s.extract i.toNat s.size)).1)
end Thr

/- Plain Lean: small letters, sets of codes, which character fits a node. -/
namespace Thr

def foldF (c : Int) (bytes : Bool) : Int := if 65 ≤ c ∧ c ≤ 90 ∨ bytes = false ∧ 192 ≤ c ∧ c ≤ 222 ∧ c ≠ 215 then c + 32 else c
def upF (low : Int) (bytes : Bool) : Int := if 0 ≤ low - 32 ∧ foldF (low - 32) bytes = low then low - 32 else low
def hitF (r : Int × Int) (c : Int) : Bool := decide (r.1 ≤ c) && decide (c ≤ r.2)
def inR (r : Int × Int) (c low up : Int) (fold : Bool) : Bool := hitF r c || (fold && (hitF r low || hitF r up))
def inF (set : List (Int × Int)) (c : Int) (fold bytes : Bool) : Bool := set.any fun r => inR r c (foldF c bytes) (upF (foldF c bytes) bytes) fold
def fitsF (t : Rx) (c : Int) (fold bytes : Bool) : Bool :=
  if t.kind = 3 then true
  else if t.kind = 2 then decide (c = t.code) || (fold && decide (foldF c bytes = foldF t.code bytes))
  else inF t.set c fold bytes != t.neg
/-- Letters, digits and '_'. -/
def isWordF (c : Int) : Bool := decide (48 ≤ c ∧ c ≤ 57 ∨ 65 ≤ c ∧ c ≤ 90 ∨ c = 95 ∨ 97 ≤ c ∧ c ≤ 122)
def checkF (kind ahead behind : Int) : Bool :=
  if kind = 8 then decide (ahead < 0) else if kind = 9 then decide (behind < 0)
  else if kind = 10 then isWordF ahead != isWordF behind else if kind = 11 then isWordF ahead == isWordF behind
  else if kind = 12 then !isWordF ahead && isWordF behind else isWordF ahead && !isWordF behind

/-- The code at a place; -1: there is none. -/
def codeAt (s : ByteArray) (i : Int) (bytes : Bool) : Int × Int := if (nextF s i bytes).2 = 0 then (-1, 0) else nextF s i bytes
end Thr

/- Walks: isWord, check. -/
namespace Go.Proofs.YtanmlgliibgpcaaDoor
open Go.RowKit Thr

set_option maxHeartbeats 400000 in
theorem isWord_calls (c : Int) (w : World) : Calls Tryd.prog 55 #[.int .i64 c] w fun e w' => e = .returned (.bool (isWordF c)) ∧ w' = w := by
  go_enter Tryd.func55, Tryd.ntmps55
  go_wp2
  all_goals
    go_ret
    refine ⟨ret_bool ?_, rfl⟩
    rw [Bool.eq_iff_iff]
    simp [isWordF]
    omega

set_option maxHeartbeats 1000000 in
theorem check_calls {ok : Nat → Prop} (t : Rx) (cs : List Value) (ahead behind : Int) (w : World) (ht : TreeAt ok w t cs) :
    Calls Tryd.prog 42 #[.agg cs.toArray, .agg #[.int .i64 ahead, .int .i64 behind]] w fun e w' => e = .returned (.bool (checkF t.kind ahead behind)) ∧ Below w.heap.size w w' := by
  obtain ⟨kind, code, neg, set, mn, mx, kids⟩ := t
  simp only [TreeAt] at ht
  obtain ⟨vs, A, c, rfl, ⟨_, _, rfl, -⟩, -⟩ := ht
  simp only [Rx.kind]
  obtain ⟨a, ha⟩ : ∃ a, isWordF ahead = a := ⟨_, rfl⟩
  obtain ⟨b, hb⟩ : ∃ b, isWordF behind = b := ⟨_, rfl⟩
  have ca := fun w => isWord_calls ahead w
  have cb := fun w => isWord_calls behind w
  rw [ha] at ca
  rw [hb] at cb
  obtain ⟨r, hr⟩ : ∃ r, checkF kind ahead behind = r := ⟨_, rfl⟩
  rw [hr]
  unfold checkF at hr
  rw [ha, hb] at hr
  have Hr := hide hr
  have Ca := hide ca
  have Cb := hide cb
  clear ca cb ha hb hr
  go_enter Tryd.func42, Tryd.ntmps42
  go_wp2_with fail
  go_quiet ((first | (go_at_call_of 55 (Value.int IntKind.i64 ahead); exact Calls.quiet_of_same (unhide Ca _)) | (go_at_call 55; exact Calls.quiet_of_same (unhide Cb _))))
  go_wp2
  all_goals
    go_ret
    refine ⟨ret_bool ?_, (by repeat (first | exact Below.refl _ _ | assumption | refine below_drewN ?_ _ | refine Below.drew ?_ | refine below_alloc' ?_ _))⟩
    rw [← unhide Hr]
    clear Hr Ca Cb
    first | (simp_all; done) | (cases a <;> cases b <;> simp_all)
end Go.Proofs.YtanmlgliibgpcaaDoor

/- The walk of follow: an instruction, and all to which it leads without a character. -/
namespace Go.Proofs.YtanmlgliibgpcaaDoor
open Go.RowKit Thr

/-- The instructions of a program, in blocks of ok. -/
def InstsAt (ok : Nat → Prop) (W : World) (v : Value) (I : List Inst) : Prop :=
  ∃ b o c, v = .slice (some ⟨b, o, none⟩) I.length c ∧ I.length ≤ c ∧ c ≤ 9223372036854775807 ∧ ok b ∧
    ∀ (k : Nat) (q : Inst), I[k]? = some q → ∃ cs, TreeAt ok W q.node cs ∧ W.cell? ⟨b, o + k * 10, none⟩ = some (.int .i64 q.op) ∧
      (∀ (j : Nat) (u : Value), cs[j]? = some u → W.cell? ⟨b, o + k * 10 + 1 + j, none⟩ = some u) ∧
      W.cell? ⟨b, o + k * 10 + 8, none⟩ = some (.int .i64 q.x) ∧ W.cell? ⟨b, o + k * 10 + 9, none⟩ = some (.int .i64 q.y)

theorem InstsAt.step {ok : Nat → Prop} {W W' : World} {v : Value} {I : List Inst} (h : InstsAt ok W v I) (hk : ∀ k, ok k → k < W.heap.size → W'.heap[k]? = W.heap[k]?) : InstsAt ok W' v I := by
  obtain ⟨b, o, c, h1, h2, h3, hb, h⟩ := h
  refine ⟨b, o, c, h1, h2, h3, hb, fun k q hq => ?_⟩
  obtain ⟨cs, ht, h4, h5, h6, h7⟩ := h k q hq
  have hs : W'.heap[b]? = W.heap[b]? := hk b hb (World.block_lt_of_cell? W _ h4)
  exact ⟨cs, TreeAt.step hk _ _ ht, (cell_of_same (a := ⟨b, _, none⟩) hs).trans h4, fun j u hu => (cell_of_same (a := ⟨b, _, none⟩) hs).trans (h5 j u hu), (cell_of_same (a := ⟨b, _, none⟩) hs).trans h6, (cell_of_same (a := ⟨b, _, none⟩) hs).trans h7⟩
theorem InstsAt.below {N : Nat} {W W' : World} {v : Value} {I : List Inst} (h : InstsAt (fun k => k < N) W v I) (hb : Below N W W') : InstsAt (fun k => k < N) W' v I := h.step (fun k hk _ => hb.block k hk)

theorem InstsAt.keeps {ok S : Nat → Prop} {W W' : World} {v : Value} {I : List Inst} (h : InstsAt ok W v I) (hb : Keeps S W W') (hS : ∀ k, ok k → ¬ S k) : InstsAt ok W' v I := h.step (fun k hk hlt => hb.block k hlt (hS k hk))

/-- What `set` holds: the marks and the list. -/
structure SetS (w : World) (base bt bh : Nat) (vl : Value) (has : List Bool) (list : List Int) : Prop where
  row : Blk w bt 68 #[.slice (some ⟨bh, 0, none⟩) has.length has.length, vl]
  own : w.ownsRow base 3 1 vl list.length (list.map (Value.int .i64))
  marks : Blk w bh 4 (has.map Value.bool).toArray
  lt : base ≤ bt ∧ base ≤ bh ∧ has.length ≤ 9223372036854775807
/-- The blocks that follow turns. -/
def Turn (bt bh : Nat) (vl : Value) (k : Nat) : Prop := k = bt ∨ k = bh ∨ vl.ownBlock = some k
/-- Where the list lies behind a call. -/
def At (w : World) (vl vl' : Value) : Prop := vl'.ownBlock = vl.ownBlock ∨ ∃ g, vl'.ownBlock = some g ∧ w.heap.size ≤ g

theorem own_lt {w : World} {base n size : Nat} {e : TypeId} {v : Value} {xs : List Value} (h : w.ownsRow base e size v n xs) (k : Nat) (hk : v.ownBlock = some k) : base ≤ k ∧ k < w.heap.size := by
  rcases h.2 with ⟨rfl, _⟩ | ⟨g, cap, cur, rfl, hg, hh, _⟩
  · simp [Value.ownBlock] at hk
  · have : g = k := by simpa [Value.ownBlock] using hk
    subst this
    exact ⟨hg, (Array.getElem?_eq_some_iff.1 hh).1⟩
theorem own_step {w w1 : World} {base n size : Nat} {e : TypeId} {v : Value} {xs : List Value} (h : w.ownsRow base e size v n xs) (hm : ∀ k, v.ownBlock = some k → w1.heap[k]? = w.heap[k]?) : w1.ownsRow base e size v n xs := by
  obtain ⟨h1, h2⟩ := h
  refine ⟨h1, ?_⟩
  rcases h2 with h2 | ⟨g, cap, cur, rfl, hg, hh, r⟩
  · exact .inl h2
  · exact .inr ⟨g, cap, cur, rfl, hg, (hm g (by simp [Value.ownBlock])).trans hh, r⟩

section
variable {w : World} {base bt bh : Nat} {vl : Value} {has : List Bool} {list : List Int}
theorem SetS.alloc (h : SetS w base bt bh vl has list) (o : Obj) : SetS (w.alloc o) base bt bh vl has list := ⟨h.row.alloc o, h.own.alloc o, h.marks.alloc o, h.lt⟩
theorem SetS.bt_lt (h : SetS w base bt bh vl has list) : bt < w.heap.size := h.row.lt
theorem SetS.bh_lt (h : SetS w base bt bh vl has list) : bh < w.heap.size := h.marks.lt
theorem SetS.ne (h : SetS w base bt bh vl has list) : ¬ bt = bh := h.row.ne_ h.marks (by decide)
theorem SetS.mark (h : SetS w base bt bh vl has list) (k : Nat) : SetS (w.setCell ⟨bh, k, none⟩ (.bool true)) base bt bh vl (has.set k true) list := by
  have hne := own_blk_ne h.own h.marks (by decide)
  refine ⟨?_, own_step h.own (fun j hj => Below.heap_setCell w _ _ j (by rintro rfl; exact hne hj)), ?_, ?_⟩
  · rw [List.length_set]; exact h.row.far h.ne _
  · have := h.marks.set_ k (.bool true)
    rw [List.map_set]
    simpa using this
  · rw [List.length_set]; exact h.lt
theorem SetS.new_not {k : Nat} (h : SetS w base bt bh vl has list) (hk : w.heap.size ≤ k) : ¬ Turn bt bh vl k := by
  have h1 := h.bt_lt
  have h2 := h.bh_lt
  rintro (rfl | rfl | e)
  · omega
  · omega
  · have := own_lt h.own k e; omega
theorem SetS.old_not {k : Nat} (h : SetS w base bt bh vl has list) (hk : k < base) : ¬ Turn bt bh vl k := by
  have h1 := h.lt
  rintro (rfl | rfl | e)
  · omega
  · omega
  · have := own_lt h.own k e; omega
end
theorem Turn.of_at {w : World} {bt bh : Nat} {vl vl1 : Value} (h : At w vl vl1) : ∀ k, k < w.heap.size → Turn bt bh vl1 k → Turn bt bh vl k := by
  rintro k hk (rfl | rfl | e)
  · exact .inl rfl
  · exact .inr (.inl rfl)
  · rcases h with h | ⟨g, h, hg⟩
    · exact .inr (.inr (h ▸ e))
    · rw [h] at e; cases e; omega
theorem At.trans {w w1 : World} {v v1 v2 : Value} (h : At w v v1) (k : At w1 v1 v2) (hs : w.heap.size ≤ w1.heap.size) : At w v v2 := by
  rcases k with k | ⟨g, k, hg⟩
  · rcases h with h | ⟨g', h, hg'⟩
    · exact .inl (k.trans h)
    · exact .inr ⟨g', k.trans h, hg'⟩
  · exact .inr ⟨g, k, by omega⟩

theorem At.later {w w1 : World} {v v1 : Value} (h : At w1 v v1) (hs : w.heap.size ≤ w1.heap.size) : At w v v1 := by
  rcases h with h | ⟨g, h, hg⟩
  · exact .inl h
  · exact .inr ⟨g, h, by omega⟩
theorem SetS.below {w w1 : World} {base bt bh : Nat} {vl : Value} {has : List Bool} {list : List Int} (h : SetS w base bt bh vl has list) (hb : Below w.heap.size w w1) : SetS w1 base bt bh vl has list :=
  ⟨h.row.below hb h.bt_lt, own_step h.own (fun k hk => hb.block k (own_lt h.own k hk).2), h.marks.below hb h.bh_lt, h.lt⟩

theorem Tryd.infoInt : (Tryd.prog.info? 3).map (fun i => (i.zero, i.size, i.bytes)) = some (some (.int .i64 0), 1, 8) := by kernel_rfl

set_option maxHeartbeats 1000000 in
theorem follow_marked {base bp bt bh : Nat} {vl : Value} (has : List Bool) (list : List Int) (i : Int) (sa sb : Int) (w : World) (hS : SetS w base bt bh vl has list)
    (h0 : 0 ≤ i) (hi : i < has.length) (hm : has[i.toNat]? = some true) :
    Calls Tryd.prog 27 #[.pointer (some ⟨bp, 0, none⟩), .pointer (some ⟨bt, 0, none⟩), .int .i64 i, .agg #[.int .i64 sa, .int .i64 sb]] w fun e w' =>
      e = .returned (.tuple #[]) ∧ ∃ vl', SetS w' base bt bh vl' has list ∧ Keeps (Turn bt bh vl) w w' ∧ At w vl vl' := by
  obtain ⟨k, rfl⟩ := Int.eq_ofNat_of_zero_le h0
  have hk : k < has.length := by omega
  have c0 := hS.row.cell 0
  have cm := hS.marks.cell k
  have hbt := hS.bt_lt
  have hbh := hS.bh_lt
  have hlt := hS.lt
  have HS := hide hS
  clear hS
  simp only [Int.toNat_natCast] at hm
  have cm' : w.cell? ⟨bh, k, none⟩ = some (.bool true) := by rw [cm]; simp [hm]
  simp at c0
  clear cm
  go_enter Tryd.func27, Tryd.ntmps27
  go_wp2_with fail
  refine bodyPost_ret (results_none rfl _ _ _) rfl ?_
  exact ⟨rfl, vl, (unhide HS).alloc _, (Keeps.refl _ _).alloc _, .inl rfl⟩

/-- Of a list as long as there are marks at most. -/
theorem follow_bound {I : List Inst} {chk : Rx → Bool} : ∀ (f : Nat) (has : List Bool) (list : List Int) (i : Int) (r : List Bool × List Int), has.length = I.length →
    followF I chk f has list i = some r → r.2.length + bare r.1 ≤ list.length + bare has ∧ r.1.length = I.length
  | 0, has, list, i, r, hl, h => by simp [followF] at h
  | f + 1, has, list, i, r, hl, h => by
    simp only [followF] at h
    by_cases hm : has.getD i.toNat false = true
    · rw [if_pos hm] at h
      obtain rfl := Option.some.inj h
      exact ⟨Nat.le_refl _, hl⟩
    rw [if_neg hm] at h
    cases hq : I[i.toNat]? with
    | none => rw [hq] at h; simp at h
    | some q =>
      rw [hq] at h
      simp only at h
      have hlt := (List.getElem?_eq_some_iff.1 hq).1
      have hf' : has[i.toNat]? = some false := by
        rw [List.getD_eq_getElem?_getD, List.getElem?_eq_getElem (by omega)] at hm
        rw [List.getElem?_eq_getElem (by omega)]
        simpa using hm
      have hb := bare_set has i.toNat hf'
      by_cases h2 : q.op = 2
      · rw [if_pos h2] at h
        obtain ⟨r1, h1, h⟩ := Option.bind_eq_some_iff.1 h
        have a := follow_bound f _ _ _ _ (by simpa using hl) h1
        have b := follow_bound f _ _ _ _ a.2 h
        exact ⟨by omega, b.2⟩
      rw [if_neg h2] at h
      by_cases h3 : q.op = 1
      · rw [if_pos h3] at h
        by_cases hc : chk q.node = true
        · rw [if_pos hc] at h
          have a := follow_bound f _ _ _ _ (by simpa using hl) h
          exact ⟨by omega, a.2⟩
        · rw [if_neg hc] at h
          obtain rfl := Option.some.inj h
          exact ⟨by simp; omega, by simpa using hl⟩
      rw [if_neg h3] at h
      obtain rfl := Option.some.inj h
      exact ⟨by simp; omega, by simpa using hl⟩

set_option maxHeartbeats 2000000 in
theorem follow_calls {I : List Inst} {base bp bt bh : Nat} {fold bytes : Bool} {start : Int} {vI : Value} (sa sb : Int) (hI : Sound I) :
    ∀ (f : Nat) (has : List Bool) (list : List Int) (i : Int) (r : List Bool × List Int) (vl : Value) (w : World), followF I (fun t => checkF t.kind sa sb) f has list i = some r →
    Blk w bp 47 #[.bool fold, .bool bytes, vI, .int .i64 start] → bp < base → InstsAt (fun k => k < base) w vI I → has.length = I.length → list.length + bare has ≤ 1000000 → SetS w base bt bh vl has list → 0 ≤ i → i < I.length →
    Calls Tryd.prog 27 #[.pointer (some ⟨bp, 0, none⟩), .pointer (some ⟨bt, 0, none⟩), .int .i64 i, .agg #[.int .i64 sa, .int .i64 sb]] w fun e w' =>
      e = .returned (.tuple #[]) ∧ ∃ vl', SetS w' base bt bh vl' r.1 r.2 ∧ Keeps (Turn bt bh vl) w w' ∧ At w vl vl' := by
  intro f
  induction f with
  | zero => intro has list i r vl w hr; simp [followF] at hr
  | succ f ih =>
    intro has list i r vl w hr hP hbp hIn hl hlen hS h0 hi
    simp only [followF] at hr
    by_cases hm : has.getD i.toNat false = true
    · rw [if_pos hm] at hr
      obtain rfl := Option.some.inj hr
      exact follow_marked has list i sa sb w hS h0 (by omega) (getD_marked.1 hm)
    rw [if_neg hm] at hr
    obtain ⟨k, rfl⟩ := Int.eq_ofNat_of_zero_le h0
    simp only [Int.toNat_natCast] at hr hm
    have hk : k < I.length := by omega
    have hf : has[k]? = some false := by
      rw [List.getD_eq_getElem?_getD, List.getElem?_eq_getElem (by omega)] at hm
      rw [List.getElem?_eq_getElem (by omega)]
      simpa using hm
    have hbare := bare_set has k hf
    obtain ⟨q, hq⟩ : ∃ q, I[k]? = some q := ⟨_, List.getElem?_eq_getElem hk⟩
    rw [hq] at hr
    simp only at hr
    obtain ⟨ho, hx, hy⟩ := hI _ _ hq
    have hIn0 := hIn
    obtain ⟨b, o, c, rfl, hc1, hc2, hb, hcells⟩ := hIn
    obtain ⟨cs, ht, d0, d1, d8, d9⟩ := hcells k q hq
    have ht0 := ht
    obtain ⟨op, node, qx, qy⟩ := q
    obtain ⟨kind, code, neg, set, mn, mx, kids⟩ := node
    simp only [TreeAt] at ht
    obtain ⟨vs, A, cc, rfl, ⟨As, cs', rfl, -⟩, -⟩ := ht
    have e1 := d1 0 _ rfl
    have e2 := d1 1 _ rfl
    have e3 := d1 2 _ rfl
    have e4 := d1 3 _ rfl
    have e5 := d1 4 _ rfl
    have e6 := d1 5 _ rfl
    have e7 := d1 6 _ rfl
    clear d1 hcells
    have hbt := hS.bt_lt
    have hbh := hS.bh_lt
    have hlt := hS.lt
    have hne := hS.ne
    have c0 := hS.row.cell 0
    have c1 := hS.row.cell 1
    have f1 := hS.row.frozen 1
    have cm : w.cell? ⟨bh, k, none⟩ = some (.bool false) := by rw [hS.marks.cell k]; simp [hf]
    have fm := hS.marks.frozen k
    have p2 := hP.cell 2
    have hbpl := hP.lt
    have hbl : b < w.heap.size := World.block_lt_of_cell? w _ d0
    simp at c0 c1 p2 e1
    have n1 : ¬ b = bh := by omega
    have n2 : ¬ bp = bh := by omega
    have hkn : k < has.length := by omega
    have hS1 := hS.mark k
    have hP1 := hP.far (p := ⟨bh, k, none⟩) n2 (.bool true)
    have hI1 : InstsAt (fun k => k < base) (w.setCell ⟨bh, k, none⟩ (.bool true)) (.slice (some ⟨b, o, none⟩) I.length c) I := hIn0.step (fun j hj _ => Below.heap_setCell w _ _ j (by simp only; omega))
    have hK1 : Keeps (Turn bt bh vl) w (w.setCell ⟨bh, k, none⟩ (.bool true)) := (Keeps.refl _ _).setCell (.inl (.inr (.inl rfl))) _
    have hl1 : (has.set k true).length = I.length := by simpa using hl
    have HS := hide hS; have HS1 := hide hS1; have HP1 := hide hP1; have HI1 := hide hI1; have HK1 := hide hK1; have HL1 := hide hl1; have HB := hide hbare; have IH := hide ih; have HI := hide hI; have HR := hide hr; have Hq := hide hq
    clear hS hS1 hP1 hI1 hK1 hl1 hbare hIn0 hr hq hP hm hf ih hI
    by_cases h2 : op = 2
    · subst h2
      have hr := unhide HR
      simp only [if_true] at hr
      obtain ⟨r1, hr1, hr2⟩ := Option.bind_eq_some_iff.1 hr
      obtain ⟨hx0, hx1⟩ := hx (by simp)
      obtain ⟨hy0, hy1⟩ := hy rfl
      simp only at hx0 hx1 hy0 hy1
      have HR1 := hide hr1; have HR2 := hide hr2
      clear hr hr1 hr2 hx hy ho
      go_enter Tryd.func27, Tryd.ntmps27
      go_wp2_with fail
      refine (unhide IH (has.set k true) list qx r1 vl _ (unhide HR1) (((unhide HP1).alloc _).alloc _) hbp (((unhide HI1).step (fun j _ hj => Below.heap_alloc _ _ j hj)).step (fun j _ hj => Below.heap_alloc _ _ j hj)) (unhide HL1) (by have := unhide HB; omega) (((unhide HS1).alloc _).alloc _) hx0 hx1).mono ?_
      rintro e w1 ⟨rfl, vl1, hS2, hk2, hat2⟩
      have nt : ∀ j, w.heap.size ≤ j → ¬ Turn bt bh vl j := fun j hj => (unhide HS).new_not hj
      have s0 : w1.cell? ⟨w.heap.size, 0, none⟩ = some (.int .i64 sa) := (hk2.cell (by simp <;> omega) (nt _ (Nat.le_refl _))).trans (by go_simp)
      have s1 : w1.cell? ⟨w.heap.size, 1, none⟩ = some (.int .i64 sb) := (hk2.cell (by simp <;> omega) (nt _ (Nat.le_refl _))).trans (by go_simp)
      have s9 : w1.cell? ⟨w.heap.size + 1, 9, none⟩ = some (.int .i64 qy) := (hk2.cell (by simp) (nt _ (by omega))).trans (by go_simp)
      have HK2 := hide hk2; have HS2 := hide hS2; have HAT := hide hat2; have NT := hide nt
      clear hk2 hS2 hat2 nt
      go_wp2_with fail
      have hb1 := follow_bound _ _ _ _ _ (unhide HL1) (unhide HR1)
      refine (unhide IH r1.1 r1.2 qy r vl1 _ (unhide HR2) ((((unhide HP1).alloc _).alloc _).keeps (unhide HK2) ((unhide HS).old_not hbp)) hbp
        ((((unhide HI1).step (fun j _ hj => Below.heap_alloc _ _ j hj)).step (fun j _ hj => Below.heap_alloc _ _ j hj)).keeps (unhide HK2) (fun j hj => (unhide HS).old_not hj)) hb1.2 (by have := unhide HB; have := hb1.1; omega) (unhide HS2) hy0 hy1).mono ?_
      rintro e w2 ⟨rfl, vl2, hS3, hk3, hat3⟩
      go_wp2_with fail
      first | go_end0 | refine bodyPost_ret (results_none rfl _ _ _) rfl ?_
      exact ⟨rfl, vl2, hS3, ((((unhide HK1).alloc _).alloc _).trans (unhide HK2) (fun _ _ h => h)).trans hk3 (fun j hj ht => Turn.of_at (unhide HAT) j (by simp <;> omega) ht), At.trans (w := w) (by rcases unhide HAT with h | ⟨g, h, hg⟩; exact .inl h; exact .inr ⟨g, h, by simp at hg; omega⟩) hat3 (by have := (unhide HK2).size; simp at this; omega)⟩
    by_cases h3 : op = 1
    · subst h3
      have hr := unhide HR
      rw [if_neg (by omega), if_pos rfl] at hr
      obtain ⟨hx0, hx1⟩ := hx (by simp)
      simp only at hx0 hx1
      clear hx hy ho h2
      split at hr
      · rename_i hc
        have hck := fun (cs : List Value) (w : World) (h : TreeAt (fun k => k < base) w (.mk kind code neg set mn mx kids) cs) => check_calls (.mk kind code neg set mn mx kids) cs sa sb w h
        rw [show checkF (Rx.mk kind code neg set mn mx kids).kind sa sb = true from hc] at hck
        have HR1 := hide hr
        have HCK := hide hck
        have HT0 := hide ht0
        clear hr hck ht0 hc
        go_enter Tryd.func27, Tryd.ntmps27
        go_wp2_with fail
        refine (unhide HCK _ _ (TreeAt.step (fun j _ hj => Below.heap_alloc _ _ j hj) _ _ (TreeAt.step (fun j _ hj => Below.heap_alloc _ _ j hj) _ _ (TreeAt.step (fun j hj _ => Below.heap_setCell w ⟨bh, k, none⟩ (.bool true) j (by simp only; omega)) _ _ (unhide HT0))))).mono ?_
        rintro e w1 ⟨rfl, hb1⟩
        have s0 : w1.cell? ⟨w.heap.size, 0, none⟩ = some (.int .i64 sa) := ((bcell hb1).1 _ _ (by simp <;> omega)).trans (by go_simp)
        have s1 : w1.cell? ⟨w.heap.size, 1, none⟩ = some (.int .i64 sb) := ((bcell hb1).1 _ _ (by simp <;> omega)).trans (by go_simp)
        have s8 : w1.cell? ⟨w.heap.size + 1, 8, none⟩ = some (.int .i64 qx) := ((bcell hb1).1 _ _ (by simp)).trans (by go_simp)
        have HB1 := hide hb1
        clear hb1
        go_wp2_with fail
        refine (unhide IH (has.set k true) list qx r vl _ (unhide HR1) (((((unhide HP1).alloc _).alloc _)).below (unhide HB1) (by simp <;> omega)) hbp
          ((((unhide HI1).step (fun j _ hj => Below.heap_alloc _ _ j hj)).step (fun j _ hj => Below.heap_alloc _ _ j hj)).step (fun j _ hj => (unhide HB1).block j hj)) (unhide HL1) (by have := unhide HB; omega)
          (((((unhide HS1).alloc _).alloc _)).below (unhide HB1)) hx0 hx1).mono ?_
        rintro e w2 ⟨rfl, vl2, hS3, hk3, hat3⟩
        go_wp2_with fail
        first | go_end0 | refine bodyPost_ret (results_none rfl _ _ _) rfl ?_
        exact ⟨rfl, vl2, hS3, ((((unhide HK1).alloc _).alloc _).then_below (unhide HB1)).trans hk3 (fun j _ ht => ht), At.later hat3 (by have := (unhide HB1).size; simp at this; omega)⟩
      · rename_i hc
        obtain rfl := Option.some.inj hr
        have hck := fun (cs : List Value) (w : World) (h : TreeAt (fun k => k < base) w (.mk kind code neg set mn mx kids) cs) => check_calls (.mk kind code neg set mn mx kids) cs sa sb w h
        rw [show checkF (Rx.mk kind code neg set mn mx kids).kind sa sb = false from by simpa using hc] at hck
        have HCK := hide hck
        have HT0 := hide ht0
        clear hr hck ht0 hc
        go_enter Tryd.func27, Tryd.ntmps27
        go_wp2_with fail
        refine (unhide HCK _ _ (TreeAt.step (fun j _ hj => Below.heap_alloc _ _ j hj) _ _ (TreeAt.step (fun j _ hj => Below.heap_alloc _ _ j hj) _ _ (TreeAt.step (fun j hj _ => Below.heap_setCell w ⟨bh, k, none⟩ (.bool true) j (by simp only; omega)) _ _ (unhide HT0))))).mono ?_
        rintro e w1 ⟨rfl, hb1⟩
        go_wp2_with fail
        first | go_end0 | refine bodyPost_ret (results_none rfl _ _ _) rfl ?_
        exact ⟨rfl, vl, (((unhide HS1).alloc _).alloc _).below hb1, (((unhide HK1).alloc _).alloc _).then_below hb1, .inl rfl⟩
    · have hr := unhide HR
      rw [if_neg h2, if_neg h3] at hr
      obtain rfl := Option.some.inj hr
      clear hx hy
      obtain ⟨i0, hi0, hz0, hz1, hz2⟩ := info_parts Tryd.infoInt
      have t2 : (op == 2) = false := by simpa using h2
      have t3 : (op == 1) = false := by simpa using h3
      clear h2 h3 ho hr
      go_enter Tryd.func27, Tryd.ntmps27
      go_wp2_with (at_builtin; refine wpList_append_lies _ rfl (.tmp 35) (.tmp 37) 58 rfl base 3 i0 (.int .i64 0) 1 8 Tryd.underlying58 hi0 hz0 hz1 hz2 rfl (by decide) vl list.length (list.map (Value.int .i64)) rfl (((unhide HS1).own.alloc _).alloc _ |>.alloc _) ⟨w.heap.size + 2, 0, none⟩ 1 1 [.int .i64 k] rfl rfl ?ca ?cb (by omega) ?cc ?cd ?ce (w.heap.size + 3) (by simp) ?_)
      case cb => first | rfl | (intro u hu; simp at hu; subst hu; rfl)
      case cc => simp only [maxLen]; omega
      case cd => omega
      case ce => omega
      intro g cap w1 hown hg hat hlt1
      have hnb : some bt ≠ vl.ownBlock := fun e => own_blk_ne (unhide HS).own (unhide HS).row (by decide) e.symm
      have hnh : some bh ≠ vl.ownBlock := fun e => own_blk_ne (unhide HS).own (unhide HS).marks (by decide) e.symm
      have hr1 := ((((unhide HS1).row.alloc _).alloc _).alloc _).grown hg hnb
      have hm1 := ((((unhide HS1).marks.alloc _).alloc _).alloc _).grown hg hnh
      have x1 := hr1.cell 1
      have y1 := hr1.frozen 1
      have hkp := ((((unhide HK1).alloc _).alloc _).alloc _).grown hg (fun j hj => .inl (.inr (.inr hj)))
      have hgn : bt ≠ g := by
        rintro rfl
        rcases hat with hat | hat
        · exact hnb hat.symm
        · omega
      simp at x1
      have HO := hide hown; have HR1 := hide hr1; have HM1 := hide hm1; have HKP := hide hkp; have HAT := hide hat
      clear hown hg hat hr1 hm1 hkp hnb hnh
      go_wp2_with fail
      first | go_end0 | refine bodyPost_ret (results_none rfl _ _ _) rfl ?_
      refine ⟨rfl, _, ⟨(unhide HR1).set_ 1 _, ?_, (unhide HM1).far (fun e => hne e.symm) _, by simpa using hlt⟩, (unhide HKP).setCell (.inl (.inl rfl)) _, ?_⟩
      · have := own_step (unhide HO) (w1 := w1.setCell ⟨bt, 1, none⟩ (.slice (some ⟨g, 0, none⟩) (list.length + 1) cap)) (fun j hj => Below.heap_setCell _ _ _ j (by simp [Value.ownBlock] at hj; subst hj; exact hgn.symm))
        simpa using this
      · rcases unhide HAT with h | h
        · exact .inl (by rw [h]; rfl)
        · exact .inr ⟨g, rfl, by omega⟩
end Go.Proofs.YtanmlgliibgpcaaDoor

/- Walks: a string's characters, as the program and as the reference tell them. -/
namespace Go.Proofs.YtanmlgliibgpcaaDoor
open Go.RowKit Thr
set_option linter.unusedVariables false
set_option linter.unusedVariables false

def tb : Nat → Int
  | 1 => 31
  | 2 => 2047
  | 3 => 131071
  | _ => 8388607
theorem tb_step {k : Nat} (h1 : 1 ≤ k) (h : k ≤ 3) : 64 * tb k + 63 ≤ tb (k + 1) := by
  rcases (by omega : k = 1 ∨ k = 2 ∨ k = 3) with rfl | rfl | rfl <;> simp [tb]
theorem tb_le (k : Nat) : tb k ≤ 8388607 := by unfold tb; split <;> omega
theorem ret_two {a b a' b' : Int} (h : (a', b') = (a, b)) : Ending.returned (.tuple #[.int .i64 a', .int .i64 b']) = .returned (.tuple #[.int .i64 a, .int .i64 b]) := by cases h; rfl

set_option maxHeartbeats 1000000 in
theorem size_ascii (s : ByteArray) (w : World) (hs : 0 < s.size) (hm : s.size ≤ 140737488351232) (c1 : byt s 0 < 128) :
    Calls Tryd.prog 46 #[.string s] w fun e w' => e = .returned (.tuple #[.int .i64 (sizeF s).1, .int .i64 (sizeF s).2]) ∧ w' = w := by
  obtain ⟨r1, h1⟩ : ∃ r1, (sizeF s).1 = r1 := ⟨_, rfl⟩
  obtain ⟨r2, h2⟩ : ∃ r2, (sizeF s).2 = r2 := ⟨_, rfl⟩
  rw [h1, h2]
  have hb := byt_at hs
  have hr := byt_range s 0
  obtain ⟨b0, hb0⟩ : ∃ b0, byt s 0 = b0 := ⟨_, rfl⟩
  rw [hb0] at hb hr c1
  have H1 := hide h1; have H2 := hide h2; have HB := hide hb0
  clear h1 h2 hb0
  go_enter Tryd.func46, Tryd.ntmps46
  go_wp2
  go_ret2
  refine ⟨ret_two ?_, rfl⟩
  have e : sizeF s = (1, b0) := by unfold sizeF; rw [unhide HB, if_pos c1]
  rw [← unhide H1, ← unhide H2, e]

set_option maxHeartbeats 2000000 in
theorem size_two (s : ByteArray) (w : World) (hs : 0 < s.size) (hm : s.size ≤ 140737488351232) (c2 : 194 ≤ byt s 0) (c3 : byt s 0 ≤ 223) :
    Calls Tryd.prog 46 #[.string s] w fun e w' => e = .returned (.tuple #[.int .i64 (sizeF s).1, .int .i64 (sizeF s).2]) ∧ w' = w := by
  have e0 : leadF (byt s 0) = (2, byt s 0 % 32, 128) := by
    unfold leadF
    rw [if_pos ⟨c2, c3⟩]
  have e : sizeF s = if s.size < 2 then (0, 0) else codeF 2 128 (tailF s 1 1 (byt s 0 % 32)) := by
    unfold sizeF
    rw [if_neg (by omega), e0]
    by_cases hl : s.size < 2
    · rw [if_pos (.inr hl), if_pos hl]
    · rw [if_neg (by simp only; omega), if_neg hl]
      rfl
  obtain ⟨r1, h1⟩ : ∃ r1, (sizeF s).1 = r1 := ⟨_, rfl⟩
  obtain ⟨r2, h2⟩ : ∃ r2, (sizeF s).2 = r2 := ⟨_, rfl⟩
  rw [h1, h2]
  rw [e] at h1 h2
  have hb := byt_at hs
  have hr := byt_range s 0
  obtain ⟨b0, hb0⟩ : ∃ b0, byt s 0 = b0 := ⟨_, rfl⟩
  rw [hb0] at hb hr c2 c3 h1 h2
  clear e e0
  by_cases hl : s.size < 2
  · rw [if_pos hl] at h1 h2
    subst h1; subst h2
    have HB := hide hb0
    clear hb0
    go_enter Tryd.func46, Tryd.ntmps46
    go_wp2
    go_ret2
    exact ⟨rfl, rfl⟩
  · rw [if_neg hl] at h1 h2
    obtain ⟨T, hT⟩ : ∃ T, tailF s 1 1 (b0 % 32) = T := ⟨_, rfl⟩
    rw [hT] at h1 h2
    have H1 := hide h1; have H2 := hide h2; have HB := hide hb0; have HT := hide hT
    clear h1 h2 hb0 hT
    go_enter Tryd.func46, Tryd.ntmps46
    go_wp2
    go_loop [6, 8] (fun r i => ∃ (k : Nat) (rv : Int), 1 ≤ k ∧ k ≤ 2 ∧ 0 ≤ rv ∧ Hid (rv ≤ tb k) ∧ i = .int .i64 k ∧ r = .int .i64 rv ∧ Hid (tailF s (2 - k) k rv = T)) (fun _ i => 2 - (intOf i).toNat)
    case atStart => exact ⟨1, b0 % 32, by omega, by omega, by omega, hide (by simp only [tb]; omega), rfl, rfl, HT⟩
    case round =>
      obtain ⟨k, rv, k1, k2, k3, k4, rfl, rfl, k5⟩ := hrel
      have k6 : rv ≤ 8388607 := Int.le_trans (unhide k4) (tb_le k)
      by_cases hlt : k < 2
      · have hks : k < s.size := by omega
        have hbk := byt_at hks
        have hrk := byt_range s k
        obtain ⟨bk, hbk0⟩ : ∃ bk, byt s k = bk := ⟨_, rfl⟩
        rw [hbk0] at hbk hrk
        have HBK := hide hbk0
        clear hbk0
        by_cases hc : bk < 128 ∨ 191 < bk
        · have hT0 : T = none := by
            rw [← unhide k5, show 2 - k = (2 - k - 1) + 1 by omega]
            simp only [tailF]; rw [unhide HBK, if_pos hc]
          have HT0 := hide hT0
          clear hT0
          rcases hc with hc | hc
          all_goals
            go_wp2
            go_ret2
            refine ⟨ret_two ?_, rfl⟩
            have h1 := unhide H1; have h2 := unhide H2
            rw [unhide HT0] at h1 h2
            rw [← h1, ← h2]; rfl
        · have hc1 : 128 ≤ bk := by omega
          have hc2 : bk ≤ 191 := by omega
          have hT1 : tailF s (2 - (k + 1)) (k + 1) (64 * rv + bk - 128) = T := by
            rw [← unhide k5, show 2 - k = (2 - (k + 1)) + 1 by omega]
            conv => rhs; simp only [tailF]
            rw [unhide HBK, if_neg hc]
          have HT1 := hide hT1
          have hst := tb_step k1 (by omega : k ≤ 3)
          have hst2 : 64 * rv + bk - 128 ≤ tb (k + 1) := by have := unhide k4; omega
          have HST := hide hst2
          clear hc hT1 hst hst2
          go_wp2
          go_round
          case rel => exact ⟨k + 1, 64 * rv + bk - 128, by omega, by omega, by omega, HST, by go_num, rfl, HT1⟩
          case measure => simp [intOf]; omega
      · obtain rfl : k = 2 := by omega
        have hT1 : T = some rv := by rw [← unhide k5]; rfl
        have h1 := unhide H1; have h2 := unhide H2
        rw [hT1] at h1 h2
        simp only [codeF] at h1 h2
        clear H1 H2 hT1 hlt
        by_cases q1 : rv < 128
        · rw [if_pos (.inl q1)] at h1 h2
          subst h1; subst h2
          go_wp2
          go_ret2
          exact ⟨rfl, rfl⟩
        by_cases q2 : 1114111 < rv
        · rw [if_pos (.inr (.inl q2))] at h1 h2
          subst h1; subst h2
          go_wp2
          go_ret2
          exact ⟨rfl, rfl⟩
        by_cases q3 : 55296 ≤ rv
        · by_cases q4 : rv ≤ 57343
          · rw [if_pos (.inr (.inr ⟨q3, q4⟩))] at h1 h2
            subst h1; subst h2
            go_wp2
            go_ret2
            exact ⟨rfl, rfl⟩
          · rw [if_neg (by omega)] at h1 h2
            subst h1; subst h2
            go_wp2
            go_ret2
            exact ⟨rfl, rfl⟩
        · rw [if_neg (by omega)] at h1 h2
          subst h1; subst h2
          go_wp2
          go_ret2
          exact ⟨rfl, rfl⟩

set_option maxHeartbeats 2000000 in
theorem size_three (s : ByteArray) (w : World) (hs : 0 < s.size) (hm : s.size ≤ 140737488351232) (c2 : 224 ≤ byt s 0) (c3 : byt s 0 ≤ 239) :
    Calls Tryd.prog 46 #[.string s] w fun e w' => e = .returned (.tuple #[.int .i64 (sizeF s).1, .int .i64 (sizeF s).2]) ∧ w' = w := by
  have e0 : leadF (byt s 0) = (3, byt s 0 % 16, 2048) := by
    unfold leadF
    rw [if_neg (by omega), if_pos ⟨c2, c3⟩]
  have e : sizeF s = if s.size < 3 then (0, 0) else codeF 3 2048 (tailF s 2 1 (byt s 0 % 16)) := by
    unfold sizeF
    rw [if_neg (by omega), e0]
    by_cases hl : s.size < 3
    · rw [if_pos (.inr hl), if_pos hl]
    · rw [if_neg (by simp only; omega), if_neg hl]
      rfl
  obtain ⟨r1, h1⟩ : ∃ r1, (sizeF s).1 = r1 := ⟨_, rfl⟩
  obtain ⟨r2, h2⟩ : ∃ r2, (sizeF s).2 = r2 := ⟨_, rfl⟩
  rw [h1, h2]
  rw [e] at h1 h2
  have hb := byt_at hs
  have hr := byt_range s 0
  obtain ⟨b0, hb0⟩ : ∃ b0, byt s 0 = b0 := ⟨_, rfl⟩
  rw [hb0] at hb hr c2 c3 h1 h2
  clear e e0
  by_cases hl : s.size < 3
  · rw [if_pos hl] at h1 h2
    subst h1; subst h2
    have HB := hide hb0
    clear hb0
    go_enter Tryd.func46, Tryd.ntmps46
    go_wp2
    go_ret2
    exact ⟨rfl, rfl⟩
  · rw [if_neg hl] at h1 h2
    obtain ⟨T, hT⟩ : ∃ T, tailF s 2 1 (b0 % 16) = T := ⟨_, rfl⟩
    rw [hT] at h1 h2
    have H1 := hide h1; have H2 := hide h2; have HB := hide hb0; have HT := hide hT
    clear h1 h2 hb0 hT
    go_enter Tryd.func46, Tryd.ntmps46
    go_wp2
    go_loop [6, 8] (fun r i => ∃ (k : Nat) (rv : Int), 1 ≤ k ∧ k ≤ 3 ∧ 0 ≤ rv ∧ Hid (rv ≤ tb k) ∧ i = .int .i64 k ∧ r = .int .i64 rv ∧ Hid (tailF s (3 - k) k rv = T)) (fun _ i => 3 - (intOf i).toNat)
    case atStart => exact ⟨1, b0 % 16, by omega, by omega, by omega, hide (by simp only [tb]; omega), rfl, rfl, HT⟩
    case round =>
      obtain ⟨k, rv, k1, k2, k3, k4, rfl, rfl, k5⟩ := hrel
      have k6 : rv ≤ 8388607 := Int.le_trans (unhide k4) (tb_le k)
      by_cases hlt : k < 3
      · have hks : k < s.size := by omega
        have hbk := byt_at hks
        have hrk := byt_range s k
        obtain ⟨bk, hbk0⟩ : ∃ bk, byt s k = bk := ⟨_, rfl⟩
        rw [hbk0] at hbk hrk
        have HBK := hide hbk0
        clear hbk0
        by_cases hc : bk < 128 ∨ 191 < bk
        · have hT0 : T = none := by
            rw [← unhide k5, show 3 - k = (3 - k - 1) + 1 by omega]
            simp only [tailF]; rw [unhide HBK, if_pos hc]
          have HT0 := hide hT0
          clear hT0
          rcases hc with hc | hc
          all_goals
            go_wp2
            go_ret2
            refine ⟨ret_two ?_, rfl⟩
            have h1 := unhide H1; have h2 := unhide H2
            rw [unhide HT0] at h1 h2
            rw [← h1, ← h2]; rfl
        · have hc1 : 128 ≤ bk := by omega
          have hc2 : bk ≤ 191 := by omega
          have hT1 : tailF s (3 - (k + 1)) (k + 1) (64 * rv + bk - 128) = T := by
            rw [← unhide k5, show 3 - k = (3 - (k + 1)) + 1 by omega]
            conv => rhs; simp only [tailF]
            rw [unhide HBK, if_neg hc]
          have HT1 := hide hT1
          have hst := tb_step k1 (by omega : k ≤ 3)
          have hst2 : 64 * rv + bk - 128 ≤ tb (k + 1) := by have := unhide k4; omega
          have HST := hide hst2
          clear hc hT1 hst hst2
          go_wp2
          go_round
          case rel => exact ⟨k + 1, 64 * rv + bk - 128, by omega, by omega, by omega, HST, by go_num, rfl, HT1⟩
          case measure => simp [intOf]; omega
      · obtain rfl : k = 3 := by omega
        have hT1 : T = some rv := by rw [← unhide k5]; rfl
        have h1 := unhide H1; have h2 := unhide H2
        rw [hT1] at h1 h2
        simp only [codeF] at h1 h2
        clear H1 H2 hT1 hlt
        by_cases q1 : rv < 2048
        · rw [if_pos (.inl q1)] at h1 h2
          subst h1; subst h2
          go_wp2
          go_ret2
          exact ⟨rfl, rfl⟩
        by_cases q2 : 1114111 < rv
        · rw [if_pos (.inr (.inl q2))] at h1 h2
          subst h1; subst h2
          go_wp2
          go_ret2
          exact ⟨rfl, rfl⟩
        by_cases q3 : 55296 ≤ rv
        · by_cases q4 : rv ≤ 57343
          · rw [if_pos (.inr (.inr ⟨q3, q4⟩))] at h1 h2
            subst h1; subst h2
            go_wp2
            go_ret2
            exact ⟨rfl, rfl⟩
          · rw [if_neg (by omega)] at h1 h2
            subst h1; subst h2
            go_wp2
            go_ret2
            exact ⟨rfl, rfl⟩
        · rw [if_neg (by omega)] at h1 h2
          subst h1; subst h2
          go_wp2
          go_ret2
          exact ⟨rfl, rfl⟩

set_option maxHeartbeats 2000000 in
theorem size_four (s : ByteArray) (w : World) (hs : 0 < s.size) (hm : s.size ≤ 140737488351232) (c2 : 240 ≤ byt s 0) (c3 : byt s 0 ≤ 244) :
    Calls Tryd.prog 46 #[.string s] w fun e w' => e = .returned (.tuple #[.int .i64 (sizeF s).1, .int .i64 (sizeF s).2]) ∧ w' = w := by
  have e0 : leadF (byt s 0) = (4, byt s 0 % 8, 65536) := by
    unfold leadF
    rw [if_neg (by omega), if_neg (by omega), if_pos ⟨c2, c3⟩]
  have e : sizeF s = if s.size < 4 then (0, 0) else codeF 4 65536 (tailF s 3 1 (byt s 0 % 8)) := by
    unfold sizeF
    rw [if_neg (by omega), e0]
    by_cases hl : s.size < 4
    · rw [if_pos (.inr hl), if_pos hl]
    · rw [if_neg (by simp only; omega), if_neg hl]
      rfl
  obtain ⟨r1, h1⟩ : ∃ r1, (sizeF s).1 = r1 := ⟨_, rfl⟩
  obtain ⟨r2, h2⟩ : ∃ r2, (sizeF s).2 = r2 := ⟨_, rfl⟩
  rw [h1, h2]
  rw [e] at h1 h2
  have hb := byt_at hs
  have hr := byt_range s 0
  obtain ⟨b0, hb0⟩ : ∃ b0, byt s 0 = b0 := ⟨_, rfl⟩
  rw [hb0] at hb hr c2 c3 h1 h2
  clear e e0
  by_cases hl : s.size < 4
  · rw [if_pos hl] at h1 h2
    subst h1; subst h2
    have HB := hide hb0
    clear hb0
    go_enter Tryd.func46, Tryd.ntmps46
    go_wp2
    go_ret2
    exact ⟨rfl, rfl⟩
  · rw [if_neg hl] at h1 h2
    obtain ⟨T, hT⟩ : ∃ T, tailF s 3 1 (b0 % 8) = T := ⟨_, rfl⟩
    rw [hT] at h1 h2
    have H1 := hide h1; have H2 := hide h2; have HB := hide hb0; have HT := hide hT
    clear h1 h2 hb0 hT
    go_enter Tryd.func46, Tryd.ntmps46
    go_wp2
    go_loop [6, 8] (fun r i => ∃ (k : Nat) (rv : Int), 1 ≤ k ∧ k ≤ 4 ∧ 0 ≤ rv ∧ Hid (rv ≤ tb k) ∧ i = .int .i64 k ∧ r = .int .i64 rv ∧ Hid (tailF s (4 - k) k rv = T)) (fun _ i => 4 - (intOf i).toNat)
    case atStart => exact ⟨1, b0 % 8, by omega, by omega, by omega, hide (by simp only [tb]; omega), rfl, rfl, HT⟩
    case round =>
      obtain ⟨k, rv, k1, k2, k3, k4, rfl, rfl, k5⟩ := hrel
      have k6 : rv ≤ 8388607 := Int.le_trans (unhide k4) (tb_le k)
      by_cases hlt : k < 4
      · have hks : k < s.size := by omega
        have hbk := byt_at hks
        have hrk := byt_range s k
        obtain ⟨bk, hbk0⟩ : ∃ bk, byt s k = bk := ⟨_, rfl⟩
        rw [hbk0] at hbk hrk
        have HBK := hide hbk0
        clear hbk0
        by_cases hc : bk < 128 ∨ 191 < bk
        · have hT0 : T = none := by
            rw [← unhide k5, show 4 - k = (4 - k - 1) + 1 by omega]
            simp only [tailF]; rw [unhide HBK, if_pos hc]
          have HT0 := hide hT0
          clear hT0
          rcases hc with hc | hc
          all_goals
            go_wp2
            go_ret2
            refine ⟨ret_two ?_, rfl⟩
            have h1 := unhide H1; have h2 := unhide H2
            rw [unhide HT0] at h1 h2
            rw [← h1, ← h2]; rfl
        · have hc1 : 128 ≤ bk := by omega
          have hc2 : bk ≤ 191 := by omega
          have hT1 : tailF s (4 - (k + 1)) (k + 1) (64 * rv + bk - 128) = T := by
            rw [← unhide k5, show 4 - k = (4 - (k + 1)) + 1 by omega]
            conv => rhs; simp only [tailF]
            rw [unhide HBK, if_neg hc]
          have HT1 := hide hT1
          have hst := tb_step k1 (by omega : k ≤ 3)
          have hst2 : 64 * rv + bk - 128 ≤ tb (k + 1) := by have := unhide k4; omega
          have HST := hide hst2
          clear hc hT1 hst hst2
          go_wp2
          go_round
          case rel => exact ⟨k + 1, 64 * rv + bk - 128, by omega, by omega, by omega, HST, by go_num, rfl, HT1⟩
          case measure => simp [intOf]; omega
      · obtain rfl : k = 4 := by omega
        have hT1 : T = some rv := by rw [← unhide k5]; rfl
        have h1 := unhide H1; have h2 := unhide H2
        rw [hT1] at h1 h2
        simp only [codeF] at h1 h2
        clear H1 H2 hT1 hlt
        by_cases q1 : rv < 65536
        · rw [if_pos (.inl q1)] at h1 h2
          subst h1; subst h2
          go_wp2
          go_ret2
          exact ⟨rfl, rfl⟩
        by_cases q2 : 1114111 < rv
        · rw [if_pos (.inr (.inl q2))] at h1 h2
          subst h1; subst h2
          go_wp2
          go_ret2
          exact ⟨rfl, rfl⟩
        by_cases q3 : 55296 ≤ rv
        · by_cases q4 : rv ≤ 57343
          · rw [if_pos (.inr (.inr ⟨q3, q4⟩))] at h1 h2
            subst h1; subst h2
            go_wp2
            go_ret2
            exact ⟨rfl, rfl⟩
          · rw [if_neg (by omega)] at h1 h2
            subst h1; subst h2
            go_wp2
            go_ret2
            exact ⟨rfl, rfl⟩
        · rw [if_neg (by omega)] at h1 h2
          subst h1; subst h2
          go_wp2
          go_ret2
          exact ⟨rfl, rfl⟩

set_option maxHeartbeats 1000000 in
theorem size_odd (s : ByteArray) (w : World) (hs : 0 < s.size) (hm : s.size ≤ 140737488351232) (c1 : 128 ≤ byt s 0) (c2 : byt s 0 ≤ 193 ∨ 245 ≤ byt s 0) :
    Calls Tryd.prog 46 #[.string s] w fun e w' => e = .returned (.tuple #[.int .i64 (sizeF s).1, .int .i64 (sizeF s).2]) ∧ w' = w := by
  have e : sizeF s = (0, 0) := by
    have e0 : leadF (byt s 0) = (0, 0, 0) := by unfold leadF; rw [if_neg (by omega), if_neg (by omega), if_neg (by omega)]
    unfold sizeF
    rw [if_neg (by omega), e0, if_pos (.inl rfl)]
  rw [e]
  have hb := byt_at hs
  have hr := byt_range s 0
  obtain ⟨b0, hb0⟩ : ∃ b0, byt s 0 = b0 := ⟨_, rfl⟩
  rw [hb0] at hb hr c1 c2
  have HB := hide hb0
  clear hb0 e
  rcases c2 with c2 | c2
  all_goals
    go_enter Tryd.func46, Tryd.ntmps46
    go_wp2
    go_ret2
    exact ⟨rfl, rfl⟩

theorem size_calls (s : ByteArray) (w : World) (hs : 0 < s.size) (hm : s.size ≤ 140737488351232) :
    Calls Tryd.prog 46 #[.string s] w fun e w' => e = .returned (.tuple #[.int .i64 (sizeF s).1, .int .i64 (sizeF s).2]) ∧ w' = w := by
  by_cases c1 : byt s 0 < 128
  · exact size_ascii s w hs hm c1
  by_cases c2 : 194 ≤ byt s 0 ∧ byt s 0 ≤ 223
  · exact size_two s w hs hm c2.1 c2.2
  by_cases c3 : 224 ≤ byt s 0 ∧ byt s 0 ≤ 239
  · exact size_three s w hs hm c3.1 c3.2
  by_cases c4 : 240 ≤ byt s 0 ∧ byt s 0 ≤ 244
  · exact size_four s w hs hm c4.1 c4.2
  exact size_odd s w hs hm (by omega) (by omega)
end Go.Proofs.YtanmlgliibgpcaaDoor
