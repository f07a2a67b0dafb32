/- Words for what lies in memory: blocks known whole, rows of ints, sets of ranges and trees of expressions that are only read. -/
import Derived.Test.YtanmlgliibgpcaaDoorProg
import Derived.Test.YtanmlgliibgpcaaDoorPureNfa
import Derived.Below
import Derived.Laws.OwnMore
import Derived.Deep.Draws
import Derived.Laws.Rows
import Derived.Maps.AppendAt
import Derived.Deep.AppendLies
import Derived.OwnWalk
import Derived.WalkKit
import Derived.WalkLawsBesides
import Derived.WalkSpells
import Derived.Outline
import Derived.Lib.Hide
import Derived.BigQuiet
import Derived.Deep.QuietTactic
import Derived.Deep.DeepFit
import Derived.Deep.DeepMust
import Derived.Deep.LoopGhost
import Derived.Deep.RegionWith
import Derived.Deep.DeepCutAuto
import Derived.Deep.OwnRows
namespace Go.Proofs.YtanmlgliibgpcaaDoor
open Go.RowKit Thr

theorem hide {p : Prop} (h : p) : Hid p := h
theorem unhide {p : Prop} (h : Hid p) : p := h

theorem ret_int {k : IntKind} {a b : Int} (h : a = b) : Ending.returned (.int k a) = .returned (.int k b) := by rw [h]
theorem ret_bool {a b : Bool} (h : a = b) : Ending.returned (.bool a) = .returned (.bool b) := by rw [h]
theorem ret_str {a b : ByteArray} (h : a = b) : Ending.returned (.string a) = .returned (.string b) := by rw [h]

/-! ### Blocks known whole -/
def Blk (w : World) (g : Nat) (t : TypeId) (cs : Array Value) : Prop := w.heap[g]? = some (.cells cs t (0, 0))

section
variable {w w' : World} {g : Nat} {t : TypeId} {cs : Array Value}
theorem Blk.lt (h : Blk w g t cs) : g < w.heap.size := by
  rcases Nat.lt_or_ge g w.heap.size with hlt | hge
  · exact hlt
  · unfold Blk at h; rw [Array.getElem?_eq_none hge] at h; cases h
theorem Blk.cell (h : Blk w g t cs) (i : Nat) : w.cell? ⟨g, i, none⟩ = cs[i]? := cell_of_row w g i cs t (0, 0) h
theorem Blk.frozen (h : Blk w g t cs) (i : Nat) : w.frozen? ⟨g, i, none⟩ = false := by
  unfold Blk at h
  simp [World.frozen?, h]
theorem Blk.new (w : World) (t : TypeId) (cs : Array Value) : Blk (w.alloc (.cells cs t)) w.heap.size t cs := heap_alloc_new w _
theorem Blk.drew (h : Blk w g t cs) : Blk w.drew g t cs := h
theorem Blk.drewN (h : Blk w g t cs) (n : Nat) : Blk (w.drewN n) g t cs := h
theorem Blk.alloc (h : Blk w g t cs) (o : Obj) : Blk (w.alloc o) g t cs := (Below.heap_alloc w o g h.lt).trans h
theorem Blk.set_ (h : Blk w g t cs) (i : Nat) (u : Value) : Blk (w.setCell ⟨g, i, none⟩ u) g t (cs.setIfInBounds i u) := by
  unfold Blk at h ⊢
  simp [World.setCell, Array.getElem?_modify, h]
theorem Blk.far (h : Blk w g t cs) {p : Addr} (hp : g ≠ p.block) (u : Value) : Blk (w.setCell p u) g t cs := (Below.heap_setCell w p u g hp).trans h
theorem Blk.below {B : Nat} (h : Blk w g t cs) (hb : Below B w w') (hg : g < B) : Blk w' g t cs := (hb.block g hg).trans h
theorem Blk.grown {row : Option Nat} (h : Blk w g t cs) (hb : w.grownBy w' row) (hg : some g ≠ row) : Blk w' g t cs := (hb.block g h.lt hg).trans h
theorem Blk.ne_ {g' : Nat} {t' : TypeId} {cs' : Array Value} (h : Blk w g t cs) (h' : Blk w g' t' cs') (hne : t ≠ t') : g ≠ g' := by
  rintro rfl
  unfold Blk at h h'
  rw [h] at h'
  injection h' with h'
  injection h' with _ ht
  exact hne ht
theorem own_blk_ne {base : Nat} {e : TypeId} {size n : Nat} {v : Value} {xs : List Value} (h : w.ownsRow base e size v n xs) (hg : Blk w g t cs) (hne : e ≠ t) : v.ownBlock ≠ some g := by
  rcases h.2 with ⟨rfl, _⟩ | ⟨g', cap, cur, rfl, _, hh, _⟩
  · simp [Value.ownBlock]
  · intro he
    have : g' = g := by simpa [Value.ownBlock] using he
    subst this
    exact Blk.ne_ (t := e) hh hg hne rfl
end

/-! ### Frames -/
/-- Of the blocks that were there none has turned but those of S. -/
structure Keeps (S : Nat → Prop) (w w' : World) : Prop where
  os : w'.os = w.os
  tape : w'.tape = w.tape
  output : w'.output = w.output
  size : w.heap.size ≤ w'.heap.size
  block : ∀ k, k < w.heap.size → ¬ S k → w'.heap[k]? = w.heap[k]?

section
variable {S S' : Nat → Prop} {a w w' : World}
theorem Keeps.refl (S : Nat → Prop) (w : World) : Keeps S w w := ⟨rfl, rfl, rfl, Nat.le_refl _, fun _ _ _ => rfl⟩
theorem Keeps.trans (h : Keeps S a w) (k : Keeps S' w w') (hS : ∀ k, k < a.heap.size → S' k → S k) : Keeps S a w' :=
  ⟨k.os.trans h.os, k.tape.trans h.tape, k.output.trans h.output, Nat.le_trans h.size k.size, fun i hi hn => (k.block i (Nat.lt_of_lt_of_le hi h.size) (fun x => hn (hS i hi x))).trans (h.block i hi hn)⟩
theorem Keeps.mono (h : Keeps S w w') (hS : ∀ k, k < w.heap.size → S k → S' k) : Keeps S' w w' := ⟨h.os, h.tape, h.output, h.size, fun k hk hn => h.block k hk (fun x => hn (hS k hk x))⟩
theorem Keeps.drew (h : Keeps S a w) : Keeps S a w.drew := ⟨h.os, h.tape, h.output, h.size, h.block⟩
theorem Keeps.drewN (h : Keeps S a w) (n : Nat) : Keeps S a (w.drewN n) := ⟨h.os, h.tape, h.output, h.size, h.block⟩
theorem Keeps.alloc (h : Keeps S a w) (o : Obj) : Keeps S a (w.alloc o) :=
  ⟨h.os, h.tape, h.output, Nat.le_trans h.size (by simp), fun i hi hn => (Below.heap_alloc w o i (Nat.lt_of_lt_of_le hi h.size)).trans (h.block i hi hn)⟩
theorem Keeps.setCell (h : Keeps S a w) {p : Addr} (hp : S p.block ∨ a.heap.size ≤ p.block) (u : Value) : Keeps S a (w.setCell p u) :=
  ⟨h.os, h.tape, h.output, by simpa [World.setCell] using h.size, fun i hi hn => (Below.heap_setCell w p u i (by
    rintro rfl
    rcases hp with hp | hp
    · exact hn hp
    · omega)).trans (h.block i hi hn)⟩
theorem Keeps.grown (h : Keeps S a w) {row : Option Nat} (hg : w.grownBy w' row) (hr : ∀ k, row = some k → S k ∨ a.heap.size ≤ k) : Keeps S a w' :=
  ⟨hg.os.trans h.os, hg.tape.trans h.tape, hg.output.trans h.output, Nat.le_trans h.size hg.size, fun i hi hn => (hg.block i (Nat.lt_of_lt_of_le hi h.size) (fun e => by
    rcases hr i e.symm with h | h
    · exact hn h
    · omega)).trans (h.block i hi hn)⟩
theorem Keeps.then_below (h : Keeps S a w) (k : Below w.heap.size w w') : Keeps S a w' :=
  ⟨k.os.trans h.os, k.tape.trans h.tape, k.output.trans h.output, Nat.le_trans h.size k.size, fun i hi hn => (k.block i (Nat.lt_of_lt_of_le hi h.size)).trans (h.block i hi hn)⟩
theorem Keeps.below (h : Keeps S w w') {B : Nat} (hB : B ≤ w.heap.size) (hS : ∀ k, k < B → ¬ S k) : Below B w w' :=
  ⟨h.os, h.tape, h.output, h.size, fun k hk => h.block k (Nat.lt_of_lt_of_le hk hB) (hS k hk)⟩
theorem Keeps.none_below (h : Keeps (fun _ => False) w w') : Below w.heap.size w w' := h.below (Nat.le_refl _) (fun _ _ => id)
theorem Keeps.of_below (h : Below w.heap.size w w') (S : Nat → Prop) : Keeps S w w' := ⟨h.os, h.tape, h.output, h.size, fun k hk _ => h.block k hk⟩
theorem Keeps.cell (hk : Keeps S w w') {b o : Nat} (hlt : b < w.heap.size) (hn : ¬ S b) : w'.cell? ⟨b, o, none⟩ = w.cell? ⟨b, o, none⟩ := World.cell?_of_block (w := w) (hk.block b hlt hn)
theorem Keeps.frozen (hk : Keeps S w w') {b o : Nat} (hlt : b < w.heap.size) (hn : ¬ S b) : w'.frozen? ⟨b, o, none⟩ = w.frozen? ⟨b, o, none⟩ := World.frozen?_of_block (w := w) (hk.block b hlt hn)
theorem Blk.keeps {g : Nat} {t : TypeId} {cs : Array Value} (h : Blk w g t cs) (hk : Keeps S w w') (hg : ¬ S g) : Blk w' g t cs := (hk.block g h.lt hg).trans h
end
theorem below_drewN {B : Nat} {a w : World} (h : Below B a w) (n : Nat) : Below B a (w.drewN n) := ⟨h.os, h.tape, h.output, h.size, h.block⟩
theorem below_alloc' {w W : World} (h : Below w.heap.size w W) (o : Obj) : Below w.heap.size w (W.alloc o) := h.alloc h.size o
theorem below_then {w a b : World} (h : Below w.heap.size w a) (k : Below a.heap.size a b) : Below w.heap.size w b := h.trans (k.mono h.size)
theorem bcell {W w1 : World} (hb : Below W.heap.size W w1) : (∀ b o, b < W.heap.size → w1.cell? ⟨b, o, none⟩ = W.cell? ⟨b, o, none⟩) ∧ (∀ b o, b < W.heap.size → w1.frozen? ⟨b, o, none⟩ = W.frozen? ⟨b, o, none⟩) :=
  ⟨fun b o h => hb.cell (p := ⟨b, o, none⟩) h, fun b o h => hb.frozen (p := ⟨b, o, none⟩) h⟩
theorem cell_of_same {w w' : World} {a : Addr} (h : w'.heap[a.block]? = w.heap[a.block]?) : w'.cell? a = w.cell? a := World.cell?_of_block h

/-! ### What is only read: sets of ranges, trees -/
/-- A slice of ranges, in a block of ok. -/
def SetAt (ok : Nat → Prop) (W : World) (v : Value) (l : List (Int × Int)) : Prop :=
  ∃ A c, v = .slice A l.length c ∧ l.length ≤ c ∧ c ≤ 9223372036854775807 ∧ (l = [] ∨ ∃ b o, A = some ⟨b, o, none⟩ ∧ ok b ∧
    ∀ (i : Nat) (x : Int × Int), l[i]? = some x → W.cell? ⟨b, o + i * 2, none⟩ = some (.int .i64 x.1) ∧ W.cell? ⟨b, o + i * 2 + 1, none⟩ = some (.int .i64 x.2))

mutual
/-- A node's cells, and all that they lead to, in blocks of ok. -/
def TreeAt (ok : Nat → Prop) (W : World) : Rx → List Value → Prop
  | .mk kind code neg set mn mx kids => fun cs => ∃ vs A c, cs = [.int .i64 kind, .int .i64 code, .bool neg, vs, .int .i64 mn, .int .i64 mx, .slice A kids.length c] ∧ SetAt ok W vs set ∧
      kids.length ≤ c ∧ c ≤ 9223372036854775807 ∧ (kids = [] ∨ ∃ b o, A = some ⟨b, o, none⟩ ∧ ok b ∧ KidsAt ok W kids b o)
def KidsAt (ok : Nat → Prop) (W : World) : List Rx → Nat → Nat → Prop
  | [] => fun _ _ => True
  | k :: ks => fun b o => (∃ cs, TreeAt ok W k cs ∧ ∀ (j : Nat) (v : Value), cs[j]? = some v → W.cell? ⟨b, o + j, none⟩ = some v) ∧ KidsAt ok W ks b (o + 7)
end

theorem KidsAt.kid {ok : Nat → Prop} {W : World} : ∀ {ks : List Rx} {b o : Nat}, KidsAt ok W ks b o → ∀ (i : Nat) (k : Rx), ks[i]? = some k →
    ∃ cs, TreeAt ok W k cs ∧ ∀ (j : Nat) (v : Value), cs[j]? = some v → W.cell? ⟨b, o + i * 7 + j, none⟩ = some v
  | [], b, o, _, i, k, hi => by simp at hi
  | k :: ks, b, o, h, 0, k', hi => by
    simp only [KidsAt] at h
    simp at hi; subst hi
    simpa using h.1
  | k :: ks, b, o, h, i + 1, k', hi => by
    simp only [KidsAt] at h
    simp at hi
    obtain ⟨cs, hc, hj⟩ := KidsAt.kid h.2 i k' hi
    exact ⟨cs, hc, fun j v hv => by rw [← hj j v hv, show o + (i + 1) * 7 + j = o + 7 + i * 7 + j by omega]⟩

theorem KidsAt.mk {ok : Nat → Prop} {W : World} : ∀ {ks : List Rx} {b o : Nat}, (∀ (i : Nat) (k : Rx), ks[i]? = some k →
    ∃ cs, TreeAt ok W k cs ∧ ∀ (j : Nat) (v : Value), cs[j]? = some v → W.cell? ⟨b, o + i * 7 + j, none⟩ = some v) → KidsAt ok W ks b o
  | [], b, o, _ => by simp [KidsAt]
  | k :: ks, b, o, h => by
    simp only [KidsAt]
    refine ⟨by simpa using h 0 k (by simp), KidsAt.mk fun i k' hi => ?_⟩
    obtain ⟨cs, hc, hj⟩ := h (i + 1) k' (by simpa using hi)
    exact ⟨cs, hc, fun j v hv => by rw [← hj j v hv, show o + (i + 1) * 7 + j = o + 7 + i * 7 + j by omega]⟩

section
variable {ok ok' : Nat → Prop} {W W' : World}
theorem SetAt.mono {v : Value} {l : List (Int × Int)} (h : SetAt ok W v l) (hok : ∀ k, ok k → ok' k) : SetAt ok' W v l := by
  obtain ⟨A, c, h1, h2, h3, h⟩ := h
  refine ⟨A, c, h1, h2, h3, h.imp id ?_⟩
  rintro ⟨b, o, hA, hb, hc⟩
  exact ⟨b, o, hA, hok b hb, hc⟩
theorem SetAt.step {v : Value} {l : List (Int × Int)} (h : SetAt ok W v l) (hk : ∀ k, ok k → k < W.heap.size → W'.heap[k]? = W.heap[k]?) : SetAt ok W' v l := by
  obtain ⟨A, c, h1, h2, h3, h⟩ := h
  refine ⟨A, c, h1, h2, h3, h.imp id ?_⟩
  rintro ⟨b, o, hA, hb, hc⟩
  refine ⟨b, o, hA, hb, fun i x hi => ?_⟩
  obtain ⟨c0, c1⟩ := hc i x hi
  have hs : W'.heap[b]? = W.heap[b]? := hk b hb (World.block_lt_of_cell? W _ c0)
  exact ⟨(cell_of_same (a := ⟨b, _, none⟩) hs).trans c0, (cell_of_same (a := ⟨b, _, none⟩) hs).trans c1⟩
theorem SetAt.bound {v : Value} {l : List (Int × Int)} (h : SetAt ok W v l) : SetAt (fun k => ok k ∧ k < W.heap.size) W v l := by
  obtain ⟨A, c, h1, h2, h3, h⟩ := h
  refine ⟨A, c, h1, h2, h3, ?_⟩
  rcases h with h | ⟨b, o, hA, hb, hc⟩
  · exact .inl h
  · cases l with
    | nil => exact .inl rfl
    | cons x l => exact .inr ⟨b, o, hA, ⟨hb, World.block_lt_of_cell? W _ (hc 0 x rfl).1⟩, hc⟩

mutual
theorem TreeAt.mono (hok : ∀ k, ok k → ok' k) : ∀ (t : Rx) (cs : List Value), TreeAt ok W t cs → TreeAt ok' W t cs
  | .mk kind code neg set mn mx kids, cs, h => by
    simp only [TreeAt] at h ⊢
    obtain ⟨vs, A, c, h1, h2, h3, h4, h⟩ := h
    refine ⟨vs, A, c, h1, h2.mono hok, h3, h4, h.imp id ?_⟩
    rintro ⟨b, o, hA, hb, hk⟩
    exact ⟨b, o, hA, hok b hb, KidsAt.mono hok kids b o hk⟩
theorem KidsAt.mono (hok : ∀ k, ok k → ok' k) : ∀ (ks : List Rx) (b o : Nat), KidsAt ok W ks b o → KidsAt ok' W ks b o
  | [], b, o, _ => by simp [KidsAt]
  | k :: ks, b, o, h => by
    simp only [KidsAt] at h ⊢
    obtain ⟨⟨cs, hc, hj⟩, h⟩ := h
    exact ⟨⟨cs, TreeAt.mono hok k cs hc, hj⟩, KidsAt.mono hok ks b (o + 7) h⟩
end
mutual
theorem TreeAt.step (hk : ∀ k, ok k → k < W.heap.size → W'.heap[k]? = W.heap[k]?) : ∀ (t : Rx) (cs : List Value), TreeAt ok W t cs → TreeAt ok W' t cs
  | .mk kind code neg set mn mx kids, cs, h => by
    simp only [TreeAt] at h ⊢
    obtain ⟨vs, A, c, h1, h2, h3, h4, h⟩ := h
    refine ⟨vs, A, c, h1, h2.step hk, h3, h4, h.imp id ?_⟩
    rintro ⟨b, o, hA, hb, hh⟩
    exact ⟨b, o, hA, hb, KidsAt.step hk kids b o hb hh⟩
theorem KidsAt.step (hk : ∀ k, ok k → k < W.heap.size → W'.heap[k]? = W.heap[k]?) : ∀ (ks : List Rx) (b o : Nat), ok b → KidsAt ok W ks b o → KidsAt ok W' ks b o
  | [], b, o, _, _ => by simp [KidsAt]
  | k :: ks, b, o, hb, h => by
    simp only [KidsAt] at h ⊢
    obtain ⟨⟨cs, hc, hj⟩, h⟩ := h
    exact ⟨⟨cs, TreeAt.step hk k cs hc, fun j v hv => (cell_of_same (a := ⟨b, _, none⟩) (hk b hb (World.block_lt_of_cell? W _ (hj j v hv)))).trans (hj j v hv)⟩, KidsAt.step hk ks b (o + 7) hb h⟩
end
mutual
theorem TreeAt.bound : ∀ (t : Rx) (cs : List Value), TreeAt ok W t cs → TreeAt (fun k => ok k ∧ k < W.heap.size) W t cs
  | .mk kind code neg set mn mx kids, cs, h => by
    simp only [TreeAt] at h ⊢
    obtain ⟨vs, A, c, h1, h2, h3, h4, h⟩ := h
    refine ⟨vs, A, c, h1, h2.bound, h3, h4, ?_⟩
    rcases h with h | ⟨b, o, hA, hb, hk⟩
    · exact .inl h
    · by_cases hkn : kids = []
      · exact .inl hkn
      · refine .inr ⟨b, o, hA, ⟨hb, ?_⟩, KidsAt.bound kids b o hk⟩
        cases kids with
        | nil => exact absurd rfl hkn
        | cons k ks =>
          simp only [KidsAt] at hk
          obtain ⟨⟨cs, hc, hj⟩, _⟩ := hk
          obtain ⟨kind, code, neg, set, mn, mx, kids⟩ := k
          simp only [TreeAt] at hc
          obtain ⟨_, _, _, rfl, _⟩ := hc
          exact World.block_lt_of_cell? W _ (hj 0 _ rfl)
theorem KidsAt.bound : ∀ (ks : List Rx) (b o : Nat), KidsAt ok W ks b o → KidsAt (fun k => ok k ∧ k < W.heap.size) W ks b o
  | [], b, o, _ => by simp [KidsAt]
  | k :: ks, b, o, h => by
    simp only [KidsAt] at h ⊢
    obtain ⟨⟨cs, hc, hj⟩, h⟩ := h
    exact ⟨⟨cs, TreeAt.bound k cs hc, hj⟩, KidsAt.bound ks b (o + 7) h⟩
end
theorem TreeAt.len {t : Rx} {cs : List Value} (h : TreeAt ok W t cs) : cs.length = 7 := by
  obtain ⟨kind, code, neg, set, mn, mx, kids⟩ := t
  simp only [TreeAt] at h
  obtain ⟨_, _, _, rfl, _⟩ := h
  rfl
theorem TreeAt.one {t : Rx} {cs : List Value} (h : TreeAt ok W t cs) : ∀ v ∈ cs, v.oneCell' = true := by
  obtain ⟨kind, code, neg, set, mn, mx, kids⟩ := t
  simp only [TreeAt] at h
  obtain ⟨vs, _, _, rfl, ⟨_, _, rfl, _⟩, _⟩ := h
  intro v hv
  simp at hv
  rcases hv with rfl | rfl | rfl | rfl | rfl | rfl | rfl <;> rfl
/-- Behind new blocks: what lay there lies there. -/
theorem TreeAt.below {t : Rx} {cs : List Value} (h : TreeAt ok W t cs) (hb : Below W.heap.size W W') : TreeAt ok W' t cs := TreeAt.step (fun k _ hlt => hb.block k hlt) t cs h
theorem SetAt.below {v : Value} {l : List (Int × Int)} (h : SetAt ok W v l) (hb : Below W.heap.size W W') : SetAt ok W' v l := h.step (fun k _ hlt => hb.block k hlt)
theorem SetAt.nil (ok : Nat → Prop) (W : World) : SetAt ok W (.slice none 0 0) [] := ⟨none, 0, rfl, Nat.le_refl _, by omega, .inl rfl⟩
end
end Go.Proofs.YtanmlgliibgpcaaDoor
