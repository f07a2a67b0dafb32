/- The walk of follow: an instruction, and all to which it leads without a character. -/
import Derived.Test.YtanmlgliibgpcaaDoorNfaA
namespace Go.Proofs.YtanmlgliibgpcaaDoor
open Go.RowKit Thr

/-- The instructions of a program, in blocks of ok. -/
def InstsAt (ok : Nat → Prop) (W : World) (v : Value) (I : List Inst) : Prop :=
  ∃ b o c, v = .slice (some ⟨b, o, none⟩) I.length c ∧ I.length ≤ c ∧ c ≤ 9223372036854775807 ∧ ok b ∧
    ∀ (k : Nat) (q : Inst), I[k]? = some q → ∃ cs, TreeAt ok W q.node cs ∧ W.cell? ⟨b, o + k * 10, none⟩ = some (.int .i64 q.op) ∧
      (∀ (j : Nat) (u : Value), cs[j]? = some u → W.cell? ⟨b, o + k * 10 + 1 + j, none⟩ = some u) ∧
      W.cell? ⟨b, o + k * 10 + 8, none⟩ = some (.int .i64 q.x) ∧ W.cell? ⟨b, o + k * 10 + 9, none⟩ = some (.int .i64 q.y)

theorem InstsAt.step {ok : Nat → Prop} {W W' : World} {v : Value} {I : List Inst} (h : InstsAt ok W v I) (hk : ∀ k, ok k → k < W.heap.size → W'.heap[k]? = W.heap[k]?) : InstsAt ok W' v I := by
  obtain ⟨b, o, c, h1, h2, h3, hb, h⟩ := h
  refine ⟨b, o, c, h1, h2, h3, hb, fun k q hq => ?_⟩
  obtain ⟨cs, ht, h4, h5, h6, h7⟩ := h k q hq
  have hs : W'.heap[b]? = W.heap[b]? := hk b hb (World.block_lt_of_cell? W _ h4)
  exact ⟨cs, TreeAt.step hk _ _ ht, (cell_of_same (a := ⟨b, _, none⟩) hs).trans h4, fun j u hu => (cell_of_same (a := ⟨b, _, none⟩) hs).trans (h5 j u hu), (cell_of_same (a := ⟨b, _, none⟩) hs).trans h6, (cell_of_same (a := ⟨b, _, none⟩) hs).trans h7⟩
theorem InstsAt.below {N : Nat} {W W' : World} {v : Value} {I : List Inst} (h : InstsAt (fun k => k < N) W v I) (hb : Below N W W') : InstsAt (fun k => k < N) W' v I := h.step (fun k hk _ => hb.block k hk)

theorem InstsAt.keeps {ok S : Nat → Prop} {W W' : World} {v : Value} {I : List Inst} (h : InstsAt ok W v I) (hb : Keeps S W W') (hS : ∀ k, ok k → ¬ S k) : InstsAt ok W' v I := h.step (fun k hk hlt => hb.block k hlt (hS k hk))

/-- What `set` holds: the marks and the list. -/
structure SetS (w : World) (base bt bh : Nat) (vl : Value) (has : List Bool) (list : List Int) : Prop where
  row : Blk w bt 68 #[.slice (some ⟨bh, 0, none⟩) has.length has.length, vl]
  own : w.ownsRow base 3 1 vl list.length (list.map (Value.int .i64))
  marks : Blk w bh 4 (has.map Value.bool).toArray
  lt : base ≤ bt ∧ base ≤ bh ∧ has.length ≤ 9223372036854775807
/-- The blocks that follow turns. -/
def Turn (bt bh : Nat) (vl : Value) (k : Nat) : Prop := k = bt ∨ k = bh ∨ vl.ownBlock = some k
/-- Where the list lies behind a call. -/
def At (w : World) (vl vl' : Value) : Prop := vl'.ownBlock = vl.ownBlock ∨ ∃ g, vl'.ownBlock = some g ∧ w.heap.size ≤ g

theorem own_lt {w : World} {base n size : Nat} {e : TypeId} {v : Value} {xs : List Value} (h : w.ownsRow base e size v n xs) (k : Nat) (hk : v.ownBlock = some k) : base ≤ k ∧ k < w.heap.size := by
  rcases h.2 with ⟨rfl, _⟩ | ⟨g, cap, cur, rfl, hg, hh, _⟩
  · simp [Value.ownBlock] at hk
  · have : g = k := by simpa [Value.ownBlock] using hk
    subst this
    exact ⟨hg, (Array.getElem?_eq_some_iff.1 hh).1⟩
theorem own_step {w w1 : World} {base n size : Nat} {e : TypeId} {v : Value} {xs : List Value} (h : w.ownsRow base e size v n xs) (hm : ∀ k, v.ownBlock = some k → w1.heap[k]? = w.heap[k]?) : w1.ownsRow base e size v n xs := by
  obtain ⟨h1, h2⟩ := h
  refine ⟨h1, ?_⟩
  rcases h2 with h2 | ⟨g, cap, cur, rfl, hg, hh, r⟩
  · exact .inl h2
  · exact .inr ⟨g, cap, cur, rfl, hg, (hm g (by simp [Value.ownBlock])).trans hh, r⟩

section
variable {w : World} {base bt bh : Nat} {vl : Value} {has : List Bool} {list : List Int}
theorem SetS.alloc (h : SetS w base bt bh vl has list) (o : Obj) : SetS (w.alloc o) base bt bh vl has list := ⟨h.row.alloc o, h.own.alloc o, h.marks.alloc o, h.lt⟩
theorem SetS.bt_lt (h : SetS w base bt bh vl has list) : bt < w.heap.size := h.row.lt
theorem SetS.bh_lt (h : SetS w base bt bh vl has list) : bh < w.heap.size := h.marks.lt
theorem SetS.ne (h : SetS w base bt bh vl has list) : ¬ bt = bh := h.row.ne_ h.marks (by decide)
theorem SetS.mark (h : SetS w base bt bh vl has list) (k : Nat) : SetS (w.setCell ⟨bh, k, none⟩ (.bool true)) base bt bh vl (has.set k true) list := by
  have hne := own_blk_ne h.own h.marks (by decide)
  refine ⟨?_, own_step h.own (fun j hj => Below.heap_setCell w _ _ j (by rintro rfl; exact hne hj)), ?_, ?_⟩
  · rw [List.length_set]; exact h.row.far h.ne _
  · have := h.marks.set_ k (.bool true)
    rw [List.map_set]
    simpa using this
  · rw [List.length_set]; exact h.lt
theorem SetS.new_not {k : Nat} (h : SetS w base bt bh vl has list) (hk : w.heap.size ≤ k) : ¬ Turn bt bh vl k := by
  have h1 := h.bt_lt
  have h2 := h.bh_lt
  rintro (rfl | rfl | e)
  · omega
  · omega
  · have := own_lt h.own k e; omega
theorem SetS.old_not {k : Nat} (h : SetS w base bt bh vl has list) (hk : k < base) : ¬ Turn bt bh vl k := by
  have h1 := h.lt
  rintro (rfl | rfl | e)
  · omega
  · omega
  · have := own_lt h.own k e; omega
end
theorem Turn.of_at {w : World} {bt bh : Nat} {vl vl1 : Value} (h : At w vl vl1) : ∀ k, k < w.heap.size → Turn bt bh vl1 k → Turn bt bh vl k := by
  rintro k hk (rfl | rfl | e)
  · exact .inl rfl
  · exact .inr (.inl rfl)
  · rcases h with h | ⟨g, h, hg⟩
    · exact .inr (.inr (h ▸ e))
    · rw [h] at e; cases e; omega
theorem At.trans {w w1 : World} {v v1 v2 : Value} (h : At w v v1) (k : At w1 v1 v2) (hs : w.heap.size ≤ w1.heap.size) : At w v v2 := by
  rcases k with k | ⟨g, k, hg⟩
  · rcases h with h | ⟨g', h, hg'⟩
    · exact .inl (k.trans h)
    · exact .inr ⟨g', k.trans h, hg'⟩
  · exact .inr ⟨g, k, by omega⟩

theorem At.later {w w1 : World} {v v1 : Value} (h : At w1 v v1) (hs : w.heap.size ≤ w1.heap.size) : At w v v1 := by
  rcases h with h | ⟨g, h, hg⟩
  · exact .inl h
  · exact .inr ⟨g, h, by omega⟩
theorem SetS.below {w w1 : World} {base bt bh : Nat} {vl : Value} {has : List Bool} {list : List Int} (h : SetS w base bt bh vl has list) (hb : Below w.heap.size w w1) : SetS w1 base bt bh vl has list :=
  ⟨h.row.below hb h.bt_lt, own_step h.own (fun k hk => hb.block k (own_lt h.own k hk).2), h.marks.below hb h.bh_lt, h.lt⟩

theorem Tryd.infoInt : (Tryd.prog.info? 3).map (fun i => (i.zero, i.size, i.bytes)) = some (some (.int .i64 0), 1, 8) := by kernel_rfl

set_option maxHeartbeats 1000000 in
theorem follow_marked {base bp bt bh : Nat} {vl : Value} (has : List Bool) (list : List Int) (i : Int) (sa sb : Int) (w : World) (hS : SetS w base bt bh vl has list)
    (h0 : 0 ≤ i) (hi : i < has.length) (hm : has[i.toNat]? = some true) :
    Calls Tryd.prog 27 #[.pointer (some ⟨bp, 0, none⟩), .pointer (some ⟨bt, 0, none⟩), .int .i64 i, .agg #[.int .i64 sa, .int .i64 sb]] w fun e w' =>
      e = .returned (.tuple #[]) ∧ ∃ vl', SetS w' base bt bh vl' has list ∧ Keeps (Turn bt bh vl) w w' ∧ At w vl vl' := by
  obtain ⟨k, rfl⟩ := Int.eq_ofNat_of_zero_le h0
  have hk : k < has.length := by omega
  have c0 := hS.row.cell 0
  have cm := hS.marks.cell k
  have hbt := hS.bt_lt
  have hbh := hS.bh_lt
  have hlt := hS.lt
  have HS := hide hS
  clear hS
  simp only [Int.toNat_natCast] at hm
  have cm' : w.cell? ⟨bh, k, none⟩ = some (.bool true) := by rw [cm]; simp [hm]
  simp at c0
  clear cm
  go_enter Tryd.func27, Tryd.ntmps27
  go_wp2_with fail
  refine bodyPost_ret (results_none rfl _ _ _) rfl ?_
  exact ⟨rfl, vl, (unhide HS).alloc _, (Keeps.refl _ _).alloc _, .inl rfl⟩

/-- Of a list as long as there are marks at most. -/
theorem follow_bound {I : List Inst} {chk : Rx → Bool} : ∀ (f : Nat) (has : List Bool) (list : List Int) (i : Int) (r : List Bool × List Int), has.length = I.length →
    followF I chk f has list i = some r → r.2.length + bare r.1 ≤ list.length + bare has ∧ r.1.length = I.length
  | 0, has, list, i, r, hl, h => by simp [followF] at h
  | f + 1, has, list, i, r, hl, h => by
    simp only [followF] at h
    by_cases hm : has.getD i.toNat false = true
    · rw [if_pos hm] at h
      obtain rfl := Option.some.inj h
      exact ⟨Nat.le_refl _, hl⟩
    rw [if_neg hm] at h
    cases hq : I[i.toNat]? with
    | none => rw [hq] at h; simp at h
    | some q =>
      rw [hq] at h
      simp only at h
      have hlt := (List.getElem?_eq_some_iff.1 hq).1
      have hf' : has[i.toNat]? = some false := by
        rw [List.getD_eq_getElem?_getD, List.getElem?_eq_getElem (by omega)] at hm
        rw [List.getElem?_eq_getElem (by omega)]
        simpa using hm
      have hb := bare_set has i.toNat hf'
      by_cases h2 : q.op = 2
      · rw [if_pos h2] at h
        obtain ⟨r1, h1, h⟩ := Option.bind_eq_some_iff.1 h
        have a := follow_bound f _ _ _ _ (by simpa using hl) h1
        have b := follow_bound f _ _ _ _ a.2 h
        exact ⟨by omega, b.2⟩
      rw [if_neg h2] at h
      by_cases h3 : q.op = 1
      · rw [if_pos h3] at h
        by_cases hc : chk q.node = true
        · rw [if_pos hc] at h
          have a := follow_bound f _ _ _ _ (by simpa using hl) h
          exact ⟨by omega, a.2⟩
        · rw [if_neg hc] at h
          obtain rfl := Option.some.inj h
          exact ⟨by simp; omega, by simpa using hl⟩
      rw [if_neg h3] at h
      obtain rfl := Option.some.inj h
      exact ⟨by simp; omega, by simpa using hl⟩

set_option maxHeartbeats 2000000 in
theorem follow_calls {I : List Inst} {base bp bt bh : Nat} {fold bytes : Bool} {start : Int} {vI : Value} (sa sb : Int) (hI : Sound I) :
    ∀ (f : Nat) (has : List Bool) (list : List Int) (i : Int) (r : List Bool × List Int) (vl : Value) (w : World), followF I (fun t => checkF t.kind sa sb) f has list i = some r →
    Blk w bp 47 #[.bool fold, .bool bytes, vI, .int .i64 start] → bp < base → InstsAt (fun k => k < base) w vI I → has.length = I.length → list.length + bare has ≤ 1000000 → SetS w base bt bh vl has list → 0 ≤ i → i < I.length →
    Calls Tryd.prog 27 #[.pointer (some ⟨bp, 0, none⟩), .pointer (some ⟨bt, 0, none⟩), .int .i64 i, .agg #[.int .i64 sa, .int .i64 sb]] w fun e w' =>
      e = .returned (.tuple #[]) ∧ ∃ vl', SetS w' base bt bh vl' r.1 r.2 ∧ Keeps (Turn bt bh vl) w w' ∧ At w vl vl' := by
  intro f
  induction f with
  | zero => intro has list i r vl w hr; simp [followF] at hr
  | succ f ih =>
    intro has list i r vl w hr hP hbp hIn hl hlen hS h0 hi
    simp only [followF] at hr
    by_cases hm : has.getD i.toNat false = true
    · rw [if_pos hm] at hr
      obtain rfl := Option.some.inj hr
      exact follow_marked has list i sa sb w hS h0 (by omega) (getD_marked.1 hm)
    rw [if_neg hm] at hr
    obtain ⟨k, rfl⟩ := Int.eq_ofNat_of_zero_le h0
    simp only [Int.toNat_natCast] at hr hm
    have hk : k < I.length := by omega
    have hf : has[k]? = some false := by
      rw [List.getD_eq_getElem?_getD, List.getElem?_eq_getElem (by omega)] at hm
      rw [List.getElem?_eq_getElem (by omega)]
      simpa using hm
    have hbare := bare_set has k hf
    obtain ⟨q, hq⟩ : ∃ q, I[k]? = some q := ⟨_, List.getElem?_eq_getElem hk⟩
    rw [hq] at hr
    simp only at hr
    obtain ⟨ho, hx, hy⟩ := hI _ _ hq
    have hIn0 := hIn
    obtain ⟨b, o, c, rfl, hc1, hc2, hb, hcells⟩ := hIn
    obtain ⟨cs, ht, d0, d1, d8, d9⟩ := hcells k q hq
    have ht0 := ht
    obtain ⟨op, node, qx, qy⟩ := q
    obtain ⟨kind, code, neg, set, mn, mx, kids⟩ := node
    simp only [TreeAt] at ht
    obtain ⟨vs, A, cc, rfl, ⟨As, cs', rfl, -⟩, -⟩ := ht
    have e1 := d1 0 _ rfl
    have e2 := d1 1 _ rfl
    have e3 := d1 2 _ rfl
    have e4 := d1 3 _ rfl
    have e5 := d1 4 _ rfl
    have e6 := d1 5 _ rfl
    have e7 := d1 6 _ rfl
    clear d1 hcells
    have hbt := hS.bt_lt
    have hbh := hS.bh_lt
    have hlt := hS.lt
    have hne := hS.ne
    have c0 := hS.row.cell 0
    have c1 := hS.row.cell 1
    have f1 := hS.row.frozen 1
    have cm : w.cell? ⟨bh, k, none⟩ = some (.bool false) := by rw [hS.marks.cell k]; simp [hf]
    have fm := hS.marks.frozen k
    have p2 := hP.cell 2
    have hbpl := hP.lt
    have hbl : b < w.heap.size := World.block_lt_of_cell? w _ d0
    simp at c0 c1 p2 e1
    have n1 : ¬ b = bh := by omega
    have n2 : ¬ bp = bh := by omega
    have hkn : k < has.length := by omega
    have hS1 := hS.mark k
    have hP1 := hP.far (p := ⟨bh, k, none⟩) n2 (.bool true)
    have hI1 : InstsAt (fun k => k < base) (w.setCell ⟨bh, k, none⟩ (.bool true)) (.slice (some ⟨b, o, none⟩) I.length c) I := hIn0.step (fun j hj _ => Below.heap_setCell w _ _ j (by simp only; omega))
    have hK1 : Keeps (Turn bt bh vl) w (w.setCell ⟨bh, k, none⟩ (.bool true)) := (Keeps.refl _ _).setCell (.inl (.inr (.inl rfl))) _
    have hl1 : (has.set k true).length = I.length := by simpa using hl
    have HS := hide hS; have HS1 := hide hS1; have HP1 := hide hP1; have HI1 := hide hI1; have HK1 := hide hK1; have HL1 := hide hl1; have HB := hide hbare; have IH := hide ih; have HI := hide hI; have HR := hide hr; have Hq := hide hq
    clear hS hS1 hP1 hI1 hK1 hl1 hbare hIn0 hr hq hP hm hf ih hI
    by_cases h2 : op = 2
    · subst h2
      have hr := unhide HR
      simp only [if_true] at hr
      obtain ⟨r1, hr1, hr2⟩ := Option.bind_eq_some_iff.1 hr
      obtain ⟨hx0, hx1⟩ := hx (by simp)
      obtain ⟨hy0, hy1⟩ := hy rfl
      simp only at hx0 hx1 hy0 hy1
      have HR1 := hide hr1; have HR2 := hide hr2
      clear hr hr1 hr2 hx hy ho
      go_enter Tryd.func27, Tryd.ntmps27
      go_wp2_with fail
      refine (unhide IH (has.set k true) list qx r1 vl _ (unhide HR1) (((unhide HP1).alloc _).alloc _) hbp (((unhide HI1).step (fun j _ hj => Below.heap_alloc _ _ j hj)).step (fun j _ hj => Below.heap_alloc _ _ j hj)) (unhide HL1) (by have := unhide HB; omega) (((unhide HS1).alloc _).alloc _) hx0 hx1).mono ?_
      rintro e w1 ⟨rfl, vl1, hS2, hk2, hat2⟩
      have nt : ∀ j, w.heap.size ≤ j → ¬ Turn bt bh vl j := fun j hj => (unhide HS).new_not hj
      have s0 : w1.cell? ⟨w.heap.size, 0, none⟩ = some (.int .i64 sa) := (hk2.cell (by simp <;> omega) (nt _ (Nat.le_refl _))).trans (by go_simp)
      have s1 : w1.cell? ⟨w.heap.size, 1, none⟩ = some (.int .i64 sb) := (hk2.cell (by simp <;> omega) (nt _ (Nat.le_refl _))).trans (by go_simp)
      have s9 : w1.cell? ⟨w.heap.size + 1, 9, none⟩ = some (.int .i64 qy) := (hk2.cell (by simp) (nt _ (by omega))).trans (by go_simp)
      have HK2 := hide hk2; have HS2 := hide hS2; have HAT := hide hat2; have NT := hide nt
      clear hk2 hS2 hat2 nt
      go_wp2_with fail
      have hb1 := follow_bound _ _ _ _ _ (unhide HL1) (unhide HR1)
      refine (unhide IH r1.1 r1.2 qy r vl1 _ (unhide HR2) ((((unhide HP1).alloc _).alloc _).keeps (unhide HK2) ((unhide HS).old_not hbp)) hbp
        ((((unhide HI1).step (fun j _ hj => Below.heap_alloc _ _ j hj)).step (fun j _ hj => Below.heap_alloc _ _ j hj)).keeps (unhide HK2) (fun j hj => (unhide HS).old_not hj)) hb1.2 (by have := unhide HB; have := hb1.1; omega) (unhide HS2) hy0 hy1).mono ?_
      rintro e w2 ⟨rfl, vl2, hS3, hk3, hat3⟩
      go_wp2_with fail
      first | go_end0 | refine bodyPost_ret (results_none rfl _ _ _) rfl ?_
      exact ⟨rfl, vl2, hS3, ((((unhide HK1).alloc _).alloc _).trans (unhide HK2) (fun _ _ h => h)).trans hk3 (fun j hj ht => Turn.of_at (unhide HAT) j (by simp <;> omega) ht), At.trans (w := w) (by rcases unhide HAT with h | ⟨g, h, hg⟩; exact .inl h; exact .inr ⟨g, h, by simp at hg; omega⟩) hat3 (by have := (unhide HK2).size; simp at this; omega)⟩
    by_cases h3 : op = 1
    · subst h3
      have hr := unhide HR
      rw [if_neg (by omega), if_pos rfl] at hr
      obtain ⟨hx0, hx1⟩ := hx (by simp)
      simp only at hx0 hx1
      clear hx hy ho h2
      split at hr
      · rename_i hc
        have hck := fun (cs : List Value) (w : World) (h : TreeAt (fun k => k < base) w (.mk kind code neg set mn mx kids) cs) => check_calls (.mk kind code neg set mn mx kids) cs sa sb w h
        rw [show checkF (Rx.mk kind code neg set mn mx kids).kind sa sb = true from hc] at hck
        have HR1 := hide hr
        have HCK := hide hck
        have HT0 := hide ht0
        clear hr hck ht0 hc
        go_enter Tryd.func27, Tryd.ntmps27
        go_wp2_with fail
        refine (unhide HCK _ _ (TreeAt.step (fun j _ hj => Below.heap_alloc _ _ j hj) _ _ (TreeAt.step (fun j _ hj => Below.heap_alloc _ _ j hj) _ _ (TreeAt.step (fun j hj _ => Below.heap_setCell w ⟨bh, k, none⟩ (.bool true) j (by simp only; omega)) _ _ (unhide HT0))))).mono ?_
        rintro e w1 ⟨rfl, hb1⟩
        have s0 : w1.cell? ⟨w.heap.size, 0, none⟩ = some (.int .i64 sa) := ((bcell hb1).1 _ _ (by simp <;> omega)).trans (by go_simp)
        have s1 : w1.cell? ⟨w.heap.size, 1, none⟩ = some (.int .i64 sb) := ((bcell hb1).1 _ _ (by simp <;> omega)).trans (by go_simp)
        have s8 : w1.cell? ⟨w.heap.size + 1, 8, none⟩ = some (.int .i64 qx) := ((bcell hb1).1 _ _ (by simp)).trans (by go_simp)
        have HB1 := hide hb1
        clear hb1
        go_wp2_with fail
        refine (unhide IH (has.set k true) list qx r vl _ (unhide HR1) (((((unhide HP1).alloc _).alloc _)).below (unhide HB1) (by simp <;> omega)) hbp
          ((((unhide HI1).step (fun j _ hj => Below.heap_alloc _ _ j hj)).step (fun j _ hj => Below.heap_alloc _ _ j hj)).step (fun j _ hj => (unhide HB1).block j hj)) (unhide HL1) (by have := unhide HB; omega)
          (((((unhide HS1).alloc _).alloc _)).below (unhide HB1)) hx0 hx1).mono ?_
        rintro e w2 ⟨rfl, vl2, hS3, hk3, hat3⟩
        go_wp2_with fail
        first | go_end0 | refine bodyPost_ret (results_none rfl _ _ _) rfl ?_
        exact ⟨rfl, vl2, hS3, ((((unhide HK1).alloc _).alloc _).then_below (unhide HB1)).trans hk3 (fun j _ ht => ht), At.later hat3 (by have := (unhide HB1).size; simp at this; omega)⟩
      · rename_i hc
        obtain rfl := Option.some.inj hr
        have hck := fun (cs : List Value) (w : World) (h : TreeAt (fun k => k < base) w (.mk kind code neg set mn mx kids) cs) => check_calls (.mk kind code neg set mn mx kids) cs sa sb w h
        rw [show checkF (Rx.mk kind code neg set mn mx kids).kind sa sb = false from by simpa using hc] at hck
        have HCK := hide hck
        have HT0 := hide ht0
        clear hr hck ht0 hc
        go_enter Tryd.func27, Tryd.ntmps27
        go_wp2_with fail
        refine (unhide HCK _ _ (TreeAt.step (fun j _ hj => Below.heap_alloc _ _ j hj) _ _ (TreeAt.step (fun j _ hj => Below.heap_alloc _ _ j hj) _ _ (TreeAt.step (fun j hj _ => Below.heap_setCell w ⟨bh, k, none⟩ (.bool true) j (by simp only; omega)) _ _ (unhide HT0))))).mono ?_
        rintro e w1 ⟨rfl, hb1⟩
        go_wp2_with fail
        first | go_end0 | refine bodyPost_ret (results_none rfl _ _ _) rfl ?_
        exact ⟨rfl, vl, (((unhide HS1).alloc _).alloc _).below hb1, (((unhide HK1).alloc _).alloc _).then_below hb1, .inl rfl⟩
    · have hr := unhide HR
      rw [if_neg h2, if_neg h3] at hr
      obtain rfl := Option.some.inj hr
      clear hx hy
      obtain ⟨i0, hi0, hz0, hz1, hz2⟩ := info_parts Tryd.infoInt
      have t2 : (op == 2) = false := by simpa using h2
      have t3 : (op == 1) = false := by simpa using h3
      clear h2 h3 ho hr
      go_enter Tryd.func27, Tryd.ntmps27
      go_wp2_with (at_builtin; refine wpList_append_lies _ rfl (.tmp 35) (.tmp 37) 58 rfl base 3 i0 (.int .i64 0) 1 8 Tryd.underlying58 hi0 hz0 hz1 hz2 rfl (by decide) vl list.length (list.map (Value.int .i64)) rfl (((unhide HS1).own.alloc _).alloc _ |>.alloc _) ⟨w.heap.size + 2, 0, none⟩ 1 1 [.int .i64 k] rfl rfl ?ca ?cb (by omega) ?cc ?cd ?ce (w.heap.size + 3) (by simp) ?_)
      case cb => first | rfl | (intro u hu; simp at hu; subst hu; rfl)
      case cc => simp only [maxLen]; omega
      case cd => omega
      case ce => omega
      intro g cap w1 hown hg hat hlt1
      have hnb : some bt ≠ vl.ownBlock := fun e => own_blk_ne (unhide HS).own (unhide HS).row (by decide) e.symm
      have hnh : some bh ≠ vl.ownBlock := fun e => own_blk_ne (unhide HS).own (unhide HS).marks (by decide) e.symm
      have hr1 := ((((unhide HS1).row.alloc _).alloc _).alloc _).grown hg hnb
      have hm1 := ((((unhide HS1).marks.alloc _).alloc _).alloc _).grown hg hnh
      have x1 := hr1.cell 1
      have y1 := hr1.frozen 1
      have hkp := ((((unhide HK1).alloc _).alloc _).alloc _).grown hg (fun j hj => .inl (.inr (.inr hj)))
      have hgn : bt ≠ g := by
        rintro rfl
        rcases hat with hat | hat
        · exact hnb hat.symm
        · omega
      simp at x1
      have HO := hide hown; have HR1 := hide hr1; have HM1 := hide hm1; have HKP := hide hkp; have HAT := hide hat
      clear hown hg hat hr1 hm1 hkp hnb hnh
      go_wp2_with fail
      first | go_end0 | refine bodyPost_ret (results_none rfl _ _ _) rfl ?_
      refine ⟨rfl, _, ⟨(unhide HR1).set_ 1 _, ?_, (unhide HM1).far (fun e => hne e.symm) _, by simpa using hlt⟩, (unhide HKP).setCell (.inl (.inl rfl)) _, ?_⟩
      · have := own_step (unhide HO) (w1 := w1.setCell ⟨bt, 1, none⟩ (.slice (some ⟨g, 0, none⟩) (list.length + 1) cap)) (fun j hj => Below.heap_setCell _ _ _ j (by simp [Value.ownBlock] at hj; subst hj; exact hgn.symm))
        simpa using this
      · rcases unhide HAT with h | h
        · exact .inl (by rw [h]; rfl)
        · exact .inr ⟨g, rfl, by omega⟩
end Go.Proofs.YtanmlgliibgpcaaDoor
