/- NfaChoice returns true of every two texts, every string and every place: no condition beyond the statement's own (a part of its proof). -/
import Derived.Test.YtanmlgliibgpcaaDoorKc07
import Derived.Deep.LoopGhost
import Derived.WalkSpells

/- The walk of set. -/
namespace Go.Proofs.YtanmlgliibgpcaaDoor
open Go.RowKit Thr
set_option linter.unusedVariables false
set_option linter.unusedSimpArgs false

theorem class_ne {n : ByteArray} {l : List (Int × Int)} (h : classF n = some l) : l ≠ [] := by
  obtain ⟨x, hx, rfl⟩ := look_in _ _ _ h
  have : ∀ x ∈ classTab, x.2 ≠ [] := by decide
  exact this x hx
theorem class_few {n : ByteArray} {l : List (Int × Int)} (h : classF n = some l) : l.length ≤ 4 := by
  obtain ⟨x, hx, rfl⟩ := look_in _ _ _ h
  have : ∀ x ∈ classTab, x.2.length ≤ 4 := by decide
  exact this x hx
theorem named_some {s : ByteArray} {i k : Nat} {l : List (Int × Int)} (h : namedF s i = some (l, k)) : l ≠ [] ∧ l.length ≤ 4 ∧ ∀ r ∈ l, fineR r := by
  unfold namedF at h
  split at h
  · cases h
  · split at h
    · cases h
    · rename_i hc
      simp only [Option.some.injEq, Prod.mk.injEq] at h
      rw [← h.1]
      exact ⟨class_ne hc, class_few hc, class_fine hc⟩

theorem grown_size {W W2 w5 : World} {row : Option Nat} (hg : W2.grownBy w5 row) (hb : Below W.heap.size W W2) : W.heap.size ≤ w5.heap.size := Nat.le_trans hb.size hg.size
theorem grown_cell {W W2 w5 : World} {row : Option Nat} (hg : W2.grownBy w5 row) (hb : Below W.heap.size W W2) {b o : Nat} {v : Value} (hlt : b < W.heap.size) (hne : row ≠ some b) (h : W.cell? ⟨b, o, none⟩ = some v) : w5.cell? ⟨b, o, none⟩ = some v :=
  (hg.cell_far ⟨b, o, none⟩ (Nat.lt_of_lt_of_le hlt hb.size) (Ne.symm hne)).trans ((hb.cell (p := ⟨b, o, none⟩) hlt).trans h)
theorem grown_frozen {W W2 w5 : World} {row : Option Nat} (hg : W2.grownBy w5 row) (hb : Below W.heap.size W W2) {b o : Nat} (hlt : b < W.heap.size) (hne : row ≠ some b) (h : W.frozen? ⟨b, o, none⟩ = false) : w5.frozen? ⟨b, o, none⟩ = false :=
  (hg.frozen_far ⟨b, o, none⟩ (Nat.lt_of_lt_of_le hlt hb.size) (Ne.symm hne)).trans ((hb.frozen (p := ⟨b, o, none⟩) hlt).trans h)
theorem set_news {ok : Nat → Prop} {W : World} {b c : Nat} {l : List (Int × Int)} (h : SetAt ok W (.slice (some ⟨b, 0, none⟩) l.length c) l) : ∀ (j : Nat) (u : Value), (rangeCells l)[j]? = some u → W.cell? ((⟨b, 0, none⟩ : Addr).add j) = some u := by
  intro j u hu
  have hadd : (⟨b, 0, none⟩ : Addr).add j = ⟨b, j, none⟩ := by unfold Addr.add; split <;> simp_all
  rw [hadd]
  have hj := (List.getElem?_eq_some_iff.1 hu).1
  rw [rangeCells_len] at hj
  obtain ⟨A, c', hA, _, _, h | ⟨b', o, hb, _, h⟩⟩ := h
  · subst h
    simp at hj
  · injection hA with hA
    subst hA
    injection hb with hb
    injection hb with hb ho
    subst hb; subst ho
    have hq : j / 2 < l.length := by omega
    have hg := List.getElem?_eq_getElem hq
    obtain ⟨h0, h1⟩ := h (j / 2) _ hg
    obtain ⟨r0, r1⟩ := rangeCells_get l (j / 2) _ hg
    rcases Nat.mod_two_eq_zero_or_one j with hm | hm
    · rw [show j / 2 * 2 = j by omega] at r0
      rw [show 0 + j / 2 * 2 = j by omega] at h0
      rw [h0, ← r0, hu]
    · rw [show j / 2 * 2 + 1 = j by omega] at r1
      rw [show 0 + j / 2 * 2 + 1 = j by omega] at h1
      rw [h1, ← r1, hu]
theorem range_oneCell (l : List (Int × Int)) : ∀ u ∈ rangeCells l, u.oneCell' = true := by
  induction l with
  | nil => intro u hu; simp [rangeCells] at hu
  | cons r l ih =>
    intro u hu
    simp only [rangeCells, List.mem_cons] at hu
    rcases hu with rfl | rfl | hu
    · rfl
    · rfl
    · exact ih u hu

/-- A set that is being read: its node lies in block B + 1. -/
structure SetW (w0 W : World) (bp B : Nat) (s : ByteArray) (bytes : Bool) (nest : Nat) (neg : Bool) (i : Nat) (vS : Value) (acc : List (Int × Int)) : Prop where
  res : Blk W B 26 zero7
  node : Blk W (B + 1) 26 #[.int .i64 4, .int .i64 0, .bool neg, vS, .int .i64 0, .int .i64 0, .slice none 0 0]
  at_ : PAt W bp s i bytes nest
  own : W.ownsRow (B + 2) 65 2 vS acc.length (rangeCells acc)
  kept : Keeps (fun k => k = bp) w0 W
  size : w0.heap.size = B
  lt : bp < B
theorem SetW.move {w0 W W' : World} {bp B : Nat} {s : ByteArray} {bytes : Bool} {nest : Nat} {neg : Bool} {i k : Nat} {vS : Value} {acc : List (Int × Int)} (h : SetW w0 W bp B s bytes nest neg i vS acc)
    (hk : Keeps (fun k => k = bp) W W') (hP : PAt W' bp s k bytes nest) : SetW w0 W' bp B s bytes nest neg k vS acc := by
  have hlt := h.lt
  refine ⟨h.res.keeps hk (by omega), h.node.keeps hk (by omega), hP, own_step h.own (fun j hj => ?_), h.kept.trans hk (fun _ _ h => h), h.size, hlt⟩
  have := own_lt h.own j hj
  exact hk.block j this.2 (by omega)
theorem SetW.below {w0 W W' : World} {bp B : Nat} {s : ByteArray} {bytes : Bool} {nest : Nat} {neg : Bool} {i : Nat} {vS : Value} {acc : List (Int × Int)} (h : SetW w0 W bp B s bytes nest neg i vS acc)
    (hb : Below W.heap.size W W') : SetW w0 W' bp B s bytes nest neg i vS acc := h.move (Keeps.of_below hb _) (h.at_.below hb)
theorem SetW.app {w0 W W2 w3 : World} {bp B : Nat} {s : ByteArray} {bytes : Bool} {nest : Nat} {neg : Bool} {i : Nat} {vS : Value} {acc l : List (Int × Int)} (h : SetW w0 W bp B s bytes nest neg i vS acc)
    (hb : Below W.heap.size W W2) (hg : W2.grownBy w3 vS.ownBlock) {go cap m : Nat} (ho : w3.ownsRow (B + 2) 65 2 (.slice (some ⟨go, 0, none⟩) (acc.length + m) cap) (acc.length + m) (rangeCells acc ++ rangeCells l)) (hm : l.length = m) :
    SetW w0 (w3.setCell ⟨B + 1, 3, none⟩ (.slice (some ⟨go, 0, none⟩) (acc.length + m) cap)) bp B s bytes nest neg i (.slice (some ⟨go, 0, none⟩) (acc.length + m) cap) (acc ++ l) := by
  have h2 := h.below hb
  have hlt := h.lt
  have hn : vS.ownBlock ≠ some (B + 1) := own_blk_ne h2.own h2.node (by decide)
  have hlow : ∀ k, k < B + 2 → some k ≠ vS.ownBlock := fun k hk e => by
    have := (own_lt h2.own k e.symm).1
    omega
  have hnode := h2.node.grown hg (hlow _ (by omega))
  have hgo : go ≠ B + 1 := fun e => own_blk_ne ho hnode (by decide) (by simp [Value.ownBlock, e])
  have hk3 : Keeps (fun k => k = bp) w0 w3 := h2.kept.grown hg (fun k hk => by
    have := (own_lt h2.own k hk).1
    have := h.size
    exact .inr (by omega))
  refine ⟨(h2.res.grown hg (hlow _ (by omega))).far (by simp only; omega) _, ?_, (h2.at_.grown hg (hlow _ (by omega))).far (by simp only; omega) _, ?_, hk3.setCell (.inr (by have := h.size; simp only; omega)) _, h.size, hlt⟩
  · have := hnode.set_ 3 (.slice (some ⟨go, 0, none⟩) (acc.length + m) cap)
    simpa using this
  · rw [rangeCells_append, List.length_append, hm]
    exact own_step ho (fun j hj => Below.heap_setCell _ _ _ j (by simp [Value.ownBlock] at hj; subst hj; simpa using hgo))

set_option maxRecDepth 100000 in
set_option maxHeartbeats 64000000 in
theorem set_calls {bp : Nat} {s : ByteArray} {i : Nat} {bytes : Bool} {nest : Nat} (from_ : Int) (w : World) (hP : PAt w bp s (i + 1) bytes nest) (hG : Glob w) (hi : i + 1 ≤ s.size) (hm : s.size ≤ 1024) :
    Calls Tryd.prog 69 #[.pointer (some ⟨bp, 0, none⟩), .int .i64 from_] w fun e w' => NodePost bp s bytes nest from_ w w' e (setF s i bytes) := by
  obtain ⟨O, hO⟩ : ∃ O, setF s i bytes = O := ⟨_, rfl⟩
  rw [hO]
  unfold setF at hO
  have hZ := sized_all s bytes
  have c0 := hP.cell 0
  have c1 := hP.cell 1
  have f1 := hP.frozen 1
  have hbp := hP.lt
  simp at c0 c1
  have hs1 := fun w1 (hP1 : PAt w1 bp s (i + 1) bytes nest) => see_quiet (lit [94]) w1 hP1 hi hm
  rw [see_one, show ((94 : UInt8).toNat : Int) = 94 from rfl] at hs1
  have hGl : ∀ W, Keeps (fun k => k = bp) w W → Glob W := fun W hk => hG.keeps hk hP
  have hq := fun (w : World) (a : Option Addr) (n c : Nat) => run_neq_slice_nil_any w 23 65 a n c 0 0 Tryd.underlying23
  obtain ⟨i0, hi0, hz0, hz1, hz2⟩ := info_parts Tryd.infoRange
  have HS1 := hide hs1; have HP := hide hP; have HG := hide hGl; have HZ := hide hZ
  clear hs1 hP hG hGl hZ
  obtain ⟨N, hN⟩ : ∃ N, Thr.one s (i + 1) 94 = N := ⟨_, rfl⟩
  rw [hN] at hO HS1
  cases N with
  | false =>
    rw [if_neg (by simp)] at hO
    have hst : i + 1 ≤ s.size := by omega
    obtain ⟨st, hste⟩ : ∃ st, st = i + 1 := ⟨_, rfl⟩
    rw [← hste] at hO hst
    obtain ⟨O', hO'⟩ : ∃ O', setsF s bytes (s.size + 1) st true [] = O' := ⟨_, rfl⟩
    rw [hO'] at hO
    have HO' := hide hO'; have HO := hide hO
    clear hO' hO hN
    go_enter Tryd.func69, Tryd.ntmps69
    go_wp2_with fail
    refine (unhide HS1 _ ((unhide HP).below (by repeat (first | exact Below.refl _ _ | assumption | refine below_drewN ?_ _ | refine Below.drew ?_ | refine below_alloc' ?_ _)))).mono ?_
    rintro e w1 ⟨rfl, mm, hw1⟩
    have hw1b : Below w.heap.size w w1 := by rw [hw1]; exact below_drewN (by repeat (first | exact Below.refl _ _ | assumption | refine below_drewN ?_ _ | refine Below.drew ?_ | refine below_alloc' ?_ _)) _
    have hr1 : Blk w1 w.heap.size 26 zero7 := by
      rw [hw1]
      exact ((Blk.new w 26 zero7).alloc _).drewN _
    have hn1 : Blk w1 (w.heap.size + 1) 26 #[.int .i64 4, .int .i64 0, .bool false, .slice none 0 0, .int .i64 0, .int .i64 0, .slice none 0 0] := by
      rw [hw1]
      refine Blk.drewN ?_ _
      have := Blk.new (w.alloc (.cells zero7 26)) 26 #[.int .i64 4, .int .i64 0, .bool false, .slice none 0 0, .int .i64 0, .int .i64 0, .slice none 0 0]
      simpa [zero7] using this
    clear hw1
    have hP1 := (unhide HP).below hw1b
    have q1 := hP1.cell 1
    have g1 := hP1.frozen 1
    have hbp1 := hP1.lt
    have hz1' : w.heap.size + 1 < w1.heap.size := hn1.lt
    have hz1'' : w.heap.size < w1.heap.size := by omega
    have n2 := hn1.cell 2
    have h2f := hn1.frozen 2
    simp at q1 n2
    have HR1 := hide hr1; have HN1 := hide hn1; have HB1 := hide hw1b; have HP1 := hide hP1
    clear hr1 hn1 hw1b hP1
    go_wp2_with fail
    have hsw : ∀ W, W.heap = w1.heap → W.os = w1.os → W.tape = w1.tape → W.output = w1.output → SetW w W bp w.heap.size s bytes nest false st (.slice none 0 0) [] := by
      intro W h1 h2 h3 h4
      have hk := Keeps.of_below (unhide HB1) (fun k => k = bp)
      refine ⟨?_, ?_, ?_, World.ownsRow_nil _ _ _ _, ⟨h2.trans hk.os, h3.trans hk.tape, h4.trans hk.output, by rw [h1]; exact hk.size, fun k hk1 hk2 => by rw [h1]; exact hk.block k hk1 hk2⟩, rfl, hbp⟩
      · unfold Blk; rw [h1]; exact unhide HR1
      · unfold Blk; rw [h1]; exact unhide HN1
      · unfold PAt Blk; rw [h1, hste]; exact unhide HP1
    have HSW := hide hsw
    clear hsw n2 h2f q1 g1 c0 c1 f1
    go_loopg [6] (s.size + 1) (fun kx first_ wr => ∃ (j : Nat) (first : Bool) (acc : List (Int × Int)) (vS : Value), first_ = .bool first ∧ j ≤ s.size ∧ s.size - j < kx ∧ Hid (setsF s bytes kx j first acc = O') ∧ Hid (∀ r ∈ acc, fineR r) ∧ acc.length ≤ 4 * j ∧ Hid (acc ≠ [] ∨ first = true) ∧ Hid (SetW w wr bp w.heap.size s bytes nest false j vS acc))
    case atStart => exact ⟨st, true, [], .slice none 0 0, rfl, hst, by omega, HO', hide (by intro r hr; cases hr), by simp, hide (.inr rfl), hide (by exact (unhide HSW) _ rfl rfl rfl rfl)⟩
    case round =>
      obtain ⟨j, first, acc, vS, rfl, hj, hjk, HR, HF, hacc, HNE, HW⟩ := hrel
      clear HSW HR1 HN1 HB1 HP1 hz1' hz1'' hbp1
      obtain ⟨f, rfl⟩ : ∃ f, gk = f + 1 := ⟨gk - 1, by omega⟩
      have hR := unhide HR
      simp only [setsF] at hR
      have hsee := see_quiet (lit [93]) wr (unhide HW).at_ hj hm
      rw [see_one, show ((93 : UInt8).toNat : Int) = 93 from rfl] at hsee
      by_cases hend : first = false ∧ Thr.one s j 93 = true
      · obtain ⟨rfl, hone⟩ := hend
        rw [if_pos ⟨rfl, hone⟩] at hR
        rw [hone] at hsee
        obtain rfl := hR.symm
        have hO := unhide HO
        simp only at hO
        subst hO
        have hjl : j < s.size := by have h := hone; simp [Thr.one] at h; exact h.1
        have HSEE := hide hsee
        clear hsee hone HR
        go_wp2_with fail
        refine (unhide HSEE).mono ?_
        rintro e w2 ⟨rfl, m2, hw2⟩
        have hw2b : Below wr.heap.size wr w2 := by rw [hw2]; exact below_drewN (Below.refl _ _) _
        have hW2 := (unhide HW).below hw2b
        clear hw2 hw2b
        have q1 := hW2.at_.cell 1
        have g1 := hW2.at_.frozen 1
        have hbp2 := hW2.at_.lt
        obtain ⟨Ao, co, rfl⟩ := own_form hW2.own
        have n3 := hW2.node.cell 3
        have h3f := hW2.node.frozen 3
        have hz2 : w.heap.size + 1 < w2.heap.size := hW2.node.lt
        have hz2' : w.heap.size < w2.heap.size := by omega
        have hbn : bp ≠ w.heap.size + 1 := by omega
        simp at q1 n3
        have hW3 := hW2.move (W' := w2.setCell ⟨bp, 1, none⟩ (.int .i64 ((j + 1 : Nat) : Int))) ((Keeps.refl (fun k => k = bp) _).setCell (p := ⟨bp, 1, none⟩) (.inl rfl) _) (hW2.at_.go_on (j + 1))
        rw [show ((j + 1 : Nat) : Int) = (j : Int) + 1 by omega] at hW3
        have hmg := fun W (e : W.heap = (w2.setCell ⟨bp, 1, none⟩ (.int .i64 ((j : Int) + 1))).heap) => merged_calls (base := w.heap.size + 2) acc (.slice Ao acc.length co) W (own_step hW3.own (fun k _ => by rw [e])) ((unhide HNE).resolve_right (by simp)) (fun r hr => (unhide HF r hr).2.1) (fun r hr => by have := unhide HF r hr; unfold fineR at this; unfold inB; omega) (by omega)
        have HMG := hide hmg; have HW3 := hide hW3
        clear hW2 hW3 hmg
        go_wp2_with fail
        refine (unhide HMG _ rfl).mono ?_
        rintro e w4 ⟨vo, rfl, hset, hk4⟩
        have hW3' := unhide HW3
        have hown : ∀ k, (Value.slice Ao acc.length co).ownBlock = some k → w.heap.size + 2 ≤ k := fun k hk => (own_lt hW3'.own k hk).1
        have hr4 := hW3'.res.keeps hk4 (fun e => by have := hown _ e; omega)
        have hn4 := hW3'.node.keeps hk4 (fun e => by have := hown _ e; omega)
        have hp4 : PAt w4 bp s (j + 1) bytes nest := Blk.keeps hW3'.at_ hk4 (fun e => by have := hown _ e; omega)
        have hkk : Keeps (fun k => k = bp) w w4 := hW3'.kept.trans (S' := fun k => w.heap.size + 2 ≤ k) (hk4.mono (fun k _ hk => hown k hk)) (fun k h1 h2 => by omega)
        have hz4 : w2.heap.size ≤ w4.heap.size := by have := hk4.size; simpa using this
        obtain ⟨⟨r0, r1, r2, r3, r4, r5, r6⟩, p0, p1, p2, p3, p4, p5, p6⟩ := hr4.seven
        obtain ⟨⟨t0, t1, t2, t3, t4, t5, t6⟩, u0, u1, u2, u3, u4, u5, u6⟩ := hn4.seven
        have hset' : SetAt (fun k => w2.heap.size ≤ k) w4 vo (acc.foldl withR []) := hset.mono (fun k hk => by simpa using hk)
        obtain ⟨Av, lv, cv, rfl⟩ : ∃ Av lv cv, vo = .slice Av lv cv := by obtain ⟨A, c, h, _⟩ := hset'; exact ⟨_, _, _, h⟩
        have HR4 := hide hr4; have HN4 := hide hn4; have HP4 := hide hp4; have HKK := hide hkk; have HSET := hide hset'
        have hz4' : w.heap.size + 1 < w4.heap.size := by omega
        have hz4'' : w.heap.size < w4.heap.size := by omega
        clear hr4 hn4 hp4 hkk hset hset' hk4 hW3' hown n3 h3f q1 g1
        go_wp2_with fail
        refine bodyPost_ret (results_cell rfl rfl (load7 (Blk.put7 (((unhide HR4).far (p := ⟨w.heap.size + 1, 3, none⟩) (by simp) _))))) rfl ?_
        refine ⟨_, rfl, tree_set _ _ _ ?_, PAt.put7 (Blk.far (unhide HP4) (p := ⟨w.heap.size + 1, 3, none⟩) (by simp only; omega) _) (by omega) _ _ _ _ _ _ _, ((unhide HKK).setCell (p := ⟨w.heap.size + 1, 3, none⟩) (.inr (by simp only; omega)) _).put7 (.inr (Nat.le_refl _)) _ _ _ _ _ _ _⟩
        exact SetAt.mono (SetAt.step (W := w4) (unhide HSET) (fun k hk _ => by
          have : w2.heap.size ≤ k := hk
          exact (heap_put7 _ _ _ _ _ _ _ _ _ k (by omega)).trans (Below.heap_setCell _ _ _ k (by simp only; omega)))) (fun k hk => by have : w2.heap.size ≤ k := hk; show w.heap.size ≤ k; omega)
      · rw [if_neg hend] at hR
        clear HR
        cases first with
        | true =>
          clear hsee hend
          have HW2 := hide (unhide HW)
          go_wp2_with fail
          by_cases hnm : two s j 91 58 = true
          · rw [if_pos hnm] at hR
            have hnc := named_calls from_ wr (unhide HW2).at_ ((unhide HG) wr (unhide HW2).kept) hj hm hnm
            refine hnc.mono ?_
            clear hnc
            cases hnf : namedF s j with
            | none =>
              rw [hnf] at hR
              have hO := unhide HO
              rw [← hR] at hO
              simp only at hO
              subst hO
              rintro e w3 ⟨rfl, hk3⟩
              exact ⟨rfl, rfl, (unhide HW2).kept.trans hk3 (fun _ _ h => h)⟩
            | some r =>
              obtain ⟨l, k⟩ := r
              rw [hnf] at hR
              simp only at hR
              rintro e w3 ⟨b, rfl, hb0, hst3, hP3, hk3⟩
              have hkle := named_le hnf
              obtain ⟨hne, hfew, hfine⟩ := named_some hnf
              have hlpos : 0 < l.length := List.length_pos_iff.2 hne
              have hW3 := (unhide HW2).move hk3 hP3
              have HNW := hide (set_news hst3)
              obtain ⟨Ao, co, rfl⟩ := own_form hW3.own
              have n3 := hW3.node.cell 3
              have h3f := hW3.node.frozen 3
              have hzB : w.heap.size + 1 < w3.heap.size := hW3.node.lt
              have hzB' : w.heap.size < w3.heap.size := by omega
              have HNO := hide (own_blk_ne hW3.own hW3.node (by decide))
              simp at n3
              have HW3 := hide hW3
              have HR3 := hide hR; have HFI := hide hfine; have HNE3 := hide hne
              clear hW3 hst3 hP3 hk3 hR hfine hne hnm hnf
              go_wp2_with
               ((at_builtin; refine wpList_append_lies _ (by rfl) _ _ _ (by rfl) (w.heap.size + 2) 65 i0 _ 2 16 Tryd.underlying23 hi0 hz0 hz1 hz2 rfl (by omega) (.slice Ao acc.length co) acc.length (rangeCells acc) (by rfl)
                    (by exact own_step (unhide HW3).own (fun j hj => (Below.refl w3.heap.size w3).block j (own_lt (unhide HW3).own j hj).2)) ⟨b, 0, none⟩ l.length _ (rangeCells l)
                    (by rfl) (by exact rangeCells_len l) (by exact unhide HNW)
                    (by exact range_oneCell l) (by omega) (by simp only [maxLen]; omega) (by omega) (by first | omega | (simp; omega)) _ (by rfl) ?_; intro go cap5 w5 hown5 hgrow hat5 hlt5; have cz := grown_cell hgrow (Below.refl w3.heap.size w3) hzB (unhide HNO) n3; have fz := grown_frozen hgrow (Below.refl w3.heap.size w3) hzB (unhide HNO) h3f; have hz5 := Nat.lt_of_lt_of_le hzB (grown_size hgrow (Below.refl w3.heap.size w3))))
              have hW5 := (unhide HW3).app (l := l) (Below.refl w3.heap.size w3) hgrow hown5 (by rfl)
              have HW5 := hide hW5
              clear hW5 hown5 hgrow hat5
              go_roundg f
              case measure => omega
              case rel => exact ⟨k, false, acc ++ l, _, rfl, hkle.2, by omega, hide (by first | exact unhide HR3), hide (fun r hr => by
                rcases List.mem_append.1 hr with hr | hr
                · exact unhide HF r hr
                · exact unhide HFI r hr), by simp only [List.length_append]; first | omega | (simp only [List.length_cons, List.length_nil]; omega), hide (.inl (by simp; exact fun _ => unhide HNE3)), HW5⟩
          · rw [if_neg hnm] at hR
            refine (named_none from_ wr (unhide HW2).at_ hj hm (by simpa using hnm)).mono ?_
            rintro e w3 ⟨rfl, hb3⟩
            have HW3 := hide ((unhide HW2).below hb3)
            clear hb3 hnm
            go_wp2_with fail
            refine (member_calls from_ w3 (unhide HW3).at_ ((unhide HG) w3 (unhide HW3).kept).tabs hj hm).mono ?_
            cases hmf : memberF s j bytes with
            | none =>
              rw [hmf] at hR
              have hO := unhide HO
              rw [← hR] at hO
              simp only at hO
              subst hO
              rintro e w4 ⟨rfl, hk4⟩
              exact ⟨rfl, rfl, (unhide HW3).kept.trans hk4 (fun _ _ h => h)⟩
            | some r =>
              obtain ⟨lo, k⟩ := r
              rw [hmf] at hR
              simp only at hR
              rintro e w4 ⟨rfl, hP4, hk4⟩
              have hkle := member_le (unhide HZ) hmf
              have hlo := member_range (unhide HZ) hmf
              have hW4 := (unhide HW3).move hk4 hP4
              have q0 := hP4.cell 0
              have q1 := hP4.cell 1
              have g1 := hP4.frozen 1
              have hbp4 := hP4.lt
              simp at q0 q1
              obtain ⟨Ao, co, rfl⟩ := own_form hW4.own
              have n3 := hW4.node.cell 3
              have h3f := hW4.node.frozen 3
              have hzB : w.heap.size + 1 < w4.heap.size := hW4.node.lt
              have hzB' : w.heap.size < w4.heap.size := by omega
              have HNO := hide (own_blk_ne hW4.own hW4.node (by decide))
              simp at n3
              have HW4 := hide hW4
              have hs45 := fun W (hP : PAt W bp s k bytes nest) => see_quiet (lit [45]) W hP hkle.2 hm
              rw [see_one, show ((45 : UInt8).toNat : Int) = 45 from rfl] at hs45
              have hs93 := fun W (hP : PAt W bp s k bytes nest) => see_quiet (lit [45, 93]) W hP hkle.2 hm
              rw [see_two, show ((45 : UInt8).toNat : Int) = 45 from rfl, show ((93 : UInt8).toNat : Int) = 93 from rfl] at hs93
              clear hW4 hP4 hk4 hmf
              by_cases h45 : Thr.one s k 45 = true
              · rw [h45] at hs45
                by_cases h93 : two s k 45 93 = true
                · rw [h93] at hs93
                  rw [if_neg (by have h := h93; simp [two] at h; intro h'; exact h'.2.2 h.2.2)] at hR
                  have HS45 := hide hs45; have HS93 := hide hs93; have HR3 := hide hR
                  clear hs45 hs93 h45 h93 hR
                  go_wp2_with fail
                  go_quiet ((first | (go_at_call_of 51 (Value.string { data := #[45, 93] }); exact Calls.quiet_of (unhide HS93 _ ((unhide HW4).at_.drewN _))) | (go_at_call 51; exact Calls.quiet_of (unhide HS45 _ ((unhide HW4).at_.drewN _)))))
                  go_wp2_with
                   ((at_builtin; refine wpList_append_lies _ (by rfl) _ _ _ (by rfl) (w.heap.size + 2) 65 i0 _ 2 16 Tryd.underlying23 hi0 hz0 hz1 hz2 rfl (by omega) (.slice Ao acc.length co) acc.length (rangeCells acc) (by rfl)
                        (by exact own_step (unhide HW4).own (fun j hj => (below_alloc' (below_drewN (Below.refl w4.heap.size w4) _) _).block j (own_lt (unhide HW4).own j hj).2)) ⟨w4.heap.size, 0, none⟩ 1 _ [.int .i64 lo, .int .i64 lo]
                        (by rfl) (by rfl) (by exact World.news_of_block (cs := #[.int .i64 lo, .int .i64 lo]) (heap_alloc_new _ _))
                        (by simp [Value.oneCell']) (by omega) (by simp only [maxLen]; omega) (by omega) (by first | omega | (simp; omega)) _ (by rfl) ?_; intro go cap5 w5 hown5 hgrow hat5 hlt5; have cz := grown_cell hgrow (below_alloc' (below_drewN (Below.refl w4.heap.size w4) _) _) hzB (unhide HNO) n3; have fz := grown_frozen hgrow (below_alloc' (below_drewN (Below.refl w4.heap.size w4) _) _) hzB (unhide HNO) h3f; have hz5 := Nat.lt_of_lt_of_le hzB (grown_size hgrow (below_alloc' (below_drewN (Below.refl w4.heap.size w4) _) _))))
                  have hW5 := (unhide HW4).app (l := [(lo, lo)]) (below_alloc' (below_drewN (Below.refl w4.heap.size w4) _) _) hgrow hown5 (by rfl)
                  have HW5 := hide hW5
                  clear hW5 hown5 hgrow hat5
                  go_roundg f
                  case measure => omega
                  case rel => exact ⟨k, false, acc ++ [(lo, lo)], _, rfl, hkle.2, by omega, hide (by first | exact unhide HR3), hide (fun r hr => by
                    rcases List.mem_append.1 hr with hr | hr
                    · exact unhide HF r hr
                    · obtain rfl := List.mem_singleton.1 hr; exact ⟨hlo.1, Int.le_refl _, hlo.2⟩), by simp only [List.length_append]; first | omega | (simp only [List.length_cons, List.length_nil]; omega), hide (.inl (by simp; skip)), HW5⟩
                · have h93' : two s k 45 93 = false := by simpa using h93
                  rw [h93'] at hs93
                  by_cases hsz : k + 1 < s.size
                  · have hlt2 : decide ((k : Int) + 1 < s.size) = true := decide_eq_true (by omega)
                    rw [if_pos ⟨h45, hsz, by have h := h45; simp [Thr.one] at h; intro h'; simp [two, h.2, h', hsz] at h93'⟩] at hR
                    have hP5 : ∀ n, PAt ((w4.drewN n).setCell ⟨bp, 1, none⟩ (.int .i64 ((k : Int) + 1))) bp s (k + 1) bytes nest := fun n => by
                      exact PAt.go_on (w := w4.drewN n) (Blk.drewN (unhide HW4).at_ n) (k + 1)
                    have hW5 : ∀ n, SetW w ((w4.drewN n).setCell ⟨bp, 1, none⟩ (.int .i64 ((k : Int) + 1))) bp w.heap.size s bytes nest false (k + 1) (.slice Ao acc.length co) acc := fun n => (unhide HW4).move (((Keeps.refl (fun k => k = bp) _).drewN n).setCell (p := ⟨bp, 1, none⟩) (.inl rfl) _) (hP5 n)
                    have HS45 := hide hs45; have HS93 := hide hs93; have HW5 := hide hW5
                    clear hs45 hs93 h45 h93 h93' hP5 hW5
                    go_wp2_with fail
                    go_quiet ((first | (go_at_call_of 51 (Value.string { data := #[45, 93] }); exact Calls.quiet_of (unhide HS93 _ ((unhide HW4).at_.drewN _))) | (go_at_call 51; exact Calls.quiet_of (unhide HS45 _ ((unhide HW4).at_.drewN _)))))
                    go_wp2_with fail
                    refine (see_quiet (lit [91, 58]) _ ((unhide HW5) _).at_ (by omega) hm).mono ?_
                    rw [see_two, show ((91 : UInt8).toNat : Int) = 91 from rfl, show ((58 : UInt8).toNat : Int) = 58 from rfl]
                    rintro e w6 ⟨rfl, m6, hw6⟩
                    have hW6 := ((unhide HW5) nq).below (show Below _ _ w6 by rw [hw6]; exact below_drewN (Below.refl _ _) _)
                    have HW6 := hide hW6
                    clear hW6 hw6 n3 h3f hzB hzB' HNO q0 q1 g1 hbp4
                    by_cases h58 : two s (k + 1) 91 58 = true
                    · rw [if_pos h58] at hR
                      rw [h58]
                      have hO := unhide HO
                      rw [← hR] at hO
                      simp only at hO
                      subst hO
                      clear hR
                      go_wp2_with fail
                      refine (fail_calls _ _ _ _).mono ?_
                      rintro e w7 ⟨rfl, hw⟩
                      obtain rfl := hw.symm
                      exact ⟨rfl, rfl, (unhide HW6).kept⟩
                    · have h58' : two s (k + 1) 91 58 = false := by simpa using h58
                      rw [if_neg h58] at hR
                      rw [h58']
                      clear h58 h58'
                      go_wp2_with fail
                      refine (member_calls from_ w6 (unhide HW6).at_ ((unhide HG) w6 (unhide HW6).kept).tabs (by omega) hm).mono ?_
                      cases hmf : memberF s (k + 1) bytes with
                      | none =>
                        rw [hmf] at hR
                        have hO := unhide HO
                        rw [← hR] at hO
                        simp only at hO
                        subst hO
                        rintro e w7 ⟨rfl, hk7⟩
                        exact ⟨rfl, rfl, (unhide HW6).kept.trans hk7 (fun _ _ h => h)⟩
                      | some r =>
                        obtain ⟨hi', k'⟩ := r
                        rw [hmf] at hR
                        simp only at hR
                        rintro e w7 ⟨rfl, hP7, hk7⟩
                        have hkle2 := member_le (unhide HZ) hmf
                        have hhi := member_range (unhide HZ) hmf
                        have hW7 := (unhide HW6).move hk7 hP7
                        clear hP7 hk7 hmf
                        by_cases hlh : hi' < lo
                        · have hlh' : decide (hi' < lo) = true := decide_eq_true hlh
                          rw [if_pos hlh] at hR
                          have hO := unhide HO
                          rw [← hR] at hO
                          simp only at hO
                          subst hO
                          have HW7 := hide hW7
                          clear hlh hR hW7
                          go_wp2_with fail
                          refine (fail_calls _ _ _ _).mono ?_
                          rintro e w8 ⟨rfl, hw⟩
                          obtain rfl := hw.symm
                          exact ⟨rfl, rfl, (unhide HW7).kept⟩
                        · have hlh' : decide (hi' < lo) = false := decide_eq_false hlh
                          have hle2 : lo ≤ hi' := by omega
                          rw [if_neg hlh] at hR
                          have n3 := hW7.node.cell 3
                          have h3f := hW7.node.frozen 3
                          have hzB : w.heap.size + 1 < w7.heap.size := hW7.node.lt
                          have hzB' : w.heap.size < w7.heap.size := by omega
                          have HNO := hide (own_blk_ne hW7.own hW7.node (by decide))
                          simp at n3
                          have HW7 := hide hW7; have HR3 := hide hR
                          clear hW7 hR hlh
                          go_wp2_with
                           ((at_builtin; refine wpList_append_lies _ (by rfl) _ _ _ (by rfl) (w.heap.size + 2) 65 i0 _ 2 16 Tryd.underlying23 hi0 hz0 hz1 hz2 rfl (by omega) (.slice Ao acc.length co) acc.length (rangeCells acc) (by rfl)
                                (by exact own_step (unhide HW7).own (fun j hj => (below_alloc' (Below.refl w7.heap.size w7) _).block j (own_lt (unhide HW7).own j hj).2)) ⟨w7.heap.size, 0, none⟩ 1 _ [.int .i64 lo, .int .i64 hi']
                                (by rfl) (by rfl) (by exact World.news_of_block (cs := #[.int .i64 lo, .int .i64 hi']) (heap_alloc_new _ _))
                                (by simp [Value.oneCell']) (by omega) (by simp only [maxLen]; omega) (by omega) (by first | omega | (simp; omega)) _ (by rfl) ?_; intro go cap5 w5 hown5 hgrow hat5 hlt5; have cz := grown_cell hgrow (below_alloc' (Below.refl w7.heap.size w7) _) hzB (unhide HNO) n3; have fz := grown_frozen hgrow (below_alloc' (Below.refl w7.heap.size w7) _) hzB (unhide HNO) h3f; have hz5 := Nat.lt_of_lt_of_le hzB (grown_size hgrow (below_alloc' (Below.refl w7.heap.size w7) _))))
                          have hW5 := (unhide HW7).app (l := [(lo, hi')]) (below_alloc' (Below.refl w7.heap.size w7) _) hgrow hown5 (by rfl)
                          have HW5 := hide hW5
                          clear hW5 hown5 hgrow hat5
                          go_roundg f
                          case measure => omega
                          case rel => exact ⟨k', false, acc ++ [(lo, hi')], _, rfl, hkle2.2, by omega, hide (by first | exact unhide HR3), hide (fun r hr => by
                            rcases List.mem_append.1 hr with hr | hr
                            · exact unhide HF r hr
                            · obtain rfl := List.mem_singleton.1 hr; exact ⟨hlo.1, hle2, hhi.2⟩), by simp only [List.length_append]; first | omega | (simp only [List.length_cons, List.length_nil]; omega), hide (.inl (by simp; skip)), HW5⟩
                  · have hlt2 : decide ((k : Int) + 1 < s.size) = false := decide_eq_false (by omega)
                    rw [if_neg (fun h => hsz h.2.1)] at hR
                    have HS45 := hide hs45; have HS93 := hide hs93; have HR3 := hide hR
                    clear hs45 hs93 h45 h93 h93' hR hsz
                    go_wp2_with fail
                    go_quiet ((first | (go_at_call_of 51 (Value.string { data := #[45, 93] }); exact Calls.quiet_of (unhide HS93 _ ((unhide HW4).at_.drewN _))) | (go_at_call 51; exact Calls.quiet_of (unhide HS45 _ ((unhide HW4).at_.drewN _)))))
                    go_wp2_with
                     ((at_builtin; refine wpList_append_lies _ (by rfl) _ _ _ (by rfl) (w.heap.size + 2) 65 i0 _ 2 16 Tryd.underlying23 hi0 hz0 hz1 hz2 rfl (by omega) (.slice Ao acc.length co) acc.length (rangeCells acc) (by rfl)
                          (by exact own_step (unhide HW4).own (fun j hj => (below_alloc' (below_drewN (Below.refl w4.heap.size w4) _) _).block j (own_lt (unhide HW4).own j hj).2)) ⟨w4.heap.size, 0, none⟩ 1 _ [.int .i64 lo, .int .i64 lo]
                          (by rfl) (by rfl) (by exact World.news_of_block (cs := #[.int .i64 lo, .int .i64 lo]) (heap_alloc_new _ _))
                          (by simp [Value.oneCell']) (by omega) (by simp only [maxLen]; omega) (by omega) (by first | omega | (simp; omega)) _ (by rfl) ?_; intro go cap5 w5 hown5 hgrow hat5 hlt5; have cz := grown_cell hgrow (below_alloc' (below_drewN (Below.refl w4.heap.size w4) _) _) hzB (unhide HNO) n3; have fz := grown_frozen hgrow (below_alloc' (below_drewN (Below.refl w4.heap.size w4) _) _) hzB (unhide HNO) h3f; have hz5 := Nat.lt_of_lt_of_le hzB (grown_size hgrow (below_alloc' (below_drewN (Below.refl w4.heap.size w4) _) _))))
                    have hW5 := (unhide HW4).app (l := [(lo, lo)]) (below_alloc' (below_drewN (Below.refl w4.heap.size w4) _) _) hgrow hown5 (by rfl)
                    have HW5 := hide hW5
                    clear hW5 hown5 hgrow hat5
                    go_roundg f
                    case measure => omega
                    case rel => exact ⟨k, false, acc ++ [(lo, lo)], _, rfl, hkle.2, by omega, hide (by first | exact unhide HR3), hide (fun r hr => by
                      rcases List.mem_append.1 hr with hr | hr
                      · exact unhide HF r hr
                      · obtain rfl := List.mem_singleton.1 hr; exact ⟨hlo.1, Int.le_refl _, hlo.2⟩), by simp only [List.length_append]; first | omega | (simp only [List.length_cons, List.length_nil]; omega), hide (.inl (by simp; skip)), HW5⟩
              · have h45' : Thr.one s k 45 = false := by simpa using h45
                rw [h45'] at hs45
                rw [if_neg (fun h => h45 h.1)] at hR
                have HS45 := hide hs45; have HS93 := hide hs93; have HR3 := hide hR
                clear hs45 hs93 h45 h45' hR
                go_wp2_with fail
                go_quiet ((first | (go_at_call_of 51 (Value.string { data := #[45, 93] }); exact Calls.quiet_of (unhide HS93 _ ((unhide HW4).at_.drewN _))) | (go_at_call 51; exact Calls.quiet_of (unhide HS45 _ ((unhide HW4).at_.drewN _)))))
                go_wp2_with
                 ((at_builtin; refine wpList_append_lies _ (by rfl) _ _ _ (by rfl) (w.heap.size + 2) 65 i0 _ 2 16 Tryd.underlying23 hi0 hz0 hz1 hz2 rfl (by omega) (.slice Ao acc.length co) acc.length (rangeCells acc) (by rfl)
                      (by exact own_step (unhide HW4).own (fun j hj => (below_alloc' (below_drewN (Below.refl w4.heap.size w4) _) _).block j (own_lt (unhide HW4).own j hj).2)) ⟨w4.heap.size, 0, none⟩ 1 _ [.int .i64 lo, .int .i64 lo]
                      (by rfl) (by rfl) (by exact World.news_of_block (cs := #[.int .i64 lo, .int .i64 lo]) (heap_alloc_new _ _))
                      (by simp [Value.oneCell']) (by omega) (by simp only [maxLen]; omega) (by omega) (by first | omega | (simp; omega)) _ (by rfl) ?_; intro go cap5 w5 hown5 hgrow hat5 hlt5; have cz := grown_cell hgrow (below_alloc' (below_drewN (Below.refl w4.heap.size w4) _) _) hzB (unhide HNO) n3; have fz := grown_frozen hgrow (below_alloc' (below_drewN (Below.refl w4.heap.size w4) _) _) hzB (unhide HNO) h3f; have hz5 := Nat.lt_of_lt_of_le hzB (grown_size hgrow (below_alloc' (below_drewN (Below.refl w4.heap.size w4) _) _))))
                have hW5 := (unhide HW4).app (l := [(lo, lo)]) (below_alloc' (below_drewN (Below.refl w4.heap.size w4) _) _) hgrow hown5 (by rfl)
                have HW5 := hide hW5
                clear hW5 hown5 hgrow hat5
                go_roundg f
                case measure => omega
                case rel => exact ⟨k, false, acc ++ [(lo, lo)], _, rfl, hkle.2, by omega, hide (by first | exact unhide HR3), hide (fun r hr => by
                  rcases List.mem_append.1 hr with hr | hr
                  · exact unhide HF r hr
                  · obtain rfl := List.mem_singleton.1 hr; exact ⟨hlo.1, Int.le_refl _, hlo.2⟩), by simp only [List.length_append]; first | omega | (simp only [List.length_cons, List.length_nil]; omega), hide (.inl (by simp; skip)), HW5⟩
        | false =>
          have hone : Thr.one s j 93 = false := by simpa using hend
          rw [hone] at hsee
          have HSEE := hide hsee
          clear hsee hone hend
          go_wp2_with fail
          refine (unhide HSEE).mono ?_
          rintro e w2 ⟨rfl, m2, hw2⟩
          have HW2 := hide ((unhide HW).below (show Below wr.heap.size wr w2 by rw [hw2]; exact below_drewN (Below.refl _ _) _))
          clear hw2
          go_wp2_with fail
          by_cases hnm : two s j 91 58 = true
          · rw [if_pos hnm] at hR
            have hnc := named_calls from_ w2 (unhide HW2).at_ ((unhide HG) w2 (unhide HW2).kept) hj hm hnm
            refine hnc.mono ?_
            clear hnc
            cases hnf : namedF s j with
            | none =>
              rw [hnf] at hR
              have hO := unhide HO
              rw [← hR] at hO
              simp only at hO
              subst hO
              rintro e w3 ⟨rfl, hk3⟩
              exact ⟨rfl, rfl, (unhide HW2).kept.trans hk3 (fun _ _ h => h)⟩
            | some r =>
              obtain ⟨l, k⟩ := r
              rw [hnf] at hR
              simp only at hR
              rintro e w3 ⟨b, rfl, hb0, hst3, hP3, hk3⟩
              have hkle := named_le hnf
              obtain ⟨hne, hfew, hfine⟩ := named_some hnf
              have hlpos : 0 < l.length := List.length_pos_iff.2 hne
              have hW3 := (unhide HW2).move hk3 hP3
              have HNW := hide (set_news hst3)
              obtain ⟨Ao, co, rfl⟩ := own_form hW3.own
              have n3 := hW3.node.cell 3
              have h3f := hW3.node.frozen 3
              have hzB : w.heap.size + 1 < w3.heap.size := hW3.node.lt
              have hzB' : w.heap.size < w3.heap.size := by omega
              have HNO := hide (own_blk_ne hW3.own hW3.node (by decide))
              simp at n3
              have HW3 := hide hW3
              have HR3 := hide hR; have HFI := hide hfine; have HNE3 := hide hne
              clear hW3 hst3 hP3 hk3 hR hfine hne hnm hnf
              go_wp2_with
               ((at_builtin; refine wpList_append_lies _ (by rfl) _ _ _ (by rfl) (w.heap.size + 2) 65 i0 _ 2 16 Tryd.underlying23 hi0 hz0 hz1 hz2 rfl (by omega) (.slice Ao acc.length co) acc.length (rangeCells acc) (by rfl)
                    (by exact own_step (unhide HW3).own (fun j hj => (Below.refl w3.heap.size w3).block j (own_lt (unhide HW3).own j hj).2)) ⟨b, 0, none⟩ l.length _ (rangeCells l)
                    (by rfl) (by exact rangeCells_len l) (by exact unhide HNW)
                    (by exact range_oneCell l) (by omega) (by simp only [maxLen]; omega) (by omega) (by first | omega | (simp; omega)) _ (by rfl) ?_; intro go cap5 w5 hown5 hgrow hat5 hlt5; have cz := grown_cell hgrow (Below.refl w3.heap.size w3) hzB (unhide HNO) n3; have fz := grown_frozen hgrow (Below.refl w3.heap.size w3) hzB (unhide HNO) h3f; have hz5 := Nat.lt_of_lt_of_le hzB (grown_size hgrow (Below.refl w3.heap.size w3))))
              have hW5 := (unhide HW3).app (l := l) (Below.refl w3.heap.size w3) hgrow hown5 (by rfl)
              have HW5 := hide hW5
              clear hW5 hown5 hgrow hat5
              go_roundg f
              case measure => omega
              case rel => exact ⟨k, false, acc ++ l, _, rfl, hkle.2, by omega, hide (by first | exact unhide HR3), hide (fun r hr => by
                rcases List.mem_append.1 hr with hr | hr
                · exact unhide HF r hr
                · exact unhide HFI r hr), by simp only [List.length_append]; first | omega | (simp only [List.length_cons, List.length_nil]; omega), hide (.inl (by simp; exact fun _ => unhide HNE3)), HW5⟩
          · rw [if_neg hnm] at hR
            refine (named_none from_ w2 (unhide HW2).at_ hj hm (by simpa using hnm)).mono ?_
            rintro e w3 ⟨rfl, hb3⟩
            have HW3 := hide ((unhide HW2).below hb3)
            clear hb3 hnm
            go_wp2_with fail
            refine (member_calls from_ w3 (unhide HW3).at_ ((unhide HG) w3 (unhide HW3).kept).tabs hj hm).mono ?_
            cases hmf : memberF s j bytes with
            | none =>
              rw [hmf] at hR
              have hO := unhide HO
              rw [← hR] at hO
              simp only at hO
              subst hO
              rintro e w4 ⟨rfl, hk4⟩
              exact ⟨rfl, rfl, (unhide HW3).kept.trans hk4 (fun _ _ h => h)⟩
            | some r =>
              obtain ⟨lo, k⟩ := r
              rw [hmf] at hR
              simp only at hR
              rintro e w4 ⟨rfl, hP4, hk4⟩
              have hkle := member_le (unhide HZ) hmf
              have hlo := member_range (unhide HZ) hmf
              have hW4 := (unhide HW3).move hk4 hP4
              have q0 := hP4.cell 0
              have q1 := hP4.cell 1
              have g1 := hP4.frozen 1
              have hbp4 := hP4.lt
              simp at q0 q1
              obtain ⟨Ao, co, rfl⟩ := own_form hW4.own
              have n3 := hW4.node.cell 3
              have h3f := hW4.node.frozen 3
              have hzB : w.heap.size + 1 < w4.heap.size := hW4.node.lt
              have hzB' : w.heap.size < w4.heap.size := by omega
              have HNO := hide (own_blk_ne hW4.own hW4.node (by decide))
              simp at n3
              have HW4 := hide hW4
              have hs45 := fun W (hP : PAt W bp s k bytes nest) => see_quiet (lit [45]) W hP hkle.2 hm
              rw [see_one, show ((45 : UInt8).toNat : Int) = 45 from rfl] at hs45
              have hs93 := fun W (hP : PAt W bp s k bytes nest) => see_quiet (lit [45, 93]) W hP hkle.2 hm
              rw [see_two, show ((45 : UInt8).toNat : Int) = 45 from rfl, show ((93 : UInt8).toNat : Int) = 93 from rfl] at hs93
              clear hW4 hP4 hk4 hmf
              by_cases h45 : Thr.one s k 45 = true
              · rw [h45] at hs45
                by_cases h93 : two s k 45 93 = true
                · rw [h93] at hs93
                  rw [if_neg (by have h := h93; simp [two] at h; intro h'; exact h'.2.2 h.2.2)] at hR
                  have HS45 := hide hs45; have HS93 := hide hs93; have HR3 := hide hR
                  clear hs45 hs93 h45 h93 hR
                  go_wp2_with fail
                  go_quiet ((first | (go_at_call_of 51 (Value.string { data := #[45, 93] }); exact Calls.quiet_of (unhide HS93 _ ((unhide HW4).at_.drewN _))) | (go_at_call 51; exact Calls.quiet_of (unhide HS45 _ ((unhide HW4).at_.drewN _)))))
                  go_wp2_with
                   ((at_builtin; refine wpList_append_lies _ (by rfl) _ _ _ (by rfl) (w.heap.size + 2) 65 i0 _ 2 16 Tryd.underlying23 hi0 hz0 hz1 hz2 rfl (by omega) (.slice Ao acc.length co) acc.length (rangeCells acc) (by rfl)
                        (by exact own_step (unhide HW4).own (fun j hj => (below_alloc' (below_drewN (Below.refl w4.heap.size w4) _) _).block j (own_lt (unhide HW4).own j hj).2)) ⟨w4.heap.size, 0, none⟩ 1 _ [.int .i64 lo, .int .i64 lo]
                        (by rfl) (by rfl) (by exact World.news_of_block (cs := #[.int .i64 lo, .int .i64 lo]) (heap_alloc_new _ _))
                        (by simp [Value.oneCell']) (by omega) (by simp only [maxLen]; omega) (by omega) (by first | omega | (simp; omega)) _ (by rfl) ?_; intro go cap5 w5 hown5 hgrow hat5 hlt5; have cz := grown_cell hgrow (below_alloc' (below_drewN (Below.refl w4.heap.size w4) _) _) hzB (unhide HNO) n3; have fz := grown_frozen hgrow (below_alloc' (below_drewN (Below.refl w4.heap.size w4) _) _) hzB (unhide HNO) h3f; have hz5 := Nat.lt_of_lt_of_le hzB (grown_size hgrow (below_alloc' (below_drewN (Below.refl w4.heap.size w4) _) _))))
                  have hW5 := (unhide HW4).app (l := [(lo, lo)]) (below_alloc' (below_drewN (Below.refl w4.heap.size w4) _) _) hgrow hown5 (by rfl)
                  have HW5 := hide hW5
                  clear hW5 hown5 hgrow hat5
                  go_roundg f
                  case measure => omega
                  case rel => exact ⟨k, false, acc ++ [(lo, lo)], _, rfl, hkle.2, by omega, hide (by first | exact unhide HR3), hide (fun r hr => by
                    rcases List.mem_append.1 hr with hr | hr
                    · exact unhide HF r hr
                    · obtain rfl := List.mem_singleton.1 hr; exact ⟨hlo.1, Int.le_refl _, hlo.2⟩), by simp only [List.length_append]; first | omega | (simp only [List.length_cons, List.length_nil]; omega), hide (.inl (by simp; skip)), HW5⟩
                · have h93' : two s k 45 93 = false := by simpa using h93
                  rw [h93'] at hs93
                  by_cases hsz : k + 1 < s.size
                  · have hlt2 : decide ((k : Int) + 1 < s.size) = true := decide_eq_true (by omega)
                    rw [if_pos ⟨h45, hsz, by have h := h45; simp [Thr.one] at h; intro h'; simp [two, h.2, h', hsz] at h93'⟩] at hR
                    have hP5 : ∀ n, PAt ((w4.drewN n).setCell ⟨bp, 1, none⟩ (.int .i64 ((k : Int) + 1))) bp s (k + 1) bytes nest := fun n => by
                      exact PAt.go_on (w := w4.drewN n) (Blk.drewN (unhide HW4).at_ n) (k + 1)
                    have hW5 : ∀ n, SetW w ((w4.drewN n).setCell ⟨bp, 1, none⟩ (.int .i64 ((k : Int) + 1))) bp w.heap.size s bytes nest false (k + 1) (.slice Ao acc.length co) acc := fun n => (unhide HW4).move (((Keeps.refl (fun k => k = bp) _).drewN n).setCell (p := ⟨bp, 1, none⟩) (.inl rfl) _) (hP5 n)
                    have HS45 := hide hs45; have HS93 := hide hs93; have HW5 := hide hW5
                    clear hs45 hs93 h45 h93 h93' hP5 hW5
                    go_wp2_with fail
                    go_quiet ((first | (go_at_call_of 51 (Value.string { data := #[45, 93] }); exact Calls.quiet_of (unhide HS93 _ ((unhide HW4).at_.drewN _))) | (go_at_call 51; exact Calls.quiet_of (unhide HS45 _ ((unhide HW4).at_.drewN _)))))
                    go_wp2_with fail
                    refine (see_quiet (lit [91, 58]) _ ((unhide HW5) _).at_ (by omega) hm).mono ?_
                    rw [see_two, show ((91 : UInt8).toNat : Int) = 91 from rfl, show ((58 : UInt8).toNat : Int) = 58 from rfl]
                    rintro e w6 ⟨rfl, m6, hw6⟩
                    have hW6 := ((unhide HW5) nq).below (show Below _ _ w6 by rw [hw6]; exact below_drewN (Below.refl _ _) _)
                    have HW6 := hide hW6
                    clear hW6 hw6 n3 h3f hzB hzB' HNO q0 q1 g1 hbp4
                    by_cases h58 : two s (k + 1) 91 58 = true
                    · rw [if_pos h58] at hR
                      rw [h58]
                      have hO := unhide HO
                      rw [← hR] at hO
                      simp only at hO
                      subst hO
                      clear hR
                      go_wp2_with fail
                      refine (fail_calls _ _ _ _).mono ?_
                      rintro e w7 ⟨rfl, hw⟩
                      obtain rfl := hw.symm
                      exact ⟨rfl, rfl, (unhide HW6).kept⟩
                    · have h58' : two s (k + 1) 91 58 = false := by simpa using h58
                      rw [if_neg h58] at hR
                      rw [h58']
                      clear h58 h58'
                      go_wp2_with fail
                      refine (member_calls from_ w6 (unhide HW6).at_ ((unhide HG) w6 (unhide HW6).kept).tabs (by omega) hm).mono ?_
                      cases hmf : memberF s (k + 1) bytes with
                      | none =>
                        rw [hmf] at hR
                        have hO := unhide HO
                        rw [← hR] at hO
                        simp only at hO
                        subst hO
                        rintro e w7 ⟨rfl, hk7⟩
                        exact ⟨rfl, rfl, (unhide HW6).kept.trans hk7 (fun _ _ h => h)⟩
                      | some r =>
                        obtain ⟨hi', k'⟩ := r
                        rw [hmf] at hR
                        simp only at hR
                        rintro e w7 ⟨rfl, hP7, hk7⟩
                        have hkle2 := member_le (unhide HZ) hmf
                        have hhi := member_range (unhide HZ) hmf
                        have hW7 := (unhide HW6).move hk7 hP7
                        clear hP7 hk7 hmf
                        by_cases hlh : hi' < lo
                        · have hlh' : decide (hi' < lo) = true := decide_eq_true hlh
                          rw [if_pos hlh] at hR
                          have hO := unhide HO
                          rw [← hR] at hO
                          simp only at hO
                          subst hO
                          have HW7 := hide hW7
                          clear hlh hR hW7
                          go_wp2_with fail
                          refine (fail_calls _ _ _ _).mono ?_
                          rintro e w8 ⟨rfl, hw⟩
                          obtain rfl := hw.symm
                          exact ⟨rfl, rfl, (unhide HW7).kept⟩
                        · have hlh' : decide (hi' < lo) = false := decide_eq_false hlh
                          have hle2 : lo ≤ hi' := by omega
                          rw [if_neg hlh] at hR
                          have n3 := hW7.node.cell 3
                          have h3f := hW7.node.frozen 3
                          have hzB : w.heap.size + 1 < w7.heap.size := hW7.node.lt
                          have hzB' : w.heap.size < w7.heap.size := by omega
                          have HNO := hide (own_blk_ne hW7.own hW7.node (by decide))
                          simp at n3
                          have HW7 := hide hW7; have HR3 := hide hR
                          clear hW7 hR hlh
                          go_wp2_with
                           ((at_builtin; refine wpList_append_lies _ (by rfl) _ _ _ (by rfl) (w.heap.size + 2) 65 i0 _ 2 16 Tryd.underlying23 hi0 hz0 hz1 hz2 rfl (by omega) (.slice Ao acc.length co) acc.length (rangeCells acc) (by rfl)
                                (by exact own_step (unhide HW7).own (fun j hj => (below_alloc' (Below.refl w7.heap.size w7) _).block j (own_lt (unhide HW7).own j hj).2)) ⟨w7.heap.size, 0, none⟩ 1 _ [.int .i64 lo, .int .i64 hi']
                                (by rfl) (by rfl) (by exact World.news_of_block (cs := #[.int .i64 lo, .int .i64 hi']) (heap_alloc_new _ _))
                                (by simp [Value.oneCell']) (by omega) (by simp only [maxLen]; omega) (by omega) (by first | omega | (simp; omega)) _ (by rfl) ?_; intro go cap5 w5 hown5 hgrow hat5 hlt5; have cz := grown_cell hgrow (below_alloc' (Below.refl w7.heap.size w7) _) hzB (unhide HNO) n3; have fz := grown_frozen hgrow (below_alloc' (Below.refl w7.heap.size w7) _) hzB (unhide HNO) h3f; have hz5 := Nat.lt_of_lt_of_le hzB (grown_size hgrow (below_alloc' (Below.refl w7.heap.size w7) _))))
                          have hW5 := (unhide HW7).app (l := [(lo, hi')]) (below_alloc' (Below.refl w7.heap.size w7) _) hgrow hown5 (by rfl)
                          have HW5 := hide hW5
                          clear hW5 hown5 hgrow hat5
                          go_roundg f
                          case measure => omega
                          case rel => exact ⟨k', false, acc ++ [(lo, hi')], _, rfl, hkle2.2, by omega, hide (by first | exact unhide HR3), hide (fun r hr => by
                            rcases List.mem_append.1 hr with hr | hr
                            · exact unhide HF r hr
                            · obtain rfl := List.mem_singleton.1 hr; exact ⟨hlo.1, hle2, hhi.2⟩), by simp only [List.length_append]; first | omega | (simp only [List.length_cons, List.length_nil]; omega), hide (.inl (by simp; skip)), HW5⟩
                  · have hlt2 : decide ((k : Int) + 1 < s.size) = false := decide_eq_false (by omega)
                    rw [if_neg (fun h => hsz h.2.1)] at hR
                    have HS45 := hide hs45; have HS93 := hide hs93; have HR3 := hide hR
                    clear hs45 hs93 h45 h93 h93' hR hsz
                    go_wp2_with fail
                    go_quiet ((first | (go_at_call_of 51 (Value.string { data := #[45, 93] }); exact Calls.quiet_of (unhide HS93 _ ((unhide HW4).at_.drewN _))) | (go_at_call 51; exact Calls.quiet_of (unhide HS45 _ ((unhide HW4).at_.drewN _)))))
                    go_wp2_with
                     ((at_builtin; refine wpList_append_lies _ (by rfl) _ _ _ (by rfl) (w.heap.size + 2) 65 i0 _ 2 16 Tryd.underlying23 hi0 hz0 hz1 hz2 rfl (by omega) (.slice Ao acc.length co) acc.length (rangeCells acc) (by rfl)
                          (by exact own_step (unhide HW4).own (fun j hj => (below_alloc' (below_drewN (Below.refl w4.heap.size w4) _) _).block j (own_lt (unhide HW4).own j hj).2)) ⟨w4.heap.size, 0, none⟩ 1 _ [.int .i64 lo, .int .i64 lo]
                          (by rfl) (by rfl) (by exact World.news_of_block (cs := #[.int .i64 lo, .int .i64 lo]) (heap_alloc_new _ _))
                          (by simp [Value.oneCell']) (by omega) (by simp only [maxLen]; omega) (by omega) (by first | omega | (simp; omega)) _ (by rfl) ?_; intro go cap5 w5 hown5 hgrow hat5 hlt5; have cz := grown_cell hgrow (below_alloc' (below_drewN (Below.refl w4.heap.size w4) _) _) hzB (unhide HNO) n3; have fz := grown_frozen hgrow (below_alloc' (below_drewN (Below.refl w4.heap.size w4) _) _) hzB (unhide HNO) h3f; have hz5 := Nat.lt_of_lt_of_le hzB (grown_size hgrow (below_alloc' (below_drewN (Below.refl w4.heap.size w4) _) _))))
                    have hW5 := (unhide HW4).app (l := [(lo, lo)]) (below_alloc' (below_drewN (Below.refl w4.heap.size w4) _) _) hgrow hown5 (by rfl)
                    have HW5 := hide hW5
                    clear hW5 hown5 hgrow hat5
                    go_roundg f
                    case measure => omega
                    case rel => exact ⟨k, false, acc ++ [(lo, lo)], _, rfl, hkle.2, by omega, hide (by first | exact unhide HR3), hide (fun r hr => by
                      rcases List.mem_append.1 hr with hr | hr
                      · exact unhide HF r hr
                      · obtain rfl := List.mem_singleton.1 hr; exact ⟨hlo.1, Int.le_refl _, hlo.2⟩), by simp only [List.length_append]; first | omega | (simp only [List.length_cons, List.length_nil]; omega), hide (.inl (by simp; skip)), HW5⟩
              · have h45' : Thr.one s k 45 = false := by simpa using h45
                rw [h45'] at hs45
                rw [if_neg (fun h => h45 h.1)] at hR
                have HS45 := hide hs45; have HS93 := hide hs93; have HR3 := hide hR
                clear hs45 hs93 h45 h45' hR
                go_wp2_with fail
                go_quiet ((first | (go_at_call_of 51 (Value.string { data := #[45, 93] }); exact Calls.quiet_of (unhide HS93 _ ((unhide HW4).at_.drewN _))) | (go_at_call 51; exact Calls.quiet_of (unhide HS45 _ ((unhide HW4).at_.drewN _)))))
                go_wp2_with
                 ((at_builtin; refine wpList_append_lies _ (by rfl) _ _ _ (by rfl) (w.heap.size + 2) 65 i0 _ 2 16 Tryd.underlying23 hi0 hz0 hz1 hz2 rfl (by omega) (.slice Ao acc.length co) acc.length (rangeCells acc) (by rfl)
                      (by exact own_step (unhide HW4).own (fun j hj => (below_alloc' (below_drewN (Below.refl w4.heap.size w4) _) _).block j (own_lt (unhide HW4).own j hj).2)) ⟨w4.heap.size, 0, none⟩ 1 _ [.int .i64 lo, .int .i64 lo]
                      (by rfl) (by rfl) (by exact World.news_of_block (cs := #[.int .i64 lo, .int .i64 lo]) (heap_alloc_new _ _))
                      (by simp [Value.oneCell']) (by omega) (by simp only [maxLen]; omega) (by omega) (by first | omega | (simp; omega)) _ (by rfl) ?_; intro go cap5 w5 hown5 hgrow hat5 hlt5; have cz := grown_cell hgrow (below_alloc' (below_drewN (Below.refl w4.heap.size w4) _) _) hzB (unhide HNO) n3; have fz := grown_frozen hgrow (below_alloc' (below_drewN (Below.refl w4.heap.size w4) _) _) hzB (unhide HNO) h3f; have hz5 := Nat.lt_of_lt_of_le hzB (grown_size hgrow (below_alloc' (below_drewN (Below.refl w4.heap.size w4) _) _))))
                have hW5 := (unhide HW4).app (l := [(lo, lo)]) (below_alloc' (below_drewN (Below.refl w4.heap.size w4) _) _) hgrow hown5 (by rfl)
                have HW5 := hide hW5
                clear hW5 hown5 hgrow hat5
                go_roundg f
                case measure => omega
                case rel => exact ⟨k, false, acc ++ [(lo, lo)], _, rfl, hkle.2, by omega, hide (by first | exact unhide HR3), hide (fun r hr => by
                  rcases List.mem_append.1 hr with hr | hr
                  · exact unhide HF r hr
                  · obtain rfl := List.mem_singleton.1 hr; exact ⟨hlo.1, Int.le_refl _, hlo.2⟩), by simp only [List.length_append]; first | omega | (simp only [List.length_cons, List.length_nil]; omega), hide (.inl (by simp; skip)), HW5⟩
  | true =>
    rw [if_pos rfl] at hO
    have hst : i + 2 ≤ s.size := by have h := hN; simp [Thr.one] at h; omega
    obtain ⟨st, hste⟩ : ∃ st, st = i + 2 := ⟨_, rfl⟩
    rw [← hste] at hO hst
    obtain ⟨O', hO'⟩ : ∃ O', setsF s bytes (s.size + 1) st true [] = O' := ⟨_, rfl⟩
    rw [hO'] at hO
    have HO' := hide hO'; have HO := hide hO
    clear hO' hO hN
    go_enter Tryd.func69, Tryd.ntmps69
    go_wp2_with fail
    refine (unhide HS1 _ ((unhide HP).below (by repeat (first | exact Below.refl _ _ | assumption | refine below_drewN ?_ _ | refine Below.drew ?_ | refine below_alloc' ?_ _)))).mono ?_
    rintro e w1 ⟨rfl, mm, hw1⟩
    have hw1b : Below w.heap.size w w1 := by rw [hw1]; exact below_drewN (by repeat (first | exact Below.refl _ _ | assumption | refine below_drewN ?_ _ | refine Below.drew ?_ | refine below_alloc' ?_ _)) _
    have hr1 : Blk w1 w.heap.size 26 zero7 := by
      rw [hw1]
      exact ((Blk.new w 26 zero7).alloc _).drewN _
    have hn1 : Blk w1 (w.heap.size + 1) 26 #[.int .i64 4, .int .i64 0, .bool false, .slice none 0 0, .int .i64 0, .int .i64 0, .slice none 0 0] := by
      rw [hw1]
      refine Blk.drewN ?_ _
      have := Blk.new (w.alloc (.cells zero7 26)) 26 #[.int .i64 4, .int .i64 0, .bool false, .slice none 0 0, .int .i64 0, .int .i64 0, .slice none 0 0]
      simpa [zero7] using this
    clear hw1
    have hP1 := (unhide HP).below hw1b
    have q1 := hP1.cell 1
    have g1 := hP1.frozen 1
    have hbp1 := hP1.lt
    have hz1' : w.heap.size + 1 < w1.heap.size := hn1.lt
    have hz1'' : w.heap.size < w1.heap.size := by omega
    have n2 := hn1.cell 2
    have h2f := hn1.frozen 2
    simp at q1 n2
    have HR1 := hide hr1; have HN1 := hide hn1; have HB1 := hide hw1b; have HP1 := hide hP1
    clear hr1 hn1 hw1b hP1
    go_wp2_with fail
    have hsw : ∀ W, W.heap = ((w1.setCell ⟨bp, 1, none⟩ (.int .i64 ((i : Int) + 1 + 1))).setCell ⟨w.heap.size + 1, 2, none⟩ (.bool true)).heap → W.os = w1.os → W.tape = w1.tape → W.output = w1.output → SetW w W bp w.heap.size s bytes nest true st (.slice none 0 0) [] := by
      intro W h1 h2 h3 h4
      have hb := Keeps.of_below (unhide HB1) (fun k => k = bp)
      have hk := (hb.setCell (p := ⟨bp, 1, none⟩) (.inl rfl) (.int .i64 ((i : Int) + 1 + 1))).setCell (p := ⟨w.heap.size + 1, 2, none⟩) (.inr (by simp only; omega)) (.bool true)
      have e : ((i : Int) + 1 + 1) = ((st : Nat) : Int) := by omega
      refine ⟨?_, ?_, ?_, World.ownsRow_nil _ _ _ _, ⟨h2.trans hk.os, h3.trans hk.tape, h4.trans hk.output, by rw [h1]; exact hk.size, fun k hk1 hk2 => by rw [h1]; exact hk.block k hk1 hk2⟩, rfl, hbp⟩
      · unfold Blk; rw [h1]; exact ((unhide HR1).far (by simp only; omega) _).far (by simp) _
      · unfold Blk; rw [h1]
        have := ((unhide HN1).far (p := ⟨bp, 1, none⟩) (by simp only; omega) (.int .i64 ((i : Int) + 1 + 1))).set_ 2 (.bool true)
        simp at this
        exact this
      · unfold PAt Blk; rw [h1, e]
        exact ((unhide HP1).go_on st).far (p := ⟨w.heap.size + 1, 2, none⟩) (by simp only; omega) _
    have HSW := hide hsw
    clear hsw n2 h2f q1 g1 c0 c1 f1
    go_loopg [6] (s.size + 1) (fun kx first_ wr => ∃ (j : Nat) (first : Bool) (acc : List (Int × Int)) (vS : Value), first_ = .bool first ∧ j ≤ s.size ∧ s.size - j < kx ∧ Hid (setsF s bytes kx j first acc = O') ∧ Hid (∀ r ∈ acc, fineR r) ∧ acc.length ≤ 4 * j ∧ Hid (acc ≠ [] ∨ first = true) ∧ Hid (SetW w wr bp w.heap.size s bytes nest true j vS acc))
    case atStart => exact ⟨st, true, [], .slice none 0 0, rfl, hst, by omega, HO', hide (by intro r hr; cases hr), by simp, hide (.inr rfl), hide (by exact (unhide HSW) _ rfl rfl rfl rfl)⟩
    case round =>
      obtain ⟨j, first, acc, vS, rfl, hj, hjk, HR, HF, hacc, HNE, HW⟩ := hrel
      clear HSW HR1 HN1 HB1 HP1 hz1' hz1'' hbp1
      obtain ⟨f, rfl⟩ : ∃ f, gk = f + 1 := ⟨gk - 1, by omega⟩
      have hR := unhide HR
      simp only [setsF] at hR
      have hsee := see_quiet (lit [93]) wr (unhide HW).at_ hj hm
      rw [see_one, show ((93 : UInt8).toNat : Int) = 93 from rfl] at hsee
      by_cases hend : first = false ∧ Thr.one s j 93 = true
      · obtain ⟨rfl, hone⟩ := hend
        rw [if_pos ⟨rfl, hone⟩] at hR
        rw [hone] at hsee
        obtain rfl := hR.symm
        have hO := unhide HO
        simp only at hO
        subst hO
        have hjl : j < s.size := by have h := hone; simp [Thr.one] at h; exact h.1
        have HSEE := hide hsee
        clear hsee hone HR
        go_wp2_with fail
        refine (unhide HSEE).mono ?_
        rintro e w2 ⟨rfl, m2, hw2⟩
        have hw2b : Below wr.heap.size wr w2 := by rw [hw2]; exact below_drewN (Below.refl _ _) _
        have hW2 := (unhide HW).below hw2b
        clear hw2 hw2b
        have q1 := hW2.at_.cell 1
        have g1 := hW2.at_.frozen 1
        have hbp2 := hW2.at_.lt
        obtain ⟨Ao, co, rfl⟩ := own_form hW2.own
        have n3 := hW2.node.cell 3
        have h3f := hW2.node.frozen 3
        have hz2 : w.heap.size + 1 < w2.heap.size := hW2.node.lt
        have hz2' : w.heap.size < w2.heap.size := by omega
        have hbn : bp ≠ w.heap.size + 1 := by omega
        simp at q1 n3
        have hW3 := hW2.move (W' := w2.setCell ⟨bp, 1, none⟩ (.int .i64 ((j + 1 : Nat) : Int))) ((Keeps.refl (fun k => k = bp) _).setCell (p := ⟨bp, 1, none⟩) (.inl rfl) _) (hW2.at_.go_on (j + 1))
        rw [show ((j + 1 : Nat) : Int) = (j : Int) + 1 by omega] at hW3
        have hmg := fun W (e : W.heap = (w2.setCell ⟨bp, 1, none⟩ (.int .i64 ((j : Int) + 1))).heap) => merged_calls (base := w.heap.size + 2) acc (.slice Ao acc.length co) W (own_step hW3.own (fun k _ => by rw [e])) ((unhide HNE).resolve_right (by simp)) (fun r hr => (unhide HF r hr).2.1) (fun r hr => by have := unhide HF r hr; unfold fineR at this; unfold inB; omega) (by omega)
        have HMG := hide hmg; have HW3 := hide hW3
        clear hW2 hW3 hmg
        go_wp2_with fail
        refine (unhide HMG _ rfl).mono ?_
        rintro e w4 ⟨vo, rfl, hset, hk4⟩
        have hW3' := unhide HW3
        have hown : ∀ k, (Value.slice Ao acc.length co).ownBlock = some k → w.heap.size + 2 ≤ k := fun k hk => (own_lt hW3'.own k hk).1
        have hr4 := hW3'.res.keeps hk4 (fun e => by have := hown _ e; omega)
        have hn4 := hW3'.node.keeps hk4 (fun e => by have := hown _ e; omega)
        have hp4 : PAt w4 bp s (j + 1) bytes nest := Blk.keeps hW3'.at_ hk4 (fun e => by have := hown _ e; omega)
        have hkk : Keeps (fun k => k = bp) w w4 := hW3'.kept.trans (S' := fun k => w.heap.size + 2 ≤ k) (hk4.mono (fun k _ hk => hown k hk)) (fun k h1 h2 => by omega)
        have hz4 : w2.heap.size ≤ w4.heap.size := by have := hk4.size; simpa using this
        obtain ⟨⟨r0, r1, r2, r3, r4, r5, r6⟩, p0, p1, p2, p3, p4, p5, p6⟩ := hr4.seven
        obtain ⟨⟨t0, t1, t2, t3, t4, t5, t6⟩, u0, u1, u2, u3, u4, u5, u6⟩ := hn4.seven
        have hset' : SetAt (fun k => w2.heap.size ≤ k) w4 vo (acc.foldl withR []) := hset.mono (fun k hk => by simpa using hk)
        obtain ⟨Av, lv, cv, rfl⟩ : ∃ Av lv cv, vo = .slice Av lv cv := by obtain ⟨A, c, h, _⟩ := hset'; exact ⟨_, _, _, h⟩
        have HR4 := hide hr4; have HN4 := hide hn4; have HP4 := hide hp4; have HKK := hide hkk; have HSET := hide hset'
        have hz4' : w.heap.size + 1 < w4.heap.size := by omega
        have hz4'' : w.heap.size < w4.heap.size := by omega
        clear hr4 hn4 hp4 hkk hset hset' hk4 hW3' hown n3 h3f q1 g1
        go_wp2_with fail
        refine bodyPost_ret (results_cell rfl rfl (load7 (Blk.put7 (((unhide HR4).far (p := ⟨w.heap.size + 1, 3, none⟩) (by simp) _))))) rfl ?_
        refine ⟨_, rfl, tree_set _ _ _ ?_, PAt.put7 (Blk.far (unhide HP4) (p := ⟨w.heap.size + 1, 3, none⟩) (by simp only; omega) _) (by omega) _ _ _ _ _ _ _, ((unhide HKK).setCell (p := ⟨w.heap.size + 1, 3, none⟩) (.inr (by simp only; omega)) _).put7 (.inr (Nat.le_refl _)) _ _ _ _ _ _ _⟩
        exact SetAt.mono (SetAt.step (W := w4) (unhide HSET) (fun k hk _ => by
          have : w2.heap.size ≤ k := hk
          exact (heap_put7 _ _ _ _ _ _ _ _ _ k (by omega)).trans (Below.heap_setCell _ _ _ k (by simp only; omega)))) (fun k hk => by have : w2.heap.size ≤ k := hk; show w.heap.size ≤ k; omega)
      · rw [if_neg hend] at hR
        clear HR
        cases first with
        | true =>
          clear hsee hend
          have HW2 := hide (unhide HW)
          go_wp2_with fail
          by_cases hnm : two s j 91 58 = true
          · rw [if_pos hnm] at hR
            have hnc := named_calls from_ wr (unhide HW2).at_ ((unhide HG) wr (unhide HW2).kept) hj hm hnm
            refine hnc.mono ?_
            clear hnc
            cases hnf : namedF s j with
            | none =>
              rw [hnf] at hR
              have hO := unhide HO
              rw [← hR] at hO
              simp only at hO
              subst hO
              rintro e w3 ⟨rfl, hk3⟩
              exact ⟨rfl, rfl, (unhide HW2).kept.trans hk3 (fun _ _ h => h)⟩
            | some r =>
              obtain ⟨l, k⟩ := r
              rw [hnf] at hR
              simp only at hR
              rintro e w3 ⟨b, rfl, hb0, hst3, hP3, hk3⟩
              have hkle := named_le hnf
              obtain ⟨hne, hfew, hfine⟩ := named_some hnf
              have hlpos : 0 < l.length := List.length_pos_iff.2 hne
              have hW3 := (unhide HW2).move hk3 hP3
              have HNW := hide (set_news hst3)
              obtain ⟨Ao, co, rfl⟩ := own_form hW3.own
              have n3 := hW3.node.cell 3
              have h3f := hW3.node.frozen 3
              have hzB : w.heap.size + 1 < w3.heap.size := hW3.node.lt
              have hzB' : w.heap.size < w3.heap.size := by omega
              have HNO := hide (own_blk_ne hW3.own hW3.node (by decide))
              simp at n3
              have HW3 := hide hW3
              have HR3 := hide hR; have HFI := hide hfine; have HNE3 := hide hne
              clear hW3 hst3 hP3 hk3 hR hfine hne hnm hnf
              go_wp2_with
               ((at_builtin; refine wpList_append_lies _ (by rfl) _ _ _ (by rfl) (w.heap.size + 2) 65 i0 _ 2 16 Tryd.underlying23 hi0 hz0 hz1 hz2 rfl (by omega) (.slice Ao acc.length co) acc.length (rangeCells acc) (by rfl)
                    (by exact own_step (unhide HW3).own (fun j hj => (Below.refl w3.heap.size w3).block j (own_lt (unhide HW3).own j hj).2)) ⟨b, 0, none⟩ l.length _ (rangeCells l)
                    (by rfl) (by exact rangeCells_len l) (by exact unhide HNW)
                    (by exact range_oneCell l) (by omega) (by simp only [maxLen]; omega) (by omega) (by first | omega | (simp; omega)) _ (by rfl) ?_; intro go cap5 w5 hown5 hgrow hat5 hlt5; have cz := grown_cell hgrow (Below.refl w3.heap.size w3) hzB (unhide HNO) n3; have fz := grown_frozen hgrow (Below.refl w3.heap.size w3) hzB (unhide HNO) h3f; have hz5 := Nat.lt_of_lt_of_le hzB (grown_size hgrow (Below.refl w3.heap.size w3))))
              have hW5 := (unhide HW3).app (l := l) (Below.refl w3.heap.size w3) hgrow hown5 (by rfl)
              have HW5 := hide hW5
              clear hW5 hown5 hgrow hat5
              go_roundg f
              case measure => omega
              case rel => exact ⟨k, false, acc ++ l, _, rfl, hkle.2, by omega, hide (by first | exact unhide HR3), hide (fun r hr => by
                rcases List.mem_append.1 hr with hr | hr
                · exact unhide HF r hr
                · exact unhide HFI r hr), by simp only [List.length_append]; first | omega | (simp only [List.length_cons, List.length_nil]; omega), hide (.inl (by simp; exact fun _ => unhide HNE3)), HW5⟩
          · rw [if_neg hnm] at hR
            refine (named_none from_ wr (unhide HW2).at_ hj hm (by simpa using hnm)).mono ?_
            rintro e w3 ⟨rfl, hb3⟩
            have HW3 := hide ((unhide HW2).below hb3)
            clear hb3 hnm
            go_wp2_with fail
            refine (member_calls from_ w3 (unhide HW3).at_ ((unhide HG) w3 (unhide HW3).kept).tabs hj hm).mono ?_
            cases hmf : memberF s j bytes with
            | none =>
              rw [hmf] at hR
              have hO := unhide HO
              rw [← hR] at hO
              simp only at hO
              subst hO
              rintro e w4 ⟨rfl, hk4⟩
              exact ⟨rfl, rfl, (unhide HW3).kept.trans hk4 (fun _ _ h => h)⟩
            | some r =>
              obtain ⟨lo, k⟩ := r
              rw [hmf] at hR
              simp only at hR
              rintro e w4 ⟨rfl, hP4, hk4⟩
              have hkle := member_le (unhide HZ) hmf
              have hlo := member_range (unhide HZ) hmf
              have hW4 := (unhide HW3).move hk4 hP4
              have q0 := hP4.cell 0
              have q1 := hP4.cell 1
              have g1 := hP4.frozen 1
              have hbp4 := hP4.lt
              simp at q0 q1
              obtain ⟨Ao, co, rfl⟩ := own_form hW4.own
              have n3 := hW4.node.cell 3
              have h3f := hW4.node.frozen 3
              have hzB : w.heap.size + 1 < w4.heap.size := hW4.node.lt
              have hzB' : w.heap.size < w4.heap.size := by omega
              have HNO := hide (own_blk_ne hW4.own hW4.node (by decide))
              simp at n3
              have HW4 := hide hW4
              have hs45 := fun W (hP : PAt W bp s k bytes nest) => see_quiet (lit [45]) W hP hkle.2 hm
              rw [see_one, show ((45 : UInt8).toNat : Int) = 45 from rfl] at hs45
              have hs93 := fun W (hP : PAt W bp s k bytes nest) => see_quiet (lit [45, 93]) W hP hkle.2 hm
              rw [see_two, show ((45 : UInt8).toNat : Int) = 45 from rfl, show ((93 : UInt8).toNat : Int) = 93 from rfl] at hs93
              clear hW4 hP4 hk4 hmf
              by_cases h45 : Thr.one s k 45 = true
              · rw [h45] at hs45
                by_cases h93 : two s k 45 93 = true
                · rw [h93] at hs93
                  rw [if_neg (by have h := h93; simp [two] at h; intro h'; exact h'.2.2 h.2.2)] at hR
                  have HS45 := hide hs45; have HS93 := hide hs93; have HR3 := hide hR
                  clear hs45 hs93 h45 h93 hR
                  go_wp2_with fail
                  go_quiet ((first | (go_at_call_of 51 (Value.string { data := #[45, 93] }); exact Calls.quiet_of (unhide HS93 _ ((unhide HW4).at_.drewN _))) | (go_at_call 51; exact Calls.quiet_of (unhide HS45 _ ((unhide HW4).at_.drewN _)))))
                  go_wp2_with
                   ((at_builtin; refine wpList_append_lies _ (by rfl) _ _ _ (by rfl) (w.heap.size + 2) 65 i0 _ 2 16 Tryd.underlying23 hi0 hz0 hz1 hz2 rfl (by omega) (.slice Ao acc.length co) acc.length (rangeCells acc) (by rfl)
                        (by exact own_step (unhide HW4).own (fun j hj => (below_alloc' (below_drewN (Below.refl w4.heap.size w4) _) _).block j (own_lt (unhide HW4).own j hj).2)) ⟨w4.heap.size, 0, none⟩ 1 _ [.int .i64 lo, .int .i64 lo]
                        (by rfl) (by rfl) (by exact World.news_of_block (cs := #[.int .i64 lo, .int .i64 lo]) (heap_alloc_new _ _))
                        (by simp [Value.oneCell']) (by omega) (by simp only [maxLen]; omega) (by omega) (by first | omega | (simp; omega)) _ (by rfl) ?_; intro go cap5 w5 hown5 hgrow hat5 hlt5; have cz := grown_cell hgrow (below_alloc' (below_drewN (Below.refl w4.heap.size w4) _) _) hzB (unhide HNO) n3; have fz := grown_frozen hgrow (below_alloc' (below_drewN (Below.refl w4.heap.size w4) _) _) hzB (unhide HNO) h3f; have hz5 := Nat.lt_of_lt_of_le hzB (grown_size hgrow (below_alloc' (below_drewN (Below.refl w4.heap.size w4) _) _))))
                  have hW5 := (unhide HW4).app (l := [(lo, lo)]) (below_alloc' (below_drewN (Below.refl w4.heap.size w4) _) _) hgrow hown5 (by rfl)
                  have HW5 := hide hW5
                  clear hW5 hown5 hgrow hat5
                  go_roundg f
                  case measure => omega
                  case rel => exact ⟨k, false, acc ++ [(lo, lo)], _, rfl, hkle.2, by omega, hide (by first | exact unhide HR3), hide (fun r hr => by
                    rcases List.mem_append.1 hr with hr | hr
                    · exact unhide HF r hr
                    · obtain rfl := List.mem_singleton.1 hr; exact ⟨hlo.1, Int.le_refl _, hlo.2⟩), by simp only [List.length_append]; first | omega | (simp only [List.length_cons, List.length_nil]; omega), hide (.inl (by simp; skip)), HW5⟩
                · have h93' : two s k 45 93 = false := by simpa using h93
                  rw [h93'] at hs93
                  by_cases hsz : k + 1 < s.size
                  · have hlt2 : decide ((k : Int) + 1 < s.size) = true := decide_eq_true (by omega)
                    rw [if_pos ⟨h45, hsz, by have h := h45; simp [Thr.one] at h; intro h'; simp [two, h.2, h', hsz] at h93'⟩] at hR
                    have hP5 : ∀ n, PAt ((w4.drewN n).setCell ⟨bp, 1, none⟩ (.int .i64 ((k : Int) + 1))) bp s (k + 1) bytes nest := fun n => by
                      exact PAt.go_on (w := w4.drewN n) (Blk.drewN (unhide HW4).at_ n) (k + 1)
                    have hW5 : ∀ n, SetW w ((w4.drewN n).setCell ⟨bp, 1, none⟩ (.int .i64 ((k : Int) + 1))) bp w.heap.size s bytes nest true (k + 1) (.slice Ao acc.length co) acc := fun n => (unhide HW4).move (((Keeps.refl (fun k => k = bp) _).drewN n).setCell (p := ⟨bp, 1, none⟩) (.inl rfl) _) (hP5 n)
                    have HS45 := hide hs45; have HS93 := hide hs93; have HW5 := hide hW5
                    clear hs45 hs93 h45 h93 h93' hP5 hW5
                    go_wp2_with fail
                    go_quiet ((first | (go_at_call_of 51 (Value.string { data := #[45, 93] }); exact Calls.quiet_of (unhide HS93 _ ((unhide HW4).at_.drewN _))) | (go_at_call 51; exact Calls.quiet_of (unhide HS45 _ ((unhide HW4).at_.drewN _)))))
                    go_wp2_with fail
                    refine (see_quiet (lit [91, 58]) _ ((unhide HW5) _).at_ (by omega) hm).mono ?_
                    rw [see_two, show ((91 : UInt8).toNat : Int) = 91 from rfl, show ((58 : UInt8).toNat : Int) = 58 from rfl]
                    rintro e w6 ⟨rfl, m6, hw6⟩
                    have hW6 := ((unhide HW5) nq).below (show Below _ _ w6 by rw [hw6]; exact below_drewN (Below.refl _ _) _)
                    have HW6 := hide hW6
                    clear hW6 hw6 n3 h3f hzB hzB' HNO q0 q1 g1 hbp4
                    by_cases h58 : two s (k + 1) 91 58 = true
                    · rw [if_pos h58] at hR
                      rw [h58]
                      have hO := unhide HO
                      rw [← hR] at hO
                      simp only at hO
                      subst hO
                      clear hR
                      go_wp2_with fail
                      refine (fail_calls _ _ _ _).mono ?_
                      rintro e w7 ⟨rfl, hw⟩
                      obtain rfl := hw.symm
                      exact ⟨rfl, rfl, (unhide HW6).kept⟩
                    · have h58' : two s (k + 1) 91 58 = false := by simpa using h58
                      rw [if_neg h58] at hR
                      rw [h58']
                      clear h58 h58'
                      go_wp2_with fail
                      refine (member_calls from_ w6 (unhide HW6).at_ ((unhide HG) w6 (unhide HW6).kept).tabs (by omega) hm).mono ?_
                      cases hmf : memberF s (k + 1) bytes with
                      | none =>
                        rw [hmf] at hR
                        have hO := unhide HO
                        rw [← hR] at hO
                        simp only at hO
                        subst hO
                        rintro e w7 ⟨rfl, hk7⟩
                        exact ⟨rfl, rfl, (unhide HW6).kept.trans hk7 (fun _ _ h => h)⟩
                      | some r =>
                        obtain ⟨hi', k'⟩ := r
                        rw [hmf] at hR
                        simp only at hR
                        rintro e w7 ⟨rfl, hP7, hk7⟩
                        have hkle2 := member_le (unhide HZ) hmf
                        have hhi := member_range (unhide HZ) hmf
                        have hW7 := (unhide HW6).move hk7 hP7
                        clear hP7 hk7 hmf
                        by_cases hlh : hi' < lo
                        · have hlh' : decide (hi' < lo) = true := decide_eq_true hlh
                          rw [if_pos hlh] at hR
                          have hO := unhide HO
                          rw [← hR] at hO
                          simp only at hO
                          subst hO
                          have HW7 := hide hW7
                          clear hlh hR hW7
                          go_wp2_with fail
                          refine (fail_calls _ _ _ _).mono ?_
                          rintro e w8 ⟨rfl, hw⟩
                          obtain rfl := hw.symm
                          exact ⟨rfl, rfl, (unhide HW7).kept⟩
                        · have hlh' : decide (hi' < lo) = false := decide_eq_false hlh
                          have hle2 : lo ≤ hi' := by omega
                          rw [if_neg hlh] at hR
                          have n3 := hW7.node.cell 3
                          have h3f := hW7.node.frozen 3
                          have hzB : w.heap.size + 1 < w7.heap.size := hW7.node.lt
                          have hzB' : w.heap.size < w7.heap.size := by omega
                          have HNO := hide (own_blk_ne hW7.own hW7.node (by decide))
                          simp at n3
                          have HW7 := hide hW7; have HR3 := hide hR
                          clear hW7 hR hlh
                          go_wp2_with
                           ((at_builtin; refine wpList_append_lies _ (by rfl) _ _ _ (by rfl) (w.heap.size + 2) 65 i0 _ 2 16 Tryd.underlying23 hi0 hz0 hz1 hz2 rfl (by omega) (.slice Ao acc.length co) acc.length (rangeCells acc) (by rfl)
                                (by exact own_step (unhide HW7).own (fun j hj => (below_alloc' (Below.refl w7.heap.size w7) _).block j (own_lt (unhide HW7).own j hj).2)) ⟨w7.heap.size, 0, none⟩ 1 _ [.int .i64 lo, .int .i64 hi']
                                (by rfl) (by rfl) (by exact World.news_of_block (cs := #[.int .i64 lo, .int .i64 hi']) (heap_alloc_new _ _))
                                (by simp [Value.oneCell']) (by omega) (by simp only [maxLen]; omega) (by omega) (by first | omega | (simp; omega)) _ (by rfl) ?_; intro go cap5 w5 hown5 hgrow hat5 hlt5; have cz := grown_cell hgrow (below_alloc' (Below.refl w7.heap.size w7) _) hzB (unhide HNO) n3; have fz := grown_frozen hgrow (below_alloc' (Below.refl w7.heap.size w7) _) hzB (unhide HNO) h3f; have hz5 := Nat.lt_of_lt_of_le hzB (grown_size hgrow (below_alloc' (Below.refl w7.heap.size w7) _))))
                          have hW5 := (unhide HW7).app (l := [(lo, hi')]) (below_alloc' (Below.refl w7.heap.size w7) _) hgrow hown5 (by rfl)
                          have HW5 := hide hW5
                          clear hW5 hown5 hgrow hat5
                          go_roundg f
                          case measure => omega
                          case rel => exact ⟨k', false, acc ++ [(lo, hi')], _, rfl, hkle2.2, by omega, hide (by first | exact unhide HR3), hide (fun r hr => by
                            rcases List.mem_append.1 hr with hr | hr
                            · exact unhide HF r hr
                            · obtain rfl := List.mem_singleton.1 hr; exact ⟨hlo.1, hle2, hhi.2⟩), by simp only [List.length_append]; first | omega | (simp only [List.length_cons, List.length_nil]; omega), hide (.inl (by simp; skip)), HW5⟩
                  · have hlt2 : decide ((k : Int) + 1 < s.size) = false := decide_eq_false (by omega)
                    rw [if_neg (fun h => hsz h.2.1)] at hR
                    have HS45 := hide hs45; have HS93 := hide hs93; have HR3 := hide hR
                    clear hs45 hs93 h45 h93 h93' hR hsz
                    go_wp2_with fail
                    go_quiet ((first | (go_at_call_of 51 (Value.string { data := #[45, 93] }); exact Calls.quiet_of (unhide HS93 _ ((unhide HW4).at_.drewN _))) | (go_at_call 51; exact Calls.quiet_of (unhide HS45 _ ((unhide HW4).at_.drewN _)))))
                    go_wp2_with
                     ((at_builtin; refine wpList_append_lies _ (by rfl) _ _ _ (by rfl) (w.heap.size + 2) 65 i0 _ 2 16 Tryd.underlying23 hi0 hz0 hz1 hz2 rfl (by omega) (.slice Ao acc.length co) acc.length (rangeCells acc) (by rfl)
                          (by exact own_step (unhide HW4).own (fun j hj => (below_alloc' (below_drewN (Below.refl w4.heap.size w4) _) _).block j (own_lt (unhide HW4).own j hj).2)) ⟨w4.heap.size, 0, none⟩ 1 _ [.int .i64 lo, .int .i64 lo]
                          (by rfl) (by rfl) (by exact World.news_of_block (cs := #[.int .i64 lo, .int .i64 lo]) (heap_alloc_new _ _))
                          (by simp [Value.oneCell']) (by omega) (by simp only [maxLen]; omega) (by omega) (by first | omega | (simp; omega)) _ (by rfl) ?_; intro go cap5 w5 hown5 hgrow hat5 hlt5; have cz := grown_cell hgrow (below_alloc' (below_drewN (Below.refl w4.heap.size w4) _) _) hzB (unhide HNO) n3; have fz := grown_frozen hgrow (below_alloc' (below_drewN (Below.refl w4.heap.size w4) _) _) hzB (unhide HNO) h3f; have hz5 := Nat.lt_of_lt_of_le hzB (grown_size hgrow (below_alloc' (below_drewN (Below.refl w4.heap.size w4) _) _))))
                    have hW5 := (unhide HW4).app (l := [(lo, lo)]) (below_alloc' (below_drewN (Below.refl w4.heap.size w4) _) _) hgrow hown5 (by rfl)
                    have HW5 := hide hW5
                    clear hW5 hown5 hgrow hat5
                    go_roundg f
                    case measure => omega
                    case rel => exact ⟨k, false, acc ++ [(lo, lo)], _, rfl, hkle.2, by omega, hide (by first | exact unhide HR3), hide (fun r hr => by
                      rcases List.mem_append.1 hr with hr | hr
                      · exact unhide HF r hr
                      · obtain rfl := List.mem_singleton.1 hr; exact ⟨hlo.1, Int.le_refl _, hlo.2⟩), by simp only [List.length_append]; first | omega | (simp only [List.length_cons, List.length_nil]; omega), hide (.inl (by simp; skip)), HW5⟩
              · have h45' : Thr.one s k 45 = false := by simpa using h45
                rw [h45'] at hs45
                rw [if_neg (fun h => h45 h.1)] at hR
                have HS45 := hide hs45; have HS93 := hide hs93; have HR3 := hide hR
                clear hs45 hs93 h45 h45' hR
                go_wp2_with fail
                go_quiet ((first | (go_at_call_of 51 (Value.string { data := #[45, 93] }); exact Calls.quiet_of (unhide HS93 _ ((unhide HW4).at_.drewN _))) | (go_at_call 51; exact Calls.quiet_of (unhide HS45 _ ((unhide HW4).at_.drewN _)))))
                go_wp2_with
                 ((at_builtin; refine wpList_append_lies _ (by rfl) _ _ _ (by rfl) (w.heap.size + 2) 65 i0 _ 2 16 Tryd.underlying23 hi0 hz0 hz1 hz2 rfl (by omega) (.slice Ao acc.length co) acc.length (rangeCells acc) (by rfl)
                      (by exact own_step (unhide HW4).own (fun j hj => (below_alloc' (below_drewN (Below.refl w4.heap.size w4) _) _).block j (own_lt (unhide HW4).own j hj).2)) ⟨w4.heap.size, 0, none⟩ 1 _ [.int .i64 lo, .int .i64 lo]
                      (by rfl) (by rfl) (by exact World.news_of_block (cs := #[.int .i64 lo, .int .i64 lo]) (heap_alloc_new _ _))
                      (by simp [Value.oneCell']) (by omega) (by simp only [maxLen]; omega) (by omega) (by first | omega | (simp; omega)) _ (by rfl) ?_; intro go cap5 w5 hown5 hgrow hat5 hlt5; have cz := grown_cell hgrow (below_alloc' (below_drewN (Below.refl w4.heap.size w4) _) _) hzB (unhide HNO) n3; have fz := grown_frozen hgrow (below_alloc' (below_drewN (Below.refl w4.heap.size w4) _) _) hzB (unhide HNO) h3f; have hz5 := Nat.lt_of_lt_of_le hzB (grown_size hgrow (below_alloc' (below_drewN (Below.refl w4.heap.size w4) _) _))))
                have hW5 := (unhide HW4).app (l := [(lo, lo)]) (below_alloc' (below_drewN (Below.refl w4.heap.size w4) _) _) hgrow hown5 (by rfl)
                have HW5 := hide hW5
                clear hW5 hown5 hgrow hat5
                go_roundg f
                case measure => omega
                case rel => exact ⟨k, false, acc ++ [(lo, lo)], _, rfl, hkle.2, by omega, hide (by first | exact unhide HR3), hide (fun r hr => by
                  rcases List.mem_append.1 hr with hr | hr
                  · exact unhide HF r hr
                  · obtain rfl := List.mem_singleton.1 hr; exact ⟨hlo.1, Int.le_refl _, hlo.2⟩), by simp only [List.length_append]; first | omega | (simp only [List.length_cons, List.length_nil]; omega), hide (.inl (by simp; skip)), HW5⟩
        | false =>
          have hone : Thr.one s j 93 = false := by simpa using hend
          rw [hone] at hsee
          have HSEE := hide hsee
          clear hsee hone hend
          go_wp2_with fail
          refine (unhide HSEE).mono ?_
          rintro e w2 ⟨rfl, m2, hw2⟩
          have HW2 := hide ((unhide HW).below (show Below wr.heap.size wr w2 by rw [hw2]; exact below_drewN (Below.refl _ _) _))
          clear hw2
          go_wp2_with fail
          by_cases hnm : two s j 91 58 = true
          · rw [if_pos hnm] at hR
            have hnc := named_calls from_ w2 (unhide HW2).at_ ((unhide HG) w2 (unhide HW2).kept) hj hm hnm
            refine hnc.mono ?_
            clear hnc
            cases hnf : namedF s j with
            | none =>
              rw [hnf] at hR
              have hO := unhide HO
              rw [← hR] at hO
              simp only at hO
              subst hO
              rintro e w3 ⟨rfl, hk3⟩
              exact ⟨rfl, rfl, (unhide HW2).kept.trans hk3 (fun _ _ h => h)⟩
            | some r =>
              obtain ⟨l, k⟩ := r
              rw [hnf] at hR
              simp only at hR
              rintro e w3 ⟨b, rfl, hb0, hst3, hP3, hk3⟩
              have hkle := named_le hnf
              obtain ⟨hne, hfew, hfine⟩ := named_some hnf
              have hlpos : 0 < l.length := List.length_pos_iff.2 hne
              have hW3 := (unhide HW2).move hk3 hP3
              have HNW := hide (set_news hst3)
              obtain ⟨Ao, co, rfl⟩ := own_form hW3.own
              have n3 := hW3.node.cell 3
              have h3f := hW3.node.frozen 3
              have hzB : w.heap.size + 1 < w3.heap.size := hW3.node.lt
              have hzB' : w.heap.size < w3.heap.size := by omega
              have HNO := hide (own_blk_ne hW3.own hW3.node (by decide))
              simp at n3
              have HW3 := hide hW3
              have HR3 := hide hR; have HFI := hide hfine; have HNE3 := hide hne
              clear hW3 hst3 hP3 hk3 hR hfine hne hnm hnf
              go_wp2_with
               ((at_builtin; refine wpList_append_lies _ (by rfl) _ _ _ (by rfl) (w.heap.size + 2) 65 i0 _ 2 16 Tryd.underlying23 hi0 hz0 hz1 hz2 rfl (by omega) (.slice Ao acc.length co) acc.length (rangeCells acc) (by rfl)
                    (by exact own_step (unhide HW3).own (fun j hj => (Below.refl w3.heap.size w3).block j (own_lt (unhide HW3).own j hj).2)) ⟨b, 0, none⟩ l.length _ (rangeCells l)
                    (by rfl) (by exact rangeCells_len l) (by exact unhide HNW)
                    (by exact range_oneCell l) (by omega) (by simp only [maxLen]; omega) (by omega) (by first | omega | (simp; omega)) _ (by rfl) ?_; intro go cap5 w5 hown5 hgrow hat5 hlt5; have cz := grown_cell hgrow (Below.refl w3.heap.size w3) hzB (unhide HNO) n3; have fz := grown_frozen hgrow (Below.refl w3.heap.size w3) hzB (unhide HNO) h3f; have hz5 := Nat.lt_of_lt_of_le hzB (grown_size hgrow (Below.refl w3.heap.size w3))))
              have hW5 := (unhide HW3).app (l := l) (Below.refl w3.heap.size w3) hgrow hown5 (by rfl)
              have HW5 := hide hW5
              clear hW5 hown5 hgrow hat5
              go_roundg f
              case measure => omega
              case rel => exact ⟨k, false, acc ++ l, _, rfl, hkle.2, by omega, hide (by first | exact unhide HR3), hide (fun r hr => by
                rcases List.mem_append.1 hr with hr | hr
                · exact unhide HF r hr
                · exact unhide HFI r hr), by simp only [List.length_append]; first | omega | (simp only [List.length_cons, List.length_nil]; omega), hide (.inl (by simp; exact fun _ => unhide HNE3)), HW5⟩
          · rw [if_neg hnm] at hR
            refine (named_none from_ w2 (unhide HW2).at_ hj hm (by simpa using hnm)).mono ?_
            rintro e w3 ⟨rfl, hb3⟩
            have HW3 := hide ((unhide HW2).below hb3)
            clear hb3 hnm
            go_wp2_with fail
            refine (member_calls from_ w3 (unhide HW3).at_ ((unhide HG) w3 (unhide HW3).kept).tabs hj hm).mono ?_
            cases hmf : memberF s j bytes with
            | none =>
              rw [hmf] at hR
              have hO := unhide HO
              rw [← hR] at hO
              simp only at hO
              subst hO
              rintro e w4 ⟨rfl, hk4⟩
              exact ⟨rfl, rfl, (unhide HW3).kept.trans hk4 (fun _ _ h => h)⟩
            | some r =>
              obtain ⟨lo, k⟩ := r
              rw [hmf] at hR
              simp only at hR
              rintro e w4 ⟨rfl, hP4, hk4⟩
              have hkle := member_le (unhide HZ) hmf
              have hlo := member_range (unhide HZ) hmf
              have hW4 := (unhide HW3).move hk4 hP4
              have q0 := hP4.cell 0
              have q1 := hP4.cell 1
              have g1 := hP4.frozen 1
              have hbp4 := hP4.lt
              simp at q0 q1
              obtain ⟨Ao, co, rfl⟩ := own_form hW4.own
              have n3 := hW4.node.cell 3
              have h3f := hW4.node.frozen 3
              have hzB : w.heap.size + 1 < w4.heap.size := hW4.node.lt
              have hzB' : w.heap.size < w4.heap.size := by omega
              have HNO := hide (own_blk_ne hW4.own hW4.node (by decide))
              simp at n3
              have HW4 := hide hW4
              have hs45 := fun W (hP : PAt W bp s k bytes nest) => see_quiet (lit [45]) W hP hkle.2 hm
              rw [see_one, show ((45 : UInt8).toNat : Int) = 45 from rfl] at hs45
              have hs93 := fun W (hP : PAt W bp s k bytes nest) => see_quiet (lit [45, 93]) W hP hkle.2 hm
              rw [see_two, show ((45 : UInt8).toNat : Int) = 45 from rfl, show ((93 : UInt8).toNat : Int) = 93 from rfl] at hs93
              clear hW4 hP4 hk4 hmf
              by_cases h45 : Thr.one s k 45 = true
              · rw [h45] at hs45
                by_cases h93 : two s k 45 93 = true
                · rw [h93] at hs93
                  rw [if_neg (by have h := h93; simp [two] at h; intro h'; exact h'.2.2 h.2.2)] at hR
                  have HS45 := hide hs45; have HS93 := hide hs93; have HR3 := hide hR
                  clear hs45 hs93 h45 h93 hR
                  go_wp2_with fail
                  go_quiet ((first | (go_at_call_of 51 (Value.string { data := #[45, 93] }); exact Calls.quiet_of (unhide HS93 _ ((unhide HW4).at_.drewN _))) | (go_at_call 51; exact Calls.quiet_of (unhide HS45 _ ((unhide HW4).at_.drewN _)))))
                  go_wp2_with
                   ((at_builtin; refine wpList_append_lies _ (by rfl) _ _ _ (by rfl) (w.heap.size + 2) 65 i0 _ 2 16 Tryd.underlying23 hi0 hz0 hz1 hz2 rfl (by omega) (.slice Ao acc.length co) acc.length (rangeCells acc) (by rfl)
                        (by exact own_step (unhide HW4).own (fun j hj => (below_alloc' (below_drewN (Below.refl w4.heap.size w4) _) _).block j (own_lt (unhide HW4).own j hj).2)) ⟨w4.heap.size, 0, none⟩ 1 _ [.int .i64 lo, .int .i64 lo]
                        (by rfl) (by rfl) (by exact World.news_of_block (cs := #[.int .i64 lo, .int .i64 lo]) (heap_alloc_new _ _))
                        (by simp [Value.oneCell']) (by omega) (by simp only [maxLen]; omega) (by omega) (by first | omega | (simp; omega)) _ (by rfl) ?_; intro go cap5 w5 hown5 hgrow hat5 hlt5; have cz := grown_cell hgrow (below_alloc' (below_drewN (Below.refl w4.heap.size w4) _) _) hzB (unhide HNO) n3; have fz := grown_frozen hgrow (below_alloc' (below_drewN (Below.refl w4.heap.size w4) _) _) hzB (unhide HNO) h3f; have hz5 := Nat.lt_of_lt_of_le hzB (grown_size hgrow (below_alloc' (below_drewN (Below.refl w4.heap.size w4) _) _))))
                  have hW5 := (unhide HW4).app (l := [(lo, lo)]) (below_alloc' (below_drewN (Below.refl w4.heap.size w4) _) _) hgrow hown5 (by rfl)
                  have HW5 := hide hW5
                  clear hW5 hown5 hgrow hat5
                  go_roundg f
                  case measure => omega
                  case rel => exact ⟨k, false, acc ++ [(lo, lo)], _, rfl, hkle.2, by omega, hide (by first | exact unhide HR3), hide (fun r hr => by
                    rcases List.mem_append.1 hr with hr | hr
                    · exact unhide HF r hr
                    · obtain rfl := List.mem_singleton.1 hr; exact ⟨hlo.1, Int.le_refl _, hlo.2⟩), by simp only [List.length_append]; first | omega | (simp only [List.length_cons, List.length_nil]; omega), hide (.inl (by simp; skip)), HW5⟩
                · have h93' : two s k 45 93 = false := by simpa using h93
                  rw [h93'] at hs93
                  by_cases hsz : k + 1 < s.size
                  · have hlt2 : decide ((k : Int) + 1 < s.size) = true := decide_eq_true (by omega)
                    rw [if_pos ⟨h45, hsz, by have h := h45; simp [Thr.one] at h; intro h'; simp [two, h.2, h', hsz] at h93'⟩] at hR
                    have hP5 : ∀ n, PAt ((w4.drewN n).setCell ⟨bp, 1, none⟩ (.int .i64 ((k : Int) + 1))) bp s (k + 1) bytes nest := fun n => by
                      exact PAt.go_on (w := w4.drewN n) (Blk.drewN (unhide HW4).at_ n) (k + 1)
                    have hW5 : ∀ n, SetW w ((w4.drewN n).setCell ⟨bp, 1, none⟩ (.int .i64 ((k : Int) + 1))) bp w.heap.size s bytes nest true (k + 1) (.slice Ao acc.length co) acc := fun n => (unhide HW4).move (((Keeps.refl (fun k => k = bp) _).drewN n).setCell (p := ⟨bp, 1, none⟩) (.inl rfl) _) (hP5 n)
                    have HS45 := hide hs45; have HS93 := hide hs93; have HW5 := hide hW5
                    clear hs45 hs93 h45 h93 h93' hP5 hW5
                    go_wp2_with fail
                    go_quiet ((first | (go_at_call_of 51 (Value.string { data := #[45, 93] }); exact Calls.quiet_of (unhide HS93 _ ((unhide HW4).at_.drewN _))) | (go_at_call 51; exact Calls.quiet_of (unhide HS45 _ ((unhide HW4).at_.drewN _)))))
                    go_wp2_with fail
                    refine (see_quiet (lit [91, 58]) _ ((unhide HW5) _).at_ (by omega) hm).mono ?_
                    rw [see_two, show ((91 : UInt8).toNat : Int) = 91 from rfl, show ((58 : UInt8).toNat : Int) = 58 from rfl]
                    rintro e w6 ⟨rfl, m6, hw6⟩
                    have hW6 := ((unhide HW5) nq).below (show Below _ _ w6 by rw [hw6]; exact below_drewN (Below.refl _ _) _)
                    have HW6 := hide hW6
                    clear hW6 hw6 n3 h3f hzB hzB' HNO q0 q1 g1 hbp4
                    by_cases h58 : two s (k + 1) 91 58 = true
                    · rw [if_pos h58] at hR
                      rw [h58]
                      have hO := unhide HO
                      rw [← hR] at hO
                      simp only at hO
                      subst hO
                      clear hR
                      go_wp2_with fail
                      refine (fail_calls _ _ _ _).mono ?_
                      rintro e w7 ⟨rfl, hw⟩
                      obtain rfl := hw.symm
                      exact ⟨rfl, rfl, (unhide HW6).kept⟩
                    · have h58' : two s (k + 1) 91 58 = false := by simpa using h58
                      rw [if_neg h58] at hR
                      rw [h58']
                      clear h58 h58'
                      go_wp2_with fail
                      refine (member_calls from_ w6 (unhide HW6).at_ ((unhide HG) w6 (unhide HW6).kept).tabs (by omega) hm).mono ?_
                      cases hmf : memberF s (k + 1) bytes with
                      | none =>
                        rw [hmf] at hR
                        have hO := unhide HO
                        rw [← hR] at hO
                        simp only at hO
                        subst hO
                        rintro e w7 ⟨rfl, hk7⟩
                        exact ⟨rfl, rfl, (unhide HW6).kept.trans hk7 (fun _ _ h => h)⟩
                      | some r =>
                        obtain ⟨hi', k'⟩ := r
                        rw [hmf] at hR
                        simp only at hR
                        rintro e w7 ⟨rfl, hP7, hk7⟩
                        have hkle2 := member_le (unhide HZ) hmf
                        have hhi := member_range (unhide HZ) hmf
                        have hW7 := (unhide HW6).move hk7 hP7
                        clear hP7 hk7 hmf
                        by_cases hlh : hi' < lo
                        · have hlh' : decide (hi' < lo) = true := decide_eq_true hlh
                          rw [if_pos hlh] at hR
                          have hO := unhide HO
                          rw [← hR] at hO
                          simp only at hO
                          subst hO
                          have HW7 := hide hW7
                          clear hlh hR hW7
                          go_wp2_with fail
                          refine (fail_calls _ _ _ _).mono ?_
                          rintro e w8 ⟨rfl, hw⟩
                          obtain rfl := hw.symm
                          exact ⟨rfl, rfl, (unhide HW7).kept⟩
                        · have hlh' : decide (hi' < lo) = false := decide_eq_false hlh
                          have hle2 : lo ≤ hi' := by omega
                          rw [if_neg hlh] at hR
                          have n3 := hW7.node.cell 3
                          have h3f := hW7.node.frozen 3
                          have hzB : w.heap.size + 1 < w7.heap.size := hW7.node.lt
                          have hzB' : w.heap.size < w7.heap.size := by omega
                          have HNO := hide (own_blk_ne hW7.own hW7.node (by decide))
                          simp at n3
                          have HW7 := hide hW7; have HR3 := hide hR
                          clear hW7 hR hlh
                          go_wp2_with
                           ((at_builtin; refine wpList_append_lies _ (by rfl) _ _ _ (by rfl) (w.heap.size + 2) 65 i0 _ 2 16 Tryd.underlying23 hi0 hz0 hz1 hz2 rfl (by omega) (.slice Ao acc.length co) acc.length (rangeCells acc) (by rfl)
                                (by exact own_step (unhide HW7).own (fun j hj => (below_alloc' (Below.refl w7.heap.size w7) _).block j (own_lt (unhide HW7).own j hj).2)) ⟨w7.heap.size, 0, none⟩ 1 _ [.int .i64 lo, .int .i64 hi']
                                (by rfl) (by rfl) (by exact World.news_of_block (cs := #[.int .i64 lo, .int .i64 hi']) (heap_alloc_new _ _))
                                (by simp [Value.oneCell']) (by omega) (by simp only [maxLen]; omega) (by omega) (by first | omega | (simp; omega)) _ (by rfl) ?_; intro go cap5 w5 hown5 hgrow hat5 hlt5; have cz := grown_cell hgrow (below_alloc' (Below.refl w7.heap.size w7) _) hzB (unhide HNO) n3; have fz := grown_frozen hgrow (below_alloc' (Below.refl w7.heap.size w7) _) hzB (unhide HNO) h3f; have hz5 := Nat.lt_of_lt_of_le hzB (grown_size hgrow (below_alloc' (Below.refl w7.heap.size w7) _))))
                          have hW5 := (unhide HW7).app (l := [(lo, hi')]) (below_alloc' (Below.refl w7.heap.size w7) _) hgrow hown5 (by rfl)
                          have HW5 := hide hW5
                          clear hW5 hown5 hgrow hat5
                          go_roundg f
                          case measure => omega
                          case rel => exact ⟨k', false, acc ++ [(lo, hi')], _, rfl, hkle2.2, by omega, hide (by first | exact unhide HR3), hide (fun r hr => by
                            rcases List.mem_append.1 hr with hr | hr
                            · exact unhide HF r hr
                            · obtain rfl := List.mem_singleton.1 hr; exact ⟨hlo.1, hle2, hhi.2⟩), by simp only [List.length_append]; first | omega | (simp only [List.length_cons, List.length_nil]; omega), hide (.inl (by simp; skip)), HW5⟩
                  · have hlt2 : decide ((k : Int) + 1 < s.size) = false := decide_eq_false (by omega)
                    rw [if_neg (fun h => hsz h.2.1)] at hR
                    have HS45 := hide hs45; have HS93 := hide hs93; have HR3 := hide hR
                    clear hs45 hs93 h45 h93 h93' hR hsz
                    go_wp2_with fail
                    go_quiet ((first | (go_at_call_of 51 (Value.string { data := #[45, 93] }); exact Calls.quiet_of (unhide HS93 _ ((unhide HW4).at_.drewN _))) | (go_at_call 51; exact Calls.quiet_of (unhide HS45 _ ((unhide HW4).at_.drewN _)))))
                    go_wp2_with
                     ((at_builtin; refine wpList_append_lies _ (by rfl) _ _ _ (by rfl) (w.heap.size + 2) 65 i0 _ 2 16 Tryd.underlying23 hi0 hz0 hz1 hz2 rfl (by omega) (.slice Ao acc.length co) acc.length (rangeCells acc) (by rfl)
                          (by exact own_step (unhide HW4).own (fun j hj => (below_alloc' (below_drewN (Below.refl w4.heap.size w4) _) _).block j (own_lt (unhide HW4).own j hj).2)) ⟨w4.heap.size, 0, none⟩ 1 _ [.int .i64 lo, .int .i64 lo]
                          (by rfl) (by rfl) (by exact World.news_of_block (cs := #[.int .i64 lo, .int .i64 lo]) (heap_alloc_new _ _))
                          (by simp [Value.oneCell']) (by omega) (by simp only [maxLen]; omega) (by omega) (by first | omega | (simp; omega)) _ (by rfl) ?_; intro go cap5 w5 hown5 hgrow hat5 hlt5; have cz := grown_cell hgrow (below_alloc' (below_drewN (Below.refl w4.heap.size w4) _) _) hzB (unhide HNO) n3; have fz := grown_frozen hgrow (below_alloc' (below_drewN (Below.refl w4.heap.size w4) _) _) hzB (unhide HNO) h3f; have hz5 := Nat.lt_of_lt_of_le hzB (grown_size hgrow (below_alloc' (below_drewN (Below.refl w4.heap.size w4) _) _))))
                    have hW5 := (unhide HW4).app (l := [(lo, lo)]) (below_alloc' (below_drewN (Below.refl w4.heap.size w4) _) _) hgrow hown5 (by rfl)
                    have HW5 := hide hW5
                    clear hW5 hown5 hgrow hat5
                    go_roundg f
                    case measure => omega
                    case rel => exact ⟨k, false, acc ++ [(lo, lo)], _, rfl, hkle.2, by omega, hide (by first | exact unhide HR3), hide (fun r hr => by
                      rcases List.mem_append.1 hr with hr | hr
                      · exact unhide HF r hr
                      · obtain rfl := List.mem_singleton.1 hr; exact ⟨hlo.1, Int.le_refl _, hlo.2⟩), by simp only [List.length_append]; first | omega | (simp only [List.length_cons, List.length_nil]; omega), hide (.inl (by simp; skip)), HW5⟩
              · have h45' : Thr.one s k 45 = false := by simpa using h45
                rw [h45'] at hs45
                rw [if_neg (fun h => h45 h.1)] at hR
                have HS45 := hide hs45; have HS93 := hide hs93; have HR3 := hide hR
                clear hs45 hs93 h45 h45' hR
                go_wp2_with fail
                go_quiet ((first | (go_at_call_of 51 (Value.string { data := #[45, 93] }); exact Calls.quiet_of (unhide HS93 _ ((unhide HW4).at_.drewN _))) | (go_at_call 51; exact Calls.quiet_of (unhide HS45 _ ((unhide HW4).at_.drewN _)))))
                go_wp2_with
                 ((at_builtin; refine wpList_append_lies _ (by rfl) _ _ _ (by rfl) (w.heap.size + 2) 65 i0 _ 2 16 Tryd.underlying23 hi0 hz0 hz1 hz2 rfl (by omega) (.slice Ao acc.length co) acc.length (rangeCells acc) (by rfl)
                      (by exact own_step (unhide HW4).own (fun j hj => (below_alloc' (below_drewN (Below.refl w4.heap.size w4) _) _).block j (own_lt (unhide HW4).own j hj).2)) ⟨w4.heap.size, 0, none⟩ 1 _ [.int .i64 lo, .int .i64 lo]
                      (by rfl) (by rfl) (by exact World.news_of_block (cs := #[.int .i64 lo, .int .i64 lo]) (heap_alloc_new _ _))
                      (by simp [Value.oneCell']) (by omega) (by simp only [maxLen]; omega) (by omega) (by first | omega | (simp; omega)) _ (by rfl) ?_; intro go cap5 w5 hown5 hgrow hat5 hlt5; have cz := grown_cell hgrow (below_alloc' (below_drewN (Below.refl w4.heap.size w4) _) _) hzB (unhide HNO) n3; have fz := grown_frozen hgrow (below_alloc' (below_drewN (Below.refl w4.heap.size w4) _) _) hzB (unhide HNO) h3f; have hz5 := Nat.lt_of_lt_of_le hzB (grown_size hgrow (below_alloc' (below_drewN (Below.refl w4.heap.size w4) _) _))))
                have hW5 := (unhide HW4).app (l := [(lo, lo)]) (below_alloc' (below_drewN (Below.refl w4.heap.size w4) _) _) hgrow hown5 (by rfl)
                have HW5 := hide hW5
                clear hW5 hown5 hgrow hat5
                go_roundg f
                case measure => omega
                case rel => exact ⟨k, false, acc ++ [(lo, lo)], _, rfl, hkle.2, by omega, hide (by first | exact unhide HR3), hide (fun r hr => by
                  rcases List.mem_append.1 hr with hr | hr
                  · exact unhide HF r hr
                  · obtain rfl := List.mem_singleton.1 hr; exact ⟨hlo.1, Int.le_refl _, hlo.2⟩), by simp only [List.length_append]; first | omega | (simp only [List.length_cons, List.length_nil]; omega), hide (.inl (by simp; skip)), HW5⟩
end Go.Proofs.YtanmlgliibgpcaaDoor

/- The walk of repeat. -/
namespace Go.Proofs.YtanmlgliibgpcaaDoor
open Go.RowKit Thr
set_option linter.unusedVariables false
set_option linter.unusedSimpArgs false

theorem results_cell_tmp' {fn : Func} {p u : Tmp} {ty : TypeId} {P : Program} {w : World} {g : Nat} {v x : Value} {tmps : Array Value} (h : fn.results = #[.cell p ty, .tmp u]) (hp : tmps.getD p undef = .pointer (some ⟨g, 0, none⟩)) (hu : tmps.getD u undef = x) (hl : (loadVar ty ⟨g, 0, none⟩).run P w = .ok v w) :
    (results fn tmps).run P w = .ok (.tuple #[v, x]) w := by
  have hp' : tmps[p]?.getD undef = .pointer (some ⟨g, 0, none⟩) := by rw [← hp]; simp
  have hu' : tmps[u]?.getD undef = x := by rw [← hu]; simp
  simp only [results, h]
  simp [Sem.run_bind, Result.andThen, hp', hu', asAddr, hl]
theorem tree_rep {ok : Nat → Prop} {W : World} {b : Nat} {k : Rx} {cs : List Value} (lo hi : Int) (hk : TreeAt ok W k cs) (hb : ok b) (hc : ∀ (j : Nat) (v : Value), cs[j]? = some v → W.cell? ⟨b, j, none⟩ = some v) :
    TreeAt ok W (repN lo hi k) [.int .i64 7, .int .i64 0, .bool false, .slice none 0 0, .int .i64 lo, .int .i64 hi, .slice (some ⟨b, 0, none⟩) 1 1] := by
  simp only [repN, TreeAt]
  refine ⟨_, _, _, rfl, SetAt.nil _ _, Nat.le_refl _, by omega, .inr ⟨b, 0, rfl, hb, ?_⟩⟩
  simp only [KidsAt, and_true]
  exact ⟨cs, hk, fun j v hv => by rw [Nat.zero_add]; exact hc j v hv⟩

def RepPost (ok : Nat → Prop) (bp : Nat) (s : ByteArray) (bytes : Bool) (nest i : Nat) (last : Rx) (w w' : World) (e : Ending) : Again → Prop
  | .no => e = .returned (.tuple #[.agg zero7, .bool false]) ∧ Below w.heap.size w w'
  | .fault er => Gives bp i er w w' e
  | .yes lo hi k => ∃ cs, e = .returned (.tuple #[.agg cs.toArray, .bool true]) ∧ TreeAt (fun k => ok k ∨ w.heap.size ≤ k) w' (repN lo hi last) cs ∧ PAt w' bp s k bytes nest ∧ Keeps (fun k => k = bp) w w'

theorem rep_end {ok : Nat → Prop} {bp : Nat} {s : ByteArray} {i k : Nat} {bytes : Bool} {nest : Nat} {last : Rx} {csl : List Value} {w W1 : World} (lo hi : Int) (hT : TreeAt ok w last csl) (hok : ∀ k, ok k → k ≠ bp) (hbp : bp < w.heap.size)
    (hk : Keeps (fun k => k = bp) w W1) (hr : Blk W1 w.heap.size 26 zero7) (hp : PAt W1 bp s k bytes nest) (hz : W1.heap.size = w.heap.size + 1) :
    Blk ((put7 W1 w.heap.size (.int .i64 7) (.int .i64 0) (.bool false) (.slice none 0 0) (.int .i64 lo) (.int .i64 hi) (.slice (some ⟨w.heap.size + 1, 0, none⟩) 1 1)).alloc (.cells csl.toArray 26)) w.heap.size 26 #[.int .i64 7, .int .i64 0, .bool false, .slice none 0 0, .int .i64 lo, .int .i64 hi, .slice (some ⟨w.heap.size + 1, 0, none⟩) 1 1] ∧
    RepPost ok bp s bytes nest i last w ((put7 W1 w.heap.size (.int .i64 7) (.int .i64 0) (.bool false) (.slice none 0 0) (.int .i64 lo) (.int .i64 hi) (.slice (some ⟨w.heap.size + 1, 0, none⟩) 1 1)).alloc (.cells csl.toArray 26))
      (.returned (.tuple #[.agg #[.int .i64 7, .int .i64 0, .bool false, .slice none 0 0, .int .i64 lo, .int .i64 hi, .slice (some ⟨w.heap.size + 1, 0, none⟩) 1 1], .bool true])) (.yes lo hi k) := by
  have hz7 : (put7 W1 w.heap.size (.int .i64 7) (.int .i64 0) (.bool false) (.slice none 0 0) (.int .i64 lo) (.int .i64 hi) (.slice (some ⟨w.heap.size + 1, 0, none⟩) 1 1)).heap.size = w.heap.size + 1 := by
    unfold put7
    simp [hz]
  have hKK := (hk.put7 (g := w.heap.size) (.inr (Nat.le_refl _)) (.int .i64 7) (.int .i64 0) (.bool false) (.slice none 0 0) (.int .i64 lo) (.int .i64 hi) (.slice (some ⟨w.heap.size + 1, 0, none⟩) 1 1)).alloc (.cells csl.toArray 26)
  refine ⟨(Blk.put7 hr).alloc _, _, rfl, ?_, (hp.put7 (by omega) _ _ _ _ _ _ _).alloc _, hKK⟩
  refine tree_rep (cs := csl) lo hi ?_ (.inr (by omega)) (fun j v hj => ?_)
  · have h1 : TreeAt (fun k => ok k ∧ k < w.heap.size) w last csl := TreeAt.bound _ _ hT
    refine TreeAt.mono (fun k hk => .inl hk.1) _ _ (TreeAt.step (fun k hk hlt => ?_) _ _ h1)
    exact hKK.block k hlt (hok k hk.1)
  · have hb := heap_alloc_new (put7 W1 w.heap.size (.int .i64 7) (.int .i64 0) (.bool false) (.slice none 0 0) (.int .i64 lo) (.int .i64 hi) (.slice (some ⟨w.heap.size + 1, 0, none⟩) 1 1)) (.cells csl.toArray 26)
    rw [hz7] at hb
    rw [cell_of_row _ _ j _ _ (0, 0) hb]
    simpa using hj

set_option maxRecDepth 100000 in
set_option maxHeartbeats 16000000 in
theorem rxrep_nil {bp : Nat} (vA : Option Addr) (c : Nat) (w : World) :
    Calls Tryd.prog 61 #[.pointer (some ⟨bp, 0, none⟩), .slice vA 0 c] w fun e w' => e = .returned (.tuple #[.agg zero7, .bool false]) ∧ Below w.heap.size w w' := by
  go_enter Tryd.func61, Tryd.ntmps61
  go_wp2_with fail
  refine bodyPost_ret (results_cell_tmp' rfl rfl rfl (load7 (Blk.new w _ _))) rfl ?_
  exact ⟨rfl, (by repeat (first | exact Below.refl _ _ | assumption | refine below_drewN ?_ _ | refine Below.drew ?_ | refine below_alloc' ?_ _))⟩

set_option maxRecDepth 100000 in
set_option maxHeartbeats 64000000 in
theorem rxrep_calls {ok : Nat → Prop} {bp g m cap : Nat} {s : ByteArray} {i : Nat} {bytes : Bool} {nest : Nat} (last : Rx) (csl : List Value) (w : World) (hP : PAt w bp s i bytes nest) (hi : i < s.size) (hm : s.size ≤ 1024) (hml : m ≤ 2000)
    (ht : TreeAt ok w last csl) (hc : ∀ (j : Nat) (v : Value), csl[j]? = some v → w.cell? ⟨g, m * 7 + j, none⟩ = some v) (hg : g ≠ bp) (hok : ∀ k, ok k → k ≠ bp) :
    Calls Tryd.prog 61 #[.pointer (some ⟨bp, 0, none⟩), .slice (some ⟨g, 0, none⟩) (m + 1) cap] w fun e w' => RepPost ok bp s bytes nest i last w w' e (againF s i) := by
  obtain ⟨R, hR⟩ : ∃ R, againF s i = R := ⟨_, rfl⟩
  rw [hR]
  unfold againF at hR
  have p0 := hP.cell 0
  have p1 := hP.cell 1
  have pf := hP.frozen 1
  have hbp := hP.lt
  simp at p0 p1
  have hb := byt_at hi
  have hr := byt_range s i
  obtain ⟨b, hb0⟩ : ∃ b, byt s i = b := ⟨_, rfl⟩
  rw [hb0] at hb hr hR
  have HT := hide ht
  obtain ⟨k1, k2, k3, As, ls, cs', k5, k6, A, lk, cc, rfl⟩ := ht.form
  have c0 := hc 0 _ rfl
  have c1 := hc 1 _ rfl
  have c2 := hc 2 _ rfl
  have c3 := hc 3 _ rfl
  have c4 := hc 4 _ rfl
  have c5 := hc 5 _ rfl
  have c6 := hc 6 _ rfl
  simp only [Nat.add_zero] at c0
  have hgl := World.block_lt_of_cell? w _ c0
  have m1 : (0 : Int) ≤ m := by omega
  have m2 : (m : Int) < m + 1 := by omega
  have HP := hide hP; have HR := hide hR; have HOK := hide hok
  clear hP hR hc ht hb0 hok
  by_cases e42 : b = 42
  · subst e42
    have hR := unhide HR
    rw [if_pos rfl] at hR
    subst hR
    clear HR
    go_enter Tryd.func61, Tryd.ntmps61
    go_wp2_with fail
    go_quiet (fail)
    go_wp2_with fail
    have hE := rep_end (i := i) (k := i + 1) 0 (-1) (unhide HT) (unhide HOK) hbp (W1 := ((w.alloc (.cells zero7 26)).drewN nq).setCell ⟨bp, 1, none⟩ (.int .i64 ((i : Int) + 1)))
      ((((Keeps.refl (fun k => k = bp) w).alloc _).drewN _).setCell (p := ⟨bp, 1, none⟩) (.inl rfl) _) (((Blk.new w _ _).drewN _).far (by simp only; omega) _) (PAt.go_on (w := (w.alloc (.cells zero7 26)).drewN nq) (Blk.drewN (Blk.alloc (unhide HP) _) _) (i + 1)) (by simp)
    refine bodyPost_ret (results_cell_tmp' rfl rfl rfl (load7 hE.1)) rfl ?_
    exact hE.2
  by_cases e43 : b = 43
  · subst e43
    have hR := unhide HR
    rw [if_neg (by omega), if_pos rfl] at hR
    subst hR
    clear HR
    go_enter Tryd.func61, Tryd.ntmps61
    go_wp2_with fail
    go_quiet (fail)
    go_wp2_with fail
    have hE := rep_end (i := i) (k := i + 1) 1 (-1) (unhide HT) (unhide HOK) hbp (W1 := ((w.alloc (.cells zero7 26)).drewN nq).setCell ⟨bp, 1, none⟩ (.int .i64 ((i : Int) + 1)))
      ((((Keeps.refl (fun k => k = bp) w).alloc _).drewN _).setCell (p := ⟨bp, 1, none⟩) (.inl rfl) _) (((Blk.new w _ _).drewN _).far (by simp only; omega) _) (PAt.go_on (w := (w.alloc (.cells zero7 26)).drewN nq) (Blk.drewN (Blk.alloc (unhide HP) _) _) (i + 1)) (by simp)
    refine bodyPost_ret (results_cell_tmp' rfl rfl rfl (load7 hE.1)) rfl ?_
    exact hE.2
  by_cases e63 : b = 63
  · subst e63
    have hR := unhide HR
    rw [if_neg (by omega), if_neg (by omega), if_pos rfl] at hR
    subst hR
    clear HR
    go_enter Tryd.func61, Tryd.ntmps61
    go_wp2_with fail
    go_quiet (fail)
    go_wp2_with fail
    have hE := rep_end (i := i) (k := i + 1) 0 1 (unhide HT) (unhide HOK) hbp (W1 := ((w.alloc (.cells zero7 26)).drewN nq).setCell ⟨bp, 1, none⟩ (.int .i64 ((i : Int) + 1)))
      ((((Keeps.refl (fun k => k = bp) w).alloc _).drewN _).setCell (p := ⟨bp, 1, none⟩) (.inl rfl) _) (((Blk.new w _ _).drewN _).far (by simp only; omega) _) (PAt.go_on (w := (w.alloc (.cells zero7 26)).drewN nq) (Blk.drewN (Blk.alloc (unhide HP) _) _) (i + 1)) (by simp)
    refine bodyPost_ret (results_cell_tmp' rfl rfl rfl (load7 hE.1)) rfl ?_
    exact hE.2
  have n42 : (b == 42) = false := by simpa using e42
  have n43 : (b == 43) = false := by simpa using e43
  have n63 : (b == 63) = false := by simpa using e63
  have hR := unhide HR
  rw [if_neg e42, if_neg e43, if_neg e63] at hR
  clear HR
  by_cases e123 : b = 123
  · subst e123
    rw [if_pos rfl] at hR
    clear e42 e43 e63 n42 n43 n63
    have hI := fun w => interval_calls (s.extract i s.size) w (by rw [tail_size]; omega) (by rw [tail_size]; omega)
    rw [itv_tail s i hi] at hI
    have b1 : (0 : Int) ≤ (i : Int) := by omega
    have b2 : (i : Int) ≤ s.size := by omega
    have b3 : ((i : Int)).toNat = i := by omega
    have b4 : IntKind.i64.wrap (i : Int) = (i : Int) := by rw [IntKind.wrap_i64]; omega
    cases hit : itvF s i with
    | none =>
      rw [hit] at hR hI
      subst hR
      simp only [Option.map_none, itvV] at hI
      have HI := hide hI
      clear hI hit
      go_enter Tryd.func61, Tryd.ntmps61
      go_wp2_with fail
      go_quiet (fail)
      go_wp2_with fail
      go_region_held3 (fun w' => w'.cell? ⟨bp, 0, none⟩ = some (.string s) ∧ w'.cell? ⟨bp, 1, none⟩ = some (.int .i64 i)) (go_keep) ((go_at_call 65; refine (unhide HI _).mono ?_; rintro e w2 ⟨rfl, hw⟩; obtain rfl := hw.symm))
      go_wp2_with fail
      refine bodyPost_ret (results_cell_tmp' rfl rfl rfl (load7 (Blk.put7 (Blk.drewN (Blk.new w 26 zero7) _)))) rfl ?_
      exact ⟨rfl, ((((Keeps.refl (fun _ => False) w).alloc _).drewN _).put7 (.inr (Nat.le_refl _)) _ _ _ _ _ _ _).none_below⟩
    | some q =>
      obtain ⟨lo, hi', k⟩ := q
      have hkl := itv_le hit
      rw [hit] at hR hI
      simp only [Option.map_some, itvV] at hR hI
      have hn0 : (((k - i : Nat) : Int) == 0) = false := by simp; omega
      obtain ⟨n, rfl⟩ : ∃ n, k = i + (n + 1) := ⟨k - i - 1, by omega⟩
      rw [show i + (n + 1) - i = n + 1 by omega] at hI hn0
      have HI := hide hI
      clear hI hit
      by_cases h30 : 30 < lo ∨ 30 < hi'
      · rw [if_pos h30] at hR
        subst hR
        by_cases hl : 30 < lo
        · have g1 : decide (30 < lo) = true := decide_eq_true hl
          clear hl h30
          go_enter Tryd.func61, Tryd.ntmps61
          go_wp2_with fail
          go_quiet (fail)
          go_wp2_with fail
          go_region_held3 (fun w' => w'.cell? ⟨bp, 0, none⟩ = some (.string s) ∧ w'.cell? ⟨bp, 1, none⟩ = some (.int .i64 i)) (go_keep) ((go_at_call 65; refine (unhide HI _).mono ?_; rintro e w2 ⟨rfl, hw⟩; obtain rfl := hw.symm))
          go_wp2_with fail
          refine (fail_calls _ _ _ _).mono ?_
          rintro e w' ⟨rfl, hw⟩
          obtain rfl := hw.symm
          exact ⟨rfl, rfl, (((Keeps.refl _ _).alloc _).drewN _)⟩
        · have g1 : decide (30 < lo) = false := decide_eq_false hl
          have g2 : decide (30 < hi') = true := decide_eq_true (h30.resolve_left hl)
          clear hl h30
          go_enter Tryd.func61, Tryd.ntmps61
          go_wp2_with fail
          go_quiet (fail)
          go_wp2_with fail
          go_region_held3 (fun w' => w'.cell? ⟨bp, 0, none⟩ = some (.string s) ∧ w'.cell? ⟨bp, 1, none⟩ = some (.int .i64 i)) (go_keep) ((go_at_call 65; refine (unhide HI _).mono ?_; rintro e w2 ⟨rfl, hw⟩; obtain rfl := hw.symm))
          go_wp2_with fail
          refine (fail_calls _ _ _ _).mono ?_
          rintro e w' ⟨rfl, hw⟩
          obtain rfl := hw.symm
          exact ⟨rfl, rfl, (((Keeps.refl _ _).alloc _).drewN _)⟩
      · rw [if_neg h30] at hR
        have g1 : decide (30 < lo) = false := decide_eq_false (by omega)
        have g2 : decide (30 < hi') = false := decide_eq_false (by omega)
        by_cases hlt : 0 ≤ hi' ∧ hi' < lo
        · rw [if_pos hlt] at hR
          subst hR
          have g3 : decide (0 ≤ hi') = true := decide_eq_true hlt.1
          have g4 : decide (hi' < lo) = true := decide_eq_true hlt.2
          clear hlt h30
          go_enter Tryd.func61, Tryd.ntmps61
          go_wp2_with fail
          go_quiet (fail)
          go_wp2_with fail
          go_region_held3 (fun w' => w'.cell? ⟨bp, 0, none⟩ = some (.string s) ∧ w'.cell? ⟨bp, 1, none⟩ = some (.int .i64 i)) (go_keep) ((go_at_call 65; refine (unhide HI _).mono ?_; rintro e w2 ⟨rfl, hw⟩; obtain rfl := hw.symm))
          go_wp2_with fail
          refine (fail_calls _ _ _ _).mono ?_
          rintro e w' ⟨rfl, hw⟩
          obtain rfl := hw.symm
          exact ⟨rfl, rfl, (((Keeps.refl _ _).alloc _).drewN _)⟩
        · rw [if_neg hlt] at hR
          subst hR
          have hfin : ∀ (W : World), PAt W bp s i bytes nest → PAt ((W.setCell ⟨bp, 1, none⟩ (.int .i64 ((i : Int) + n))).setCell ⟨bp, 1, none⟩ (.int .i64 ((i : Int) + n + 1))) bp s (i + (n + 1)) bytes nest := fun W h => by
            have := (h.go_on (i + n)).go_on (i + (n + 1))
            rw [show ((i + n : Nat) : Int) = (i : Int) + n by omega, show ((i + (n + 1) : Nat) : Int) = (i : Int) + n + 1 by omega] at this
            exact this
          have HFIN := hide hfin
          have g5 : (n : Int) ≤ 1024 := by omega
          clear hfin
          rcases Int.lt_or_le hi' 0 with hh | hh
          · have g3 : decide (0 ≤ hi') = false := decide_eq_false (by omega)
            clear hlt h30 hh
            go_enter Tryd.func61, Tryd.ntmps61
            go_wp2_with fail
            go_quiet (fail)
            go_wp2_with fail
            go_region_held3 (fun w' => w'.cell? ⟨bp, 0, none⟩ = some (.string s) ∧ w'.cell? ⟨bp, 1, none⟩ = some (.int .i64 i)) (go_keep) ((go_at_call 65; refine (unhide HI _).mono ?_; rintro e w2 ⟨rfl, hw⟩; obtain rfl := hw.symm))
            go_wp2_with fail
            have hE := fun nn => rep_end (i := i) (k := i + (n + 1)) lo hi' (unhide HT) (unhide HOK) hbp (W1 := (((w.alloc (.cells zero7 26)).drewN nn).setCell ⟨bp, 1, none⟩ (.int .i64 ((i : Int) + n))).setCell ⟨bp, 1, none⟩ (.int .i64 ((i : Int) + n + 1)))
              (((((Keeps.refl (fun k => k = bp) w).alloc _).drewN _).setCell (p := ⟨bp, 1, none⟩) (.inl rfl) _).setCell (p := ⟨bp, 1, none⟩) (.inl rfl) _) ((((Blk.new w _ _).drewN _).far (by simp only; omega) _).far (by simp only; omega) _) ((unhide HFIN) _ (Blk.drewN (Blk.alloc (unhide HP) _) _)) (by simp)
            refine bodyPost_ret (results_cell_tmp' rfl rfl rfl (load7 (hE _).1)) rfl ?_
            exact (hE _).2
          · have g3 : decide (0 ≤ hi') = true := decide_eq_true hh
            have g4 : decide (hi' < lo) = false := decide_eq_false (by omega)
            clear hlt h30 hh
            go_enter Tryd.func61, Tryd.ntmps61
            go_wp2_with fail
            go_quiet (fail)
            go_wp2_with fail
            go_region_held3 (fun w' => w'.cell? ⟨bp, 0, none⟩ = some (.string s) ∧ w'.cell? ⟨bp, 1, none⟩ = some (.int .i64 i)) (go_keep) ((go_at_call 65; refine (unhide HI _).mono ?_; rintro e w2 ⟨rfl, hw⟩; obtain rfl := hw.symm))
            go_wp2_with fail
            have hE := fun nn => rep_end (i := i) (k := i + (n + 1)) lo hi' (unhide HT) (unhide HOK) hbp (W1 := (((w.alloc (.cells zero7 26)).drewN nn).setCell ⟨bp, 1, none⟩ (.int .i64 ((i : Int) + n))).setCell ⟨bp, 1, none⟩ (.int .i64 ((i : Int) + n + 1)))
              (((((Keeps.refl (fun k => k = bp) w).alloc _).drewN _).setCell (p := ⟨bp, 1, none⟩) (.inl rfl) _).setCell (p := ⟨bp, 1, none⟩) (.inl rfl) _) ((((Blk.new w _ _).drewN _).far (by simp only; omega) _).far (by simp only; omega) _) ((unhide HFIN) _ (Blk.drewN (Blk.alloc (unhide HP) _) _)) (by simp)
            refine bodyPost_ret (results_cell_tmp' rfl rfl rfl (load7 (hE _).1)) rfl ?_
            exact (hE _).2
  · have n123 : (b == 123) = false := by simpa using e123
    rw [if_neg e123] at hR
    subst hR
    clear e42 e43 e63 e123
    go_enter Tryd.func61, Tryd.ntmps61
    go_wp2_with fail
    go_quiet (fail)
    go_wp2_with fail
    refine bodyPost_ret (results_cell_tmp' rfl rfl rfl (load7 (Blk.put7 (Blk.drewN (Blk.new w 26 zero7) _)))) rfl ?_
    exact ⟨rfl, ((((Keeps.refl (fun _ => False) w).alloc _).drewN _).put7 (.inr (Nat.le_refl _)) _ _ _ _ _ _ _).none_below⟩
end Go.Proofs.YtanmlgliibgpcaaDoor

/- Rows of trees; how a group's parts end. -/
namespace Go.Proofs.YtanmlgliibgpcaaDoor
open Go.RowKit Thr
set_option linter.unusedVariables false
set_option linter.unusedSimpArgs false

/-! ### Plain -/
inductive One where
  | fault (i : Nat) (e : Int)
  | node (x : Rx) (k : Nat)
def groupR (s : ByteArray) (i : Nat) : Res → One
  | .fault j e => .fault j e
  | .stop a c j => if j < s.size then .node (shutF a c) (j + 1) else .fault i 90
def oneOf (i : Nat) : Option (Rx × Nat) → One
  | none => .fault i 90
  | some (x, k) => .node x k
def atomF (s : ByteArray) (bytes : Bool) (f nest i : Nat) : Option One :=
  if byt s i = 40 then (if nest = 40 then some (.fault i 91) else (innerF s bytes f (nest + 1) [] [] (i + 1)).map (groupR s i))
  else if byt s i = 41 then some (.fault i 90)
  else if byt s i = 91 then some (oneOf i (setF s i bytes))
  else if byt s i = 92 then some (oneOf i (escF s i bytes))
  else some (.node (plainF (nextF s i bytes).1) (i + (nextF s i bytes).2.toNat))
theorem inner_atom {s : ByteArray} {bytes : Bool} {f nest i : Nat} {alts cat : List Rx} {r : Res} (h : innerF s bytes (f + 1) nest alts cat i = some r) (hi : i < s.size) (ha : (if cat = [] then Again.no else againF s i) = .no)
    (h1 : byt s i ≠ 124) (h2 : ¬ (0 < nest ∧ byt s i = 41)) :
    ∃ o, atomF s bytes f nest i = some o ∧ match o with | .fault j e => r = .fault j e | .node x k => innerF s bytes f nest alts (cat ++ [x]) k = some r := by
  simp only [innerF] at h
  rw [if_neg (by omega), ha] at h
  simp only at h
  rw [if_neg h1] at h
  unfold atomF
  by_cases e40 : byt s i = 40
  · rw [if_pos e40] at h ⊢
    by_cases hn : nest = 40
    · rw [if_pos hn] at h ⊢
      exact ⟨_, rfl, by injection h with h; exact h.symm⟩
    · rw [if_neg hn] at h ⊢
      cases hin : innerF s bytes f (nest + 1) [] [] (i + 1) with
      | none => rw [hin] at h; cases h
      | some q =>
        rw [hin] at h
        refine ⟨_, rfl, ?_⟩
        cases q with
        | fault j e => simp only [groupR]; injection h with h; exact h.symm
        | stop a c j =>
          simp only [groupR] at h ⊢
          by_cases hj : j < s.size
          · rw [if_pos hj] at h ⊢; exact h
          · rw [if_neg hj] at h ⊢; injection h with h; exact h.symm
  rw [if_neg e40] at h ⊢
  by_cases e41 : byt s i = 41
  · rw [if_pos e41] at h ⊢
    have hn : nest = 0 := by omega
    rw [if_pos hn] at h
    exact ⟨_, rfl, by injection h with h; exact h.symm⟩
  rw [if_neg e41] at h ⊢
  by_cases e91 : byt s i = 91
  · rw [if_pos e91] at h ⊢
    refine ⟨_, rfl, ?_⟩
    cases hs : setF s i bytes with
    | none => rw [hs] at h; simp only [oneOf]; injection h with h; exact h.symm
    | some q => rw [hs] at h; exact h
  rw [if_neg e91] at h ⊢
  by_cases e92 : byt s i = 92
  · rw [if_pos e92] at h ⊢
    refine ⟨_, rfl, ?_⟩
    cases hs : escF s i bytes with
    | none => rw [hs] at h; simp only [oneOf]; injection h with h; exact h.symm
    | some q => rw [hs] at h; exact h
  rw [if_neg e92] at h ⊢
  exact ⟨_, rfl, h⟩

/-! ### Rows of trees -/
def TreesRow (ok : Nat → Prop) (W : World) (ts : List Rx) (xs : List Value) : Prop :=
  xs.length = ts.length * 7 ∧ ∀ (i : Nat) (t : Rx), ts[i]? = some t → ∃ cs, TreeAt ok W t cs ∧ ∀ (j : Nat) (u : Value), cs[j]? = some u → xs[i * 7 + j]? = some u
section
variable {ok ok' : Nat → Prop} {W W' : World} {ts : List Rx} {xs : List Value}
theorem TreesRow.nil (ok : Nat → Prop) (W : World) : TreesRow ok W [] [] := ⟨rfl, fun i t h => by simp at h⟩
theorem TreesRow.snoc (h : TreesRow ok W ts xs) {t : Rx} {cs : List Value} (ht : TreeAt ok W t cs) : TreesRow ok W (ts ++ [t]) (xs ++ cs) := by
  refine ⟨by simp [h.1, ht.len]; omega, fun i p hp => ?_⟩
  rcases Nat.lt_or_ge i ts.length with hi | hi
  · rw [List.getElem?_append_left hi] at hp
    obtain ⟨cs', ht', hc⟩ := h.2 i p hp
    refine ⟨cs', ht', fun j u hu => ?_⟩
    have hj := (List.getElem?_eq_some_iff.1 hu).1
    rw [ht'.len] at hj
    rw [List.getElem?_append_left (by rw [h.1]; omega)]
    exact hc j u hu
  · have hi2 := (List.getElem?_eq_some_iff.1 hp).1
    simp at hi2
    obtain rfl : i = ts.length := by omega
    simp at hp
    subst hp
    refine ⟨cs, ht, fun j u hu => ?_⟩
    rw [List.getElem?_append_right (by rw [h.1]; omega), h.1, show ts.length * 7 + j - ts.length * 7 = j by omega]
    exact hu
theorem TreesRow.step (h : TreesRow ok W ts xs) (hk : ∀ k, ok k → k < W.heap.size → W'.heap[k]? = W.heap[k]?) : TreesRow ok W' ts xs :=
  ⟨h.1, fun i t ht => by obtain ⟨cs, a, b⟩ := h.2 i t ht; exact ⟨cs, TreeAt.step hk _ _ a, b⟩⟩
theorem TreesRow.mono (h : TreesRow ok W ts xs) (hk : ∀ k, ok k → ok' k) : TreesRow ok' W ts xs :=
  ⟨h.1, fun i t ht => by obtain ⟨cs, a, b⟩ := h.2 i t ht; exact ⟨cs, TreeAt.mono hk _ _ a, b⟩⟩
theorem TreesRow.bound (h : TreesRow ok W ts xs) : TreesRow (fun k => ok k ∧ k < W.heap.size) W ts xs :=
  ⟨h.1, fun i t ht => by obtain ⟨cs, a, b⟩ := h.2 i t ht; exact ⟨cs, TreeAt.bound _ _ a, b⟩⟩
theorem TreesRow.put {pre : List Rx} {t t' : Rx} {cs' : List Value} (h : TreesRow ok W (pre ++ [t]) xs) (ht : TreeAt ok W t' cs') : TreesRow ok W (pre ++ [t']) (xs.take (pre.length * 7) ++ cs') := by
  have hl : xs.length = pre.length * 7 + 7 := by rw [h.1]; simp; omega
  refine TreesRow.snoc ⟨by simp [hl], fun i p hp => ?_⟩ ht
  have hi := (List.getElem?_eq_some_iff.1 hp).1
  obtain ⟨cs, a, b⟩ := h.2 i p (by rw [List.getElem?_append_left hi]; exact hp)
  refine ⟨cs, a, fun j u hu => ?_⟩
  have hj := (List.getElem?_eq_some_iff.1 hu).1
  rw [a.len] at hj
  rw [List.getElem?_take, if_pos (by omega)]
  exact b j u hu
theorem tree_kids (kind : Int) {base : Nat} {vK : Value} (ho : W.ownsRow base 26 7 vK ts.length xs) (hr : TreesRow ok W ts xs) (hok : ∀ k, ok k → ok' k) (hb : ∀ k, base ≤ k → ok' k) :
    TreeAt ok' W (.mk kind 0 false [] 0 0 ts) [.int .i64 kind, .int .i64 0, .bool false, .slice none 0 0, .int .i64 0, .int .i64 0, vK] := by
  simp only [TreeAt]
  obtain ⟨hl, ⟨rfl, h0⟩ | ⟨g, cap, cur, rfl, hg, hh, h1, h2, h3, h4⟩⟩ := ho
  · obtain rfl := List.eq_nil_of_length_eq_zero h0
    exact ⟨_, _, _, rfl, SetAt.nil _ _, Nat.le_refl _, by omega, .inl rfl⟩
  · unfold maxLen at h2
    refine ⟨_, _, _, rfl, SetAt.nil _ _, h1, by omega, .inr ⟨g, 0, rfl, hb g hg, KidsAt.mk fun i t ht => ?_⟩⟩
    obtain ⟨cs, a, b⟩ := hr.2 i t ht
    refine ⟨cs, TreeAt.mono hok _ _ a, fun j u hu => ?_⟩
    rw [Nat.zero_add]
    exact (own_cell (n := ts.length) (size := 7) ⟨hl, .inr ⟨g, cap, cur, rfl, hg, hh, h1, by unfold maxLen; omega, h3, h4⟩⟩ (b j u hu)).1
end

/-- Seven cells from a place on stored one by one. -/
def putAt (w : World) (g k : Nat) (x0 x1 x2 x3 x4 x5 x6 : Value) : World :=
  ((((((w.setCell ⟨g, k, none⟩ x0).setCell ⟨g, k + 1, none⟩ x1).setCell ⟨g, k + 2, none⟩ x2).setCell ⟨g, k + 3, none⟩ x3).setCell ⟨g, k + 4, none⟩ x4).setCell ⟨g, k + 5, none⟩ x5).setCell ⟨g, k + 6, none⟩ x6
theorem heap_putAt (w : World) (g k : Nat) (x0 x1 x2 x3 x4 x5 x6 : Value) (j : Nat) (hj : j ≠ g) : (putAt w g k x0 x1 x2 x3 x4 x5 x6).heap[j]? = w.heap[j]? := by
  unfold putAt
  repeat rw [Below.heap_setCell _ _ _ j (by simpa using hj)]
theorem Keeps.putAt {S : Nat → Prop} {a w : World} (h : Keeps S a w) {g k : Nat} (hg : S g ∨ a.heap.size ≤ g) (x0 x1 x2 x3 x4 x5 x6 : Value) : Keeps S a (putAt w g k x0 x1 x2 x3 x4 x5 x6) :=
  ((((((h.setCell (p := ⟨g, k, none⟩) hg x0).setCell (p := ⟨g, k + 1, none⟩) hg x1).setCell (p := ⟨g, k + 2, none⟩) hg x2).setCell (p := ⟨g, k + 3, none⟩) hg x3).setCell (p := ⟨g, k + 4, none⟩) hg x4).setCell (p := ⟨g, k + 5, none⟩) hg x5).setCell (p := ⟨g, k + 6, none⟩) hg x6
theorem set_seven (xs : List Value) (k : Nat) (hl : xs.length = k + 7) (x0 x1 x2 x3 x4 x5 x6 : Value) :
    ((((((xs.set k x0).set (k + 1) x1).set (k + 2) x2).set (k + 3) x3).set (k + 4) x4).set (k + 5) x5).set (k + 6) x6 = xs.take k ++ [x0, x1, x2, x3, x4, x5, x6] := by
  apply List.ext_getElem?
  intro j
  have hl7 : (((((xs.set k x0).set (k + 1) x1).set (k + 2) x2).set (k + 3) x3).set (k + 4) x4).length = xs.length := by simp
  rcases Nat.lt_or_ge j k with hj | hj
  · rw [List.getElem?_append_left (by simp; omega), List.getElem?_take, if_pos hj]
    simp only [List.getElem?_set, List.length_set]
    repeat rw [if_neg (by omega)]
  · rw [List.getElem?_append_right (by simp; omega)]
    have hlen : (xs.take k).length = k := by simp; omega
    rw [hlen]
    have : j = k ∨ j = k + 1 ∨ j = k + 2 ∨ j = k + 3 ∨ j = k + 4 ∨ j = k + 5 ∨ j = k + 6 ∨ k + 7 ≤ j := by omega
    rcases this with rfl | rfl | rfl | rfl | rfl | rfl | rfl | h
    all_goals first
      | (rw [List.getElem?_eq_none (by simp; omega), List.getElem?_eq_none (by simp; omega)]; done)
      | (simp [List.getElem?_set, hl])
theorem own_putAt {w : World} {base n g cap k : Nat} {e : TypeId} {xs : List Value} (h : w.ownsRow base e 7 (.slice (some ⟨g, 0, none⟩) n cap) n xs) (hl : xs.length = k + 7) (x0 x1 x2 x3 x4 x5 x6 : Value) :
    (putAt w g k x0 x1 x2 x3 x4 x5 x6).ownsRow base e 7 (.slice (some ⟨g, 0, none⟩) n cap) n (xs.take k ++ [x0, x1, x2, x3, x4, x5, x6]) := by
  rw [← set_seven xs k hl]
  exact own_set (own_set (own_set (own_set (own_set (own_set (own_set h k x0 (by omega)) (k + 1) x1 (by simp; omega)) (k + 2) x2 (by simp; omega)) (k + 3) x3 (by simp; omega)) (k + 4) x4 (by simp; omega)) (k + 5) x5 (by simp; omega)) (k + 6) x6 (by simp; omega)

/-- A row of trees that is being grown: of a call that began in w0. -/
structure RowW (w0 W : World) (bp : Nat) (s : ByteArray) (bytes : Bool) (nest i : Nat) (vK : Value) (ts : List Rx) (xs : List Value) : Prop where
  res : Blk W w0.heap.size 26 zero7
  at_ : PAt W bp s i bytes nest
  own : W.ownsRow (w0.heap.size + 1) 26 7 vK ts.length xs
  row : TreesRow (fun k => w0.heap.size + 1 ≤ k ∧ vK.ownBlock ≠ some k) W ts xs
  kept : Keeps (fun k => k = bp) w0 W
  lt : bp < w0.heap.size
section
variable {w0 W W' : World} {bp : Nat} {s : ByteArray} {bytes : Bool} {nest i : Nat} {vK : Value} {ts : List Rx} {xs : List Value}
theorem RowW.move (h : RowW w0 W bp s bytes nest i vK ts xs) {k : Nat} (hk : Keeps (fun k => k = bp) W W') (hP : PAt W' bp s k bytes nest) : RowW w0 W' bp s bytes nest k vK ts xs := by
  have hlt := h.lt
  refine ⟨h.res.keeps hk (by omega), hP, own_step h.own (fun j hj => ?_), h.row.step (fun j hj hl => hk.block j hl (by omega)), h.kept.trans hk (fun _ _ h => h), hlt⟩
  have := own_lt h.own j hj
  exact hk.block j this.2 (by omega)
theorem RowW.below (h : RowW w0 W bp s bytes nest i vK ts xs) (hb : Below W.heap.size W W') : RowW w0 W' bp s bytes nest i vK ts xs := h.move (Keeps.of_below hb _) (h.at_.below hb)
theorem RowW.app {Wb W2 w3 : World} (h : RowW w0 W bp s bytes nest i vK ts xs) {x : Rx} {cs : List Value} (ht : TreeAt (fun k => Wb.heap.size ≤ k) W x cs) (h1 : w0.heap.size < Wb.heap.size) (h2 : ∀ k, vK.ownBlock = some k → k < Wb.heap.size)
    (hb : Below W.heap.size W W2) (hg : W2.grownBy w3 vK.ownBlock) {go cap : Nat} (ho : w3.ownsRow (w0.heap.size + 1) 26 7 (.slice (some ⟨go, 0, none⟩) (ts.length + 1) cap) (ts.length + 1) (xs ++ cs)) (hgo : vK.ownBlock = some go ∨ go = W2.heap.size) :
    RowW w0 w3 bp s bytes nest i (.slice (some ⟨go, 0, none⟩) (ts.length + 1) cap) (ts ++ [x]) (xs ++ cs) := by
  have hlt := h.lt
  have hW2 := h.below hb
  have hlow : ∀ k, k < w0.heap.size + 1 → some k ≠ vK.ownBlock := fun k hk e => by
    have := (own_lt hW2.own k e.symm).1
    omega
  have hsz := hb.size
  refine ⟨hW2.res.grown hg (hlow _ (by omega)), hW2.at_.grown hg (hlow _ (by omega)), by simpa using ho, ?_, hW2.kept.grown hg (fun k hk => by
    have := (own_lt hW2.own k hk).1
    exact .inr (by omega)), hlt⟩
  have hsame : ∀ k, k < W.heap.size → vK.ownBlock ≠ some k → w3.heap[k]? = W.heap[k]? := fun k hk hn => (hg.block k (by omega) (Ne.symm hn)).trans (hb.block k hk)
  have hgk : ∀ k, k < W.heap.size → vK.ownBlock ≠ some k → (Value.slice (some ⟨go, 0, none⟩) (ts.length + 1) cap).ownBlock ≠ some k := by
    intro k hk hn e
    have e : go = k := by simpa [Value.ownBlock] using e
    rcases hgo with hgo | hgo
    · exact hn (hgo.trans (by rw [e]))
    · omega
  refine TreesRow.snoc ?_ ?_
  · exact ((h.row.bound).step (W' := w3) (fun k hk _ => hsame k hk.2 hk.1.2)).mono (fun k hk => ⟨hk.1.1, hgk k hk.2 hk.1.2⟩)
  · have hn : ∀ k, Wb.heap.size ≤ k → vK.ownBlock ≠ some k := fun k hk e => by have := h2 k e; omega
    exact TreeAt.mono (fun k hk => ⟨by have := hk.1; omega, hgk k hk.2 (hn k hk.1)⟩) _ _ (TreeAt.step (W' := w3) (fun k hk _ => hsame k hk.2 (hn k hk.1)) _ _ (TreeAt.bound _ _ ht))
theorem RowW.put {pre : List Rx} {t t' : Rx} {g m cap : Nat} {x0 x1 x2 x3 x4 x5 x6 : Value} (h : RowW w0 W bp s bytes nest i (.slice (some ⟨g, 0, none⟩) (m + 1) cap) (pre ++ [t]) xs) (hm : pre.length = m)
    (ht : TreeAt (fun k => w0.heap.size + 1 ≤ k ∧ g ≠ k) W t' [x0, x1, x2, x3, x4, x5, x6]) :
    RowW w0 (putAt W g (m * 7) x0 x1 x2 x3 x4 x5 x6) bp s bytes nest i (.slice (some ⟨g, 0, none⟩) (m + 1) cap) (pre ++ [t']) (xs.take (m * 7) ++ [x0, x1, x2, x3, x4, x5, x6]) := by
  have hlt := h.lt
  have hg := (own_lt h.own g rfl).1
  have hl : xs.length = m * 7 + 7 := by rw [h.own.1]; simp [hm]; omega
  have ho := own_putAt (n := m + 1) (k := m * 7) (by have := h.own; simp [hm] at this; exact this) hl x0 x1 x2 x3 x4 x5 x6
  refine ⟨(heap_putAt _ _ _ _ _ _ _ _ _ _ _ (by omega)).trans h.res, (heap_putAt _ _ _ _ _ _ _ _ _ _ _ (by omega)).trans h.at_, by simp [hm]; exact ho, ?_, h.kept.putAt (.inr (by omega)) _ _ _ _ _ _ _, hlt⟩
  subst hm
  have h1 := h.row.put (t' := t') (cs' := [x0, x1, x2, x3, x4, x5, x6]) (TreeAt.mono (fun k hk => ⟨hk.1, by simpa [Value.ownBlock] using hk.2⟩) _ _ ht)
  exact h1.step (fun k hk _ => heap_putAt _ _ _ _ _ _ _ _ _ _ k (fun e => hk.2 (by simp [Value.ownBlock, e])))
end

def OnePost (bp : Nat) (s : ByteArray) (bytes : Bool) (nest : Nat) (w w' : World) (e : Ending) : One → Prop
  | .fault i er => Gives bp i er w w' e
  | .node x k => ∃ cs, e = .returned (.agg cs.toArray) ∧ TreeAt (fun k => w.heap.size ≤ k) w' x cs ∧ PAt w' bp s k bytes nest ∧ Keeps (fun k => k = bp) w w'
def AltPost (bp : Nat) (s : ByteArray) (bytes : Bool) (nest : Nat) (w w' : World) (e : Ending) : Res → Prop
  | .fault j er => Gives bp j er w w' e
  | .stop a c j => ∃ cs, e = .returned (.agg cs.toArray) ∧ TreeAt (fun k => w.heap.size ≤ k) w' (shutF a c) cs ∧ PAt w' bp s j bytes nest ∧ Keeps (fun k => k = bp) w w'
end Go.Proofs.YtanmlgliibgpcaaDoor
