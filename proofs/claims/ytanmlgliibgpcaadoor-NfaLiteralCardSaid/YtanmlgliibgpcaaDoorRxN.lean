/- The walk of set. -/
import Derived.Test.YtanmlgliibgpcaaDoorRxM
import Derived.Test.YtanmlgliibgpcaaDoorPureGood
import Derived.Deep.LoopGhost
import Derived.WalkSpells
namespace Go.Proofs.YtanmlgliibgpcaaDoor
open Go.RowKit Thr
set_option linter.unusedVariables false
set_option linter.unusedSimpArgs false

theorem class_ne {n : ByteArray} {l : List (Int × Int)} (h : classF n = some l) : l ≠ [] := by
  obtain ⟨x, hx, rfl⟩ := look_in _ _ _ h
  have : ∀ x ∈ classTab, x.2 ≠ [] := by decide
  exact this x hx
theorem class_few {n : ByteArray} {l : List (Int × Int)} (h : classF n = some l) : l.length ≤ 4 := by
  obtain ⟨x, hx, rfl⟩ := look_in _ _ _ h
  have : ∀ x ∈ classTab, x.2.length ≤ 4 := by decide
  exact this x hx
theorem named_some {s : ByteArray} {i k : Nat} {l : List (Int × Int)} (h : namedF s i = some (l, k)) : l ≠ [] ∧ l.length ≤ 4 ∧ ∀ r ∈ l, fineR r := by
  unfold namedF at h
  split at h
  · cases h
  · split at h
    · cases h
    · rename_i hc
      simp only [Option.some.injEq, Prod.mk.injEq] at h
      rw [← h.1]
      exact ⟨class_ne hc, class_few hc, class_fine hc⟩

theorem grown_size {W W2 w5 : World} {row : Option Nat} (hg : W2.grownBy w5 row) (hb : Below W.heap.size W W2) : W.heap.size ≤ w5.heap.size := Nat.le_trans hb.size hg.size
theorem grown_cell {W W2 w5 : World} {row : Option Nat} (hg : W2.grownBy w5 row) (hb : Below W.heap.size W W2) {b o : Nat} {v : Value} (hlt : b < W.heap.size) (hne : row ≠ some b) (h : W.cell? ⟨b, o, none⟩ = some v) : w5.cell? ⟨b, o, none⟩ = some v :=
  (hg.cell_far ⟨b, o, none⟩ (Nat.lt_of_lt_of_le hlt hb.size) (Ne.symm hne)).trans ((hb.cell (p := ⟨b, o, none⟩) hlt).trans h)
theorem grown_frozen {W W2 w5 : World} {row : Option Nat} (hg : W2.grownBy w5 row) (hb : Below W.heap.size W W2) {b o : Nat} (hlt : b < W.heap.size) (hne : row ≠ some b) (h : W.frozen? ⟨b, o, none⟩ = false) : w5.frozen? ⟨b, o, none⟩ = false :=
  (hg.frozen_far ⟨b, o, none⟩ (Nat.lt_of_lt_of_le hlt hb.size) (Ne.symm hne)).trans ((hb.frozen (p := ⟨b, o, none⟩) hlt).trans h)
theorem set_news {ok : Nat → Prop} {W : World} {b c : Nat} {l : List (Int × Int)} (h : SetAt ok W (.slice (some ⟨b, 0, none⟩) l.length c) l) : ∀ (j : Nat) (u : Value), (rangeCells l)[j]? = some u → W.cell? ((⟨b, 0, none⟩ : Addr).add j) = some u := by
  intro j u hu
  have hadd : (⟨b, 0, none⟩ : Addr).add j = ⟨b, j, none⟩ := by unfold Addr.add; split <;> simp_all
  rw [hadd]
  have hj := (List.getElem?_eq_some_iff.1 hu).1
  rw [rangeCells_len] at hj
  obtain ⟨A, c', hA, _, _, h | ⟨b', o, hb, _, h⟩⟩ := h
  · subst h
    simp at hj
  · injection hA with hA
    subst hA
    injection hb with hb
    injection hb with hb ho
    subst hb; subst ho
    have hq : j / 2 < l.length := by omega
    have hg := List.getElem?_eq_getElem hq
    obtain ⟨h0, h1⟩ := h (j / 2) _ hg
    obtain ⟨r0, r1⟩ := rangeCells_get l (j / 2) _ hg
    rcases Nat.mod_two_eq_zero_or_one j with hm | hm
    · rw [show j / 2 * 2 = j by omega] at r0
      rw [show 0 + j / 2 * 2 = j by omega] at h0
      rw [h0, ← r0, hu]
    · rw [show j / 2 * 2 + 1 = j by omega] at r1
      rw [show 0 + j / 2 * 2 + 1 = j by omega] at h1
      rw [h1, ← r1, hu]
theorem range_oneCell (l : List (Int × Int)) : ∀ u ∈ rangeCells l, u.oneCell' = true := by
  induction l with
  | nil => intro u hu; simp [rangeCells] at hu
  | cons r l ih =>
    intro u hu
    simp only [rangeCells, List.mem_cons] at hu
    rcases hu with rfl | rfl | hu
    · rfl
    · rfl
    · exact ih u hu

/-- A set that is being read: its node lies in block B + 1. -/
structure SetW (w0 W : World) (bp B : Nat) (s : ByteArray) (bytes : Bool) (nest : Nat) (neg : Bool) (i : Nat) (vS : Value) (acc : List (Int × Int)) : Prop where
  res : Blk W B 26 zero7
  node : Blk W (B + 1) 26 #[.int .i64 4, .int .i64 0, .bool neg, vS, .int .i64 0, .int .i64 0, .slice none 0 0]
  at_ : PAt W bp s i bytes nest
  own : W.ownsRow (B + 2) 65 2 vS acc.length (rangeCells acc)
  kept : Keeps (fun k => k = bp) w0 W
  size : w0.heap.size = B
  lt : bp < B
theorem SetW.move {w0 W W' : World} {bp B : Nat} {s : ByteArray} {bytes : Bool} {nest : Nat} {neg : Bool} {i k : Nat} {vS : Value} {acc : List (Int × Int)} (h : SetW w0 W bp B s bytes nest neg i vS acc)
    (hk : Keeps (fun k => k = bp) W W') (hP : PAt W' bp s k bytes nest) : SetW w0 W' bp B s bytes nest neg k vS acc := by
  have hlt := h.lt
  refine ⟨h.res.keeps hk (by omega), h.node.keeps hk (by omega), hP, own_step h.own (fun j hj => ?_), h.kept.trans hk (fun _ _ h => h), h.size, hlt⟩
  have := own_lt h.own j hj
  exact hk.block j this.2 (by omega)
theorem SetW.below {w0 W W' : World} {bp B : Nat} {s : ByteArray} {bytes : Bool} {nest : Nat} {neg : Bool} {i : Nat} {vS : Value} {acc : List (Int × Int)} (h : SetW w0 W bp B s bytes nest neg i vS acc)
    (hb : Below W.heap.size W W') : SetW w0 W' bp B s bytes nest neg i vS acc := h.move (Keeps.of_below hb _) (h.at_.below hb)
theorem SetW.app {w0 W W2 w3 : World} {bp B : Nat} {s : ByteArray} {bytes : Bool} {nest : Nat} {neg : Bool} {i : Nat} {vS : Value} {acc l : List (Int × Int)} (h : SetW w0 W bp B s bytes nest neg i vS acc)
    (hb : Below W.heap.size W W2) (hg : W2.grownBy w3 vS.ownBlock) {go cap m : Nat} (ho : w3.ownsRow (B + 2) 65 2 (.slice (some ⟨go, 0, none⟩) (acc.length + m) cap) (acc.length + m) (rangeCells acc ++ rangeCells l)) (hm : l.length = m) :
    SetW w0 (w3.setCell ⟨B + 1, 3, none⟩ (.slice (some ⟨go, 0, none⟩) (acc.length + m) cap)) bp B s bytes nest neg i (.slice (some ⟨go, 0, none⟩) (acc.length + m) cap) (acc ++ l) := by
  have h2 := h.below hb
  have hlt := h.lt
  have hn : vS.ownBlock ≠ some (B + 1) := own_blk_ne h2.own h2.node (by decide)
  have hlow : ∀ k, k < B + 2 → some k ≠ vS.ownBlock := fun k hk e => by
    have := (own_lt h2.own k e.symm).1
    omega
  have hnode := h2.node.grown hg (hlow _ (by omega))
  have hgo : go ≠ B + 1 := fun e => own_blk_ne ho hnode (by decide) (by simp [Value.ownBlock, e])
  have hk3 : Keeps (fun k => k = bp) w0 w3 := h2.kept.grown hg (fun k hk => by
    have := (own_lt h2.own k hk).1
    have := h.size
    exact .inr (by omega))
  refine ⟨(h2.res.grown hg (hlow _ (by omega))).far (by simp only; omega) _, ?_, (h2.at_.grown hg (hlow _ (by omega))).far (by simp only; omega) _, ?_, hk3.setCell (.inr (by have := h.size; simp only; omega)) _, h.size, hlt⟩
  · have := hnode.set_ 3 (.slice (some ⟨go, 0, none⟩) (acc.length + m) cap)
    simpa using this
  · rw [rangeCells_append, List.length_append, hm]
    exact own_step ho (fun j hj => Below.heap_setCell _ _ _ j (by simp [Value.ownBlock] at hj; subst hj; simpa using hgo))

set_option maxRecDepth 100000 in
set_option maxHeartbeats 64000000 in
theorem set_calls {bp : Nat} {s : ByteArray} {i : Nat} {bytes : Bool} {nest : Nat} (from_ : Int) (w : World) (hP : PAt w bp s (i + 1) bytes nest) (hG : Glob w) (hi : i + 1 ≤ s.size) (hm : s.size ≤ 1024) :
    Calls Tryd.prog 69 #[.pointer (some ⟨bp, 0, none⟩), .int .i64 from_] w fun e w' => NodePost bp s bytes nest from_ w w' e (setF s i bytes) := by
  obtain ⟨O, hO⟩ : ∃ O, setF s i bytes = O := ⟨_, rfl⟩
  rw [hO]
  unfold setF at hO
  have hZ := sized_all s bytes
  have c0 := hP.cell 0
  have c1 := hP.cell 1
  have f1 := hP.frozen 1
  have hbp := hP.lt
  simp at c0 c1
  have hs1 := fun w1 (hP1 : PAt w1 bp s (i + 1) bytes nest) => see_quiet (lit [94]) w1 hP1 hi hm
  rw [see_one, show ((94 : UInt8).toNat : Int) = 94 from rfl] at hs1
  have hGl : ∀ W, Keeps (fun k => k = bp) w W → Glob W := fun W hk => hG.keeps hk hP
  have hq := fun (w : World) (a : Option Addr) (n c : Nat) => run_neq_slice_nil_any w 23 65 a n c 0 0 Tryd.underlying23
  obtain ⟨i0, hi0, hz0, hz1, hz2⟩ := info_parts Tryd.infoRange
  have HS1 := hide hs1; have HP := hide hP; have HG := hide hGl; have HZ := hide hZ
  clear hs1 hP hG hGl hZ
  obtain ⟨N, hN⟩ : ∃ N, Thr.one s (i + 1) 94 = N := ⟨_, rfl⟩
  rw [hN] at hO HS1
  cases N with
  | false =>
    rw [if_neg (by simp)] at hO
    have hst : i + 1 ≤ s.size := by omega
    obtain ⟨st, hste⟩ : ∃ st, st = i + 1 := ⟨_, rfl⟩
    rw [← hste] at hO hst
    obtain ⟨O', hO'⟩ : ∃ O', setsF s bytes (s.size + 1) st true [] = O' := ⟨_, rfl⟩
    rw [hO'] at hO
    have HO' := hide hO'; have HO := hide hO
    clear hO' hO hN
    go_enter Tryd.func69, Tryd.ntmps69
    go_wp2_with fail
    refine (unhide HS1 _ ((unhide HP).below (by repeat (first | exact Below.refl _ _ | assumption | refine below_drewN ?_ _ | refine Below.drew ?_ | refine below_alloc' ?_ _)))).mono ?_
    rintro e w1 ⟨rfl, mm, hw1⟩
    have hw1b : Below w.heap.size w w1 := by rw [hw1]; exact below_drewN (by repeat (first | exact Below.refl _ _ | assumption | refine below_drewN ?_ _ | refine Below.drew ?_ | refine below_alloc' ?_ _)) _
    have hr1 : Blk w1 w.heap.size 26 zero7 := by
      rw [hw1]
      exact ((Blk.new w 26 zero7).alloc _).drewN _
    have hn1 : Blk w1 (w.heap.size + 1) 26 #[.int .i64 4, .int .i64 0, .bool false, .slice none 0 0, .int .i64 0, .int .i64 0, .slice none 0 0] := by
      rw [hw1]
      refine Blk.drewN ?_ _
      have := Blk.new (w.alloc (.cells zero7 26)) 26 #[.int .i64 4, .int .i64 0, .bool false, .slice none 0 0, .int .i64 0, .int .i64 0, .slice none 0 0]
      simpa [zero7] using this
    clear hw1
    have hP1 := (unhide HP).below hw1b
    have q1 := hP1.cell 1
    have g1 := hP1.frozen 1
    have hbp1 := hP1.lt
    have hz1' : w.heap.size + 1 < w1.heap.size := hn1.lt
    have hz1'' : w.heap.size < w1.heap.size := by omega
    have n2 := hn1.cell 2
    have h2f := hn1.frozen 2
    simp at q1 n2
    have HR1 := hide hr1; have HN1 := hide hn1; have HB1 := hide hw1b; have HP1 := hide hP1
    clear hr1 hn1 hw1b hP1
    go_wp2_with fail
    have hsw : ∀ W, W.heap = w1.heap → W.os = w1.os → W.tape = w1.tape → W.output = w1.output → SetW w W bp w.heap.size s bytes nest false st (.slice none 0 0) [] := by
      intro W h1 h2 h3 h4
      have hk := Keeps.of_below (unhide HB1) (fun k => k = bp)
      refine ⟨?_, ?_, ?_, World.ownsRow_nil _ _ _ _, ⟨h2.trans hk.os, h3.trans hk.tape, h4.trans hk.output, by rw [h1]; exact hk.size, fun k hk1 hk2 => by rw [h1]; exact hk.block k hk1 hk2⟩, rfl, hbp⟩
      · unfold Blk; rw [h1]; exact unhide HR1
      · unfold Blk; rw [h1]; exact unhide HN1
      · unfold PAt Blk; rw [h1, hste]; exact unhide HP1
    have HSW := hide hsw
    clear hsw n2 h2f q1 g1 c0 c1 f1
    go_loopg [6] (s.size + 1) (fun kx first_ wr => ∃ (j : Nat) (first : Bool) (acc : List (Int × Int)) (vS : Value), first_ = .bool first ∧ j ≤ s.size ∧ s.size - j < kx ∧ Hid (setsF s bytes kx j first acc = O') ∧ Hid (∀ r ∈ acc, fineR r) ∧ acc.length ≤ 4 * j ∧ Hid (acc ≠ [] ∨ first = true) ∧ Hid (SetW w wr bp w.heap.size s bytes nest false j vS acc))
    case atStart => exact ⟨st, true, [], .slice none 0 0, rfl, hst, by omega, HO', hide (by intro r hr; cases hr), by simp, hide (.inr rfl), hide (by exact (unhide HSW) _ rfl rfl rfl rfl)⟩
    case round =>
      obtain ⟨j, first, acc, vS, rfl, hj, hjk, HR, HF, hacc, HNE, HW⟩ := hrel
      clear HSW HR1 HN1 HB1 HP1 hz1' hz1'' hbp1
      obtain ⟨f, rfl⟩ : ∃ f, gk = f + 1 := ⟨gk - 1, by omega⟩
      have hR := unhide HR
      simp only [setsF] at hR
      have hsee := see_quiet (lit [93]) wr (unhide HW).at_ hj hm
      rw [see_one, show ((93 : UInt8).toNat : Int) = 93 from rfl] at hsee
      by_cases hend : first = false ∧ Thr.one s j 93 = true
      · obtain ⟨rfl, hone⟩ := hend
        rw [if_pos ⟨rfl, hone⟩] at hR
        rw [hone] at hsee
        obtain rfl := hR.symm
        have hO := unhide HO
        simp only at hO
        subst hO
        have hjl : j < s.size := by have h := hone; simp [Thr.one] at h; exact h.1
        have HSEE := hide hsee
        clear hsee hone HR
        go_wp2_with fail
        refine (unhide HSEE).mono ?_
        rintro e w2 ⟨rfl, m2, hw2⟩
        have hw2b : Below wr.heap.size wr w2 := by rw [hw2]; exact below_drewN (Below.refl _ _) _
        have hW2 := (unhide HW).below hw2b
        clear hw2 hw2b
        have q1 := hW2.at_.cell 1
        have g1 := hW2.at_.frozen 1
        have hbp2 := hW2.at_.lt
        obtain ⟨Ao, co, rfl⟩ := own_form hW2.own
        have n3 := hW2.node.cell 3
        have h3f := hW2.node.frozen 3
        have hz2 : w.heap.size + 1 < w2.heap.size := hW2.node.lt
        have hz2' : w.heap.size < w2.heap.size := by omega
        have hbn : bp ≠ w.heap.size + 1 := by omega
        simp at q1 n3
        have hW3 := hW2.move (W' := w2.setCell ⟨bp, 1, none⟩ (.int .i64 ((j + 1 : Nat) : Int))) ((Keeps.refl (fun k => k = bp) _).setCell (p := ⟨bp, 1, none⟩) (.inl rfl) _) (hW2.at_.go_on (j + 1))
        rw [show ((j + 1 : Nat) : Int) = (j : Int) + 1 by omega] at hW3
        have hmg := fun W (e : W.heap = (w2.setCell ⟨bp, 1, none⟩ (.int .i64 ((j : Int) + 1))).heap) => merged_calls (base := w.heap.size + 2) acc (.slice Ao acc.length co) W (own_step hW3.own (fun k _ => by rw [e])) ((unhide HNE).resolve_right (by simp)) (fun r hr => (unhide HF r hr).2.1) (fun r hr => by have := unhide HF r hr; unfold fineR at this; unfold inB; omega) (by omega)
        have HMG := hide hmg; have HW3 := hide hW3
        clear hW2 hW3 hmg
        go_wp2_with fail
        refine (unhide HMG _ rfl).mono ?_
        rintro e w4 ⟨vo, rfl, hset, hk4⟩
        have hW3' := unhide HW3
        have hown : ∀ k, (Value.slice Ao acc.length co).ownBlock = some k → w.heap.size + 2 ≤ k := fun k hk => (own_lt hW3'.own k hk).1
        have hr4 := hW3'.res.keeps hk4 (fun e => by have := hown _ e; omega)
        have hn4 := hW3'.node.keeps hk4 (fun e => by have := hown _ e; omega)
        have hp4 : PAt w4 bp s (j + 1) bytes nest := Blk.keeps hW3'.at_ hk4 (fun e => by have := hown _ e; omega)
        have hkk : Keeps (fun k => k = bp) w w4 := hW3'.kept.trans (S' := fun k => w.heap.size + 2 ≤ k) (hk4.mono (fun k _ hk => hown k hk)) (fun k h1 h2 => by omega)
        have hz4 : w2.heap.size ≤ w4.heap.size := by have := hk4.size; simpa using this
        obtain ⟨⟨r0, r1, r2, r3, r4, r5, r6⟩, p0, p1, p2, p3, p4, p5, p6⟩ := hr4.seven
        obtain ⟨⟨t0, t1, t2, t3, t4, t5, t6⟩, u0, u1, u2, u3, u4, u5, u6⟩ := hn4.seven
        have hset' : SetAt (fun k => w2.heap.size ≤ k) w4 vo (acc.foldl withR []) := hset.mono (fun k hk => by simpa using hk)
        obtain ⟨Av, lv, cv, rfl⟩ : ∃ Av lv cv, vo = .slice Av lv cv := by obtain ⟨A, c, h, _⟩ := hset'; exact ⟨_, _, _, h⟩
        have HR4 := hide hr4; have HN4 := hide hn4; have HP4 := hide hp4; have HKK := hide hkk; have HSET := hide hset'
        have hz4' : w.heap.size + 1 < w4.heap.size := by omega
        have hz4'' : w.heap.size < w4.heap.size := by omega
        clear hr4 hn4 hp4 hkk hset hset' hk4 hW3' hown n3 h3f q1 g1
        go_wp2_with fail
        refine bodyPost_ret (results_cell rfl rfl (load7 (Blk.put7 (((unhide HR4).far (p := ⟨w.heap.size + 1, 3, none⟩) (by simp) _))))) rfl ?_
        refine ⟨_, rfl, tree_set _ _ _ ?_, PAt.put7 (Blk.far (unhide HP4) (p := ⟨w.heap.size + 1, 3, none⟩) (by simp only; omega) _) (by omega) _ _ _ _ _ _ _, ((unhide HKK).setCell (p := ⟨w.heap.size + 1, 3, none⟩) (.inr (by simp only; omega)) _).put7 (.inr (Nat.le_refl _)) _ _ _ _ _ _ _⟩
        exact SetAt.mono (SetAt.step (W := w4) (unhide HSET) (fun k hk _ => by
          have : w2.heap.size ≤ k := hk
          exact (heap_put7 _ _ _ _ _ _ _ _ _ k (by omega)).trans (Below.heap_setCell _ _ _ k (by simp only; omega)))) (fun k hk => by have : w2.heap.size ≤ k := hk; show w.heap.size ≤ k; omega)
      · rw [if_neg hend] at hR
        clear HR
        cases first with
        | true =>
          clear hsee hend
          have HW2 := hide (unhide HW)
          go_wp2_with fail
          by_cases hnm : two s j 91 58 = true
          · rw [if_pos hnm] at hR
            have hnc := named_calls from_ wr (unhide HW2).at_ ((unhide HG) wr (unhide HW2).kept) hj hm hnm
            refine hnc.mono ?_
            clear hnc
            cases hnf : namedF s j with
            | none =>
              rw [hnf] at hR
              have hO := unhide HO
              rw [← hR] at hO
              simp only at hO
              subst hO
              rintro e w3 ⟨rfl, hk3⟩
              exact ⟨rfl, rfl, (unhide HW2).kept.trans hk3 (fun _ _ h => h)⟩
            | some r =>
              obtain ⟨l, k⟩ := r
              rw [hnf] at hR
              simp only at hR
              rintro e w3 ⟨b, rfl, hb0, hst3, hP3, hk3⟩
              have hkle := named_le hnf
              obtain ⟨hne, hfew, hfine⟩ := named_some hnf
              have hlpos : 0 < l.length := List.length_pos_iff.2 hne
              have hW3 := (unhide HW2).move hk3 hP3
              have HNW := hide (set_news hst3)
              obtain ⟨Ao, co, rfl⟩ := own_form hW3.own
              have n3 := hW3.node.cell 3
              have h3f := hW3.node.frozen 3
              have hzB : w.heap.size + 1 < w3.heap.size := hW3.node.lt
              have hzB' : w.heap.size < w3.heap.size := by omega
              have HNO := hide (own_blk_ne hW3.own hW3.node (by decide))
              simp at n3
              have HW3 := hide hW3
              have HR3 := hide hR; have HFI := hide hfine; have HNE3 := hide hne
              clear hW3 hst3 hP3 hk3 hR hfine hne hnm hnf
              go_wp2_with
               ((at_builtin; refine wpList_append_lies _ (by rfl) _ _ _ (by rfl) (w.heap.size + 2) 65 i0 _ 2 16 Tryd.underlying23 hi0 hz0 hz1 hz2 rfl (by omega) (.slice Ao acc.length co) acc.length (rangeCells acc) (by rfl)
                    (by exact own_step (unhide HW3).own (fun j hj => (Below.refl w3.heap.size w3).block j (own_lt (unhide HW3).own j hj).2)) ⟨b, 0, none⟩ l.length _ (rangeCells l)
                    (by rfl) (by exact rangeCells_len l) (by exact unhide HNW)
                    (by exact range_oneCell l) (by omega) (by simp only [maxLen]; omega) (by omega) (by first | omega | (simp; omega)) _ (by rfl) ?_; intro go cap5 w5 hown5 hgrow hat5 hlt5; have cz := grown_cell hgrow (Below.refl w3.heap.size w3) hzB (unhide HNO) n3; have fz := grown_frozen hgrow (Below.refl w3.heap.size w3) hzB (unhide HNO) h3f; have hz5 := Nat.lt_of_lt_of_le hzB (grown_size hgrow (Below.refl w3.heap.size w3))))
              have hW5 := (unhide HW3).app (l := l) (Below.refl w3.heap.size w3) hgrow hown5 (by rfl)
              have HW5 := hide hW5
              clear hW5 hown5 hgrow hat5
              go_roundg f
              case measure => omega
              case rel => exact ⟨k, false, acc ++ l, _, rfl, hkle.2, by omega, hide (by first | exact unhide HR3), hide (fun r hr => by
                rcases List.mem_append.1 hr with hr | hr
                · exact unhide HF r hr
                · exact unhide HFI r hr), by simp only [List.length_append]; first | omega | (simp only [List.length_cons, List.length_nil]; omega), hide (.inl (by simp; exact fun _ => unhide HNE3)), HW5⟩
          · rw [if_neg hnm] at hR
            refine (named_none from_ wr (unhide HW2).at_ hj hm (by simpa using hnm)).mono ?_
            rintro e w3 ⟨rfl, hb3⟩
            have HW3 := hide ((unhide HW2).below hb3)
            clear hb3 hnm
            go_wp2_with fail
            refine (member_calls from_ w3 (unhide HW3).at_ ((unhide HG) w3 (unhide HW3).kept).tabs hj hm).mono ?_
            cases hmf : memberF s j bytes with
            | none =>
              rw [hmf] at hR
              have hO := unhide HO
              rw [← hR] at hO
              simp only at hO
              subst hO
              rintro e w4 ⟨rfl, hk4⟩
              exact ⟨rfl, rfl, (unhide HW3).kept.trans hk4 (fun _ _ h => h)⟩
            | some r =>
              obtain ⟨lo, k⟩ := r
              rw [hmf] at hR
              simp only at hR
              rintro e w4 ⟨rfl, hP4, hk4⟩
              have hkle := member_le (unhide HZ) hmf
              have hlo := member_range (unhide HZ) hmf
              have hW4 := (unhide HW3).move hk4 hP4
              have q0 := hP4.cell 0
              have q1 := hP4.cell 1
              have g1 := hP4.frozen 1
              have hbp4 := hP4.lt
              simp at q0 q1
              obtain ⟨Ao, co, rfl⟩ := own_form hW4.own
              have n3 := hW4.node.cell 3
              have h3f := hW4.node.frozen 3
              have hzB : w.heap.size + 1 < w4.heap.size := hW4.node.lt
              have hzB' : w.heap.size < w4.heap.size := by omega
              have HNO := hide (own_blk_ne hW4.own hW4.node (by decide))
              simp at n3
              have HW4 := hide hW4
              have hs45 := fun W (hP : PAt W bp s k bytes nest) => see_quiet (lit [45]) W hP hkle.2 hm
              rw [see_one, show ((45 : UInt8).toNat : Int) = 45 from rfl] at hs45
              have hs93 := fun W (hP : PAt W bp s k bytes nest) => see_quiet (lit [45, 93]) W hP hkle.2 hm
              rw [see_two, show ((45 : UInt8).toNat : Int) = 45 from rfl, show ((93 : UInt8).toNat : Int) = 93 from rfl] at hs93
              clear hW4 hP4 hk4 hmf
              by_cases h45 : Thr.one s k 45 = true
              · rw [h45] at hs45
                by_cases h93 : two s k 45 93 = true
                · rw [h93] at hs93
                  rw [if_neg (by have h := h93; simp [two] at h; intro h'; exact h'.2.2 h.2.2)] at hR
                  have HS45 := hide hs45; have HS93 := hide hs93; have HR3 := hide hR
                  clear hs45 hs93 h45 h93 hR
                  go_wp2_with fail
                  go_quiet ((first | (go_at_call_of 51 (Value.string { data := #[45, 93] }); exact Calls.quiet_of (unhide HS93 _ ((unhide HW4).at_.drewN _))) | (go_at_call 51; exact Calls.quiet_of (unhide HS45 _ ((unhide HW4).at_.drewN _)))))
                  go_wp2_with
                   ((at_builtin; refine wpList_append_lies _ (by rfl) _ _ _ (by rfl) (w.heap.size + 2) 65 i0 _ 2 16 Tryd.underlying23 hi0 hz0 hz1 hz2 rfl (by omega) (.slice Ao acc.length co) acc.length (rangeCells acc) (by rfl)
                        (by exact own_step (unhide HW4).own (fun j hj => (below_alloc' (below_drewN (Below.refl w4.heap.size w4) _) _).block j (own_lt (unhide HW4).own j hj).2)) ⟨w4.heap.size, 0, none⟩ 1 _ [.int .i64 lo, .int .i64 lo]
                        (by rfl) (by rfl) (by exact World.news_of_block (cs := #[.int .i64 lo, .int .i64 lo]) (heap_alloc_new _ _))
                        (by simp [Value.oneCell']) (by omega) (by simp only [maxLen]; omega) (by omega) (by first | omega | (simp; omega)) _ (by rfl) ?_; intro go cap5 w5 hown5 hgrow hat5 hlt5; have cz := grown_cell hgrow (below_alloc' (below_drewN (Below.refl w4.heap.size w4) _) _) hzB (unhide HNO) n3; have fz := grown_frozen hgrow (below_alloc' (below_drewN (Below.refl w4.heap.size w4) _) _) hzB (unhide HNO) h3f; have hz5 := Nat.lt_of_lt_of_le hzB (grown_size hgrow (below_alloc' (below_drewN (Below.refl w4.heap.size w4) _) _))))
                  have hW5 := (unhide HW4).app (l := [(lo, lo)]) (below_alloc' (below_drewN (Below.refl w4.heap.size w4) _) _) hgrow hown5 (by rfl)
                  have HW5 := hide hW5
                  clear hW5 hown5 hgrow hat5
                  go_roundg f
                  case measure => omega
                  case rel => exact ⟨k, false, acc ++ [(lo, lo)], _, rfl, hkle.2, by omega, hide (by first | exact unhide HR3), hide (fun r hr => by
                    rcases List.mem_append.1 hr with hr | hr
                    · exact unhide HF r hr
                    · obtain rfl := List.mem_singleton.1 hr; exact ⟨hlo.1, Int.le_refl _, hlo.2⟩), by simp only [List.length_append]; first | omega | (simp only [List.length_cons, List.length_nil]; omega), hide (.inl (by simp; skip)), HW5⟩
                · have h93' : two s k 45 93 = false := by simpa using h93
                  rw [h93'] at hs93
                  by_cases hsz : k + 1 < s.size
                  · have hlt2 : decide ((k : Int) + 1 < s.size) = true := decide_eq_true (by omega)
                    rw [if_pos ⟨h45, hsz, by have h := h45; simp [Thr.one] at h; intro h'; simp [two, h.2, h', hsz] at h93'⟩] at hR
                    have hP5 : ∀ n, PAt ((w4.drewN n).setCell ⟨bp, 1, none⟩ (.int .i64 ((k : Int) + 1))) bp s (k + 1) bytes nest := fun n => by
                      exact PAt.go_on (w := w4.drewN n) (Blk.drewN (unhide HW4).at_ n) (k + 1)
                    have hW5 : ∀ n, SetW w ((w4.drewN n).setCell ⟨bp, 1, none⟩ (.int .i64 ((k : Int) + 1))) bp w.heap.size s bytes nest false (k + 1) (.slice Ao acc.length co) acc := fun n => (unhide HW4).move (((Keeps.refl (fun k => k = bp) _).drewN n).setCell (p := ⟨bp, 1, none⟩) (.inl rfl) _) (hP5 n)
                    have HS45 := hide hs45; have HS93 := hide hs93; have HW5 := hide hW5
                    clear hs45 hs93 h45 h93 h93' hP5 hW5
                    go_wp2_with fail
                    go_quiet ((first | (go_at_call_of 51 (Value.string { data := #[45, 93] }); exact Calls.quiet_of (unhide HS93 _ ((unhide HW4).at_.drewN _))) | (go_at_call 51; exact Calls.quiet_of (unhide HS45 _ ((unhide HW4).at_.drewN _)))))
                    go_wp2_with fail
                    refine (see_quiet (lit [91, 58]) _ ((unhide HW5) _).at_ (by omega) hm).mono ?_
                    rw [see_two, show ((91 : UInt8).toNat : Int) = 91 from rfl, show ((58 : UInt8).toNat : Int) = 58 from rfl]
                    rintro e w6 ⟨rfl, m6, hw6⟩
                    have hW6 := ((unhide HW5) nq).below (show Below _ _ w6 by rw [hw6]; exact below_drewN (Below.refl _ _) _)
                    have HW6 := hide hW6
                    clear hW6 hw6 n3 h3f hzB hzB' HNO q0 q1 g1 hbp4
                    by_cases h58 : two s (k + 1) 91 58 = true
                    · rw [if_pos h58] at hR
                      rw [h58]
                      have hO := unhide HO
                      rw [← hR] at hO
                      simp only at hO
                      subst hO
                      clear hR
                      go_wp2_with fail
                      refine (fail_calls _ _ _ _).mono ?_
                      rintro e w7 ⟨rfl, hw⟩
                      obtain rfl := hw.symm
                      exact ⟨rfl, rfl, (unhide HW6).kept⟩
                    · have h58' : two s (k + 1) 91 58 = false := by simpa using h58
                      rw [if_neg h58] at hR
                      rw [h58']
                      clear h58 h58'
                      go_wp2_with fail
                      refine (member_calls from_ w6 (unhide HW6).at_ ((unhide HG) w6 (unhide HW6).kept).tabs (by omega) hm).mono ?_
                      cases hmf : memberF s (k + 1) bytes with
                      | none =>
                        rw [hmf] at hR
                        have hO := unhide HO
                        rw [← hR] at hO
                        simp only at hO
                        subst hO
                        rintro e w7 ⟨rfl, hk7⟩
                        exact ⟨rfl, rfl, (unhide HW6).kept.trans hk7 (fun _ _ h => h)⟩
                      | some r =>
                        obtain ⟨hi', k'⟩ := r
                        rw [hmf] at hR
                        simp only at hR
                        rintro e w7 ⟨rfl, hP7, hk7⟩
                        have hkle2 := member_le (unhide HZ) hmf
                        have hhi := member_range (unhide HZ) hmf
                        have hW7 := (unhide HW6).move hk7 hP7
                        clear hP7 hk7 hmf
                        by_cases hlh : hi' < lo
                        · have hlh' : decide (hi' < lo) = true := decide_eq_true hlh
                          rw [if_pos hlh] at hR
                          have hO := unhide HO
                          rw [← hR] at hO
                          simp only at hO
                          subst hO
                          have HW7 := hide hW7
                          clear hlh hR hW7
                          go_wp2_with fail
                          refine (fail_calls _ _ _ _).mono ?_
                          rintro e w8 ⟨rfl, hw⟩
                          obtain rfl := hw.symm
                          exact ⟨rfl, rfl, (unhide HW7).kept⟩
                        · have hlh' : decide (hi' < lo) = false := decide_eq_false hlh
                          have hle2 : lo ≤ hi' := by omega
                          rw [if_neg hlh] at hR
                          have n3 := hW7.node.cell 3
                          have h3f := hW7.node.frozen 3
                          have hzB : w.heap.size + 1 < w7.heap.size := hW7.node.lt
                          have hzB' : w.heap.size < w7.heap.size := by omega
                          have HNO := hide (own_blk_ne hW7.own hW7.node (by decide))
                          simp at n3
                          have HW7 := hide hW7; have HR3 := hide hR
                          clear hW7 hR hlh
                          go_wp2_with
                           ((at_builtin; refine wpList_append_lies _ (by rfl) _ _ _ (by rfl) (w.heap.size + 2) 65 i0 _ 2 16 Tryd.underlying23 hi0 hz0 hz1 hz2 rfl (by omega) (.slice Ao acc.length co) acc.length (rangeCells acc) (by rfl)
                                (by exact own_step (unhide HW7).own (fun j hj => (below_alloc' (Below.refl w7.heap.size w7) _).block j (own_lt (unhide HW7).own j hj).2)) ⟨w7.heap.size, 0, none⟩ 1 _ [.int .i64 lo, .int .i64 hi']
                                (by rfl) (by rfl) (by exact World.news_of_block (cs := #[.int .i64 lo, .int .i64 hi']) (heap_alloc_new _ _))
                                (by simp [Value.oneCell']) (by omega) (by simp only [maxLen]; omega) (by omega) (by first | omega | (simp; omega)) _ (by rfl) ?_; intro go cap5 w5 hown5 hgrow hat5 hlt5; have cz := grown_cell hgrow (below_alloc' (Below.refl w7.heap.size w7) _) hzB (unhide HNO) n3; have fz := grown_frozen hgrow (below_alloc' (Below.refl w7.heap.size w7) _) hzB (unhide HNO) h3f; have hz5 := Nat.lt_of_lt_of_le hzB (grown_size hgrow (below_alloc' (Below.refl w7.heap.size w7) _))))
                          have hW5 := (unhide HW7).app (l := [(lo, hi')]) (below_alloc' (Below.refl w7.heap.size w7) _) hgrow hown5 (by rfl)
                          have HW5 := hide hW5
                          clear hW5 hown5 hgrow hat5
                          go_roundg f
                          case measure => omega
                          case rel => exact ⟨k', false, acc ++ [(lo, hi')], _, rfl, hkle2.2, by omega, hide (by first | exact unhide HR3), hide (fun r hr => by
                            rcases List.mem_append.1 hr with hr | hr
                            · exact unhide HF r hr
                            · obtain rfl := List.mem_singleton.1 hr; exact ⟨hlo.1, hle2, hhi.2⟩), by simp only [List.length_append]; first | omega | (simp only [List.length_cons, List.length_nil]; omega), hide (.inl (by simp; skip)), HW5⟩
                  · have hlt2 : decide ((k : Int) + 1 < s.size) = false := decide_eq_false (by omega)
                    rw [if_neg (fun h => hsz h.2.1)] at hR
                    have HS45 := hide hs45; have HS93 := hide hs93; have HR3 := hide hR
                    clear hs45 hs93 h45 h93 h93' hR hsz
                    go_wp2_with fail
                    go_quiet ((first | (go_at_call_of 51 (Value.string { data := #[45, 93] }); exact Calls.quiet_of (unhide HS93 _ ((unhide HW4).at_.drewN _))) | (go_at_call 51; exact Calls.quiet_of (unhide HS45 _ ((unhide HW4).at_.drewN _)))))
                    go_wp2_with
                     ((at_builtin; refine wpList_append_lies _ (by rfl) _ _ _ (by rfl) (w.heap.size + 2) 65 i0 _ 2 16 Tryd.underlying23 hi0 hz0 hz1 hz2 rfl (by omega) (.slice Ao acc.length co) acc.length (rangeCells acc) (by rfl)
                          (by exact own_step (unhide HW4).own (fun j hj => (below_alloc' (below_drewN (Below.refl w4.heap.size w4) _) _).block j (own_lt (unhide HW4).own j hj).2)) ⟨w4.heap.size, 0, none⟩ 1 _ [.int .i64 lo, .int .i64 lo]
                          (by rfl) (by rfl) (by exact World.news_of_block (cs := #[.int .i64 lo, .int .i64 lo]) (heap_alloc_new _ _))
                          (by simp [Value.oneCell']) (by omega) (by simp only [maxLen]; omega) (by omega) (by first | omega | (simp; omega)) _ (by rfl) ?_; intro go cap5 w5 hown5 hgrow hat5 hlt5; have cz := grown_cell hgrow (below_alloc' (below_drewN (Below.refl w4.heap.size w4) _) _) hzB (unhide HNO) n3; have fz := grown_frozen hgrow (below_alloc' (below_drewN (Below.refl w4.heap.size w4) _) _) hzB (unhide HNO) h3f; have hz5 := Nat.lt_of_lt_of_le hzB (grown_size hgrow (below_alloc' (below_drewN (Below.refl w4.heap.size w4) _) _))))
                    have hW5 := (unhide HW4).app (l := [(lo, lo)]) (below_alloc' (below_drewN (Below.refl w4.heap.size w4) _) _) hgrow hown5 (by rfl)
                    have HW5 := hide hW5
                    clear hW5 hown5 hgrow hat5
                    go_roundg f
                    case measure => omega
                    case rel => exact ⟨k, false, acc ++ [(lo, lo)], _, rfl, hkle.2, by omega, hide (by first | exact unhide HR3), hide (fun r hr => by
                      rcases List.mem_append.1 hr with hr | hr
                      · exact unhide HF r hr
                      · obtain rfl := List.mem_singleton.1 hr; exact ⟨hlo.1, Int.le_refl _, hlo.2⟩), by simp only [List.length_append]; first | omega | (simp only [List.length_cons, List.length_nil]; omega), hide (.inl (by simp; skip)), HW5⟩
              · have h45' : Thr.one s k 45 = false := by simpa using h45
                rw [h45'] at hs45
                rw [if_neg (fun h => h45 h.1)] at hR
                have HS45 := hide hs45; have HS93 := hide hs93; have HR3 := hide hR
                clear hs45 hs93 h45 h45' hR
                go_wp2_with fail
                go_quiet ((first | (go_at_call_of 51 (Value.string { data := #[45, 93] }); exact Calls.quiet_of (unhide HS93 _ ((unhide HW4).at_.drewN _))) | (go_at_call 51; exact Calls.quiet_of (unhide HS45 _ ((unhide HW4).at_.drewN _)))))
                go_wp2_with
                 ((at_builtin; refine wpList_append_lies _ (by rfl) _ _ _ (by rfl) (w.heap.size + 2) 65 i0 _ 2 16 Tryd.underlying23 hi0 hz0 hz1 hz2 rfl (by omega) (.slice Ao acc.length co) acc.length (rangeCells acc) (by rfl)
                      (by exact own_step (unhide HW4).own (fun j hj => (below_alloc' (below_drewN (Below.refl w4.heap.size w4) _) _).block j (own_lt (unhide HW4).own j hj).2)) ⟨w4.heap.size, 0, none⟩ 1 _ [.int .i64 lo, .int .i64 lo]
                      (by rfl) (by rfl) (by exact World.news_of_block (cs := #[.int .i64 lo, .int .i64 lo]) (heap_alloc_new _ _))
                      (by simp [Value.oneCell']) (by omega) (by simp only [maxLen]; omega) (by omega) (by first | omega | (simp; omega)) _ (by rfl) ?_; intro go cap5 w5 hown5 hgrow hat5 hlt5; have cz := grown_cell hgrow (below_alloc' (below_drewN (Below.refl w4.heap.size w4) _) _) hzB (unhide HNO) n3; have fz := grown_frozen hgrow (below_alloc' (below_drewN (Below.refl w4.heap.size w4) _) _) hzB (unhide HNO) h3f; have hz5 := Nat.lt_of_lt_of_le hzB (grown_size hgrow (below_alloc' (below_drewN (Below.refl w4.heap.size w4) _) _))))
                have hW5 := (unhide HW4).app (l := [(lo, lo)]) (below_alloc' (below_drewN (Below.refl w4.heap.size w4) _) _) hgrow hown5 (by rfl)
                have HW5 := hide hW5
                clear hW5 hown5 hgrow hat5
                go_roundg f
                case measure => omega
                case rel => exact ⟨k, false, acc ++ [(lo, lo)], _, rfl, hkle.2, by omega, hide (by first | exact unhide HR3), hide (fun r hr => by
                  rcases List.mem_append.1 hr with hr | hr
                  · exact unhide HF r hr
                  · obtain rfl := List.mem_singleton.1 hr; exact ⟨hlo.1, Int.le_refl _, hlo.2⟩), by simp only [List.length_append]; first | omega | (simp only [List.length_cons, List.length_nil]; omega), hide (.inl (by simp; skip)), HW5⟩
        | false =>
          have hone : Thr.one s j 93 = false := by simpa using hend
          rw [hone] at hsee
          have HSEE := hide hsee
          clear hsee hone hend
          go_wp2_with fail
          refine (unhide HSEE).mono ?_
          rintro e w2 ⟨rfl, m2, hw2⟩
          have HW2 := hide ((unhide HW).below (show Below wr.heap.size wr w2 by rw [hw2]; exact below_drewN (Below.refl _ _) _))
          clear hw2
          go_wp2_with fail
          by_cases hnm : two s j 91 58 = true
          · rw [if_pos hnm] at hR
            have hnc := named_calls from_ w2 (unhide HW2).at_ ((unhide HG) w2 (unhide HW2).kept) hj hm hnm
            refine hnc.mono ?_
            clear hnc
            cases hnf : namedF s j with
            | none =>
              rw [hnf] at hR
              have hO := unhide HO
              rw [← hR] at hO
              simp only at hO
              subst hO
              rintro e w3 ⟨rfl, hk3⟩
              exact ⟨rfl, rfl, (unhide HW2).kept.trans hk3 (fun _ _ h => h)⟩
            | some r =>
              obtain ⟨l, k⟩ := r
              rw [hnf] at hR
              simp only at hR
              rintro e w3 ⟨b, rfl, hb0, hst3, hP3, hk3⟩
              have hkle := named_le hnf
              obtain ⟨hne, hfew, hfine⟩ := named_some hnf
              have hlpos : 0 < l.length := List.length_pos_iff.2 hne
              have hW3 := (unhide HW2).move hk3 hP3
              have HNW := hide (set_news hst3)
              obtain ⟨Ao, co, rfl⟩ := own_form hW3.own
              have n3 := hW3.node.cell 3
              have h3f := hW3.node.frozen 3
              have hzB : w.heap.size + 1 < w3.heap.size := hW3.node.lt
              have hzB' : w.heap.size < w3.heap.size := by omega
              have HNO := hide (own_blk_ne hW3.own hW3.node (by decide))
              simp at n3
              have HW3 := hide hW3
              have HR3 := hide hR; have HFI := hide hfine; have HNE3 := hide hne
              clear hW3 hst3 hP3 hk3 hR hfine hne hnm hnf
              go_wp2_with
               ((at_builtin; refine wpList_append_lies _ (by rfl) _ _ _ (by rfl) (w.heap.size + 2) 65 i0 _ 2 16 Tryd.underlying23 hi0 hz0 hz1 hz2 rfl (by omega) (.slice Ao acc.length co) acc.length (rangeCells acc) (by rfl)
                    (by exact own_step (unhide HW3).own (fun j hj => (Below.refl w3.heap.size w3).block j (own_lt (unhide HW3).own j hj).2)) ⟨b, 0, none⟩ l.length _ (rangeCells l)
                    (by rfl) (by exact rangeCells_len l) (by exact unhide HNW)
                    (by exact range_oneCell l) (by omega) (by simp only [maxLen]; omega) (by omega) (by first | omega | (simp; omega)) _ (by rfl) ?_; intro go cap5 w5 hown5 hgrow hat5 hlt5; have cz := grown_cell hgrow (Below.refl w3.heap.size w3) hzB (unhide HNO) n3; have fz := grown_frozen hgrow (Below.refl w3.heap.size w3) hzB (unhide HNO) h3f; have hz5 := Nat.lt_of_lt_of_le hzB (grown_size hgrow (Below.refl w3.heap.size w3))))
              have hW5 := (unhide HW3).app (l := l) (Below.refl w3.heap.size w3) hgrow hown5 (by rfl)
              have HW5 := hide hW5
              clear hW5 hown5 hgrow hat5
              go_roundg f
              case measure => omega
              case rel => exact ⟨k, false, acc ++ l, _, rfl, hkle.2, by omega, hide (by first | exact unhide HR3), hide (fun r hr => by
                rcases List.mem_append.1 hr with hr | hr
                · exact unhide HF r hr
                · exact unhide HFI r hr), by simp only [List.length_append]; first | omega | (simp only [List.length_cons, List.length_nil]; omega), hide (.inl (by simp; exact fun _ => unhide HNE3)), HW5⟩
          · rw [if_neg hnm] at hR
            refine (named_none from_ w2 (unhide HW2).at_ hj hm (by simpa using hnm)).mono ?_
            rintro e w3 ⟨rfl, hb3⟩
            have HW3 := hide ((unhide HW2).below hb3)
            clear hb3 hnm
            go_wp2_with fail
            refine (member_calls from_ w3 (unhide HW3).at_ ((unhide HG) w3 (unhide HW3).kept).tabs hj hm).mono ?_
            cases hmf : memberF s j bytes with
            | none =>
              rw [hmf] at hR
              have hO := unhide HO
              rw [← hR] at hO
              simp only at hO
              subst hO
              rintro e w4 ⟨rfl, hk4⟩
              exact ⟨rfl, rfl, (unhide HW3).kept.trans hk4 (fun _ _ h => h)⟩
            | some r =>
              obtain ⟨lo, k⟩ := r
              rw [hmf] at hR
              simp only at hR
              rintro e w4 ⟨rfl, hP4, hk4⟩
              have hkle := member_le (unhide HZ) hmf
              have hlo := member_range (unhide HZ) hmf
              have hW4 := (unhide HW3).move hk4 hP4
              have q0 := hP4.cell 0
              have q1 := hP4.cell 1
              have g1 := hP4.frozen 1
              have hbp4 := hP4.lt
              simp at q0 q1
              obtain ⟨Ao, co, rfl⟩ := own_form hW4.own
              have n3 := hW4.node.cell 3
              have h3f := hW4.node.frozen 3
              have hzB : w.heap.size + 1 < w4.heap.size := hW4.node.lt
              have hzB' : w.heap.size < w4.heap.size := by omega
              have HNO := hide (own_blk_ne hW4.own hW4.node (by decide))
              simp at n3
              have HW4 := hide hW4
              have hs45 := fun W (hP : PAt W bp s k bytes nest) => see_quiet (lit [45]) W hP hkle.2 hm
              rw [see_one, show ((45 : UInt8).toNat : Int) = 45 from rfl] at hs45
              have hs93 := fun W (hP : PAt W bp s k bytes nest) => see_quiet (lit [45, 93]) W hP hkle.2 hm
              rw [see_two, show ((45 : UInt8).toNat : Int) = 45 from rfl, show ((93 : UInt8).toNat : Int) = 93 from rfl] at hs93
              clear hW4 hP4 hk4 hmf
              by_cases h45 : Thr.one s k 45 = true
              · rw [h45] at hs45
                by_cases h93 : two s k 45 93 = true
                · rw [h93] at hs93
                  rw [if_neg (by have h := h93; simp [two] at h; intro h'; exact h'.2.2 h.2.2)] at hR
                  have HS45 := hide hs45; have HS93 := hide hs93; have HR3 := hide hR
                  clear hs45 hs93 h45 h93 hR
                  go_wp2_with fail
                  go_quiet ((first | (go_at_call_of 51 (Value.string { data := #[45, 93] }); exact Calls.quiet_of (unhide HS93 _ ((unhide HW4).at_.drewN _))) | (go_at_call 51; exact Calls.quiet_of (unhide HS45 _ ((unhide HW4).at_.drewN _)))))
                  go_wp2_with
                   ((at_builtin; refine wpList_append_lies _ (by rfl) _ _ _ (by rfl) (w.heap.size + 2) 65 i0 _ 2 16 Tryd.underlying23 hi0 hz0 hz1 hz2 rfl (by omega) (.slice Ao acc.length co) acc.length (rangeCells acc) (by rfl)
                        (by exact own_step (unhide HW4).own (fun j hj => (below_alloc' (below_drewN (Below.refl w4.heap.size w4) _) _).block j (own_lt (unhide HW4).own j hj).2)) ⟨w4.heap.size, 0, none⟩ 1 _ [.int .i64 lo, .int .i64 lo]
                        (by rfl) (by rfl) (by exact World.news_of_block (cs := #[.int .i64 lo, .int .i64 lo]) (heap_alloc_new _ _))
                        (by simp [Value.oneCell']) (by omega) (by simp only [maxLen]; omega) (by omega) (by first | omega | (simp; omega)) _ (by rfl) ?_; intro go cap5 w5 hown5 hgrow hat5 hlt5; have cz := grown_cell hgrow (below_alloc' (below_drewN (Below.refl w4.heap.size w4) _) _) hzB (unhide HNO) n3; have fz := grown_frozen hgrow (below_alloc' (below_drewN (Below.refl w4.heap.size w4) _) _) hzB (unhide HNO) h3f; have hz5 := Nat.lt_of_lt_of_le hzB (grown_size hgrow (below_alloc' (below_drewN (Below.refl w4.heap.size w4) _) _))))
                  have hW5 := (unhide HW4).app (l := [(lo, lo)]) (below_alloc' (below_drewN (Below.refl w4.heap.size w4) _) _) hgrow hown5 (by rfl)
                  have HW5 := hide hW5
                  clear hW5 hown5 hgrow hat5
                  go_roundg f
                  case measure => omega
                  case rel => exact ⟨k, false, acc ++ [(lo, lo)], _, rfl, hkle.2, by omega, hide (by first | exact unhide HR3), hide (fun r hr => by
                    rcases List.mem_append.1 hr with hr | hr
                    · exact unhide HF r hr
                    · obtain rfl := List.mem_singleton.1 hr; exact ⟨hlo.1, Int.le_refl _, hlo.2⟩), by simp only [List.length_append]; first | omega | (simp only [List.length_cons, List.length_nil]; omega), hide (.inl (by simp; skip)), HW5⟩
                · have h93' : two s k 45 93 = false := by simpa using h93
                  rw [h93'] at hs93
                  by_cases hsz : k + 1 < s.size
                  · have hlt2 : decide ((k : Int) + 1 < s.size) = true := decide_eq_true (by omega)
                    rw [if_pos ⟨h45, hsz, by have h := h45; simp [Thr.one] at h; intro h'; simp [two, h.2, h', hsz] at h93'⟩] at hR
                    have hP5 : ∀ n, PAt ((w4.drewN n).setCell ⟨bp, 1, none⟩ (.int .i64 ((k : Int) + 1))) bp s (k + 1) bytes nest := fun n => by
                      exact PAt.go_on (w := w4.drewN n) (Blk.drewN (unhide HW4).at_ n) (k + 1)
                    have hW5 : ∀ n, SetW w ((w4.drewN n).setCell ⟨bp, 1, none⟩ (.int .i64 ((k : Int) + 1))) bp w.heap.size s bytes nest false (k + 1) (.slice Ao acc.length co) acc := fun n => (unhide HW4).move (((Keeps.refl (fun k => k = bp) _).drewN n).setCell (p := ⟨bp, 1, none⟩) (.inl rfl) _) (hP5 n)
                    have HS45 := hide hs45; have HS93 := hide hs93; have HW5 := hide hW5
                    clear hs45 hs93 h45 h93 h93' hP5 hW5
                    go_wp2_with fail
                    go_quiet ((first | (go_at_call_of 51 (Value.string { data := #[45, 93] }); exact Calls.quiet_of (unhide HS93 _ ((unhide HW4).at_.drewN _))) | (go_at_call 51; exact Calls.quiet_of (unhide HS45 _ ((unhide HW4).at_.drewN _)))))
                    go_wp2_with fail
                    refine (see_quiet (lit [91, 58]) _ ((unhide HW5) _).at_ (by omega) hm).mono ?_
                    rw [see_two, show ((91 : UInt8).toNat : Int) = 91 from rfl, show ((58 : UInt8).toNat : Int) = 58 from rfl]
                    rintro e w6 ⟨rfl, m6, hw6⟩
                    have hW6 := ((unhide HW5) nq).below (show Below _ _ w6 by rw [hw6]; exact below_drewN (Below.refl _ _) _)
                    have HW6 := hide hW6
                    clear hW6 hw6 n3 h3f hzB hzB' HNO q0 q1 g1 hbp4
                    by_cases h58 : two s (k + 1) 91 58 = true
                    · rw [if_pos h58] at hR
                      rw [h58]
                      have hO := unhide HO
                      rw [← hR] at hO
                      simp only at hO
                      subst hO
                      clear hR
                      go_wp2_with fail
                      refine (fail_calls _ _ _ _).mono ?_
                      rintro e w7 ⟨rfl, hw⟩
                      obtain rfl := hw.symm
                      exact ⟨rfl, rfl, (unhide HW6).kept⟩
                    · have h58' : two s (k + 1) 91 58 = false := by simpa using h58
                      rw [if_neg h58] at hR
                      rw [h58']
                      clear h58 h58'
                      go_wp2_with fail
                      refine (member_calls from_ w6 (unhide HW6).at_ ((unhide HG) w6 (unhide HW6).kept).tabs (by omega) hm).mono ?_
                      cases hmf : memberF s (k + 1) bytes with
                      | none =>
                        rw [hmf] at hR
                        have hO := unhide HO
                        rw [← hR] at hO
                        simp only at hO
                        subst hO
                        rintro e w7 ⟨rfl, hk7⟩
                        exact ⟨rfl, rfl, (unhide HW6).kept.trans hk7 (fun _ _ h => h)⟩
                      | some r =>
                        obtain ⟨hi', k'⟩ := r
                        rw [hmf] at hR
                        simp only at hR
                        rintro e w7 ⟨rfl, hP7, hk7⟩
                        have hkle2 := member_le (unhide HZ) hmf
                        have hhi := member_range (unhide HZ) hmf
                        have hW7 := (unhide HW6).move hk7 hP7
                        clear hP7 hk7 hmf
                        by_cases hlh : hi' < lo
                        · have hlh' : decide (hi' < lo) = true := decide_eq_true hlh
                          rw [if_pos hlh] at hR
                          have hO := unhide HO
                          rw [← hR] at hO
                          simp only at hO
                          subst hO
                          have HW7 := hide hW7
                          clear hlh hR hW7
                          go_wp2_with fail
                          refine (fail_calls _ _ _ _).mono ?_
                          rintro e w8 ⟨rfl, hw⟩
                          obtain rfl := hw.symm
                          exact ⟨rfl, rfl, (unhide HW7).kept⟩
                        · have hlh' : decide (hi' < lo) = false := decide_eq_false hlh
                          have hle2 : lo ≤ hi' := by omega
                          rw [if_neg hlh] at hR
                          have n3 := hW7.node.cell 3
                          have h3f := hW7.node.frozen 3
                          have hzB : w.heap.size + 1 < w7.heap.size := hW7.node.lt
                          have hzB' : w.heap.size < w7.heap.size := by omega
                          have HNO := hide (own_blk_ne hW7.own hW7.node (by decide))
                          simp at n3
                          have HW7 := hide hW7; have HR3 := hide hR
                          clear hW7 hR hlh
                          go_wp2_with
                           ((at_builtin; refine wpList_append_lies _ (by rfl) _ _ _ (by rfl) (w.heap.size + 2) 65 i0 _ 2 16 Tryd.underlying23 hi0 hz0 hz1 hz2 rfl (by omega) (.slice Ao acc.length co) acc.length (rangeCells acc) (by rfl)
                                (by exact own_step (unhide HW7).own (fun j hj => (below_alloc' (Below.refl w7.heap.size w7) _).block j (own_lt (unhide HW7).own j hj).2)) ⟨w7.heap.size, 0, none⟩ 1 _ [.int .i64 lo, .int .i64 hi']
                                (by rfl) (by rfl) (by exact World.news_of_block (cs := #[.int .i64 lo, .int .i64 hi']) (heap_alloc_new _ _))
                                (by simp [Value.oneCell']) (by omega) (by simp only [maxLen]; omega) (by omega) (by first | omega | (simp; omega)) _ (by rfl) ?_; intro go cap5 w5 hown5 hgrow hat5 hlt5; have cz := grown_cell hgrow (below_alloc' (Below.refl w7.heap.size w7) _) hzB (unhide HNO) n3; have fz := grown_frozen hgrow (below_alloc' (Below.refl w7.heap.size w7) _) hzB (unhide HNO) h3f; have hz5 := Nat.lt_of_lt_of_le hzB (grown_size hgrow (below_alloc' (Below.refl w7.heap.size w7) _))))
                          have hW5 := (unhide HW7).app (l := [(lo, hi')]) (below_alloc' (Below.refl w7.heap.size w7) _) hgrow hown5 (by rfl)
                          have HW5 := hide hW5
                          clear hW5 hown5 hgrow hat5
                          go_roundg f
                          case measure => omega
                          case rel => exact ⟨k', false, acc ++ [(lo, hi')], _, rfl, hkle2.2, by omega, hide (by first | exact unhide HR3), hide (fun r hr => by
                            rcases List.mem_append.1 hr with hr | hr
                            · exact unhide HF r hr
                            · obtain rfl := List.mem_singleton.1 hr; exact ⟨hlo.1, hle2, hhi.2⟩), by simp only [List.length_append]; first | omega | (simp only [List.length_cons, List.length_nil]; omega), hide (.inl (by simp; skip)), HW5⟩
                  · have hlt2 : decide ((k : Int) + 1 < s.size) = false := decide_eq_false (by omega)
                    rw [if_neg (fun h => hsz h.2.1)] at hR
                    have HS45 := hide hs45; have HS93 := hide hs93; have HR3 := hide hR
                    clear hs45 hs93 h45 h93 h93' hR hsz
                    go_wp2_with fail
                    go_quiet ((first | (go_at_call_of 51 (Value.string { data := #[45, 93] }); exact Calls.quiet_of (unhide HS93 _ ((unhide HW4).at_.drewN _))) | (go_at_call 51; exact Calls.quiet_of (unhide HS45 _ ((unhide HW4).at_.drewN _)))))
                    go_wp2_with
                     ((at_builtin; refine wpList_append_lies _ (by rfl) _ _ _ (by rfl) (w.heap.size + 2) 65 i0 _ 2 16 Tryd.underlying23 hi0 hz0 hz1 hz2 rfl (by omega) (.slice Ao acc.length co) acc.length (rangeCells acc) (by rfl)
                          (by exact own_step (unhide HW4).own (fun j hj => (below_alloc' (below_drewN (Below.refl w4.heap.size w4) _) _).block j (own_lt (unhide HW4).own j hj).2)) ⟨w4.heap.size, 0, none⟩ 1 _ [.int .i64 lo, .int .i64 lo]
                          (by rfl) (by rfl) (by exact World.news_of_block (cs := #[.int .i64 lo, .int .i64 lo]) (heap_alloc_new _ _))
                          (by simp [Value.oneCell']) (by omega) (by simp only [maxLen]; omega) (by omega) (by first | omega | (simp; omega)) _ (by rfl) ?_; intro go cap5 w5 hown5 hgrow hat5 hlt5; have cz := grown_cell hgrow (below_alloc' (below_drewN (Below.refl w4.heap.size w4) _) _) hzB (unhide HNO) n3; have fz := grown_frozen hgrow (below_alloc' (below_drewN (Below.refl w4.heap.size w4) _) _) hzB (unhide HNO) h3f; have hz5 := Nat.lt_of_lt_of_le hzB (grown_size hgrow (below_alloc' (below_drewN (Below.refl w4.heap.size w4) _) _))))
                    have hW5 := (unhide HW4).app (l := [(lo, lo)]) (below_alloc' (below_drewN (Below.refl w4.heap.size w4) _) _) hgrow hown5 (by rfl)
                    have HW5 := hide hW5
                    clear hW5 hown5 hgrow hat5
                    go_roundg f
                    case measure => omega
                    case rel => exact ⟨k, false, acc ++ [(lo, lo)], _, rfl, hkle.2, by omega, hide (by first | exact unhide HR3), hide (fun r hr => by
                      rcases List.mem_append.1 hr with hr | hr
                      · exact unhide HF r hr
                      · obtain rfl := List.mem_singleton.1 hr; exact ⟨hlo.1, Int.le_refl _, hlo.2⟩), by simp only [List.length_append]; first | omega | (simp only [List.length_cons, List.length_nil]; omega), hide (.inl (by simp; skip)), HW5⟩
              · have h45' : Thr.one s k 45 = false := by simpa using h45
                rw [h45'] at hs45
                rw [if_neg (fun h => h45 h.1)] at hR
                have HS45 := hide hs45; have HS93 := hide hs93; have HR3 := hide hR
                clear hs45 hs93 h45 h45' hR
                go_wp2_with fail
                go_quiet ((first | (go_at_call_of 51 (Value.string { data := #[45, 93] }); exact Calls.quiet_of (unhide HS93 _ ((unhide HW4).at_.drewN _))) | (go_at_call 51; exact Calls.quiet_of (unhide HS45 _ ((unhide HW4).at_.drewN _)))))
                go_wp2_with
                 ((at_builtin; refine wpList_append_lies _ (by rfl) _ _ _ (by rfl) (w.heap.size + 2) 65 i0 _ 2 16 Tryd.underlying23 hi0 hz0 hz1 hz2 rfl (by omega) (.slice Ao acc.length co) acc.length (rangeCells acc) (by rfl)
                      (by exact own_step (unhide HW4).own (fun j hj => (below_alloc' (below_drewN (Below.refl w4.heap.size w4) _) _).block j (own_lt (unhide HW4).own j hj).2)) ⟨w4.heap.size, 0, none⟩ 1 _ [.int .i64 lo, .int .i64 lo]
                      (by rfl) (by rfl) (by exact World.news_of_block (cs := #[.int .i64 lo, .int .i64 lo]) (heap_alloc_new _ _))
                      (by simp [Value.oneCell']) (by omega) (by simp only [maxLen]; omega) (by omega) (by first | omega | (simp; omega)) _ (by rfl) ?_; intro go cap5 w5 hown5 hgrow hat5 hlt5; have cz := grown_cell hgrow (below_alloc' (below_drewN (Below.refl w4.heap.size w4) _) _) hzB (unhide HNO) n3; have fz := grown_frozen hgrow (below_alloc' (below_drewN (Below.refl w4.heap.size w4) _) _) hzB (unhide HNO) h3f; have hz5 := Nat.lt_of_lt_of_le hzB (grown_size hgrow (below_alloc' (below_drewN (Below.refl w4.heap.size w4) _) _))))
                have hW5 := (unhide HW4).app (l := [(lo, lo)]) (below_alloc' (below_drewN (Below.refl w4.heap.size w4) _) _) hgrow hown5 (by rfl)
                have HW5 := hide hW5
                clear hW5 hown5 hgrow hat5
                go_roundg f
                case measure => omega
                case rel => exact ⟨k, false, acc ++ [(lo, lo)], _, rfl, hkle.2, by omega, hide (by first | exact unhide HR3), hide (fun r hr => by
                  rcases List.mem_append.1 hr with hr | hr
                  · exact unhide HF r hr
                  · obtain rfl := List.mem_singleton.1 hr; exact ⟨hlo.1, Int.le_refl _, hlo.2⟩), by simp only [List.length_append]; first | omega | (simp only [List.length_cons, List.length_nil]; omega), hide (.inl (by simp; skip)), HW5⟩
  | true =>
    rw [if_pos rfl] at hO
    have hst : i + 2 ≤ s.size := by have h := hN; simp [Thr.one] at h; omega
    obtain ⟨st, hste⟩ : ∃ st, st = i + 2 := ⟨_, rfl⟩
    rw [← hste] at hO hst
    obtain ⟨O', hO'⟩ : ∃ O', setsF s bytes (s.size + 1) st true [] = O' := ⟨_, rfl⟩
    rw [hO'] at hO
    have HO' := hide hO'; have HO := hide hO
    clear hO' hO hN
    go_enter Tryd.func69, Tryd.ntmps69
    go_wp2_with fail
    refine (unhide HS1 _ ((unhide HP).below (by repeat (first | exact Below.refl _ _ | assumption | refine below_drewN ?_ _ | refine Below.drew ?_ | refine below_alloc' ?_ _)))).mono ?_
    rintro e w1 ⟨rfl, mm, hw1⟩
    have hw1b : Below w.heap.size w w1 := by rw [hw1]; exact below_drewN (by repeat (first | exact Below.refl _ _ | assumption | refine below_drewN ?_ _ | refine Below.drew ?_ | refine below_alloc' ?_ _)) _
    have hr1 : Blk w1 w.heap.size 26 zero7 := by
      rw [hw1]
      exact ((Blk.new w 26 zero7).alloc _).drewN _
    have hn1 : Blk w1 (w.heap.size + 1) 26 #[.int .i64 4, .int .i64 0, .bool false, .slice none 0 0, .int .i64 0, .int .i64 0, .slice none 0 0] := by
      rw [hw1]
      refine Blk.drewN ?_ _
      have := Blk.new (w.alloc (.cells zero7 26)) 26 #[.int .i64 4, .int .i64 0, .bool false, .slice none 0 0, .int .i64 0, .int .i64 0, .slice none 0 0]
      simpa [zero7] using this
    clear hw1
    have hP1 := (unhide HP).below hw1b
    have q1 := hP1.cell 1
    have g1 := hP1.frozen 1
    have hbp1 := hP1.lt
    have hz1' : w.heap.size + 1 < w1.heap.size := hn1.lt
    have hz1'' : w.heap.size < w1.heap.size := by omega
    have n2 := hn1.cell 2
    have h2f := hn1.frozen 2
    simp at q1 n2
    have HR1 := hide hr1; have HN1 := hide hn1; have HB1 := hide hw1b; have HP1 := hide hP1
    clear hr1 hn1 hw1b hP1
    go_wp2_with fail
    have hsw : ∀ W, W.heap = ((w1.setCell ⟨bp, 1, none⟩ (.int .i64 ((i : Int) + 1 + 1))).setCell ⟨w.heap.size + 1, 2, none⟩ (.bool true)).heap → W.os = w1.os → W.tape = w1.tape → W.output = w1.output → SetW w W bp w.heap.size s bytes nest true st (.slice none 0 0) [] := by
      intro W h1 h2 h3 h4
      have hb := Keeps.of_below (unhide HB1) (fun k => k = bp)
      have hk := (hb.setCell (p := ⟨bp, 1, none⟩) (.inl rfl) (.int .i64 ((i : Int) + 1 + 1))).setCell (p := ⟨w.heap.size + 1, 2, none⟩) (.inr (by simp only; omega)) (.bool true)
      have e : ((i : Int) + 1 + 1) = ((st : Nat) : Int) := by omega
      refine ⟨?_, ?_, ?_, World.ownsRow_nil _ _ _ _, ⟨h2.trans hk.os, h3.trans hk.tape, h4.trans hk.output, by rw [h1]; exact hk.size, fun k hk1 hk2 => by rw [h1]; exact hk.block k hk1 hk2⟩, rfl, hbp⟩
      · unfold Blk; rw [h1]; exact ((unhide HR1).far (by simp only; omega) _).far (by simp) _
      · unfold Blk; rw [h1]
        have := ((unhide HN1).far (p := ⟨bp, 1, none⟩) (by simp only; omega) (.int .i64 ((i : Int) + 1 + 1))).set_ 2 (.bool true)
        simp at this
        exact this
      · unfold PAt Blk; rw [h1, e]
        exact ((unhide HP1).go_on st).far (p := ⟨w.heap.size + 1, 2, none⟩) (by simp only; omega) _
    have HSW := hide hsw
    clear hsw n2 h2f q1 g1 c0 c1 f1
    go_loopg [6] (s.size + 1) (fun kx first_ wr => ∃ (j : Nat) (first : Bool) (acc : List (Int × Int)) (vS : Value), first_ = .bool first ∧ j ≤ s.size ∧ s.size - j < kx ∧ Hid (setsF s bytes kx j first acc = O') ∧ Hid (∀ r ∈ acc, fineR r) ∧ acc.length ≤ 4 * j ∧ Hid (acc ≠ [] ∨ first = true) ∧ Hid (SetW w wr bp w.heap.size s bytes nest true j vS acc))
    case atStart => exact ⟨st, true, [], .slice none 0 0, rfl, hst, by omega, HO', hide (by intro r hr; cases hr), by simp, hide (.inr rfl), hide (by exact (unhide HSW) _ rfl rfl rfl rfl)⟩
    case round =>
      obtain ⟨j, first, acc, vS, rfl, hj, hjk, HR, HF, hacc, HNE, HW⟩ := hrel
      clear HSW HR1 HN1 HB1 HP1 hz1' hz1'' hbp1
      obtain ⟨f, rfl⟩ : ∃ f, gk = f + 1 := ⟨gk - 1, by omega⟩
      have hR := unhide HR
      simp only [setsF] at hR
      have hsee := see_quiet (lit [93]) wr (unhide HW).at_ hj hm
      rw [see_one, show ((93 : UInt8).toNat : Int) = 93 from rfl] at hsee
      by_cases hend : first = false ∧ Thr.one s j 93 = true
      · obtain ⟨rfl, hone⟩ := hend
        rw [if_pos ⟨rfl, hone⟩] at hR
        rw [hone] at hsee
        obtain rfl := hR.symm
        have hO := unhide HO
        simp only at hO
        subst hO
        have hjl : j < s.size := by have h := hone; simp [Thr.one] at h; exact h.1
        have HSEE := hide hsee
        clear hsee hone HR
        go_wp2_with fail
        refine (unhide HSEE).mono ?_
        rintro e w2 ⟨rfl, m2, hw2⟩
        have hw2b : Below wr.heap.size wr w2 := by rw [hw2]; exact below_drewN (Below.refl _ _) _
        have hW2 := (unhide HW).below hw2b
        clear hw2 hw2b
        have q1 := hW2.at_.cell 1
        have g1 := hW2.at_.frozen 1
        have hbp2 := hW2.at_.lt
        obtain ⟨Ao, co, rfl⟩ := own_form hW2.own
        have n3 := hW2.node.cell 3
        have h3f := hW2.node.frozen 3
        have hz2 : w.heap.size + 1 < w2.heap.size := hW2.node.lt
        have hz2' : w.heap.size < w2.heap.size := by omega
        have hbn : bp ≠ w.heap.size + 1 := by omega
        simp at q1 n3
        have hW3 := hW2.move (W' := w2.setCell ⟨bp, 1, none⟩ (.int .i64 ((j + 1 : Nat) : Int))) ((Keeps.refl (fun k => k = bp) _).setCell (p := ⟨bp, 1, none⟩) (.inl rfl) _) (hW2.at_.go_on (j + 1))
        rw [show ((j + 1 : Nat) : Int) = (j : Int) + 1 by omega] at hW3
        have hmg := fun W (e : W.heap = (w2.setCell ⟨bp, 1, none⟩ (.int .i64 ((j : Int) + 1))).heap) => merged_calls (base := w.heap.size + 2) acc (.slice Ao acc.length co) W (own_step hW3.own (fun k _ => by rw [e])) ((unhide HNE).resolve_right (by simp)) (fun r hr => (unhide HF r hr).2.1) (fun r hr => by have := unhide HF r hr; unfold fineR at this; unfold inB; omega) (by omega)
        have HMG := hide hmg; have HW3 := hide hW3
        clear hW2 hW3 hmg
        go_wp2_with fail
        refine (unhide HMG _ rfl).mono ?_
        rintro e w4 ⟨vo, rfl, hset, hk4⟩
        have hW3' := unhide HW3
        have hown : ∀ k, (Value.slice Ao acc.length co).ownBlock = some k → w.heap.size + 2 ≤ k := fun k hk => (own_lt hW3'.own k hk).1
        have hr4 := hW3'.res.keeps hk4 (fun e => by have := hown _ e; omega)
        have hn4 := hW3'.node.keeps hk4 (fun e => by have := hown _ e; omega)
        have hp4 : PAt w4 bp s (j + 1) bytes nest := Blk.keeps hW3'.at_ hk4 (fun e => by have := hown _ e; omega)
        have hkk : Keeps (fun k => k = bp) w w4 := hW3'.kept.trans (S' := fun k => w.heap.size + 2 ≤ k) (hk4.mono (fun k _ hk => hown k hk)) (fun k h1 h2 => by omega)
        have hz4 : w2.heap.size ≤ w4.heap.size := by have := hk4.size; simpa using this
        obtain ⟨⟨r0, r1, r2, r3, r4, r5, r6⟩, p0, p1, p2, p3, p4, p5, p6⟩ := hr4.seven
        obtain ⟨⟨t0, t1, t2, t3, t4, t5, t6⟩, u0, u1, u2, u3, u4, u5, u6⟩ := hn4.seven
        have hset' : SetAt (fun k => w2.heap.size ≤ k) w4 vo (acc.foldl withR []) := hset.mono (fun k hk => by simpa using hk)
        obtain ⟨Av, lv, cv, rfl⟩ : ∃ Av lv cv, vo = .slice Av lv cv := by obtain ⟨A, c, h, _⟩ := hset'; exact ⟨_, _, _, h⟩
        have HR4 := hide hr4; have HN4 := hide hn4; have HP4 := hide hp4; have HKK := hide hkk; have HSET := hide hset'
        have hz4' : w.heap.size + 1 < w4.heap.size := by omega
        have hz4'' : w.heap.size < w4.heap.size := by omega
        clear hr4 hn4 hp4 hkk hset hset' hk4 hW3' hown n3 h3f q1 g1
        go_wp2_with fail
        refine bodyPost_ret (results_cell rfl rfl (load7 (Blk.put7 (((unhide HR4).far (p := ⟨w.heap.size + 1, 3, none⟩) (by simp) _))))) rfl ?_
        refine ⟨_, rfl, tree_set _ _ _ ?_, PAt.put7 (Blk.far (unhide HP4) (p := ⟨w.heap.size + 1, 3, none⟩) (by simp only; omega) _) (by omega) _ _ _ _ _ _ _, ((unhide HKK).setCell (p := ⟨w.heap.size + 1, 3, none⟩) (.inr (by simp only; omega)) _).put7 (.inr (Nat.le_refl _)) _ _ _ _ _ _ _⟩
        exact SetAt.mono (SetAt.step (W := w4) (unhide HSET) (fun k hk _ => by
          have : w2.heap.size ≤ k := hk
          exact (heap_put7 _ _ _ _ _ _ _ _ _ k (by omega)).trans (Below.heap_setCell _ _ _ k (by simp only; omega)))) (fun k hk => by have : w2.heap.size ≤ k := hk; show w.heap.size ≤ k; omega)
      · rw [if_neg hend] at hR
        clear HR
        cases first with
        | true =>
          clear hsee hend
          have HW2 := hide (unhide HW)
          go_wp2_with fail
          by_cases hnm : two s j 91 58 = true
          · rw [if_pos hnm] at hR
            have hnc := named_calls from_ wr (unhide HW2).at_ ((unhide HG) wr (unhide HW2).kept) hj hm hnm
            refine hnc.mono ?_
            clear hnc
            cases hnf : namedF s j with
            | none =>
              rw [hnf] at hR
              have hO := unhide HO
              rw [← hR] at hO
              simp only at hO
              subst hO
              rintro e w3 ⟨rfl, hk3⟩
              exact ⟨rfl, rfl, (unhide HW2).kept.trans hk3 (fun _ _ h => h)⟩
            | some r =>
              obtain ⟨l, k⟩ := r
              rw [hnf] at hR
              simp only at hR
              rintro e w3 ⟨b, rfl, hb0, hst3, hP3, hk3⟩
              have hkle := named_le hnf
              obtain ⟨hne, hfew, hfine⟩ := named_some hnf
              have hlpos : 0 < l.length := List.length_pos_iff.2 hne
              have hW3 := (unhide HW2).move hk3 hP3
              have HNW := hide (set_news hst3)
              obtain ⟨Ao, co, rfl⟩ := own_form hW3.own
              have n3 := hW3.node.cell 3
              have h3f := hW3.node.frozen 3
              have hzB : w.heap.size + 1 < w3.heap.size := hW3.node.lt
              have hzB' : w.heap.size < w3.heap.size := by omega
              have HNO := hide (own_blk_ne hW3.own hW3.node (by decide))
              simp at n3
              have HW3 := hide hW3
              have HR3 := hide hR; have HFI := hide hfine; have HNE3 := hide hne
              clear hW3 hst3 hP3 hk3 hR hfine hne hnm hnf
              go_wp2_with
               ((at_builtin; refine wpList_append_lies _ (by rfl) _ _ _ (by rfl) (w.heap.size + 2) 65 i0 _ 2 16 Tryd.underlying23 hi0 hz0 hz1 hz2 rfl (by omega) (.slice Ao acc.length co) acc.length (rangeCells acc) (by rfl)
                    (by exact own_step (unhide HW3).own (fun j hj => (Below.refl w3.heap.size w3).block j (own_lt (unhide HW3).own j hj).2)) ⟨b, 0, none⟩ l.length _ (rangeCells l)
                    (by rfl) (by exact rangeCells_len l) (by exact unhide HNW)
                    (by exact range_oneCell l) (by omega) (by simp only [maxLen]; omega) (by omega) (by first | omega | (simp; omega)) _ (by rfl) ?_; intro go cap5 w5 hown5 hgrow hat5 hlt5; have cz := grown_cell hgrow (Below.refl w3.heap.size w3) hzB (unhide HNO) n3; have fz := grown_frozen hgrow (Below.refl w3.heap.size w3) hzB (unhide HNO) h3f; have hz5 := Nat.lt_of_lt_of_le hzB (grown_size hgrow (Below.refl w3.heap.size w3))))
              have hW5 := (unhide HW3).app (l := l) (Below.refl w3.heap.size w3) hgrow hown5 (by rfl)
              have HW5 := hide hW5
              clear hW5 hown5 hgrow hat5
              go_roundg f
              case measure => omega
              case rel => exact ⟨k, false, acc ++ l, _, rfl, hkle.2, by omega, hide (by first | exact unhide HR3), hide (fun r hr => by
                rcases List.mem_append.1 hr with hr | hr
                · exact unhide HF r hr
                · exact unhide HFI r hr), by simp only [List.length_append]; first | omega | (simp only [List.length_cons, List.length_nil]; omega), hide (.inl (by simp; exact fun _ => unhide HNE3)), HW5⟩
          · rw [if_neg hnm] at hR
            refine (named_none from_ wr (unhide HW2).at_ hj hm (by simpa using hnm)).mono ?_
            rintro e w3 ⟨rfl, hb3⟩
            have HW3 := hide ((unhide HW2).below hb3)
            clear hb3 hnm
            go_wp2_with fail
            refine (member_calls from_ w3 (unhide HW3).at_ ((unhide HG) w3 (unhide HW3).kept).tabs hj hm).mono ?_
            cases hmf : memberF s j bytes with
            | none =>
              rw [hmf] at hR
              have hO := unhide HO
              rw [← hR] at hO
              simp only at hO
              subst hO
              rintro e w4 ⟨rfl, hk4⟩
              exact ⟨rfl, rfl, (unhide HW3).kept.trans hk4 (fun _ _ h => h)⟩
            | some r =>
              obtain ⟨lo, k⟩ := r
              rw [hmf] at hR
              simp only at hR
              rintro e w4 ⟨rfl, hP4, hk4⟩
              have hkle := member_le (unhide HZ) hmf
              have hlo := member_range (unhide HZ) hmf
              have hW4 := (unhide HW3).move hk4 hP4
              have q0 := hP4.cell 0
              have q1 := hP4.cell 1
              have g1 := hP4.frozen 1
              have hbp4 := hP4.lt
              simp at q0 q1
              obtain ⟨Ao, co, rfl⟩ := own_form hW4.own
              have n3 := hW4.node.cell 3
              have h3f := hW4.node.frozen 3
              have hzB : w.heap.size + 1 < w4.heap.size := hW4.node.lt
              have hzB' : w.heap.size < w4.heap.size := by omega
              have HNO := hide (own_blk_ne hW4.own hW4.node (by decide))
              simp at n3
              have HW4 := hide hW4
              have hs45 := fun W (hP : PAt W bp s k bytes nest) => see_quiet (lit [45]) W hP hkle.2 hm
              rw [see_one, show ((45 : UInt8).toNat : Int) = 45 from rfl] at hs45
              have hs93 := fun W (hP : PAt W bp s k bytes nest) => see_quiet (lit [45, 93]) W hP hkle.2 hm
              rw [see_two, show ((45 : UInt8).toNat : Int) = 45 from rfl, show ((93 : UInt8).toNat : Int) = 93 from rfl] at hs93
              clear hW4 hP4 hk4 hmf
              by_cases h45 : Thr.one s k 45 = true
              · rw [h45] at hs45
                by_cases h93 : two s k 45 93 = true
                · rw [h93] at hs93
                  rw [if_neg (by have h := h93; simp [two] at h; intro h'; exact h'.2.2 h.2.2)] at hR
                  have HS45 := hide hs45; have HS93 := hide hs93; have HR3 := hide hR
                  clear hs45 hs93 h45 h93 hR
                  go_wp2_with fail
                  go_quiet ((first | (go_at_call_of 51 (Value.string { data := #[45, 93] }); exact Calls.quiet_of (unhide HS93 _ ((unhide HW4).at_.drewN _))) | (go_at_call 51; exact Calls.quiet_of (unhide HS45 _ ((unhide HW4).at_.drewN _)))))
                  go_wp2_with
                   ((at_builtin; refine wpList_append_lies _ (by rfl) _ _ _ (by rfl) (w.heap.size + 2) 65 i0 _ 2 16 Tryd.underlying23 hi0 hz0 hz1 hz2 rfl (by omega) (.slice Ao acc.length co) acc.length (rangeCells acc) (by rfl)
                        (by exact own_step (unhide HW4).own (fun j hj => (below_alloc' (below_drewN (Below.refl w4.heap.size w4) _) _).block j (own_lt (unhide HW4).own j hj).2)) ⟨w4.heap.size, 0, none⟩ 1 _ [.int .i64 lo, .int .i64 lo]
                        (by rfl) (by rfl) (by exact World.news_of_block (cs := #[.int .i64 lo, .int .i64 lo]) (heap_alloc_new _ _))
                        (by simp [Value.oneCell']) (by omega) (by simp only [maxLen]; omega) (by omega) (by first | omega | (simp; omega)) _ (by rfl) ?_; intro go cap5 w5 hown5 hgrow hat5 hlt5; have cz := grown_cell hgrow (below_alloc' (below_drewN (Below.refl w4.heap.size w4) _) _) hzB (unhide HNO) n3; have fz := grown_frozen hgrow (below_alloc' (below_drewN (Below.refl w4.heap.size w4) _) _) hzB (unhide HNO) h3f; have hz5 := Nat.lt_of_lt_of_le hzB (grown_size hgrow (below_alloc' (below_drewN (Below.refl w4.heap.size w4) _) _))))
                  have hW5 := (unhide HW4).app (l := [(lo, lo)]) (below_alloc' (below_drewN (Below.refl w4.heap.size w4) _) _) hgrow hown5 (by rfl)
                  have HW5 := hide hW5
                  clear hW5 hown5 hgrow hat5
                  go_roundg f
                  case measure => omega
                  case rel => exact ⟨k, false, acc ++ [(lo, lo)], _, rfl, hkle.2, by omega, hide (by first | exact unhide HR3), hide (fun r hr => by
                    rcases List.mem_append.1 hr with hr | hr
                    · exact unhide HF r hr
                    · obtain rfl := List.mem_singleton.1 hr; exact ⟨hlo.1, Int.le_refl _, hlo.2⟩), by simp only [List.length_append]; first | omega | (simp only [List.length_cons, List.length_nil]; omega), hide (.inl (by simp; skip)), HW5⟩
                · have h93' : two s k 45 93 = false := by simpa using h93
                  rw [h93'] at hs93
                  by_cases hsz : k + 1 < s.size
                  · have hlt2 : decide ((k : Int) + 1 < s.size) = true := decide_eq_true (by omega)
                    rw [if_pos ⟨h45, hsz, by have h := h45; simp [Thr.one] at h; intro h'; simp [two, h.2, h', hsz] at h93'⟩] at hR
                    have hP5 : ∀ n, PAt ((w4.drewN n).setCell ⟨bp, 1, none⟩ (.int .i64 ((k : Int) + 1))) bp s (k + 1) bytes nest := fun n => by
                      exact PAt.go_on (w := w4.drewN n) (Blk.drewN (unhide HW4).at_ n) (k + 1)
                    have hW5 : ∀ n, SetW w ((w4.drewN n).setCell ⟨bp, 1, none⟩ (.int .i64 ((k : Int) + 1))) bp w.heap.size s bytes nest true (k + 1) (.slice Ao acc.length co) acc := fun n => (unhide HW4).move (((Keeps.refl (fun k => k = bp) _).drewN n).setCell (p := ⟨bp, 1, none⟩) (.inl rfl) _) (hP5 n)
                    have HS45 := hide hs45; have HS93 := hide hs93; have HW5 := hide hW5
                    clear hs45 hs93 h45 h93 h93' hP5 hW5
                    go_wp2_with fail
                    go_quiet ((first | (go_at_call_of 51 (Value.string { data := #[45, 93] }); exact Calls.quiet_of (unhide HS93 _ ((unhide HW4).at_.drewN _))) | (go_at_call 51; exact Calls.quiet_of (unhide HS45 _ ((unhide HW4).at_.drewN _)))))
                    go_wp2_with fail
                    refine (see_quiet (lit [91, 58]) _ ((unhide HW5) _).at_ (by omega) hm).mono ?_
                    rw [see_two, show ((91 : UInt8).toNat : Int) = 91 from rfl, show ((58 : UInt8).toNat : Int) = 58 from rfl]
                    rintro e w6 ⟨rfl, m6, hw6⟩
                    have hW6 := ((unhide HW5) nq).below (show Below _ _ w6 by rw [hw6]; exact below_drewN (Below.refl _ _) _)
                    have HW6 := hide hW6
                    clear hW6 hw6 n3 h3f hzB hzB' HNO q0 q1 g1 hbp4
                    by_cases h58 : two s (k + 1) 91 58 = true
                    · rw [if_pos h58] at hR
                      rw [h58]
                      have hO := unhide HO
                      rw [← hR] at hO
                      simp only at hO
                      subst hO
                      clear hR
                      go_wp2_with fail
                      refine (fail_calls _ _ _ _).mono ?_
                      rintro e w7 ⟨rfl, hw⟩
                      obtain rfl := hw.symm
                      exact ⟨rfl, rfl, (unhide HW6).kept⟩
                    · have h58' : two s (k + 1) 91 58 = false := by simpa using h58
                      rw [if_neg h58] at hR
                      rw [h58']
                      clear h58 h58'
                      go_wp2_with fail
                      refine (member_calls from_ w6 (unhide HW6).at_ ((unhide HG) w6 (unhide HW6).kept).tabs (by omega) hm).mono ?_
                      cases hmf : memberF s (k + 1) bytes with
                      | none =>
                        rw [hmf] at hR
                        have hO := unhide HO
                        rw [← hR] at hO
                        simp only at hO
                        subst hO
                        rintro e w7 ⟨rfl, hk7⟩
                        exact ⟨rfl, rfl, (unhide HW6).kept.trans hk7 (fun _ _ h => h)⟩
                      | some r =>
                        obtain ⟨hi', k'⟩ := r
                        rw [hmf] at hR
                        simp only at hR
                        rintro e w7 ⟨rfl, hP7, hk7⟩
                        have hkle2 := member_le (unhide HZ) hmf
                        have hhi := member_range (unhide HZ) hmf
                        have hW7 := (unhide HW6).move hk7 hP7
                        clear hP7 hk7 hmf
                        by_cases hlh : hi' < lo
                        · have hlh' : decide (hi' < lo) = true := decide_eq_true hlh
                          rw [if_pos hlh] at hR
                          have hO := unhide HO
                          rw [← hR] at hO
                          simp only at hO
                          subst hO
                          have HW7 := hide hW7
                          clear hlh hR hW7
                          go_wp2_with fail
                          refine (fail_calls _ _ _ _).mono ?_
                          rintro e w8 ⟨rfl, hw⟩
                          obtain rfl := hw.symm
                          exact ⟨rfl, rfl, (unhide HW7).kept⟩
                        · have hlh' : decide (hi' < lo) = false := decide_eq_false hlh
                          have hle2 : lo ≤ hi' := by omega
                          rw [if_neg hlh] at hR
                          have n3 := hW7.node.cell 3
                          have h3f := hW7.node.frozen 3
                          have hzB : w.heap.size + 1 < w7.heap.size := hW7.node.lt
                          have hzB' : w.heap.size < w7.heap.size := by omega
                          have HNO := hide (own_blk_ne hW7.own hW7.node (by decide))
                          simp at n3
                          have HW7 := hide hW7; have HR3 := hide hR
                          clear hW7 hR hlh
                          go_wp2_with
                           ((at_builtin; refine wpList_append_lies _ (by rfl) _ _ _ (by rfl) (w.heap.size + 2) 65 i0 _ 2 16 Tryd.underlying23 hi0 hz0 hz1 hz2 rfl (by omega) (.slice Ao acc.length co) acc.length (rangeCells acc) (by rfl)
                                (by exact own_step (unhide HW7).own (fun j hj => (below_alloc' (Below.refl w7.heap.size w7) _).block j (own_lt (unhide HW7).own j hj).2)) ⟨w7.heap.size, 0, none⟩ 1 _ [.int .i64 lo, .int .i64 hi']
                                (by rfl) (by rfl) (by exact World.news_of_block (cs := #[.int .i64 lo, .int .i64 hi']) (heap_alloc_new _ _))
                                (by simp [Value.oneCell']) (by omega) (by simp only [maxLen]; omega) (by omega) (by first | omega | (simp; omega)) _ (by rfl) ?_; intro go cap5 w5 hown5 hgrow hat5 hlt5; have cz := grown_cell hgrow (below_alloc' (Below.refl w7.heap.size w7) _) hzB (unhide HNO) n3; have fz := grown_frozen hgrow (below_alloc' (Below.refl w7.heap.size w7) _) hzB (unhide HNO) h3f; have hz5 := Nat.lt_of_lt_of_le hzB (grown_size hgrow (below_alloc' (Below.refl w7.heap.size w7) _))))
                          have hW5 := (unhide HW7).app (l := [(lo, hi')]) (below_alloc' (Below.refl w7.heap.size w7) _) hgrow hown5 (by rfl)
                          have HW5 := hide hW5
                          clear hW5 hown5 hgrow hat5
                          go_roundg f
                          case measure => omega
                          case rel => exact ⟨k', false, acc ++ [(lo, hi')], _, rfl, hkle2.2, by omega, hide (by first | exact unhide HR3), hide (fun r hr => by
                            rcases List.mem_append.1 hr with hr | hr
                            · exact unhide HF r hr
                            · obtain rfl := List.mem_singleton.1 hr; exact ⟨hlo.1, hle2, hhi.2⟩), by simp only [List.length_append]; first | omega | (simp only [List.length_cons, List.length_nil]; omega), hide (.inl (by simp; skip)), HW5⟩
                  · have hlt2 : decide ((k : Int) + 1 < s.size) = false := decide_eq_false (by omega)
                    rw [if_neg (fun h => hsz h.2.1)] at hR
                    have HS45 := hide hs45; have HS93 := hide hs93; have HR3 := hide hR
                    clear hs45 hs93 h45 h93 h93' hR hsz
                    go_wp2_with fail
                    go_quiet ((first | (go_at_call_of 51 (Value.string { data := #[45, 93] }); exact Calls.quiet_of (unhide HS93 _ ((unhide HW4).at_.drewN _))) | (go_at_call 51; exact Calls.quiet_of (unhide HS45 _ ((unhide HW4).at_.drewN _)))))
                    go_wp2_with
                     ((at_builtin; refine wpList_append_lies _ (by rfl) _ _ _ (by rfl) (w.heap.size + 2) 65 i0 _ 2 16 Tryd.underlying23 hi0 hz0 hz1 hz2 rfl (by omega) (.slice Ao acc.length co) acc.length (rangeCells acc) (by rfl)
                          (by exact own_step (unhide HW4).own (fun j hj => (below_alloc' (below_drewN (Below.refl w4.heap.size w4) _) _).block j (own_lt (unhide HW4).own j hj).2)) ⟨w4.heap.size, 0, none⟩ 1 _ [.int .i64 lo, .int .i64 lo]
                          (by rfl) (by rfl) (by exact World.news_of_block (cs := #[.int .i64 lo, .int .i64 lo]) (heap_alloc_new _ _))
                          (by simp [Value.oneCell']) (by omega) (by simp only [maxLen]; omega) (by omega) (by first | omega | (simp; omega)) _ (by rfl) ?_; intro go cap5 w5 hown5 hgrow hat5 hlt5; have cz := grown_cell hgrow (below_alloc' (below_drewN (Below.refl w4.heap.size w4) _) _) hzB (unhide HNO) n3; have fz := grown_frozen hgrow (below_alloc' (below_drewN (Below.refl w4.heap.size w4) _) _) hzB (unhide HNO) h3f; have hz5 := Nat.lt_of_lt_of_le hzB (grown_size hgrow (below_alloc' (below_drewN (Below.refl w4.heap.size w4) _) _))))
                    have hW5 := (unhide HW4).app (l := [(lo, lo)]) (below_alloc' (below_drewN (Below.refl w4.heap.size w4) _) _) hgrow hown5 (by rfl)
                    have HW5 := hide hW5
                    clear hW5 hown5 hgrow hat5
                    go_roundg f
                    case measure => omega
                    case rel => exact ⟨k, false, acc ++ [(lo, lo)], _, rfl, hkle.2, by omega, hide (by first | exact unhide HR3), hide (fun r hr => by
                      rcases List.mem_append.1 hr with hr | hr
                      · exact unhide HF r hr
                      · obtain rfl := List.mem_singleton.1 hr; exact ⟨hlo.1, Int.le_refl _, hlo.2⟩), by simp only [List.length_append]; first | omega | (simp only [List.length_cons, List.length_nil]; omega), hide (.inl (by simp; skip)), HW5⟩
              · have h45' : Thr.one s k 45 = false := by simpa using h45
                rw [h45'] at hs45
                rw [if_neg (fun h => h45 h.1)] at hR
                have HS45 := hide hs45; have HS93 := hide hs93; have HR3 := hide hR
                clear hs45 hs93 h45 h45' hR
                go_wp2_with fail
                go_quiet ((first | (go_at_call_of 51 (Value.string { data := #[45, 93] }); exact Calls.quiet_of (unhide HS93 _ ((unhide HW4).at_.drewN _))) | (go_at_call 51; exact Calls.quiet_of (unhide HS45 _ ((unhide HW4).at_.drewN _)))))
                go_wp2_with
                 ((at_builtin; refine wpList_append_lies _ (by rfl) _ _ _ (by rfl) (w.heap.size + 2) 65 i0 _ 2 16 Tryd.underlying23 hi0 hz0 hz1 hz2 rfl (by omega) (.slice Ao acc.length co) acc.length (rangeCells acc) (by rfl)
                      (by exact own_step (unhide HW4).own (fun j hj => (below_alloc' (below_drewN (Below.refl w4.heap.size w4) _) _).block j (own_lt (unhide HW4).own j hj).2)) ⟨w4.heap.size, 0, none⟩ 1 _ [.int .i64 lo, .int .i64 lo]
                      (by rfl) (by rfl) (by exact World.news_of_block (cs := #[.int .i64 lo, .int .i64 lo]) (heap_alloc_new _ _))
                      (by simp [Value.oneCell']) (by omega) (by simp only [maxLen]; omega) (by omega) (by first | omega | (simp; omega)) _ (by rfl) ?_; intro go cap5 w5 hown5 hgrow hat5 hlt5; have cz := grown_cell hgrow (below_alloc' (below_drewN (Below.refl w4.heap.size w4) _) _) hzB (unhide HNO) n3; have fz := grown_frozen hgrow (below_alloc' (below_drewN (Below.refl w4.heap.size w4) _) _) hzB (unhide HNO) h3f; have hz5 := Nat.lt_of_lt_of_le hzB (grown_size hgrow (below_alloc' (below_drewN (Below.refl w4.heap.size w4) _) _))))
                have hW5 := (unhide HW4).app (l := [(lo, lo)]) (below_alloc' (below_drewN (Below.refl w4.heap.size w4) _) _) hgrow hown5 (by rfl)
                have HW5 := hide hW5
                clear hW5 hown5 hgrow hat5
                go_roundg f
                case measure => omega
                case rel => exact ⟨k, false, acc ++ [(lo, lo)], _, rfl, hkle.2, by omega, hide (by first | exact unhide HR3), hide (fun r hr => by
                  rcases List.mem_append.1 hr with hr | hr
                  · exact unhide HF r hr
                  · obtain rfl := List.mem_singleton.1 hr; exact ⟨hlo.1, Int.le_refl _, hlo.2⟩), by simp only [List.length_append]; first | omega | (simp only [List.length_cons, List.length_nil]; omega), hide (.inl (by simp; skip)), HW5⟩
        | false =>
          have hone : Thr.one s j 93 = false := by simpa using hend
          rw [hone] at hsee
          have HSEE := hide hsee
          clear hsee hone hend
          go_wp2_with fail
          refine (unhide HSEE).mono ?_
          rintro e w2 ⟨rfl, m2, hw2⟩
          have HW2 := hide ((unhide HW).below (show Below wr.heap.size wr w2 by rw [hw2]; exact below_drewN (Below.refl _ _) _))
          clear hw2
          go_wp2_with fail
          by_cases hnm : two s j 91 58 = true
          · rw [if_pos hnm] at hR
            have hnc := named_calls from_ w2 (unhide HW2).at_ ((unhide HG) w2 (unhide HW2).kept) hj hm hnm
            refine hnc.mono ?_
            clear hnc
            cases hnf : namedF s j with
            | none =>
              rw [hnf] at hR
              have hO := unhide HO
              rw [← hR] at hO
              simp only at hO
              subst hO
              rintro e w3 ⟨rfl, hk3⟩
              exact ⟨rfl, rfl, (unhide HW2).kept.trans hk3 (fun _ _ h => h)⟩
            | some r =>
              obtain ⟨l, k⟩ := r
              rw [hnf] at hR
              simp only at hR
              rintro e w3 ⟨b, rfl, hb0, hst3, hP3, hk3⟩
              have hkle := named_le hnf
              obtain ⟨hne, hfew, hfine⟩ := named_some hnf
              have hlpos : 0 < l.length := List.length_pos_iff.2 hne
              have hW3 := (unhide HW2).move hk3 hP3
              have HNW := hide (set_news hst3)
              obtain ⟨Ao, co, rfl⟩ := own_form hW3.own
              have n3 := hW3.node.cell 3
              have h3f := hW3.node.frozen 3
              have hzB : w.heap.size + 1 < w3.heap.size := hW3.node.lt
              have hzB' : w.heap.size < w3.heap.size := by omega
              have HNO := hide (own_blk_ne hW3.own hW3.node (by decide))
              simp at n3
              have HW3 := hide hW3
              have HR3 := hide hR; have HFI := hide hfine; have HNE3 := hide hne
              clear hW3 hst3 hP3 hk3 hR hfine hne hnm hnf
              go_wp2_with
               ((at_builtin; refine wpList_append_lies _ (by rfl) _ _ _ (by rfl) (w.heap.size + 2) 65 i0 _ 2 16 Tryd.underlying23 hi0 hz0 hz1 hz2 rfl (by omega) (.slice Ao acc.length co) acc.length (rangeCells acc) (by rfl)
                    (by exact own_step (unhide HW3).own (fun j hj => (Below.refl w3.heap.size w3).block j (own_lt (unhide HW3).own j hj).2)) ⟨b, 0, none⟩ l.length _ (rangeCells l)
                    (by rfl) (by exact rangeCells_len l) (by exact unhide HNW)
                    (by exact range_oneCell l) (by omega) (by simp only [maxLen]; omega) (by omega) (by first | omega | (simp; omega)) _ (by rfl) ?_; intro go cap5 w5 hown5 hgrow hat5 hlt5; have cz := grown_cell hgrow (Below.refl w3.heap.size w3) hzB (unhide HNO) n3; have fz := grown_frozen hgrow (Below.refl w3.heap.size w3) hzB (unhide HNO) h3f; have hz5 := Nat.lt_of_lt_of_le hzB (grown_size hgrow (Below.refl w3.heap.size w3))))
              have hW5 := (unhide HW3).app (l := l) (Below.refl w3.heap.size w3) hgrow hown5 (by rfl)
              have HW5 := hide hW5
              clear hW5 hown5 hgrow hat5
              go_roundg f
              case measure => omega
              case rel => exact ⟨k, false, acc ++ l, _, rfl, hkle.2, by omega, hide (by first | exact unhide HR3), hide (fun r hr => by
                rcases List.mem_append.1 hr with hr | hr
                · exact unhide HF r hr
                · exact unhide HFI r hr), by simp only [List.length_append]; first | omega | (simp only [List.length_cons, List.length_nil]; omega), hide (.inl (by simp; exact fun _ => unhide HNE3)), HW5⟩
          · rw [if_neg hnm] at hR
            refine (named_none from_ w2 (unhide HW2).at_ hj hm (by simpa using hnm)).mono ?_
            rintro e w3 ⟨rfl, hb3⟩
            have HW3 := hide ((unhide HW2).below hb3)
            clear hb3 hnm
            go_wp2_with fail
            refine (member_calls from_ w3 (unhide HW3).at_ ((unhide HG) w3 (unhide HW3).kept).tabs hj hm).mono ?_
            cases hmf : memberF s j bytes with
            | none =>
              rw [hmf] at hR
              have hO := unhide HO
              rw [← hR] at hO
              simp only at hO
              subst hO
              rintro e w4 ⟨rfl, hk4⟩
              exact ⟨rfl, rfl, (unhide HW3).kept.trans hk4 (fun _ _ h => h)⟩
            | some r =>
              obtain ⟨lo, k⟩ := r
              rw [hmf] at hR
              simp only at hR
              rintro e w4 ⟨rfl, hP4, hk4⟩
              have hkle := member_le (unhide HZ) hmf
              have hlo := member_range (unhide HZ) hmf
              have hW4 := (unhide HW3).move hk4 hP4
              have q0 := hP4.cell 0
              have q1 := hP4.cell 1
              have g1 := hP4.frozen 1
              have hbp4 := hP4.lt
              simp at q0 q1
              obtain ⟨Ao, co, rfl⟩ := own_form hW4.own
              have n3 := hW4.node.cell 3
              have h3f := hW4.node.frozen 3
              have hzB : w.heap.size + 1 < w4.heap.size := hW4.node.lt
              have hzB' : w.heap.size < w4.heap.size := by omega
              have HNO := hide (own_blk_ne hW4.own hW4.node (by decide))
              simp at n3
              have HW4 := hide hW4
              have hs45 := fun W (hP : PAt W bp s k bytes nest) => see_quiet (lit [45]) W hP hkle.2 hm
              rw [see_one, show ((45 : UInt8).toNat : Int) = 45 from rfl] at hs45
              have hs93 := fun W (hP : PAt W bp s k bytes nest) => see_quiet (lit [45, 93]) W hP hkle.2 hm
              rw [see_two, show ((45 : UInt8).toNat : Int) = 45 from rfl, show ((93 : UInt8).toNat : Int) = 93 from rfl] at hs93
              clear hW4 hP4 hk4 hmf
              by_cases h45 : Thr.one s k 45 = true
              · rw [h45] at hs45
                by_cases h93 : two s k 45 93 = true
                · rw [h93] at hs93
                  rw [if_neg (by have h := h93; simp [two] at h; intro h'; exact h'.2.2 h.2.2)] at hR
                  have HS45 := hide hs45; have HS93 := hide hs93; have HR3 := hide hR
                  clear hs45 hs93 h45 h93 hR
                  go_wp2_with fail
                  go_quiet ((first | (go_at_call_of 51 (Value.string { data := #[45, 93] }); exact Calls.quiet_of (unhide HS93 _ ((unhide HW4).at_.drewN _))) | (go_at_call 51; exact Calls.quiet_of (unhide HS45 _ ((unhide HW4).at_.drewN _)))))
                  go_wp2_with
                   ((at_builtin; refine wpList_append_lies _ (by rfl) _ _ _ (by rfl) (w.heap.size + 2) 65 i0 _ 2 16 Tryd.underlying23 hi0 hz0 hz1 hz2 rfl (by omega) (.slice Ao acc.length co) acc.length (rangeCells acc) (by rfl)
                        (by exact own_step (unhide HW4).own (fun j hj => (below_alloc' (below_drewN (Below.refl w4.heap.size w4) _) _).block j (own_lt (unhide HW4).own j hj).2)) ⟨w4.heap.size, 0, none⟩ 1 _ [.int .i64 lo, .int .i64 lo]
                        (by rfl) (by rfl) (by exact World.news_of_block (cs := #[.int .i64 lo, .int .i64 lo]) (heap_alloc_new _ _))
                        (by simp [Value.oneCell']) (by omega) (by simp only [maxLen]; omega) (by omega) (by first | omega | (simp; omega)) _ (by rfl) ?_; intro go cap5 w5 hown5 hgrow hat5 hlt5; have cz := grown_cell hgrow (below_alloc' (below_drewN (Below.refl w4.heap.size w4) _) _) hzB (unhide HNO) n3; have fz := grown_frozen hgrow (below_alloc' (below_drewN (Below.refl w4.heap.size w4) _) _) hzB (unhide HNO) h3f; have hz5 := Nat.lt_of_lt_of_le hzB (grown_size hgrow (below_alloc' (below_drewN (Below.refl w4.heap.size w4) _) _))))
                  have hW5 := (unhide HW4).app (l := [(lo, lo)]) (below_alloc' (below_drewN (Below.refl w4.heap.size w4) _) _) hgrow hown5 (by rfl)
                  have HW5 := hide hW5
                  clear hW5 hown5 hgrow hat5
                  go_roundg f
                  case measure => omega
                  case rel => exact ⟨k, false, acc ++ [(lo, lo)], _, rfl, hkle.2, by omega, hide (by first | exact unhide HR3), hide (fun r hr => by
                    rcases List.mem_append.1 hr with hr | hr
                    · exact unhide HF r hr
                    · obtain rfl := List.mem_singleton.1 hr; exact ⟨hlo.1, Int.le_refl _, hlo.2⟩), by simp only [List.length_append]; first | omega | (simp only [List.length_cons, List.length_nil]; omega), hide (.inl (by simp; skip)), HW5⟩
                · have h93' : two s k 45 93 = false := by simpa using h93
                  rw [h93'] at hs93
                  by_cases hsz : k + 1 < s.size
                  · have hlt2 : decide ((k : Int) + 1 < s.size) = true := decide_eq_true (by omega)
                    rw [if_pos ⟨h45, hsz, by have h := h45; simp [Thr.one] at h; intro h'; simp [two, h.2, h', hsz] at h93'⟩] at hR
                    have hP5 : ∀ n, PAt ((w4.drewN n).setCell ⟨bp, 1, none⟩ (.int .i64 ((k : Int) + 1))) bp s (k + 1) bytes nest := fun n => by
                      exact PAt.go_on (w := w4.drewN n) (Blk.drewN (unhide HW4).at_ n) (k + 1)
                    have hW5 : ∀ n, SetW w ((w4.drewN n).setCell ⟨bp, 1, none⟩ (.int .i64 ((k : Int) + 1))) bp w.heap.size s bytes nest true (k + 1) (.slice Ao acc.length co) acc := fun n => (unhide HW4).move (((Keeps.refl (fun k => k = bp) _).drewN n).setCell (p := ⟨bp, 1, none⟩) (.inl rfl) _) (hP5 n)
                    have HS45 := hide hs45; have HS93 := hide hs93; have HW5 := hide hW5
                    clear hs45 hs93 h45 h93 h93' hP5 hW5
                    go_wp2_with fail
                    go_quiet ((first | (go_at_call_of 51 (Value.string { data := #[45, 93] }); exact Calls.quiet_of (unhide HS93 _ ((unhide HW4).at_.drewN _))) | (go_at_call 51; exact Calls.quiet_of (unhide HS45 _ ((unhide HW4).at_.drewN _)))))
                    go_wp2_with fail
                    refine (see_quiet (lit [91, 58]) _ ((unhide HW5) _).at_ (by omega) hm).mono ?_
                    rw [see_two, show ((91 : UInt8).toNat : Int) = 91 from rfl, show ((58 : UInt8).toNat : Int) = 58 from rfl]
                    rintro e w6 ⟨rfl, m6, hw6⟩
                    have hW6 := ((unhide HW5) nq).below (show Below _ _ w6 by rw [hw6]; exact below_drewN (Below.refl _ _) _)
                    have HW6 := hide hW6
                    clear hW6 hw6 n3 h3f hzB hzB' HNO q0 q1 g1 hbp4
                    by_cases h58 : two s (k + 1) 91 58 = true
                    · rw [if_pos h58] at hR
                      rw [h58]
                      have hO := unhide HO
                      rw [← hR] at hO
                      simp only at hO
                      subst hO
                      clear hR
                      go_wp2_with fail
                      refine (fail_calls _ _ _ _).mono ?_
                      rintro e w7 ⟨rfl, hw⟩
                      obtain rfl := hw.symm
                      exact ⟨rfl, rfl, (unhide HW6).kept⟩
                    · have h58' : two s (k + 1) 91 58 = false := by simpa using h58
                      rw [if_neg h58] at hR
                      rw [h58']
                      clear h58 h58'
                      go_wp2_with fail
                      refine (member_calls from_ w6 (unhide HW6).at_ ((unhide HG) w6 (unhide HW6).kept).tabs (by omega) hm).mono ?_
                      cases hmf : memberF s (k + 1) bytes with
                      | none =>
                        rw [hmf] at hR
                        have hO := unhide HO
                        rw [← hR] at hO
                        simp only at hO
                        subst hO
                        rintro e w7 ⟨rfl, hk7⟩
                        exact ⟨rfl, rfl, (unhide HW6).kept.trans hk7 (fun _ _ h => h)⟩
                      | some r =>
                        obtain ⟨hi', k'⟩ := r
                        rw [hmf] at hR
                        simp only at hR
                        rintro e w7 ⟨rfl, hP7, hk7⟩
                        have hkle2 := member_le (unhide HZ) hmf
                        have hhi := member_range (unhide HZ) hmf
                        have hW7 := (unhide HW6).move hk7 hP7
                        clear hP7 hk7 hmf
                        by_cases hlh : hi' < lo
                        · have hlh' : decide (hi' < lo) = true := decide_eq_true hlh
                          rw [if_pos hlh] at hR
                          have hO := unhide HO
                          rw [← hR] at hO
                          simp only at hO
                          subst hO
                          have HW7 := hide hW7
                          clear hlh hR hW7
                          go_wp2_with fail
                          refine (fail_calls _ _ _ _).mono ?_
                          rintro e w8 ⟨rfl, hw⟩
                          obtain rfl := hw.symm
                          exact ⟨rfl, rfl, (unhide HW7).kept⟩
                        · have hlh' : decide (hi' < lo) = false := decide_eq_false hlh
                          have hle2 : lo ≤ hi' := by omega
                          rw [if_neg hlh] at hR
                          have n3 := hW7.node.cell 3
                          have h3f := hW7.node.frozen 3
                          have hzB : w.heap.size + 1 < w7.heap.size := hW7.node.lt
                          have hzB' : w.heap.size < w7.heap.size := by omega
                          have HNO := hide (own_blk_ne hW7.own hW7.node (by decide))
                          simp at n3
                          have HW7 := hide hW7; have HR3 := hide hR
                          clear hW7 hR hlh
                          go_wp2_with
                           ((at_builtin; refine wpList_append_lies _ (by rfl) _ _ _ (by rfl) (w.heap.size + 2) 65 i0 _ 2 16 Tryd.underlying23 hi0 hz0 hz1 hz2 rfl (by omega) (.slice Ao acc.length co) acc.length (rangeCells acc) (by rfl)
                                (by exact own_step (unhide HW7).own (fun j hj => (below_alloc' (Below.refl w7.heap.size w7) _).block j (own_lt (unhide HW7).own j hj).2)) ⟨w7.heap.size, 0, none⟩ 1 _ [.int .i64 lo, .int .i64 hi']
                                (by rfl) (by rfl) (by exact World.news_of_block (cs := #[.int .i64 lo, .int .i64 hi']) (heap_alloc_new _ _))
                                (by simp [Value.oneCell']) (by omega) (by simp only [maxLen]; omega) (by omega) (by first | omega | (simp; omega)) _ (by rfl) ?_; intro go cap5 w5 hown5 hgrow hat5 hlt5; have cz := grown_cell hgrow (below_alloc' (Below.refl w7.heap.size w7) _) hzB (unhide HNO) n3; have fz := grown_frozen hgrow (below_alloc' (Below.refl w7.heap.size w7) _) hzB (unhide HNO) h3f; have hz5 := Nat.lt_of_lt_of_le hzB (grown_size hgrow (below_alloc' (Below.refl w7.heap.size w7) _))))
                          have hW5 := (unhide HW7).app (l := [(lo, hi')]) (below_alloc' (Below.refl w7.heap.size w7) _) hgrow hown5 (by rfl)
                          have HW5 := hide hW5
                          clear hW5 hown5 hgrow hat5
                          go_roundg f
                          case measure => omega
                          case rel => exact ⟨k', false, acc ++ [(lo, hi')], _, rfl, hkle2.2, by omega, hide (by first | exact unhide HR3), hide (fun r hr => by
                            rcases List.mem_append.1 hr with hr | hr
                            · exact unhide HF r hr
                            · obtain rfl := List.mem_singleton.1 hr; exact ⟨hlo.1, hle2, hhi.2⟩), by simp only [List.length_append]; first | omega | (simp only [List.length_cons, List.length_nil]; omega), hide (.inl (by simp; skip)), HW5⟩
                  · have hlt2 : decide ((k : Int) + 1 < s.size) = false := decide_eq_false (by omega)
                    rw [if_neg (fun h => hsz h.2.1)] at hR
                    have HS45 := hide hs45; have HS93 := hide hs93; have HR3 := hide hR
                    clear hs45 hs93 h45 h93 h93' hR hsz
                    go_wp2_with fail
                    go_quiet ((first | (go_at_call_of 51 (Value.string { data := #[45, 93] }); exact Calls.quiet_of (unhide HS93 _ ((unhide HW4).at_.drewN _))) | (go_at_call 51; exact Calls.quiet_of (unhide HS45 _ ((unhide HW4).at_.drewN _)))))
                    go_wp2_with
                     ((at_builtin; refine wpList_append_lies _ (by rfl) _ _ _ (by rfl) (w.heap.size + 2) 65 i0 _ 2 16 Tryd.underlying23 hi0 hz0 hz1 hz2 rfl (by omega) (.slice Ao acc.length co) acc.length (rangeCells acc) (by rfl)
                          (by exact own_step (unhide HW4).own (fun j hj => (below_alloc' (below_drewN (Below.refl w4.heap.size w4) _) _).block j (own_lt (unhide HW4).own j hj).2)) ⟨w4.heap.size, 0, none⟩ 1 _ [.int .i64 lo, .int .i64 lo]
                          (by rfl) (by rfl) (by exact World.news_of_block (cs := #[.int .i64 lo, .int .i64 lo]) (heap_alloc_new _ _))
                          (by simp [Value.oneCell']) (by omega) (by simp only [maxLen]; omega) (by omega) (by first | omega | (simp; omega)) _ (by rfl) ?_; intro go cap5 w5 hown5 hgrow hat5 hlt5; have cz := grown_cell hgrow (below_alloc' (below_drewN (Below.refl w4.heap.size w4) _) _) hzB (unhide HNO) n3; have fz := grown_frozen hgrow (below_alloc' (below_drewN (Below.refl w4.heap.size w4) _) _) hzB (unhide HNO) h3f; have hz5 := Nat.lt_of_lt_of_le hzB (grown_size hgrow (below_alloc' (below_drewN (Below.refl w4.heap.size w4) _) _))))
                    have hW5 := (unhide HW4).app (l := [(lo, lo)]) (below_alloc' (below_drewN (Below.refl w4.heap.size w4) _) _) hgrow hown5 (by rfl)
                    have HW5 := hide hW5
                    clear hW5 hown5 hgrow hat5
                    go_roundg f
                    case measure => omega
                    case rel => exact ⟨k, false, acc ++ [(lo, lo)], _, rfl, hkle.2, by omega, hide (by first | exact unhide HR3), hide (fun r hr => by
                      rcases List.mem_append.1 hr with hr | hr
                      · exact unhide HF r hr
                      · obtain rfl := List.mem_singleton.1 hr; exact ⟨hlo.1, Int.le_refl _, hlo.2⟩), by simp only [List.length_append]; first | omega | (simp only [List.length_cons, List.length_nil]; omega), hide (.inl (by simp; skip)), HW5⟩
              · have h45' : Thr.one s k 45 = false := by simpa using h45
                rw [h45'] at hs45
                rw [if_neg (fun h => h45 h.1)] at hR
                have HS45 := hide hs45; have HS93 := hide hs93; have HR3 := hide hR
                clear hs45 hs93 h45 h45' hR
                go_wp2_with fail
                go_quiet ((first | (go_at_call_of 51 (Value.string { data := #[45, 93] }); exact Calls.quiet_of (unhide HS93 _ ((unhide HW4).at_.drewN _))) | (go_at_call 51; exact Calls.quiet_of (unhide HS45 _ ((unhide HW4).at_.drewN _)))))
                go_wp2_with
                 ((at_builtin; refine wpList_append_lies _ (by rfl) _ _ _ (by rfl) (w.heap.size + 2) 65 i0 _ 2 16 Tryd.underlying23 hi0 hz0 hz1 hz2 rfl (by omega) (.slice Ao acc.length co) acc.length (rangeCells acc) (by rfl)
                      (by exact own_step (unhide HW4).own (fun j hj => (below_alloc' (below_drewN (Below.refl w4.heap.size w4) _) _).block j (own_lt (unhide HW4).own j hj).2)) ⟨w4.heap.size, 0, none⟩ 1 _ [.int .i64 lo, .int .i64 lo]
                      (by rfl) (by rfl) (by exact World.news_of_block (cs := #[.int .i64 lo, .int .i64 lo]) (heap_alloc_new _ _))
                      (by simp [Value.oneCell']) (by omega) (by simp only [maxLen]; omega) (by omega) (by first | omega | (simp; omega)) _ (by rfl) ?_; intro go cap5 w5 hown5 hgrow hat5 hlt5; have cz := grown_cell hgrow (below_alloc' (below_drewN (Below.refl w4.heap.size w4) _) _) hzB (unhide HNO) n3; have fz := grown_frozen hgrow (below_alloc' (below_drewN (Below.refl w4.heap.size w4) _) _) hzB (unhide HNO) h3f; have hz5 := Nat.lt_of_lt_of_le hzB (grown_size hgrow (below_alloc' (below_drewN (Below.refl w4.heap.size w4) _) _))))
                have hW5 := (unhide HW4).app (l := [(lo, lo)]) (below_alloc' (below_drewN (Below.refl w4.heap.size w4) _) _) hgrow hown5 (by rfl)
                have HW5 := hide hW5
                clear hW5 hown5 hgrow hat5
                go_roundg f
                case measure => omega
                case rel => exact ⟨k, false, acc ++ [(lo, lo)], _, rfl, hkle.2, by omega, hide (by first | exact unhide HR3), hide (fun r hr => by
                  rcases List.mem_append.1 hr with hr | hr
                  · exact unhide HF r hr
                  · obtain rfl := List.mem_singleton.1 hr; exact ⟨hlo.1, Int.le_refl _, hlo.2⟩), by simp only [List.length_append]; first | omega | (simp only [List.length_cons, List.length_nil]; omega), hide (.inl (by simp; skip)), HW5⟩
end Go.Proofs.YtanmlgliibgpcaaDoor
