/- The walks of group and atom. -/
import Derived.Test.YtanmlgliibgpcaaDoorRxP
namespace Go.Proofs.YtanmlgliibgpcaaDoor
open Go.RowKit Thr
set_option linter.unusedVariables false
set_option linter.unusedSimpArgs false

set_option maxRecDepth 100000 in
set_option maxHeartbeats 16000000 in
theorem group_many {bp : Nat} {s : ByteArray} {i : Nat} {bytes : Bool} (at_ : Nat) (w : World) (hP : PAt w bp s at_ bytes 40) :
    Calls Tryd.prog 68 #[.pointer (some ⟨bp, 0, none⟩), .int .i64 i] w fun e w' => Gives bp i 91 w w' e := by
  have c3 := hP.cell 3
  have hbp := hP.lt
  simp at c3
  clear hP
  go_enter Tryd.func68, Tryd.ntmps68
  go_wp2_with fail
  refine (fail_calls _ _ _ _).mono ?_
  rintro e w' ⟨rfl, hw⟩
  obtain rfl := hw.symm
  exact ⟨rfl, rfl, (Keeps.refl _ _).alloc _⟩

set_option maxRecDepth 100000 in
set_option maxHeartbeats 16000000 in
theorem group_calls {bp : Nat} {s : ByteArray} {i : Nat} {bytes : Bool} {nest : Nat} (r : Res) (w : World) (hP : PAt w bp s (i + 1) bytes nest) (hG : Glob w) (hm : s.size ≤ 1024) (hn : nest < 40)
    (hr : ∀ a c j, r = .stop a c j → j ≤ s.size ∧ (j < s.size → byt s j = 41))
    (hA : ∀ w1, PAt w1 bp s (i + 1) bytes (nest + 1) → Glob w1 → Calls Tryd.prog 34 #[.pointer (some ⟨bp, 0, none⟩)] w1 fun e w' => AltPost bp s bytes (nest + 1) w1 w' e r) :
    Calls Tryd.prog 68 #[.pointer (some ⟨bp, 0, none⟩), .int .i64 i] w fun e w' => OnePost bp s bytes nest w w' e (groupR s i r) := by
  obtain ⟨G, hGr⟩ : ∃ G, groupR s i r = G := ⟨_, rfl⟩
  rw [hGr]
  have HGR := hide hGr
  clear hGr
  have c3 := hP.cell 3
  have f3 := hP.frozen 3
  have hbp := hP.lt
  simp at c3
  have hn40 : ((nest : Int) == 40) = false := by simp; omega
  have hn1 : (nest : Int) ≤ 40 := by omega
  have hdeep : ∀ W : World, PAt W bp s (i + 1) bytes nest → PAt (W.setCell ⟨bp, 3, none⟩ (.int .i64 ((nest : Int) + 1))) bp s (i + 1) bytes (nest + 1) := fun W h => h.deep (nest + 1)
  have hGl : ∀ W, Keeps (fun k => k = bp) w W → Glob W := fun W hk => hG.keeps hk hP
  have hKw : ∀ o (v : Value), Keeps (fun k => k = bp) w ((w.setCell ⟨bp, 3, none⟩ v).alloc o) := fun o v => ((Keeps.refl (fun k => k = bp) w).setCell (p := ⟨bp, 3, none⟩) (.inl rfl) v).alloc o
  have HA := hide hA; have HP := hide hP; have HD := hide hdeep; have HG := hide hGl; have HK := hide hKw; have HR := hide hr
  clear hA hP hdeep hGl hKw hG hr
  go_enter Tryd.func68, Tryd.ntmps68
  go_wp2_with fail
  refine ((unhide HA) _ (Blk.alloc ((unhide HD) _ (unhide HP)) _) ((unhide HG) _ ((unhide HK) _ _))).mono ?_
  cases r with
  | fault j er =>
    obtain rfl : One.fault j er = G := unhide HGR
    rintro e w1 ⟨rfl, hk1⟩
    exact ⟨rfl, rfl, ((unhide HK) _ _).trans hk1 (fun _ _ h => h)⟩
  | stop a c j =>
    rintro e w1 ⟨cs, rfl, ht, hP1, hk1⟩
    obtain ⟨hj, hj41⟩ := (unhide HR) a c j rfl
    obtain ⟨k1, k2, k3, As, ls, cs', k5, k6, A, lk, cc, rfl⟩ := ht.form
    have hK1 := ((unhide HK) (.cells zero7 26) (.int .i64 ((nest : Int) + 1))).trans hk1 (fun _ _ h => h)
    have hB1 : Blk w1 w.heap.size 26 zero7 := by
      have hb := Blk.new (w.setCell ⟨bp, 3, none⟩ (.int .i64 ((nest : Int) + 1))) 26 zero7
      rw [World.size_setCell] at hb
      exact hb.keeps hk1 (by omega)
    have d3 := hP1.cell 3
    have g3 := hP1.frozen 3
    have hbp1 := hP1.lt
    have hz1 : w.heap.size < w1.heap.size := hB1.lt
    simp at d3
    have ht0 : TreeAt (fun k => w.heap.size < k) w1 (shutF a c) _ := TreeAt.mono (fun k hk => by simp at hk; omega) _ _ ht
    -- behind the node's own block and the depth taken back
    have hP2 : ∀ o, PAt ((w1.setCell ⟨bp, 3, none⟩ (.int .i64 nest)).alloc o) bp s j bytes nest := fun o => Blk.alloc (PAt.deep hP1 nest) o
    have HT := hide ht0; have HP2 := hide hP2; have HK1 := hide hK1; have HB1 := hide hB1
    clear ht ht0 hP1 hk1 hK1 hB1 hP2
    go_wp2_with fail
    refine (see_quiet (lit [41]) _ ((unhide HP2) _) hj hm).mono ?_
    rw [see_one, show ((41 : UInt8).toNat : Int) = 41 from rfl]
    rintro e w2 ⟨rfl, m2, hw2⟩
    have hP3 : PAt w2 bp s j bytes nest := by rw [hw2]; exact Blk.drewN ((unhide HP2) _) _
    have hB2 : Blk w2 w.heap.size 26 zero7 := by rw [hw2]; exact Blk.drewN (Blk.alloc ((unhide HB1).far (p := ⟨bp, 3, none⟩) (by simp only; omega) _) _) _
    have hX : Blk w2 w1.heap.size 26 #[.int .i64 k1, .int .i64 k2, .bool k3, .slice As ls cs', .int .i64 k5, .int .i64 k6, .slice A lk cc] := by
      rw [hw2]
      have hb := Blk.new (w1.setCell ⟨bp, 3, none⟩ (.int .i64 nest)) 26 #[.int .i64 k1, .int .i64 k2, .bool k3, .slice As ls cs', .int .i64 k5, .int .i64 k6, .slice A lk cc]
      rw [World.size_setCell] at hb
      exact Blk.drewN hb _
    have hk2 : Keeps (fun k => k = bp) w1 w2 := by rw [hw2]; exact (((Keeps.refl (fun k => k = bp) w1).setCell (p := ⟨bp, 3, none⟩) (.inl rfl) _).alloc _).drewN _
    have hK2 := (unhide HK1).trans hk2 (fun _ _ h => h)
    have ht2 : TreeAt (fun k => w.heap.size < k) w2 (shutF a c) _ := TreeAt.step (fun k hk hl => hk2.block k hl (by omega)) _ _ (unhide HT)
    have HP3 := hide hP3; have HB2 := hide hB2; have HK2 := hide hK2; have HT2 := hide ht2
    have q1 := hP3.cell 1
    have g1 := hP3.frozen 1
    have hbp2 := hP3.lt
    simp at q1
    obtain ⟨⟨x0, x1, x2, x3, x4, x5, x6⟩, -⟩ := hX.seven
    obtain ⟨⟨b0, b1, b2, b3, b4, b5, b6⟩, y0, y1, y2, y3, y4, y5, y6⟩ := hB2.seven
    have hz2 : w.heap.size < w2.heap.size := hB2.lt
    have hz3 : w1.heap.size < w2.heap.size := hX.lt
    have hbx : bp ≠ w1.heap.size := by omega
    clear hw2 hP3 hB2 hX hk2 hK2 ht2
    by_cases hj2 : j < s.size
    · have ho : Thr.one s j 41 = true := by simp [Thr.one]; exact ⟨hj2, hj41 hj2⟩
      rw [ho]
      obtain rfl : One.node (shutF a c) (j + 1) = G := by rw [← unhide HGR]; simp only [groupR, if_pos hj2]
      clear ho hj2 hj41 d3 g3
      go_wp2_with fail
      refine bodyPost_ret (results_cell rfl rfl (load7 (Blk.put7 (Blk.far (unhide HB2) (p := ⟨bp, 1, none⟩) (by simp only; omega) _)))) rfl ?_
      refine ⟨_, rfl, TreeAt.mono (fun k hk => Nat.le_of_lt hk) _ _ (TreeAt.step (W := w2) (fun k hk _ => ?_) _ _ (unhide HT2)), PAt.put7 (PAt.go_on (unhide HP3) (j + 1)) (by omega) _ _ _ _ _ _ _, ((unhide HK2).setCell (p := ⟨bp, 1, none⟩) (.inl rfl) _).put7 (.inr (Nat.le_refl _)) _ _ _ _ _ _ _⟩
      have : w.heap.size < k := hk
      exact (heap_put7 _ _ _ _ _ _ _ _ _ k (by omega)).trans (Below.heap_setCell _ _ _ k (by simp only; omega))
    · have ho : Thr.one s j 41 = false := by simp [Thr.one]; intro h; exact absurd h hj2
      rw [ho]
      obtain rfl : One.fault i 90 = G := by rw [← unhide HGR]; simp only [groupR, if_neg hj2]
      clear ho hj2 hj41 d3 g3
      go_wp2_with fail
      refine (fail_calls _ _ _ _).mono ?_
      rintro e w3 ⟨rfl, hw⟩
      obtain rfl := hw.symm
      exact ⟨rfl, rfl, unhide HK2⟩
end Go.Proofs.YtanmlgliibgpcaaDoor
