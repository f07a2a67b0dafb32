/- The walk of cat. -/
import Derived.Test.YtanmlgliibgpcaaDoorRxR
namespace Go.Proofs.YtanmlgliibgpcaaDoor
open Go.RowKit Thr
set_option linter.unusedVariables false
set_option linter.unusedSimpArgs false

def CatPost (bp : Nat) (s : ByteArray) (bytes : Bool) (nest : Nat) (alts : List Rx) (f : Nat) (r : Res) (w w' : World) (e : Ending) : Prop :=
  (∃ j er, r = .fault j er ∧ Gives bp j er w w' e) ∨
  ∃ (cat' : List Rx) (j f' : Nat) (cs : List Value), e = .returned (.agg cs.toArray) ∧ TreeAt (fun k => w.heap.size ≤ k) w' (joinF cat') cs ∧ PAt w' bp s j bytes nest ∧ Keeps (fun k => k = bp) w w' ∧ j ≤ s.size ∧ f' ≤ f ∧ s.size - j < f' ∧
    innerF s bytes f' nest alts cat' j = some r ∧ (s.size ≤ j ∨ byt s j = 124 ∨ (0 < nest ∧ byt s j = 41))
theorem Tryd.infoRx : (Tryd.prog.info? 26).map (fun i => (i.zero, i.size, i.bytes)) = some (some (.agg #[.int .i64 0, .int .i64 0, .bool false, .slice none 0 0, .int .i64 0, .int .i64 0, .slice none 0 0]), 7, 88) := by kernel_rfl
theorem atom_le {s : ByteArray} {bytes : Bool} {f nest i : Nat} {x : Rx} {k : Nat} (hi : i < s.size) (hm : s.size ≤ 1024) (hf : s.size - (i + 1) < f) (h : atomF s bytes f nest i = some (.node x k)) : i < k ∧ k ≤ s.size := by
  have hZ := sized_all s bytes
  unfold atomF at h
  split at h
  · split at h
    · cases h
    · obtain ⟨q, hq, hp⟩ := inner_ends hZ f (nest + 1) [] [] (i + 1) hf (by omega)
      rw [hq] at h
      simp only [Option.map_some, Option.some.injEq] at h
      cases q with
      | fault j e => cases h
      | stop a c j =>
        have := hp a c j rfl
        simp only [groupR] at h
        split at h
        · injection h; omega
        · cases h
  split at h
  · cases h
  split at h
  · cases hs : setF s i bytes with
    | none => rw [hs] at h; cases h
    | some q =>
      rw [hs] at h
      simp only [oneOf, Option.some.injEq] at h
      obtain ⟨y, k'⟩ := q
      injection h with h1 h2
      subst h2
      exact set_le hZ hs
  split at h
  · cases hs : escF s i bytes with
    | none => rw [hs] at h; cases h
    | some q =>
      rw [hs] at h
      simp only [oneOf, Option.some.injEq] at h
      obtain ⟨y, k'⟩ := q
      injection h with h1 h2
      subst h2
      exact esc_le hZ hs
  · simp only [Option.some.injEq] at h
    injection h with h1 h2
    have := (next_le (i := i) hZ).2.1 hi
    omega
/-- An element of a row of trees. -/
theorem RowW.elem {w0 W : World} {bp : Nat} {s : ByteArray} {bytes : Bool} {nest i g n cap : Nat} {ts : List Rx} {xs : List Value} (h : RowW w0 W bp s bytes nest i (.slice (some ⟨g, 0, none⟩) n cap) ts xs) {k : Nat} {t : Rx} (ht : ts[k]? = some t) :
    ∃ cs, TreeAt (fun k => w0.heap.size + 1 ≤ k ∧ g ≠ k) W t cs ∧ ∀ (j : Nat) (u : Value), cs[j]? = some u → W.cell? ⟨g, k * 7 + j, none⟩ = some u ∧ W.frozen? ⟨g, k * 7 + j, none⟩ = false := by
  obtain ⟨cs, a, b⟩ := h.row.2 k t ht
  have hn : n = ts.length := by
    obtain ⟨_, ⟨h1, _⟩ | ⟨g', cap', cur, h1, _⟩⟩ := h.own
    · cases h1
    · injection h1
  subst hn
  exact ⟨cs, TreeAt.mono (fun k hk => ⟨hk.1, fun e => hk.2 (by simp [Value.ownBlock, e])⟩) _ _ a, fun j u hu => own_cell h.own (b j u hu)⟩
theorem glob_any {w W : World} {bp : Nat} {s : ByteArray} {i : Nat} {bytes : Bool} {nest : Nat} (hG : Glob w) (hP : PAt w bp s i bytes nest) (hk : Keeps (fun k => k = bp) w W) : Glob W := hG.keeps hk hP

set_option maxRecDepth 100000 in
set_option maxHeartbeats 64000000 in
theorem cat_calls {bp : Nat} {s : ByteArray} {bytes : Bool} {nest : Nat} (F : Nat) (hA : ∀ f', f' < F → nest < 40 → ∀ (i : Nat) (r : Res) (w1 : World), innerF s bytes f' (nest + 1) [] [] i = some r → i ≤ s.size → s.size - i < f' → PAt w1 bp s i bytes (nest + 1) → Glob w1 →
      Calls Tryd.prog 34 #[.pointer (some ⟨bp, 0, none⟩)] w1 fun e w' => AltPost bp s bytes (nest + 1) w1 w' e r)
    (alts : List Rx) (i f : Nat) (r : Res) (w : World) (hf : f ≤ F) (hfi : s.size - i < f) (hin : innerF s bytes f nest alts [] i = some r) (hP : PAt w bp s i bytes nest) (hG : Glob w) (hi : i ≤ s.size) (hm : s.size ≤ 1024) (hn : nest ≤ 40) :
    Calls Tryd.prog 50 #[.pointer (some ⟨bp, 0, none⟩)] w fun e w' => CatPost bp s bytes nest alts f r w w' e := by
  have hbp := hP.lt
  have hGl : ∀ W, Keeps (fun k => k = bp) w W → Glob W := fun W hk => hG.keeps hk hP
  obtain ⟨i0, hi0, hz0, hz1, hz2⟩ := info_parts Tryd.infoRx
  have hstart : RowW w (w.alloc (.cells zero7 26)) bp s bytes nest i (.slice none 0 0) [] [] := ⟨Blk.new w _ _, Blk.alloc hP _, World.ownsRow_nil _ _ _ _, TreesRow.nil _ _, (Keeps.refl _ _).alloc _, hbp⟩
  have HA := hide hA; have HG := hide hGl; have HST := hide hstart; have HIN := hide hin
  clear hA hG hGl hP hstart hin
  go_enter Tryd.func50, Tryd.ntmps50
  go_wp2_with fail
  go_loopg [3] f (fun kx vK wr => ∃ (j : Nat) (cat : List Rx) (xs : List Value), j ≤ s.size ∧ s.size - j < kx ∧ kx ≤ f ∧ Hid (innerF s bytes kx nest alts cat j = some r) ∧ cat.length ≤ j ∧ Hid (RowW w wr bp s bytes nest j vK cat xs))
  case atStart => exact ⟨i, [], [], hi, hfi, Nat.le_refl _, HIN, by simp, HST⟩
  case round =>
    obtain ⟨j, cat, xs, hj, hjf, hkf, HR, hlen, HW⟩ := hrel
    clear HST HIN
    obtain ⟨f0, rfl⟩ : ∃ f0, gk = f0 + 1 := ⟨gk - 1, by omega⟩
    have hW := unhide HW
    have p0 := hW.at_.cell 0
    have p1 := hW.at_.cell 1
    have p3 := hW.at_.cell 3
    have hbpr := hW.at_.lt
    simp at p0 p1 p3
    have hs124 := fun W (hP : PAt W bp s j bytes nest) => see_quiet (lit [124]) W hP hj hm
    rw [see_one, show ((124 : UInt8).toNat : Int) = 124 from rfl] at hs124
    have hs41 := fun W (hP : PAt W bp s j bytes nest) => see_quiet (lit [41]) W hP hj hm
    rw [see_one, show ((41 : UInt8).toNat : Int) = 41 from rfl] at hs41
    by_cases hge : s.size ≤ j
    · have hlt : decide ((j : Int) < s.size) = false := decide_eq_false (by omega)
      have hltN : decide (j < s.size) = false := decide_eq_false (by omega)
      have HS124 := hide hs124; have HS41 := hide hs41
      clear hs124 hs41
      have HSTOP := hide (show s.size ≤ j ∨ byt s j = 124 ∨ (0 < nest ∧ byt s j = 41) from .inl hge)
      obtain ⟨⟨b0, b1, b2, b3, b4, b5, b6⟩, f0', f1', f2', f3', f4', f5', f6'⟩ := hW.res.seven
      have hzr : w.heap.size < wr.heap.size := hW.res.lt
      rcases cat with _ | ⟨x, _ | ⟨y, l⟩⟩
      · obtain ⟨Ao, co, rfl⟩ := own_form hW.own
        simp only [List.length_nil] at *
        clear hW
        go_wp2_with fail
        go_quiet ((first | (go_at_call_of 51 (Value.string { data := #[41] }); exact Calls.quiet_of (unhide HS41 _ ((unhide HW).at_.drewN _))) | (go_at_call 51; exact Calls.quiet_of (unhide HS124 _ ((unhide HW).at_.drewN _)))))
        go_wp2_with fail
        refine bodyPost_ret (results_cell rfl rfl (load7 (Blk.put7 (Blk.drewN (unhide HW).res _)))) rfl ?_
        refine .inr ⟨_, j, f0 + 1, _, rfl, ?_, PAt.put7 (Blk.drewN (unhide HW).at_ _) (by omega) _ _ _ _ _ _ _, ((unhide HW).kept.drewN _).put7 (.inr (Nat.le_refl _)) _ _ _ _ _ _ _, hj, hkf, hjf, unhide HR, unhide HSTOP⟩
        exact tree_plain 1 0
      · obtain ⟨g, cap, rfl, hg1, hg2⟩ := hW.own.form (by simp)
        obtain ⟨cs, ht, hc⟩ := hW.elem (k := 0) (t := x) rfl
        obtain ⟨k1, k2, k3, As, ls, cs', k5, k6, A, lk, cc, rfl⟩ := ht.form
        have e0 := (hc 0 _ rfl).1
        have e1 := (hc 1 _ rfl).1
        have e2 := (hc 2 _ rfl).1
        have e3 := (hc 3 _ rfl).1
        have e4 := (hc 4 _ rfl).1
        have e5 := (hc 5 _ rfl).1
        have e6 := (hc 6 _ rfl).1
        simp only [Nat.zero_mul, Nat.zero_add] at e0 e1 e2 e3 e4 e5 e6
        have HT := hide ht
        simp only [List.length_cons, List.length_nil, Nat.zero_add] at *
        clear hW hc ht
        go_wp2_with fail
        go_quiet ((first | (go_at_call_of 51 (Value.string { data := #[41] }); exact Calls.quiet_of (unhide HS41 _ ((unhide HW).at_.drewN _))) | (go_at_call 51; exact Calls.quiet_of (unhide HS124 _ ((unhide HW).at_.drewN _)))))
        go_wp2_with fail
        refine bodyPost_ret (results_cell rfl rfl (load7 (Blk.put7 (Blk.drewN (unhide HW).res _)))) rfl ?_
        refine .inr ⟨_, j, f0 + 1, _, rfl, ?_, PAt.put7 (Blk.drewN (unhide HW).at_ _) (by omega) _ _ _ _ _ _ _, ((unhide HW).kept.drewN _).put7 (.inr (Nat.le_refl _)) _ _ _ _ _ _ _, hj, hkf, hjf, unhide HR, unhide HSTOP⟩
        exact TreeAt.mono (fun k hk => (by have := hk.1; omega : w.heap.size ≤ k)) _ _ (TreeAt.step (W := wr) (fun k hk _ => heap_put7 (wr.drewN nq) _ _ _ _ _ _ _ _ k (by have := hk.1; omega)) _ _ (unhide HT))
      · obtain ⟨g, cap, rfl, hg1, hg2⟩ := hW.own.form (by simp)
        have hln : l.length ≤ 1024 := by simp at hlen; omega
        have htk := tree_kids (ok' := fun k => w.heap.size + 1 ≤ k) 5 hW.own hW.row (fun k hk => hk.1) (fun k hk => hk)
        simp only [List.length_cons] at htk
        have HT := hide htk
        have l1 : ((l.length : Int) + 1 + 1 == 0) = false := by simp; omega
        have l2 : ((l.length : Int) + 1 + 1 == 1) = false := by simp; omega
        simp only [List.length_cons] at *
        clear hW htk
        go_wp2_with fail
        go_quiet ((first | (go_at_call_of 51 (Value.string { data := #[41] }); exact Calls.quiet_of (unhide HS41 _ ((unhide HW).at_.drewN _))) | (go_at_call 51; exact Calls.quiet_of (unhide HS124 _ ((unhide HW).at_.drewN _)))))
        go_wp2_with fail
        refine bodyPost_ret (results_cell rfl rfl (load7 (Blk.put7 (Blk.drewN (unhide HW).res _)))) rfl ?_
        refine .inr ⟨_, j, f0 + 1, _, rfl, ?_, PAt.put7 (Blk.drewN (unhide HW).at_ _) (by omega) _ _ _ _ _ _ _, ((unhide HW).kept.drewN _).put7 (.inr (Nat.le_refl _)) _ _ _ _ _ _ _, hj, hkf, hjf, unhide HR, unhide HSTOP⟩
        exact TreeAt.mono (fun k hk => (by have : w.heap.size + 1 ≤ k := hk; omega : w.heap.size ≤ k)) _ _ (TreeAt.step (W := wr) (fun k hk _ => heap_put7 (wr.drewN nq) _ _ _ _ _ _ _ _ k (by have : w.heap.size + 1 ≤ k := hk; omega)) _ _ (unhide HT))
    have hjl : j < s.size := by omega
    have hlt : decide ((j : Int) < s.size) = true := decide_eq_true (by omega)
    have hltN : decide (j < s.size) = true := decide_eq_true (by omega)
    by_cases h124 : byt s j = 124
    · have ho : Thr.one s j 124 = true := by simp [Thr.one]; exact ⟨hjl, h124⟩
      rw [ho] at hs124
      have HS124 := hide hs124; have HS41 := hide hs41
      clear hs124 hs41 ho
      have HSTOP := hide (show s.size ≤ j ∨ byt s j = 124 ∨ (0 < nest ∧ byt s j = 41) from .inr (.inl h124))
      obtain ⟨⟨b0, b1, b2, b3, b4, b5, b6⟩, f0', f1', f2', f3', f4', f5', f6'⟩ := hW.res.seven
      have hzr : w.heap.size < wr.heap.size := hW.res.lt
      rcases cat with _ | ⟨x, _ | ⟨y, l⟩⟩
      · obtain ⟨Ao, co, rfl⟩ := own_form hW.own
        simp only [List.length_nil] at *
        clear hW
        go_wp2_with fail
        go_quiet ((first | (go_at_call_of 51 (Value.string { data := #[41] }); exact Calls.quiet_of (unhide HS41 _ ((unhide HW).at_.drewN _))) | (go_at_call 51; exact Calls.quiet_of (unhide HS124 _ ((unhide HW).at_.drewN _)))))
        go_wp2_with fail
        refine bodyPost_ret (results_cell rfl rfl (load7 (Blk.put7 (Blk.drewN (unhide HW).res _)))) rfl ?_
        refine .inr ⟨_, j, f0 + 1, _, rfl, ?_, PAt.put7 (Blk.drewN (unhide HW).at_ _) (by omega) _ _ _ _ _ _ _, ((unhide HW).kept.drewN _).put7 (.inr (Nat.le_refl _)) _ _ _ _ _ _ _, hj, hkf, hjf, unhide HR, unhide HSTOP⟩
        exact tree_plain 1 0
      · obtain ⟨g, cap, rfl, hg1, hg2⟩ := hW.own.form (by simp)
        obtain ⟨cs, ht, hc⟩ := hW.elem (k := 0) (t := x) rfl
        obtain ⟨k1, k2, k3, As, ls, cs', k5, k6, A, lk, cc, rfl⟩ := ht.form
        have e0 := (hc 0 _ rfl).1
        have e1 := (hc 1 _ rfl).1
        have e2 := (hc 2 _ rfl).1
        have e3 := (hc 3 _ rfl).1
        have e4 := (hc 4 _ rfl).1
        have e5 := (hc 5 _ rfl).1
        have e6 := (hc 6 _ rfl).1
        simp only [Nat.zero_mul, Nat.zero_add] at e0 e1 e2 e3 e4 e5 e6
        have HT := hide ht
        simp only [List.length_cons, List.length_nil, Nat.zero_add] at *
        clear hW hc ht
        go_wp2_with fail
        go_quiet ((first | (go_at_call_of 51 (Value.string { data := #[41] }); exact Calls.quiet_of (unhide HS41 _ ((unhide HW).at_.drewN _))) | (go_at_call 51; exact Calls.quiet_of (unhide HS124 _ ((unhide HW).at_.drewN _)))))
        go_wp2_with fail
        refine bodyPost_ret (results_cell rfl rfl (load7 (Blk.put7 (Blk.drewN (unhide HW).res _)))) rfl ?_
        refine .inr ⟨_, j, f0 + 1, _, rfl, ?_, PAt.put7 (Blk.drewN (unhide HW).at_ _) (by omega) _ _ _ _ _ _ _, ((unhide HW).kept.drewN _).put7 (.inr (Nat.le_refl _)) _ _ _ _ _ _ _, hj, hkf, hjf, unhide HR, unhide HSTOP⟩
        exact TreeAt.mono (fun k hk => (by have := hk.1; omega : w.heap.size ≤ k)) _ _ (TreeAt.step (W := wr) (fun k hk _ => heap_put7 (wr.drewN nq) _ _ _ _ _ _ _ _ k (by have := hk.1; omega)) _ _ (unhide HT))
      · obtain ⟨g, cap, rfl, hg1, hg2⟩ := hW.own.form (by simp)
        have hln : l.length ≤ 1024 := by simp at hlen; omega
        have htk := tree_kids (ok' := fun k => w.heap.size + 1 ≤ k) 5 hW.own hW.row (fun k hk => hk.1) (fun k hk => hk)
        simp only [List.length_cons] at htk
        have HT := hide htk
        have l1 : ((l.length : Int) + 1 + 1 == 0) = false := by simp; omega
        have l2 : ((l.length : Int) + 1 + 1 == 1) = false := by simp; omega
        simp only [List.length_cons] at *
        clear hW htk
        go_wp2_with fail
        go_quiet ((first | (go_at_call_of 51 (Value.string { data := #[41] }); exact Calls.quiet_of (unhide HS41 _ ((unhide HW).at_.drewN _))) | (go_at_call 51; exact Calls.quiet_of (unhide HS124 _ ((unhide HW).at_.drewN _)))))
        go_wp2_with fail
        refine bodyPost_ret (results_cell rfl rfl (load7 (Blk.put7 (Blk.drewN (unhide HW).res _)))) rfl ?_
        refine .inr ⟨_, j, f0 + 1, _, rfl, ?_, PAt.put7 (Blk.drewN (unhide HW).at_ _) (by omega) _ _ _ _ _ _ _, ((unhide HW).kept.drewN _).put7 (.inr (Nat.le_refl _)) _ _ _ _ _ _ _, hj, hkf, hjf, unhide HR, unhide HSTOP⟩
        exact TreeAt.mono (fun k hk => (by have : w.heap.size + 1 ≤ k := hk; omega : w.heap.size ≤ k)) _ _ (TreeAt.step (W := wr) (fun k hk _ => heap_put7 (wr.drewN nq) _ _ _ _ _ _ _ _ k (by have : w.heap.size + 1 ≤ k := hk; omega)) _ _ (unhide HT))
    have ho : Thr.one s j 124 = false := by simp [Thr.one]; exact fun _ => h124
    rw [ho] at hs124
    have HS124 := hide hs124
    clear hs124 ho
    by_cases h41 : 0 < nest ∧ byt s j = 41
    · have ho : Thr.one s j 41 = true := by simp [Thr.one]; exact ⟨hjl, h41.2⟩
      rw [ho] at hs41
      have HS41 := hide hs41
      have n1 : decide (0 < (nest : Int)) = true := decide_eq_true (by omega)
      have n2 : decide ((nest : Int) > 0) = true := decide_eq_true (by omega)
      have n3 : decide (0 < nest) = true := decide_eq_true (by omega)
      clear hs41 ho
      have HSTOP := hide (show s.size ≤ j ∨ byt s j = 124 ∨ (0 < nest ∧ byt s j = 41) from .inr (.inr h41))
      obtain ⟨⟨b0, b1, b2, b3, b4, b5, b6⟩, f0', f1', f2', f3', f4', f5', f6'⟩ := hW.res.seven
      have hzr : w.heap.size < wr.heap.size := hW.res.lt
      rcases cat with _ | ⟨x, _ | ⟨y, l⟩⟩
      · obtain ⟨Ao, co, rfl⟩ := own_form hW.own
        simp only [List.length_nil] at *
        clear hW
        go_wp2_with fail
        go_quiet ((first | (go_at_call_of 51 (Value.string { data := #[41] }); exact Calls.quiet_of (unhide HS41 _ ((unhide HW).at_.drewN _))) | (go_at_call 51; exact Calls.quiet_of (unhide HS124 _ ((unhide HW).at_.drewN _)))))
        go_wp2_with fail
        refine bodyPost_ret (results_cell rfl rfl (load7 (Blk.put7 (Blk.drewN (unhide HW).res _)))) rfl ?_
        refine .inr ⟨_, j, f0 + 1, _, rfl, ?_, PAt.put7 (Blk.drewN (unhide HW).at_ _) (by omega) _ _ _ _ _ _ _, ((unhide HW).kept.drewN _).put7 (.inr (Nat.le_refl _)) _ _ _ _ _ _ _, hj, hkf, hjf, unhide HR, unhide HSTOP⟩
        exact tree_plain 1 0
      · obtain ⟨g, cap, rfl, hg1, hg2⟩ := hW.own.form (by simp)
        obtain ⟨cs, ht, hc⟩ := hW.elem (k := 0) (t := x) rfl
        obtain ⟨k1, k2, k3, As, ls, cs', k5, k6, A, lk, cc, rfl⟩ := ht.form
        have e0 := (hc 0 _ rfl).1
        have e1 := (hc 1 _ rfl).1
        have e2 := (hc 2 _ rfl).1
        have e3 := (hc 3 _ rfl).1
        have e4 := (hc 4 _ rfl).1
        have e5 := (hc 5 _ rfl).1
        have e6 := (hc 6 _ rfl).1
        simp only [Nat.zero_mul, Nat.zero_add] at e0 e1 e2 e3 e4 e5 e6
        have HT := hide ht
        simp only [List.length_cons, List.length_nil, Nat.zero_add] at *
        clear hW hc ht
        go_wp2_with fail
        go_quiet ((first | (go_at_call_of 51 (Value.string { data := #[41] }); exact Calls.quiet_of (unhide HS41 _ ((unhide HW).at_.drewN _))) | (go_at_call 51; exact Calls.quiet_of (unhide HS124 _ ((unhide HW).at_.drewN _)))))
        go_wp2_with fail
        refine bodyPost_ret (results_cell rfl rfl (load7 (Blk.put7 (Blk.drewN (unhide HW).res _)))) rfl ?_
        refine .inr ⟨_, j, f0 + 1, _, rfl, ?_, PAt.put7 (Blk.drewN (unhide HW).at_ _) (by omega) _ _ _ _ _ _ _, ((unhide HW).kept.drewN _).put7 (.inr (Nat.le_refl _)) _ _ _ _ _ _ _, hj, hkf, hjf, unhide HR, unhide HSTOP⟩
        exact TreeAt.mono (fun k hk => (by have := hk.1; omega : w.heap.size ≤ k)) _ _ (TreeAt.step (W := wr) (fun k hk _ => heap_put7 (wr.drewN nq) _ _ _ _ _ _ _ _ k (by have := hk.1; omega)) _ _ (unhide HT))
      · obtain ⟨g, cap, rfl, hg1, hg2⟩ := hW.own.form (by simp)
        have hln : l.length ≤ 1024 := by simp at hlen; omega
        have htk := tree_kids (ok' := fun k => w.heap.size + 1 ≤ k) 5 hW.own hW.row (fun k hk => hk.1) (fun k hk => hk)
        simp only [List.length_cons] at htk
        have HT := hide htk
        have l1 : ((l.length : Int) + 1 + 1 == 0) = false := by simp; omega
        have l2 : ((l.length : Int) + 1 + 1 == 1) = false := by simp; omega
        simp only [List.length_cons] at *
        clear hW htk
        go_wp2_with fail
        go_quiet ((first | (go_at_call_of 51 (Value.string { data := #[41] }); exact Calls.quiet_of (unhide HS41 _ ((unhide HW).at_.drewN _))) | (go_at_call 51; exact Calls.quiet_of (unhide HS124 _ ((unhide HW).at_.drewN _)))))
        go_wp2_with fail
        refine bodyPost_ret (results_cell rfl rfl (load7 (Blk.put7 (Blk.drewN (unhide HW).res _)))) rfl ?_
        refine .inr ⟨_, j, f0 + 1, _, rfl, ?_, PAt.put7 (Blk.drewN (unhide HW).at_ _) (by omega) _ _ _ _ _ _ _, ((unhide HW).kept.drewN _).put7 (.inr (Nat.le_refl _)) _ _ _ _ _ _ _, hj, hkf, hjf, unhide HR, unhide HSTOP⟩
        exact TreeAt.mono (fun k hk => (by have : w.heap.size + 1 ≤ k := hk; omega : w.heap.size ≤ k)) _ _ (TreeAt.step (W := wr) (fun k hk _ => heap_put7 (wr.drewN nq) _ _ _ _ _ _ _ _ k (by have : w.heap.size + 1 ≤ k := hk; omega)) _ _ (unhide HT))
    have hin := unhide HR
    have hatom : ∀ (hag : (if cat = [] then Again.no else againF s j) = .no), ∃ o, atomF s bytes f0 nest j = some o ∧ (match o with | .fault j e => r = .fault j e | .node x k => innerF s bytes f0 nest alts (cat ++ [x]) k = some r) := fun hag => inner_atom hin hjl hag h124 h41
    have hstep : (match (if cat = [] then Again.no else againF s j) with | .no => True | .fault e => r = .fault j e | .yes lo hi k => innerF s bytes f0 nest alts (initL cat ++ [repN lo hi (lastL cat)]) k = some r) := by
      have h := hin
      simp only [innerF] at h
      rw [if_neg (by omega)] at h
      generalize (if cat = [] then Again.no else againF s j) = ag at h
      cases ag with
      | no => trivial
      | fault e => simp only at h; injection h with h; exact h.symm
      | yes lo hi k => exact h
    clear hin
    rcases Nat.eq_zero_or_pos nest with hn0 | hn0
    · have n1 : decide (0 < (nest : Int)) = false := decide_eq_false (by omega)
      have n2 : decide ((nest : Int) > 0) = false := decide_eq_false (by omega)
      have n3 : decide (0 < nest) = false := decide_eq_false (by omega)
      have HS41 := hide hs41
      clear hs41 hn0 h41 h124
      rcases List.eq_nil_or_concat cat with hc | ⟨pre, last, hc⟩
      · have hl : cat.length = 0 := by rw [hc]; rfl
        obtain ⟨Ao, co, rfl⟩ := own_form hW.own
        rw [hl] at hW HW hlen ⊢
        have hag : (if cat = [] then Again.no else againF s j) = .no := by rw [if_pos hc]
        obtain ⟨o, ho, hor⟩ := hatom hag
        have hkl : ∀ x k, o = .node x k → j < k ∧ k ≤ s.size := by
          intro x k e
          subst e
          exact atom_le hjl hm (by omega) ho
        have HO := hide ho; have HOR := hide hor; have HKL := hide hkl
        clear ho hor hkl
        have HL := hide hl
        clear hW hc hag hl hatom
        go_wp2_with fail
        go_quiet ((first | (go_at_call_of 51 (Value.string { data := #[41] }); exact Calls.quiet_of (unhide HS41 _ ((unhide HW).at_.drewN _))) | (go_at_call 51; exact Calls.quiet_of (unhide HS124 _ ((unhide HW).at_.drewN _)))))
        go_wp2_with fail
        have HW1 := hide ((unhide HW).below (below_drewN (Below.refl wr.heap.size wr) nq))
        refine (rxrep_nil Ao co _).mono ?_
        rintro e w2 ⟨rfl, hb2⟩
        have HW2 := hide ((unhide HW1).below hb2)
        clear hb2
        unfold zero7
        go_wp2_with fail
        refine (atom_calls (f := f0) o _ (Blk.alloc (unhide HW2).at_ _) ((unhide HG) _ ((unhide HW2).kept.alloc _)) hjl hm hn (by omega) (unhide HO) (fun hn40 r' w9 h1 h2 h3 => (unhide HA) f0 (by omega) hn40 (j + 1) r' w9 h1 (by omega) (by omega) h2 h3)).mono ?_
        cases o with
        | fault j' er =>
          rintro e w4 ⟨rfl, hk4⟩
          have hr := (unhide HOR)
          simp only at hr
          exact ⟨rfl, .inl ⟨j', er, hr, rfl, ((unhide HW2).kept.alloc _).trans hk4 (fun _ _ h => h)⟩⟩
        | node x k =>
          rintro e w4 ⟨cs, rfl, ht, hP4, hk4⟩
          have hin := (unhide HOR)
          simp only at hin
          obtain ⟨k1, k2, k3, As, ls, cs', k5, k6, A, lk, cc, rfl⟩ := ht.form
          have hW3 := (unhide HW2).below ((Below.refl _ _).alloc (Nat.le_refl _) (.cells zero7 26))
          have hW4 := hW3.move hk4 hP4
          have hkle := (unhide HKL) x k rfl
          have hown := hW4.own
          rw [unhide HL] at hown
          have h1w : w.heap.size < (w2.alloc (.cells zero7 26)).heap.size := hW3.res.lt
          have h2w : ∀ k, (Value.slice Ao (0) co).ownBlock = some k → k < (w2.alloc (.cells zero7 26)).heap.size := fun k hk => (own_lt hW3.own k hk).2
          have HW4 := hide hW4; have HT := hide ht; have HOWN := hide hown; have H1 := hide h1w; have H2 := hide h2w; have HIN := hide hin
          have hz4 : w.heap.size < w4.heap.size := hW4.res.lt
          clear hW3 hW4 ht hP4 hk4 hown h1w h2w hin
          go_wp2_with
           ((at_builtin; refine wpList_append_lies _ (by rfl) _ _ _ (by rfl) (w.heap.size + 1) 26 i0 _ 7 88 Tryd.underlying24 hi0 hz0 hz1 hz2 rfl (by omega) (.slice Ao (0) co) (0) xs (by rfl)
                (by exact (unhide HOWN).alloc _) ⟨w4.heap.size, 0, none⟩ 1 _ [.int .i64 k1, .int .i64 k2, .bool k3, .slice As ls cs', .int .i64 k5, .int .i64 k6, .slice A lk cc]
                (by rfl) (by rfl) (by exact World.news_of_block (cs := #[.int .i64 k1, .int .i64 k2, .bool k3, .slice As ls cs', .int .i64 k5, .int .i64 k6, .slice A lk cc]) (heap_alloc_new _ _))
                (by simp [Value.oneCell']) (by omega) (by simp only [maxLen]; omega) (by omega) (by first | omega | (simp; omega)) _ (by rfl) ?_; intro go cap5 w5 hown5 hgrow hat5 hlt5))
          have hW5 := (unhide HW4).app (go := go) (cap := cap5) (unhide HT) (unhide H1) (unhide H2) (below_alloc' (Below.refl w4.heap.size w4) _) hgrow (by rw [unhide HL]; exact hown5) hat5
          rw [unhide HL] at hW5
          have HW5 := hide hW5
          have hl2 := unhide HL
          clear hW5 hown5 hgrow hat5
          go_roundg f0
          case measure => omega
          case rel => exact ⟨k, cat ++ [x], _, hkle.2, by omega, by omega, HIN, by simp only [List.length_append, List.length_cons, List.length_nil]; omega, HW5⟩
      · rw [List.concat_eq_append] at hc
        have hl : cat.length = pre.length + 1 := by rw [hc]; simp
        have hcn : cat ≠ [] := by rw [hc]; simp
        obtain ⟨g, cap, rfl, hg1, hg2⟩ := hW.own.form (by omega)
        rw [hl] at hW HW hlen ⊢
        have HL := hide hl
        have hel : cat[pre.length]? = some last := by rw [hc]; simp
        have hlastE : lastL cat = last ∧ initL cat = pre := by
          have h1 := init_last hcn
          rw [hc] at h1 ⊢
          have h2 := List.append_inj' h1 rfl
          simp at h2
          exact ⟨h2.2.symm, h2.1.symm⟩
        obtain ⟨csl, htl, hcl⟩ := hW.elem hel
        have HW1' := hide (fun n => (unhide HW).below (below_drewN (Below.refl wr.heap.size wr) n))
        have hrep := fun n => rxrep_calls (ok := fun k => w.heap.size + 1 ≤ k ∧ g ≠ k) (cap := cap) (m := pre.length) last csl (wr.drewN n) (Blk.drewN hW.at_ n) hjl hm (by omega) (TreeAt.step (W := wr) (W' := wr.drewN n) (fun _ _ _ => rfl) _ _ htl) (fun q v hq => (hcl q v hq).1) (by omega) (fun k hk e => by have := hk.1; omega)
        have hagE : (if cat = [] then Again.no else againF s j) = againF s j := by rw [if_neg hcn]
        rw [hagE] at hatom hstep
        cases hag : againF s j with
        | no =>
          rw [hag] at hrep
          obtain ⟨o, ho, hor⟩ := hatom hag
          have hkl : ∀ x k, o = .node x k → j < k ∧ k ≤ s.size := by
            intro x k e
            subst e
            exact atom_le hjl hm (by omega) ho
          have HO := hide ho; have HOR := hide hor; have HKL := hide hkl
          clear ho hor hkl
          have HREP := hide hrep
          clear hW hc hag hl hatom hrep htl hcl hagE hlastE hel hcn HW1' hstep
          go_wp2_with fail
          go_quiet ((first | (go_at_call_of 51 (Value.string { data := #[41] }); exact Calls.quiet_of (unhide HS41 _ ((unhide HW).at_.drewN _))) | (go_at_call 51; exact Calls.quiet_of (unhide HS124 _ ((unhide HW).at_.drewN _)))))
          go_wp2_with fail
          have HW1 := hide ((unhide HW).below (below_drewN (Below.refl wr.heap.size wr) nq))
          refine ((unhide HREP) _).mono ?_
          rintro e w2 ⟨rfl, hb2⟩
          have HW2 := hide ((unhide HW1).below hb2)
          clear hb2
          unfold zero7
          go_wp2_with fail
          refine (atom_calls (f := f0) o _ (Blk.alloc (unhide HW2).at_ _) ((unhide HG) _ ((unhide HW2).kept.alloc _)) hjl hm hn (by omega) (unhide HO) (fun hn40 r' w9 h1 h2 h3 => (unhide HA) f0 (by omega) hn40 (j + 1) r' w9 h1 (by omega) (by omega) h2 h3)).mono ?_
          cases o with
          | fault j' er =>
            rintro e w4 ⟨rfl, hk4⟩
            have hr := (unhide HOR)
            simp only at hr
            exact ⟨rfl, .inl ⟨j', er, hr, rfl, ((unhide HW2).kept.alloc _).trans hk4 (fun _ _ h => h)⟩⟩
          | node x k =>
            rintro e w4 ⟨cs, rfl, ht, hP4, hk4⟩
            have hin := (unhide HOR)
            simp only at hin
            obtain ⟨k1, k2, k3, As, ls, cs', k5, k6, A, lk, cc, rfl⟩ := ht.form
            have hW3 := (unhide HW2).below ((Below.refl _ _).alloc (Nat.le_refl _) (.cells zero7 26))
            have hW4 := hW3.move hk4 hP4
            have hkle := (unhide HKL) x k rfl
            have hown := hW4.own
            rw [unhide HL] at hown
            have h1w : w.heap.size < (w2.alloc (.cells zero7 26)).heap.size := hW3.res.lt
            have h2w : ∀ k, (Value.slice (some ⟨g, 0, none⟩) (pre.length + 1) cap).ownBlock = some k → k < (w2.alloc (.cells zero7 26)).heap.size := fun k hk => (own_lt hW3.own k hk).2
            have HW4 := hide hW4; have HT := hide ht; have HOWN := hide hown; have H1 := hide h1w; have H2 := hide h2w; have HIN := hide hin
            have hz4 : w.heap.size < w4.heap.size := hW4.res.lt
            clear hW3 hW4 ht hP4 hk4 hown h1w h2w hin
            go_wp2_with
             ((at_builtin; refine wpList_append_lies _ (by rfl) _ _ _ (by rfl) (w.heap.size + 1) 26 i0 _ 7 88 Tryd.underlying24 hi0 hz0 hz1 hz2 rfl (by omega) (.slice (some ⟨g, 0, none⟩) (pre.length + 1) cap) (pre.length + 1) xs (by rfl)
                  (by exact (unhide HOWN).alloc _) ⟨w4.heap.size, 0, none⟩ 1 _ [.int .i64 k1, .int .i64 k2, .bool k3, .slice As ls cs', .int .i64 k5, .int .i64 k6, .slice A lk cc]
                  (by rfl) (by rfl) (by exact World.news_of_block (cs := #[.int .i64 k1, .int .i64 k2, .bool k3, .slice As ls cs', .int .i64 k5, .int .i64 k6, .slice A lk cc]) (heap_alloc_new _ _))
                  (by simp [Value.oneCell']) (by omega) (by simp only [maxLen]; omega) (by omega) (by first | omega | (simp; omega)) _ (by rfl) ?_; intro go cap5 w5 hown5 hgrow hat5 hlt5))
            have hW5 := (unhide HW4).app (go := go) (cap := cap5) (unhide HT) (unhide H1) (unhide H2) (below_alloc' (Below.refl w4.heap.size w4) _) hgrow (by rw [unhide HL]; exact hown5) hat5
            rw [unhide HL] at hW5
            have HW5 := hide hW5
            have hl2 := unhide HL
            clear hW5 hown5 hgrow hat5
            go_roundg f0
            case measure => omega
            case rel => exact ⟨k, cat ++ [x], _, hkle.2, by omega, by omega, HIN, by simp only [List.length_append, List.length_cons, List.length_nil]; omega, HW5⟩
        | fault er =>
          rw [hag] at hrep hstep
          simp only at hstep
          have HREP := hide hrep; have HRS := hide hstep
          clear hW hc hag hl hatom hrep htl hcl hagE hlastE hel hcn HW1' hstep
          go_wp2_with fail
          go_quiet ((first | (go_at_call_of 51 (Value.string { data := #[41] }); exact Calls.quiet_of (unhide HS41 _ ((unhide HW).at_.drewN _))) | (go_at_call 51; exact Calls.quiet_of (unhide HS124 _ ((unhide HW).at_.drewN _)))))
          go_wp2_with fail
          have HW1 := hide ((unhide HW).below (below_drewN (Below.refl wr.heap.size wr) nq))
          refine ((unhide HREP) _).mono ?_
          rintro e w2 ⟨rfl, hk2⟩
          exact ⟨rfl, .inl ⟨j, er, unhide HRS, rfl, (unhide HW1).kept.trans hk2 (fun _ _ h => h)⟩⟩
        | yes lo hi' k =>
          have hkl := again_le hjl hag
          rw [hag] at hrep hstep
          simp only [hlastE.1, hlastE.2] at hstep
          obtain ⟨k1, k2, k3, As, ls, cs', k5, k6, A, lk, cc, rfl⟩ := htl.form
          have HREP := hide hrep; have HRS := hide hstep; have HCL := hide hcl; have HC := hide hc
          clear hW hc hag hatom hrep htl hcl hagE hlastE hel hcn HW1' hstep
          go_wp2_with fail
          go_quiet ((first | (go_at_call_of 51 (Value.string { data := #[41] }); exact Calls.quiet_of (unhide HS41 _ ((unhide HW).at_.drewN _))) | (go_at_call 51; exact Calls.quiet_of (unhide HS124 _ ((unhide HW).at_.drewN _)))))
          go_wp2_with fail
          have HW1 := hide ((unhide HW).below (below_drewN (Below.refl wr.heap.size wr) nq))
          refine ((unhide HREP) _).mono ?_
          rintro e w2 ⟨csn, rfl, htn, hP2, hk2⟩
          have hW2 := (unhide HW1).move hk2 hP2
          have hgo : ∀ q (v : Value), w2.cell? ⟨g, pre.length * 7 + q, none⟩ = wr.cell? ⟨g, pre.length * 7 + q, none⟩ ∧ w2.frozen? ⟨g, pre.length * 7 + q, none⟩ = wr.frozen? ⟨g, pre.length * 7 + q, none⟩ := fun q v => ⟨hk2.cell (by exact hg2) (by omega), hk2.frozen (by exact hg2) (by omega)⟩
          have e0 := (hgo 0 default).1.trans ((unhide HCL) 0 _ rfl).1
          have e1 := (hgo 1 default).1.trans ((unhide HCL) 1 _ rfl).1
          have e2 := (hgo 2 default).1.trans ((unhide HCL) 2 _ rfl).1
          have e3 := (hgo 3 default).1.trans ((unhide HCL) 3 _ rfl).1
          have e4 := (hgo 4 default).1.trans ((unhide HCL) 4 _ rfl).1
          have e5 := (hgo 5 default).1.trans ((unhide HCL) 5 _ rfl).1
          have e6 := (hgo 6 default).1.trans ((unhide HCL) 6 _ rfl).1
          have z0 := (hgo 0 default).2.trans ((unhide HCL) 0 _ rfl).2
          have z1 := (hgo 1 default).2.trans ((unhide HCL) 1 _ rfl).2
          have z2 := (hgo 2 default).2.trans ((unhide HCL) 2 _ rfl).2
          have z3 := (hgo 3 default).2.trans ((unhide HCL) 3 _ rfl).2
          have z4 := (hgo 4 default).2.trans ((unhide HCL) 4 _ rfl).2
          have z5 := (hgo 5 default).2.trans ((unhide HCL) 5 _ rfl).2
          have z6 := (hgo 6 default).2.trans ((unhide HCL) 6 _ rfl).2
          simp only [Nat.add_zero] at e0 z0
          have hg3 : g < w2.heap.size := by have := hk2.size; simp at this; omega
          have htn' : TreeAt (fun k => w.heap.size + 1 ≤ k ∧ g ≠ k) w2 (repN lo hi' last) csn := TreeAt.mono (fun q hq => by
            rcases hq with hq | hq
            · exact hq
            · have hq' : wr.heap.size ≤ q := by simpa using hq
              have hzz := (unhide HW).res.lt
              exact ⟨by omega, by omega⟩) _ _ htn
          obtain ⟨n1, n2, n3, As2, ls2, cs2, n5, n6, A2, lk2, cc2, rfl⟩ := htn'.form
          have hWc : RowW w w2 bp s bytes nest k (.slice (some ⟨g, 0, none⟩) (pre.length + 1) cap) (pre ++ [last]) xs := by rw [← unhide HC]; exact hW2
          have hW3 := RowW.put hWc rfl htn'
          have hm1 : (0 : Int) ≤ pre.length := by omega
          have hm2 : (pre.length : Int) < pre.length + 1 := by omega
          have HW3 := hide hW3
          have hzw : w.heap.size < w2.heap.size := hWc.res.lt
          clear hW2 hW3 hWc htn htn' hP2 hk2 hgo
          go_wp2_with fail
          go_roundg f0
          case measure => omega
          case rel => exact ⟨k, pre ++ [repN lo hi' last], _, hkl.2, by omega, by omega, HRS, by simp only [List.length_append, List.length_cons, List.length_nil]; omega, hide ((unhide HW3).below ((Below.refl _ _).alloc (Nat.le_refl _) _))⟩
    · have n1 : decide (0 < (nest : Int)) = true := decide_eq_true (by omega)
      have n2 : decide ((nest : Int) > 0) = true := decide_eq_true (by omega)
      have n3 : decide (0 < nest) = true := decide_eq_true (by omega)
      have ho : Thr.one s j 41 = false := by simp [Thr.one]; exact fun _ h => h41 ⟨hn0, h⟩
      rw [ho] at hs41
      have HS41 := hide hs41
      clear hs41 ho h41 h124
      rcases List.eq_nil_or_concat cat with hc | ⟨pre, last, hc⟩
      · have hl : cat.length = 0 := by rw [hc]; rfl
        obtain ⟨Ao, co, rfl⟩ := own_form hW.own
        rw [hl] at hW HW hlen ⊢
        have hag : (if cat = [] then Again.no else againF s j) = .no := by rw [if_pos hc]
        obtain ⟨o, ho, hor⟩ := hatom hag
        have hkl : ∀ x k, o = .node x k → j < k ∧ k ≤ s.size := by
          intro x k e
          subst e
          exact atom_le hjl hm (by omega) ho
        have HO := hide ho; have HOR := hide hor; have HKL := hide hkl
        clear ho hor hkl
        have HL := hide hl
        clear hW hc hag hl hatom
        go_wp2_with fail
        go_quiet ((first | (go_at_call_of 51 (Value.string { data := #[41] }); exact Calls.quiet_of (unhide HS41 _ ((unhide HW).at_.drewN _))) | (go_at_call 51; exact Calls.quiet_of (unhide HS124 _ ((unhide HW).at_.drewN _)))))
        go_wp2_with fail
        have HW1 := hide ((unhide HW).below (below_drewN (Below.refl wr.heap.size wr) nq))
        refine (rxrep_nil Ao co _).mono ?_
        rintro e w2 ⟨rfl, hb2⟩
        have HW2 := hide ((unhide HW1).below hb2)
        clear hb2
        unfold zero7
        go_wp2_with fail
        refine (atom_calls (f := f0) o _ (Blk.alloc (unhide HW2).at_ _) ((unhide HG) _ ((unhide HW2).kept.alloc _)) hjl hm hn (by omega) (unhide HO) (fun hn40 r' w9 h1 h2 h3 => (unhide HA) f0 (by omega) hn40 (j + 1) r' w9 h1 (by omega) (by omega) h2 h3)).mono ?_
        cases o with
        | fault j' er =>
          rintro e w4 ⟨rfl, hk4⟩
          have hr := (unhide HOR)
          simp only at hr
          exact ⟨rfl, .inl ⟨j', er, hr, rfl, ((unhide HW2).kept.alloc _).trans hk4 (fun _ _ h => h)⟩⟩
        | node x k =>
          rintro e w4 ⟨cs, rfl, ht, hP4, hk4⟩
          have hin := (unhide HOR)
          simp only at hin
          obtain ⟨k1, k2, k3, As, ls, cs', k5, k6, A, lk, cc, rfl⟩ := ht.form
          have hW3 := (unhide HW2).below ((Below.refl _ _).alloc (Nat.le_refl _) (.cells zero7 26))
          have hW4 := hW3.move hk4 hP4
          have hkle := (unhide HKL) x k rfl
          have hown := hW4.own
          rw [unhide HL] at hown
          have h1w : w.heap.size < (w2.alloc (.cells zero7 26)).heap.size := hW3.res.lt
          have h2w : ∀ k, (Value.slice Ao (0) co).ownBlock = some k → k < (w2.alloc (.cells zero7 26)).heap.size := fun k hk => (own_lt hW3.own k hk).2
          have HW4 := hide hW4; have HT := hide ht; have HOWN := hide hown; have H1 := hide h1w; have H2 := hide h2w; have HIN := hide hin
          have hz4 : w.heap.size < w4.heap.size := hW4.res.lt
          clear hW3 hW4 ht hP4 hk4 hown h1w h2w hin
          go_wp2_with
           ((at_builtin; refine wpList_append_lies _ (by rfl) _ _ _ (by rfl) (w.heap.size + 1) 26 i0 _ 7 88 Tryd.underlying24 hi0 hz0 hz1 hz2 rfl (by omega) (.slice Ao (0) co) (0) xs (by rfl)
                (by exact (unhide HOWN).alloc _) ⟨w4.heap.size, 0, none⟩ 1 _ [.int .i64 k1, .int .i64 k2, .bool k3, .slice As ls cs', .int .i64 k5, .int .i64 k6, .slice A lk cc]
                (by rfl) (by rfl) (by exact World.news_of_block (cs := #[.int .i64 k1, .int .i64 k2, .bool k3, .slice As ls cs', .int .i64 k5, .int .i64 k6, .slice A lk cc]) (heap_alloc_new _ _))
                (by simp [Value.oneCell']) (by omega) (by simp only [maxLen]; omega) (by omega) (by first | omega | (simp; omega)) _ (by rfl) ?_; intro go cap5 w5 hown5 hgrow hat5 hlt5))
          have hW5 := (unhide HW4).app (go := go) (cap := cap5) (unhide HT) (unhide H1) (unhide H2) (below_alloc' (Below.refl w4.heap.size w4) _) hgrow (by rw [unhide HL]; exact hown5) hat5
          rw [unhide HL] at hW5
          have HW5 := hide hW5
          have hl2 := unhide HL
          clear hW5 hown5 hgrow hat5
          go_roundg f0
          case measure => omega
          case rel => exact ⟨k, cat ++ [x], _, hkle.2, by omega, by omega, HIN, by simp only [List.length_append, List.length_cons, List.length_nil]; omega, HW5⟩
      · rw [List.concat_eq_append] at hc
        have hl : cat.length = pre.length + 1 := by rw [hc]; simp
        have hcn : cat ≠ [] := by rw [hc]; simp
        obtain ⟨g, cap, rfl, hg1, hg2⟩ := hW.own.form (by omega)
        rw [hl] at hW HW hlen ⊢
        have HL := hide hl
        have hel : cat[pre.length]? = some last := by rw [hc]; simp
        have hlastE : lastL cat = last ∧ initL cat = pre := by
          have h1 := init_last hcn
          rw [hc] at h1 ⊢
          have h2 := List.append_inj' h1 rfl
          simp at h2
          exact ⟨h2.2.symm, h2.1.symm⟩
        obtain ⟨csl, htl, hcl⟩ := hW.elem hel
        have HW1' := hide (fun n => (unhide HW).below (below_drewN (Below.refl wr.heap.size wr) n))
        have hrep := fun n => rxrep_calls (ok := fun k => w.heap.size + 1 ≤ k ∧ g ≠ k) (cap := cap) (m := pre.length) last csl (wr.drewN n) (Blk.drewN hW.at_ n) hjl hm (by omega) (TreeAt.step (W := wr) (W' := wr.drewN n) (fun _ _ _ => rfl) _ _ htl) (fun q v hq => (hcl q v hq).1) (by omega) (fun k hk e => by have := hk.1; omega)
        have hagE : (if cat = [] then Again.no else againF s j) = againF s j := by rw [if_neg hcn]
        rw [hagE] at hatom hstep
        cases hag : againF s j with
        | no =>
          rw [hag] at hrep
          obtain ⟨o, ho, hor⟩ := hatom hag
          have hkl : ∀ x k, o = .node x k → j < k ∧ k ≤ s.size := by
            intro x k e
            subst e
            exact atom_le hjl hm (by omega) ho
          have HO := hide ho; have HOR := hide hor; have HKL := hide hkl
          clear ho hor hkl
          have HREP := hide hrep
          clear hW hc hag hl hatom hrep htl hcl hagE hlastE hel hcn HW1' hstep
          go_wp2_with fail
          go_quiet ((first | (go_at_call_of 51 (Value.string { data := #[41] }); exact Calls.quiet_of (unhide HS41 _ ((unhide HW).at_.drewN _))) | (go_at_call 51; exact Calls.quiet_of (unhide HS124 _ ((unhide HW).at_.drewN _)))))
          go_wp2_with fail
          have HW1 := hide ((unhide HW).below (below_drewN (Below.refl wr.heap.size wr) nq))
          refine ((unhide HREP) _).mono ?_
          rintro e w2 ⟨rfl, hb2⟩
          have HW2 := hide ((unhide HW1).below hb2)
          clear hb2
          unfold zero7
          go_wp2_with fail
          refine (atom_calls (f := f0) o _ (Blk.alloc (unhide HW2).at_ _) ((unhide HG) _ ((unhide HW2).kept.alloc _)) hjl hm hn (by omega) (unhide HO) (fun hn40 r' w9 h1 h2 h3 => (unhide HA) f0 (by omega) hn40 (j + 1) r' w9 h1 (by omega) (by omega) h2 h3)).mono ?_
          cases o with
          | fault j' er =>
            rintro e w4 ⟨rfl, hk4⟩
            have hr := (unhide HOR)
            simp only at hr
            exact ⟨rfl, .inl ⟨j', er, hr, rfl, ((unhide HW2).kept.alloc _).trans hk4 (fun _ _ h => h)⟩⟩
          | node x k =>
            rintro e w4 ⟨cs, rfl, ht, hP4, hk4⟩
            have hin := (unhide HOR)
            simp only at hin
            obtain ⟨k1, k2, k3, As, ls, cs', k5, k6, A, lk, cc, rfl⟩ := ht.form
            have hW3 := (unhide HW2).below ((Below.refl _ _).alloc (Nat.le_refl _) (.cells zero7 26))
            have hW4 := hW3.move hk4 hP4
            have hkle := (unhide HKL) x k rfl
            have hown := hW4.own
            rw [unhide HL] at hown
            have h1w : w.heap.size < (w2.alloc (.cells zero7 26)).heap.size := hW3.res.lt
            have h2w : ∀ k, (Value.slice (some ⟨g, 0, none⟩) (pre.length + 1) cap).ownBlock = some k → k < (w2.alloc (.cells zero7 26)).heap.size := fun k hk => (own_lt hW3.own k hk).2
            have HW4 := hide hW4; have HT := hide ht; have HOWN := hide hown; have H1 := hide h1w; have H2 := hide h2w; have HIN := hide hin
            have hz4 : w.heap.size < w4.heap.size := hW4.res.lt
            clear hW3 hW4 ht hP4 hk4 hown h1w h2w hin
            go_wp2_with
             ((at_builtin; refine wpList_append_lies _ (by rfl) _ _ _ (by rfl) (w.heap.size + 1) 26 i0 _ 7 88 Tryd.underlying24 hi0 hz0 hz1 hz2 rfl (by omega) (.slice (some ⟨g, 0, none⟩) (pre.length + 1) cap) (pre.length + 1) xs (by rfl)
                  (by exact (unhide HOWN).alloc _) ⟨w4.heap.size, 0, none⟩ 1 _ [.int .i64 k1, .int .i64 k2, .bool k3, .slice As ls cs', .int .i64 k5, .int .i64 k6, .slice A lk cc]
                  (by rfl) (by rfl) (by exact World.news_of_block (cs := #[.int .i64 k1, .int .i64 k2, .bool k3, .slice As ls cs', .int .i64 k5, .int .i64 k6, .slice A lk cc]) (heap_alloc_new _ _))
                  (by simp [Value.oneCell']) (by omega) (by simp only [maxLen]; omega) (by omega) (by first | omega | (simp; omega)) _ (by rfl) ?_; intro go cap5 w5 hown5 hgrow hat5 hlt5))
            have hW5 := (unhide HW4).app (go := go) (cap := cap5) (unhide HT) (unhide H1) (unhide H2) (below_alloc' (Below.refl w4.heap.size w4) _) hgrow (by rw [unhide HL]; exact hown5) hat5
            rw [unhide HL] at hW5
            have HW5 := hide hW5
            have hl2 := unhide HL
            clear hW5 hown5 hgrow hat5
            go_roundg f0
            case measure => omega
            case rel => exact ⟨k, cat ++ [x], _, hkle.2, by omega, by omega, HIN, by simp only [List.length_append, List.length_cons, List.length_nil]; omega, HW5⟩
        | fault er =>
          rw [hag] at hrep hstep
          simp only at hstep
          have HREP := hide hrep; have HRS := hide hstep
          clear hW hc hag hl hatom hrep htl hcl hagE hlastE hel hcn HW1' hstep
          go_wp2_with fail
          go_quiet ((first | (go_at_call_of 51 (Value.string { data := #[41] }); exact Calls.quiet_of (unhide HS41 _ ((unhide HW).at_.drewN _))) | (go_at_call 51; exact Calls.quiet_of (unhide HS124 _ ((unhide HW).at_.drewN _)))))
          go_wp2_with fail
          have HW1 := hide ((unhide HW).below (below_drewN (Below.refl wr.heap.size wr) nq))
          refine ((unhide HREP) _).mono ?_
          rintro e w2 ⟨rfl, hk2⟩
          exact ⟨rfl, .inl ⟨j, er, unhide HRS, rfl, (unhide HW1).kept.trans hk2 (fun _ _ h => h)⟩⟩
        | yes lo hi' k =>
          have hkl := again_le hjl hag
          rw [hag] at hrep hstep
          simp only [hlastE.1, hlastE.2] at hstep
          obtain ⟨k1, k2, k3, As, ls, cs', k5, k6, A, lk, cc, rfl⟩ := htl.form
          have HREP := hide hrep; have HRS := hide hstep; have HCL := hide hcl; have HC := hide hc
          clear hW hc hag hatom hrep htl hcl hagE hlastE hel hcn HW1' hstep
          go_wp2_with fail
          go_quiet ((first | (go_at_call_of 51 (Value.string { data := #[41] }); exact Calls.quiet_of (unhide HS41 _ ((unhide HW).at_.drewN _))) | (go_at_call 51; exact Calls.quiet_of (unhide HS124 _ ((unhide HW).at_.drewN _)))))
          go_wp2_with fail
          have HW1 := hide ((unhide HW).below (below_drewN (Below.refl wr.heap.size wr) nq))
          refine ((unhide HREP) _).mono ?_
          rintro e w2 ⟨csn, rfl, htn, hP2, hk2⟩
          have hW2 := (unhide HW1).move hk2 hP2
          have hgo : ∀ q (v : Value), w2.cell? ⟨g, pre.length * 7 + q, none⟩ = wr.cell? ⟨g, pre.length * 7 + q, none⟩ ∧ w2.frozen? ⟨g, pre.length * 7 + q, none⟩ = wr.frozen? ⟨g, pre.length * 7 + q, none⟩ := fun q v => ⟨hk2.cell (by exact hg2) (by omega), hk2.frozen (by exact hg2) (by omega)⟩
          have e0 := (hgo 0 default).1.trans ((unhide HCL) 0 _ rfl).1
          have e1 := (hgo 1 default).1.trans ((unhide HCL) 1 _ rfl).1
          have e2 := (hgo 2 default).1.trans ((unhide HCL) 2 _ rfl).1
          have e3 := (hgo 3 default).1.trans ((unhide HCL) 3 _ rfl).1
          have e4 := (hgo 4 default).1.trans ((unhide HCL) 4 _ rfl).1
          have e5 := (hgo 5 default).1.trans ((unhide HCL) 5 _ rfl).1
          have e6 := (hgo 6 default).1.trans ((unhide HCL) 6 _ rfl).1
          have z0 := (hgo 0 default).2.trans ((unhide HCL) 0 _ rfl).2
          have z1 := (hgo 1 default).2.trans ((unhide HCL) 1 _ rfl).2
          have z2 := (hgo 2 default).2.trans ((unhide HCL) 2 _ rfl).2
          have z3 := (hgo 3 default).2.trans ((unhide HCL) 3 _ rfl).2
          have z4 := (hgo 4 default).2.trans ((unhide HCL) 4 _ rfl).2
          have z5 := (hgo 5 default).2.trans ((unhide HCL) 5 _ rfl).2
          have z6 := (hgo 6 default).2.trans ((unhide HCL) 6 _ rfl).2
          simp only [Nat.add_zero] at e0 z0
          have hg3 : g < w2.heap.size := by have := hk2.size; simp at this; omega
          have htn' : TreeAt (fun k => w.heap.size + 1 ≤ k ∧ g ≠ k) w2 (repN lo hi' last) csn := TreeAt.mono (fun q hq => by
            rcases hq with hq | hq
            · exact hq
            · have hq' : wr.heap.size ≤ q := by simpa using hq
              have hzz := (unhide HW).res.lt
              exact ⟨by omega, by omega⟩) _ _ htn
          obtain ⟨n1, n2, n3, As2, ls2, cs2, n5, n6, A2, lk2, cc2, rfl⟩ := htn'.form
          have hWc : RowW w w2 bp s bytes nest k (.slice (some ⟨g, 0, none⟩) (pre.length + 1) cap) (pre ++ [last]) xs := by rw [← unhide HC]; exact hW2
          have hW3 := RowW.put hWc rfl htn'
          have hm1 : (0 : Int) ≤ pre.length := by omega
          have hm2 : (pre.length : Int) < pre.length + 1 := by omega
          have HW3 := hide hW3
          have hzw : w.heap.size < w2.heap.size := hWc.res.lt
          clear hW2 hW3 hWc htn htn' hP2 hk2 hgo
          go_wp2_with fail
          go_roundg f0
          case measure => omega
          case rel => exact ⟨k, pre ++ [repN lo hi' last], _, hkl.2, by omega, by omega, HRS, by simp only [List.length_append, List.length_cons, List.length_nil]; omega, hide ((unhide HW3).below ((Below.refl _ _).alloc (Nat.le_refl _) _))⟩
end Go.Proofs.YtanmlgliibgpcaaDoor
