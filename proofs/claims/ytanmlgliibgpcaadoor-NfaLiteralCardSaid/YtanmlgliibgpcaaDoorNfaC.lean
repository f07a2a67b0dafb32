/- Walks: Fold, code, in, fits. -/
import Derived.Test.YtanmlgliibgpcaaDoorNfaB
import Derived.Test.YtanmlgliibgpcaaDoorStrC
import Derived.Test.YtanmlgliibgpcaaDoorPureFit
namespace Go.Proofs.YtanmlgliibgpcaaDoor
open Go.RowKit Thr
set_option linter.unusedVariables false

set_option maxHeartbeats 1000000 in
theorem Fold_calls (c : Int) (bytes : Bool) (w : World) : Calls Tryd.prog 43 #[.int .i64 c, .bool bytes] w fun e w' => e = .returned (.int .i64 (foldF c bytes)) ∧ w' = w := by
  obtain ⟨r, hr⟩ : ∃ r, foldF c bytes = r := ⟨_, rfl⟩
  rw [hr]
  unfold foldF at hr
  have HR := hide hr
  clear hr
  cases bytes
  all_goals
    go_enter Tryd.func43, Tryd.ntmps43
    go_wp2
    all_goals
      go_ret
      refine ⟨ret_int ?_, rfl⟩
      rw [← unhide HR]
      simp_all <;> omega

set_option maxHeartbeats 1000000 in
theorem code_calls {bp : Nat} {fold bytes : Bool} {vI : Value} {start : Int} (s : ByteArray) (i : Int) (w : World) (hT : Tabs w) (hm : s.size ≤ 140737488351232) (hP : Blk w bp 47 #[.bool fold, .bool bytes, vI, .int .i64 start]) :
    Calls Tryd.prog 19 #[.pointer (some ⟨bp, 0, none⟩), .string s, .int .i64 i] w fun e w' => e = .returned (.tuple #[.int .i64 (codeAt s i bytes).1, .int .i64 (codeAt s i bytes).2]) ∧ Below w.heap.size w w' := by
  have hc := next_calls s i bytes w hT hm
  have p1 := hP.cell 1
  simp at p1
  have e : codeAt s i bytes = if (nextF s i bytes).2 = 0 then (-1, 0) else nextF s i bytes := rfl
  generalize nextF s i bytes = z at *
  obtain ⟨z1, z2⟩ := z
  simp only at hc e
  have HC := hide hc
  clear hc hT hP
  by_cases hz : z2 = 0
  · rw [if_pos hz] at e
    have hz' : (z2 == 0) = true := by simpa using hz
    rw [e]
    clear hz e
    go_enter Tryd.func19, Tryd.ntmps19
    go_wp2_with (go_at_call 29; refine (unhide HC).mono ?_; rintro e w' ⟨rfl, hb1⟩)
    go_ret2
    exact ⟨rfl, hb1⟩
  · rw [if_neg hz] at e
    have hz' : (z2 == 0) = false := by simpa using hz
    rw [e]
    clear hz e
    go_enter Tryd.func19, Tryd.ntmps19
    go_wp2_with (go_at_call 29; refine (unhide HC).mono ?_; rintro e w' ⟨rfl, hb1⟩)
    go_ret2
    exact ⟨rfl, hb1⟩

set_option maxHeartbeats 4000000 in
theorem in_calls {ok : Nat → Prop} {bp : Nat} {fold bytes : Bool} {vI vs : Value} {start : Int} (set : List (Int × Int)) (c : Int) (w : World) (hP : Blk w bp 47 #[.bool fold, .bool bytes, vI, .int .i64 start])
    (hs : SetAt ok w vs set) (hc0 : -1000000000 ≤ c) (hc1 : c ≤ 1000000000) :
    Calls Tryd.prog 44 #[.pointer (some ⟨bp, 0, none⟩), vs, .int .i64 c] w fun e w' => e = .returned (.bool (inF set c fold bytes)) ∧ Below w.heap.size w w' := by
  obtain ⟨A, cc, rfl, hl1, hl2, hcs⟩ := hs
  obtain ⟨low, hlow⟩ : ∃ low, foldF c bytes = low := ⟨_, rfl⟩
  have hlb : -1000000000 ≤ low ∧ low ≤ 1000000032 := by unfold foldF at hlow; split at hlow <;> omega
  obtain ⟨up, hup⟩ : ∃ up, upF low bytes = up := ⟨_, rfl⟩
  obtain ⟨T, hT⟩ : ∃ T, inF set c fold bytes = T := ⟨_, rfl⟩
  have hT' : (set.drop 0).any (fun r => inR r c low up fold) = T := by rw [← hT, List.drop_zero]; unfold inF; rw [hlow, hup]
  rw [hT]
  have c1 := fun w => Fold_calls c bytes w
  rw [hlow] at c1
  have c2 := fun w => Fold_calls (low - 32) bytes w
  obtain ⟨lf, hlf⟩ : ∃ lf, foldF (low - 32) bytes = lf := ⟨_, rfl⟩
  rw [hlf] at c2
  have p0 := hP.cell 0
  have p1 := hP.cell 1
  have hbp := hP.lt
  simp at p0 p1
  unfold upF at hup
  rw [hlf] at hup
  clear hP
  have HCS : ∀ (k : Nat) (h : k < set.length), ∃ b o, A = some ⟨b, o, none⟩ ∧ w.cell? ⟨b, o + k * 2, none⟩ = some (.int .i64 (set[k]'h).1) ∧ w.cell? ⟨b, o + k * 2 + 1, none⟩ = some (.int .i64 (set[k]'h).2) := fun k h => by
    rcases hcs with rfl | ⟨b, o, rfl, _, hc⟩
    · simp at h
    · exact ⟨b, o, rfl, hc k _ (List.getElem?_eq_getElem h)⟩
  have hne : (low - 32 != low) = true := by rw [bne_iff_ne]; omega
  have hup3 : (low - 32 < 0 ∧ up = low) ∨ (0 ≤ low - 32 ∧ (lf == low) = false ∧ up = low) ∨ (0 ≤ low - 32 ∧ (lf == low) = true ∧ up = low - 32) := by
    by_cases h1 : 0 ≤ low - 32
    · by_cases h2 : lf = low
      · rw [if_pos ⟨h1, h2⟩] at hup; exact .inr (.inr ⟨h1, by simpa using h2, hup.symm⟩)
      · rw [if_neg (fun h => h2 h.2)] at hup; exact .inr (.inl ⟨h1, by simpa using h2, hup.symm⟩)
    · rw [if_neg (fun h => h1 h.1)] at hup; exact .inl ⟨by omega, hup.symm⟩
  clear hup
  rcases hup3 with ⟨q1, hu⟩ | ⟨q1, q2, hu⟩ | ⟨q1, q2, hu⟩
  · rw [hu] at hT'
    have C1 := hide c1; have C2 := hide c2; have HT := hide hT'
    clear c1 c2 hT hT' hlow hlf hu hcs
    go_enter Tryd.func44, Tryd.ntmps44
    go_wp2_with (first | (go_at_call_of 43 (Value.int IntKind.i64 c); refine (unhide C1 _).mono ?_; rintro e w' ⟨rfl, hw⟩; obtain rfl := hw.symm) | (go_at_call 43; refine (unhide C2 _).mono ?_; rintro e w' ⟨rfl, hw⟩; obtain rfl := hw.symm))
    go_loopw [43] (fun i wr => ∃ k : Nat, k ≤ set.length ∧ i = .int .i64 k ∧ Hid ((set.drop k).any (fun r => inR r c low low fold) = T) ∧ Below w.heap.size w wr) (fun i _ => set.length - (intOf i).toNat)
    case atStart => exact ⟨0, by omega, rfl, HT, Below.refl _ _⟩
    case round =>
      obtain ⟨k, hk, rfl, hd, hb⟩ := hrel
      obtain ⟨g0, g1⟩ := bcell hb
      have p0' := (g0 bp 0 hbp).trans p0
      have hz := hb.size
      have hbp' : bp < wr.heap.size := by omega
      have HB := hide hb
      clear g0 g1 hb
      by_cases hlt : k < set.length
      · obtain ⟨b, o, rfl, e0, e1⟩ := HCS k hlt
        have hbl := World.block_lt_of_cell? w _ e0
        have e0' := ((bcell (unhide HB)).1 b _ hbl).trans e0
        have e1' := ((bcell (unhide HB)).1 b _ hbl).trans e1
        have hstep : (inR set[k] c low low fold || (set.drop (k + 1)).any (fun r => inR r c low low fold)) = T := by
          rw [← unhide hd, List.drop_eq_getElem_cons hlt, List.any_cons]
        obtain ⟨rest, hrest⟩ : ∃ rest, (set.drop (k + 1)).any (fun r => inR r c low low fold) = rest := ⟨_, rfl⟩
        rw [hrest] at hstep
        have HR := hide hrest
        generalize set[k] = x at *
        obtain ⟨x1, x2⟩ := x
        simp only [inR, hitF] at hstep
        have HS := hide hstep
        clear hstep hrest hd e0 e1
        go_wp2
        all_goals first
          | (go_ret
             refine ⟨ret_bool ?_, (unhide HB).alloc hz _⟩
             rw [← unhide HS]
             clear HS HB HR C1 C2 HT
             simp_all)
          | (go_roundw
             case rel =>
               refine ⟨k + 1, by omega, by go_num, hide ?_, (unhide HB).alloc hz _⟩
               rw [unhide HR, ← unhide HS]
               clear HS HB HR C1 C2 HT
               simp_all <;> omega
             case measure => simp [intOf]; omega)
      · obtain rfl : k = set.length := by omega
        have hT0 : T = false := by rw [← unhide hd]; simp
        have HT0 := hide hT0
        clear hlt hd hT0
        go_wp2
        go_ret
        exact ⟨ret_bool (unhide HT0).symm, unhide HB⟩
  · rw [hu] at hT'
    have C1 := hide c1; have C2 := hide c2; have HT := hide hT'
    clear c1 c2 hT hT' hlow hlf hu hcs
    go_enter Tryd.func44, Tryd.ntmps44
    go_wp2_with (first | (go_at_call_of 43 (Value.int IntKind.i64 c); refine (unhide C1 _).mono ?_; rintro e w' ⟨rfl, hw⟩; obtain rfl := hw.symm) | (go_at_call 43; refine (unhide C2 _).mono ?_; rintro e w' ⟨rfl, hw⟩; obtain rfl := hw.symm))
    go_loopw [43] (fun i wr => ∃ k : Nat, k ≤ set.length ∧ i = .int .i64 k ∧ Hid ((set.drop k).any (fun r => inR r c low low fold) = T) ∧ Below w.heap.size w wr) (fun i _ => set.length - (intOf i).toNat)
    case atStart => exact ⟨0, by omega, rfl, HT, Below.refl _ _⟩
    case round =>
      obtain ⟨k, hk, rfl, hd, hb⟩ := hrel
      obtain ⟨g0, g1⟩ := bcell hb
      have p0' := (g0 bp 0 hbp).trans p0
      have hz := hb.size
      have hbp' : bp < wr.heap.size := by omega
      have HB := hide hb
      clear g0 g1 hb
      by_cases hlt : k < set.length
      · obtain ⟨b, o, rfl, e0, e1⟩ := HCS k hlt
        have hbl := World.block_lt_of_cell? w _ e0
        have e0' := ((bcell (unhide HB)).1 b _ hbl).trans e0
        have e1' := ((bcell (unhide HB)).1 b _ hbl).trans e1
        have hstep : (inR set[k] c low low fold || (set.drop (k + 1)).any (fun r => inR r c low low fold)) = T := by
          rw [← unhide hd, List.drop_eq_getElem_cons hlt, List.any_cons]
        obtain ⟨rest, hrest⟩ : ∃ rest, (set.drop (k + 1)).any (fun r => inR r c low low fold) = rest := ⟨_, rfl⟩
        rw [hrest] at hstep
        have HR := hide hrest
        generalize set[k] = x at *
        obtain ⟨x1, x2⟩ := x
        simp only [inR, hitF] at hstep
        have HS := hide hstep
        clear hstep hrest hd e0 e1
        go_wp2
        all_goals first
          | (go_ret
             refine ⟨ret_bool ?_, (unhide HB).alloc hz _⟩
             rw [← unhide HS]
             clear HS HB HR C1 C2 HT
             simp_all)
          | (go_roundw
             case rel =>
               refine ⟨k + 1, by omega, by go_num, hide ?_, (unhide HB).alloc hz _⟩
               rw [unhide HR, ← unhide HS]
               clear HS HB HR C1 C2 HT
               simp_all <;> omega
             case measure => simp [intOf]; omega)
      · obtain rfl : k = set.length := by omega
        have hT0 : T = false := by rw [← unhide hd]; simp
        have HT0 := hide hT0
        clear hlt hd hT0
        go_wp2
        go_ret
        exact ⟨ret_bool (unhide HT0).symm, unhide HB⟩
  · rw [hu] at hT'
    have C1 := hide c1; have C2 := hide c2; have HT := hide hT'
    clear c1 c2 hT hT' hlow hlf hu hcs
    go_enter Tryd.func44, Tryd.ntmps44
    go_wp2_with (first | (go_at_call_of 43 (Value.int IntKind.i64 c); refine (unhide C1 _).mono ?_; rintro e w' ⟨rfl, hw⟩; obtain rfl := hw.symm) | (go_at_call 43; refine (unhide C2 _).mono ?_; rintro e w' ⟨rfl, hw⟩; obtain rfl := hw.symm))
    go_loopw [43] (fun i wr => ∃ k : Nat, k ≤ set.length ∧ i = .int .i64 k ∧ Hid ((set.drop k).any (fun r => inR r c low (low - 32) fold) = T) ∧ Below w.heap.size w wr) (fun i _ => set.length - (intOf i).toNat)
    case atStart => exact ⟨0, by omega, rfl, HT, Below.refl _ _⟩
    case round =>
      obtain ⟨k, hk, rfl, hd, hb⟩ := hrel
      obtain ⟨g0, g1⟩ := bcell hb
      have p0' := (g0 bp 0 hbp).trans p0
      have hz := hb.size
      have hbp' : bp < wr.heap.size := by omega
      have HB := hide hb
      clear g0 g1 hb
      by_cases hlt : k < set.length
      · obtain ⟨b, o, rfl, e0, e1⟩ := HCS k hlt
        have hbl := World.block_lt_of_cell? w _ e0
        have e0' := ((bcell (unhide HB)).1 b _ hbl).trans e0
        have e1' := ((bcell (unhide HB)).1 b _ hbl).trans e1
        have hstep : (inR set[k] c low (low - 32) fold || (set.drop (k + 1)).any (fun r => inR r c low (low - 32) fold)) = T := by
          rw [← unhide hd, List.drop_eq_getElem_cons hlt, List.any_cons]
        obtain ⟨rest, hrest⟩ : ∃ rest, (set.drop (k + 1)).any (fun r => inR r c low (low - 32) fold) = rest := ⟨_, rfl⟩
        rw [hrest] at hstep
        have HR := hide hrest
        generalize set[k] = x at *
        obtain ⟨x1, x2⟩ := x
        simp only [inR, hitF] at hstep
        have HS := hide hstep
        clear hstep hrest hd e0 e1
        go_wp2
        all_goals first
          | (go_ret
             refine ⟨ret_bool ?_, (unhide HB).alloc hz _⟩
             rw [← unhide HS]
             clear HS HB HR C1 C2 HT
             simp_all)
          | (go_roundw
             case rel =>
               refine ⟨k + 1, by omega, by go_num, hide ?_, (unhide HB).alloc hz _⟩
               rw [unhide HR, ← unhide HS]
               clear HS HB HR C1 C2 HT
               simp_all <;> omega
             case measure => simp [intOf]; omega)
      · obtain rfl : k = set.length := by omega
        have hT0 : T = false := by rw [← unhide hd]; simp
        have HT0 := hide hT0
        clear hlt hd hT0
        go_wp2
        go_ret
        exact ⟨ret_bool (unhide HT0).symm, unhide HB⟩
end Go.Proofs.YtanmlgliibgpcaaDoor
