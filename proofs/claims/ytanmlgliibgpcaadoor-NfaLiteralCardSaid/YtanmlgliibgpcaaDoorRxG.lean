/- The walk of member. -/
import Derived.Test.YtanmlgliibgpcaaDoorRxF
namespace Go.Proofs.YtanmlgliibgpcaaDoor
open Go.RowKit Thr
set_option linter.unusedVariables false
set_option linter.unusedSimpArgs false

theorem next_ascii {s : ByteArray} {i : Nat} {bytes : Bool} (hi : i < s.size) (h : (nextF s i bytes).1 < 128) : nextF s i bytes = (byt s i, 1) := by
  have hx : 0 < (s.extract i s.size).size := by simp [ByteArray.size_extract]; omega
  have hk := (sizeF_known (s.extract i s.size) hx).2.2.2.2.2.2
  have hr := byt_range s i
  rw [byt_extract, Nat.add_zero] at hk
  have e : nextF s i bytes = if bytes = true then (byt s i, 1) else if (sizeF (s.extract i s.size)).1 = 0 then (1114112 + byt s i, 1) else ((sizeF (s.extract i s.size)).2, (sizeF (s.extract i s.size)).1) := by
    unfold nextF
    rw [if_neg (by omega)]
    simp only [Int.toNat_natCast]
  rw [e] at h ⊢
  by_cases hb : bytes = true
  · rw [if_pos hb]
  · rw [if_neg hb] at h ⊢
    by_cases h0 : (sizeF (s.extract i s.size)).1 = 0
    · rw [if_pos h0] at h
      simp only at h
      omega
    · rw [if_neg h0] at h ⊢
      simp only at h
      obtain ⟨h1, h2⟩ := hk ⟨h, h0⟩
      rw [h1, h2]
theorem next_byte {s : ByteArray} {i : Nat} {bytes : Bool} (hi : i < s.size) (h : byt s i < 128) : nextF s i bytes = (byt s i, 1) := by
  have e : sizeF (s.extract i s.size) = (1, byt s i) := by
    unfold sizeF
    rw [byt_extract, Nat.add_zero, if_pos h]
  unfold nextF
  rw [if_neg (by omega)]
  simp only [Int.toNat_natCast, e]
  split
  · rfl
  · simp

theorem PAt.keeps_tabs {w w' : World} {bp : Nat} (hT : Tabs w) (hk : Keeps (fun k => k = bp) w w') {s : ByteArray} {i : Nat} {bytes : Bool} {nest : Nat} (hP : PAt w bp s i bytes nest) : Tabs w' := by
  obtain ⟨h1, h2⟩ := hT
  have hne : ∀ (b o : Nat) (v : Value), w.cell? ⟨b, o, none⟩ = some v → (∀ x : ByteArray, True) → b ≠ bp → w'.cell? ⟨b, o, none⟩ = some v := fun b o v h _ hb => (hk.cell (World.block_lt_of_cell? w _ h) hb).trans h
  have n1 : 1 ≠ bp := by
    intro e
    have := h1 0 (by decide)
    rw [e, hP.cell 0] at this
    simp at this
  have n2 : 2 ≠ bp := by
    intro e
    have := (h2 0 (by decide)).1
    rw [e] at this
    have h := hP.cell 0
    simp at h this
    rw [h] at this
    cases this
  refine ⟨fun c hc => ?_, fun i hi => ?_⟩
  · exact hne _ _ _ (h1 c hc) (fun _ => trivial) n1
  · obtain ⟨a, b⟩ := h2 i hi
    exact ⟨hne _ _ _ a (fun _ => trivial) n2, hne _ _ _ b (fun _ => trivial) n2⟩

/-- How a part of the parser ends where it gives up. -/
def Gives (bp : Nat) (at_ e : Int) (w w' : World) (o : Ending) : Prop := o = .panicked (faultV at_ e) ∧ Keeps (fun k => k = bp) w w'

def MemberPost (bp : Nat) (s : ByteArray) (bytes : Bool) (nest : Nat) (from_ : Int) (w w' : World) (e : Ending) : Option (Int × Nat) → Prop
  | none => Gives bp from_ 90 w w' e
  | some (x, k) => e = .returned (.int .i64 x) ∧ PAt w' bp s k bytes nest ∧ Keeps (fun k => k = bp) w w'

theorem code_bound {s : ByteArray} {i : Nat} {bytes : Bool} (hi : i < s.size) : 0 ≤ (nextF s i bytes).1 ∧ (nextF s i bytes).1 ≤ 2000000 := by
  have := (sized_all s bytes).at_ i hi
  omega

set_option maxRecDepth 100000 in
set_option maxHeartbeats 8000000 in
theorem member_calls {bp : Nat} {s : ByteArray} {i : Nat} {bytes : Bool} {nest : Nat} (from_ : Int) (w : World) (hP : PAt w bp s i bytes nest) (hT : Tabs w) (hi : i ≤ s.size) (hm : s.size ≤ 1024) :
    Calls Tryd.prog 74 #[.pointer (some ⟨bp, 0, none⟩), .int .i64 from_] w fun e w' => MemberPost bp s bytes nest from_ w w' e (memberF s i bytes) := by
  obtain ⟨O, hO⟩ : ∃ O, memberF s i bytes = O := ⟨_, rfl⟩
  rw [hO]
  unfold memberF at hO
  have c0 := hP.cell 0
  have c1 := hP.cell 1
  have hbp := hP.lt
  simp at c0 c1
  by_cases hge : s.size ≤ i
  · rw [if_pos ((next_le (sized_all s bytes)).2.2 hge)] at hO
    subst hO
    have hle : decide ((s.size : Int) ≤ i) = true := by simp; omega
    clear hP hT
    go_enter Tryd.func74, Tryd.ntmps74
    go_wp2_with fail
    go_quiet (fail)
    go_wp2_with fail
    refine (fail_calls _ _ _ _).mono ?_
    rintro e w' ⟨rfl, hw⟩
    obtain rfl := hw.symm
    exact ⟨rfl, rfl, (Keeps.refl _ _).drewN _⟩
  have hlt : i < s.size := by omega
  have hle : decide ((s.size : Int) ≤ i) = false := by simp; omega
  have hn := (next_le (i := i) (sized_all s bytes)).2.1 hlt
  rw [if_neg (by omega)] at hO
  have hch := fun w1 hP1 hT1 => char_calls (bp := bp) (s := s) (i := i) (bytes := bytes) (nest := nest) w1 hP1 hT1 hi hm
  have HP := hide hP; have HT := hide hT
  by_cases h92 : (nextF s i bytes).1 = 92
  · have hz := next_ascii hlt (bytes := bytes) (by omega)
    rw [hz] at hch hn h92 hO
    simp only at h92 hn hO
    rw [h92] at hch hO
    rw [if_neg (by simp)] at hO
    rw [show (1 : Int).toNat = 1 from rfl] at hch
    have HC := hide hch
    clear hch hP hT hz h92
    by_cases hge2 : s.size ≤ i + 1
    · have hnn := (next_le (i := i + 1) (sized_all s bytes)).2.2 hge2
      rw [show ((i + 1 : Nat) : Int) = (i : Int) + 1 by omega] at hnn
      rw [if_pos hnn] at hO
      subst hO
      clear hnn
      have hle2 : decide ((s.size : Int) ≤ (i : Int) + 1) = true := by simp; omega
      go_enter Tryd.func74, Tryd.ntmps74
      go_wp2_with fail
      go_quiet (fail)
      go_wp2_with fail
      refine (unhide HC _ ((unhide HP).below (by repeat (first | exact Below.refl _ _ | assumption | refine below_drewN ?_ _ | refine Below.drew ?_ | refine below_alloc' ?_ _))) ((unhide HT).below (by repeat (first | exact Below.refl _ _ | assumption | refine below_drewN ?_ _ | refine Below.drew ?_ | refine below_alloc' ?_ _)))).mono ?_
      rintro e w1 ⟨rfl, hP1, hK1⟩
      have q0 := hP1.cell 0
      have q1 := hP1.cell 1
      have hbp1 := hP1.lt
      simp at q0 q1
      have HK := hide hK1
      clear hP1 hK1
      go_wp2_with fail
      go_quiet (fail)
      go_wp2_with fail
      refine (fail_calls _ _ _ _).mono ?_
      rintro e w' ⟨rfl, hw⟩
      obtain rfl := hw.symm
      exact ⟨rfl, rfl, (((Keeps.refl _ _).drewN _).trans (unhide HK) (fun _ _ h => h)).drewN _⟩
    · have hlt2 : i + 1 < s.size := by omega
      have hle2 : decide ((s.size : Int) ≤ (i : Int) + 1) = false := by simp; omega
      have hnn := (next_le (i := i + 1) (sized_all s bytes)).2.1 hlt2
      have hcb := code_bound (bytes := bytes) hlt2
      have hch2 := fun w1 hP1 hT1 => char_calls (bp := bp) (s := s) (i := i + 1) (bytes := bytes) (nest := nest) w1 hP1 hT1 (by omega) hm
      rw [show ((i + 1 : Nat) : Int) = (i : Int) + 1 by omega] at hnn hcb hch2
      rw [if_neg (by omega)] at hO
      generalize nextF s ((i : Int) + 1) bytes = z at *
      obtain ⟨c2, n2⟩ := z
      simp only at hnn hcb hO hch2
      have hsg := fun w => single_calls c2 w hcb.1 hcb.2
      have HC2 := hide hch2
      clear hch2
      cases hsc : singleF c2 with
      | none =>
        rw [hsc] at hO
        subst hO
        simp only [singleV, hsc] at hsg
        have HS := hide hsg
        clear hsg hsc
        go_enter Tryd.func74, Tryd.ntmps74
        go_wp2_with fail
        go_quiet (fail)
        go_wp2_with fail
        refine (unhide HC _ ((unhide HP).below (by repeat (first | exact Below.refl _ _ | assumption | refine below_drewN ?_ _ | refine Below.drew ?_ | refine below_alloc' ?_ _))) ((unhide HT).below (by repeat (first | exact Below.refl _ _ | assumption | refine below_drewN ?_ _ | refine Below.drew ?_ | refine below_alloc' ?_ _)))).mono ?_
        rintro e w1 ⟨rfl, hP1, hK1⟩
        have q0 := hP1.cell 0
        have q1 := hP1.cell 1
        have hbp1 := hP1.lt
        have hT1 := PAt.keeps_tabs ((unhide HT).below (Below.refl _ _)) (((Keeps.refl (fun k => k = bp) w).drewN _).trans hK1 (fun _ _ h => h)) (unhide HP)
        simp at q0 q1
        have HK := hide hK1; have HP1 := hide hP1; have HT1 := hide hT1
        clear hP1 hK1 hT1
        go_wp2_with fail
        go_quiet (fail)
        go_wp2_with fail
        refine (unhide HC2 _ ((unhide HP1).below (by repeat (first | exact Below.refl _ _ | assumption | refine below_drewN ?_ _ | refine Below.drew ?_ | refine below_alloc' ?_ _))) ((unhide HT1).below (by repeat (first | exact Below.refl _ _ | assumption | refine below_drewN ?_ _ | refine Below.drew ?_ | refine below_alloc' ?_ _)))).mono ?_
        rintro e w2 ⟨rfl, hP2, hK2⟩
        have HK2 := hide hK2; have HP2 := hide hP2
        clear hP2 hK2
        go_wp2_with fail
        refine (unhide HS _).mono ?_
        rintro e w' ⟨rfl, hw⟩
        obtain rfl := hw.symm
        go_wp2_with fail
        refine (fail_calls _ _ _ _).mono ?_
        rintro e w' ⟨rfl, hw⟩
        obtain rfl := hw.symm
        exact ⟨rfl, rfl, ((((Keeps.refl _ _).drewN _).trans (unhide HK) (fun _ _ h => h)).drewN _).trans (unhide HK2) (fun _ _ h => h)⟩
      | some x =>
        rw [hsc] at hO
        simp only at hO
        subst hO
        simp only [singleV, hsc] at hsg
        have HS := hide hsg
        clear hsg hsc
        go_enter Tryd.func74, Tryd.ntmps74
        go_wp2_with fail
        go_quiet (fail)
        go_wp2_with fail
        refine (unhide HC _ ((unhide HP).below (by repeat (first | exact Below.refl _ _ | assumption | refine below_drewN ?_ _ | refine Below.drew ?_ | refine below_alloc' ?_ _))) ((unhide HT).below (by repeat (first | exact Below.refl _ _ | assumption | refine below_drewN ?_ _ | refine Below.drew ?_ | refine below_alloc' ?_ _)))).mono ?_
        rintro e w1 ⟨rfl, hP1, hK1⟩
        have q0 := hP1.cell 0
        have q1 := hP1.cell 1
        have hbp1 := hP1.lt
        have hT1 := PAt.keeps_tabs ((unhide HT).below (Below.refl _ _)) (((Keeps.refl (fun k => k = bp) w).drewN _).trans hK1 (fun _ _ h => h)) (unhide HP)
        simp at q0 q1
        have HK := hide hK1; have HP1 := hide hP1; have HT1 := hide hT1
        clear hP1 hK1 hT1
        go_wp2_with fail
        go_quiet (fail)
        go_wp2_with fail
        refine (unhide HC2 _ ((unhide HP1).below (by repeat (first | exact Below.refl _ _ | assumption | refine below_drewN ?_ _ | refine Below.drew ?_ | refine below_alloc' ?_ _))) ((unhide HT1).below (by repeat (first | exact Below.refl _ _ | assumption | refine below_drewN ?_ _ | refine Below.drew ?_ | refine below_alloc' ?_ _)))).mono ?_
        rintro e w2 ⟨rfl, hP2, hK2⟩
        have HK2 := hide hK2; have HP2 := hide hP2
        clear hP2 hK2
        go_wp2_with fail
        refine (unhide HS _).mono ?_
        rintro e w' ⟨rfl, hw⟩
        obtain rfl := hw.symm
        go_wp2_with fail
        go_ret
        exact ⟨rfl, unhide HP2, ((((Keeps.refl _ _).drewN _).trans (unhide HK) (fun _ _ h => h)).drewN _).trans (unhide HK2) (fun _ _ h => h)⟩
  · rw [if_pos h92] at hO
    subst hO
    generalize nextF s i bytes = z at *
    obtain ⟨c, n⟩ := z
    simp only at hn h92 hch
    have h92' : (c == 92) = false := by simpa using h92
    have h93' : (c != 92) = true := by simpa using h92
    have HC := hide hch
    clear hch hP hT h92
    go_enter Tryd.func74, Tryd.ntmps74
    go_wp2_with fail
    go_quiet (fail)
    go_wp2_with fail
    refine (unhide HC _ ((unhide HP).below (by repeat (first | exact Below.refl _ _ | assumption | refine below_drewN ?_ _ | refine Below.drew ?_ | refine below_alloc' ?_ _))) ((unhide HT).below (by repeat (first | exact Below.refl _ _ | assumption | refine below_drewN ?_ _ | refine Below.drew ?_ | refine below_alloc' ?_ _)))).mono ?_
    rintro e w1 ⟨rfl, hP1, hK1⟩
    go_wp2_with fail
    go_ret
    exact ⟨rfl, hP1, ((Keeps.refl _ _).drewN _).trans hK1 (fun _ _ h => h)⟩
end Go.Proofs.YtanmlgliibgpcaaDoor
