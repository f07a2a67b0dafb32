/- The walk of named. -/
import Derived.Test.YtanmlgliibgpcaaDoorRxI
namespace Go.Proofs.YtanmlgliibgpcaaDoor
open Go.RowKit Thr
set_option linter.unusedVariables false
set_option linter.unusedSimpArgs false

/-- What the parser leans on beside its own block: the tables of unicode/utf8, a number of internal/bytealg's. -/
structure Glob (w : World) : Prop where
  tabs : Tabs w
  max : ∃ m, w.cell? ⟨0, 0, none⟩ = some (.int .i64 m)
theorem Glob.below {w w' : World} (h : Glob w) (hb : Below w.heap.size w w') : Glob w' := by
  obtain ⟨m, hm⟩ := h.max
  exact ⟨h.tabs.below hb, m, (hb.cell (p := ⟨_, _, none⟩) (World.block_lt_of_cell? w _ hm)).trans hm⟩
theorem Glob.keeps {w w' : World} {bp : Nat} (h : Glob w) (hk : Keeps (fun k => k = bp) w w') {s : ByteArray} {i : Nat} {bytes : Bool} {nest : Nat} (hP : PAt w bp s i bytes nest) : Glob w' := by
  obtain ⟨m, hm⟩ := h.max
  refine ⟨PAt.keeps_tabs h.tabs hk hP, m, (hk.cell (World.block_lt_of_cell? w _ hm) ?_).trans hm⟩
  intro e
  have e2 : 0 = bp := e
  subst e2
  have h0 := hP.cell 0
  simp at h0
  rw [h0] at hm
  cases hm

def NamedPost (bp : Nat) (s : ByteArray) (bytes : Bool) (nest : Nat) (from_ : Int) (w w' : World) (e : Ending) : Option (List (Int × Int) × Nat) → Prop
  | none => Gives bp from_ 90 w w' e
  | some (l, k) => ∃ b, e = .returned (.slice (some ⟨b, 0, none⟩) l.length l.length) ∧ w.heap.size ≤ b ∧ SetAt (fun k => w.heap.size ≤ k) w' (.slice (some ⟨b, 0, none⟩) l.length l.length) l ∧ PAt w' bp s k bytes nest ∧ Keeps (fun k => k = bp) w w'

set_option maxRecDepth 100000 in
set_option maxHeartbeats 8000000 in
theorem named_none {bp : Nat} {s : ByteArray} {i : Nat} {bytes : Bool} {nest : Nat} (from_ : Int) (w : World) (hP : PAt w bp s i bytes nest) (hi : i ≤ s.size) (hm : s.size ≤ 1024) (h : two s i 91 58 = false) :
    Calls Tryd.prog 73 #[.pointer (some ⟨bp, 0, none⟩), .int .i64 from_] w fun e w' => e = .returned (.slice none 0 0) ∧ Below w.heap.size w w' := by
  have hs := see_calls (lit [91, 58]) w hP hi hm
  rw [see_two, show ((91 : UInt8).toNat : Int) = 91 from rfl, show ((58 : UInt8).toNat : Int) = 58 from rfl, h] at hs
  have HS := hide hs
  clear hs hP
  go_enter Tryd.func73, Tryd.ntmps73
  go_wp2_with fail
  refine (unhide HS).mono ?_
  rintro e w1 ⟨rfl, hb1⟩
  go_wp2_with fail
  go_ret
  exact ⟨rfl, hb1⟩

set_option maxRecDepth 100000 in
set_option maxHeartbeats 8000000 in
theorem named_calls {bp : Nat} {s : ByteArray} {i : Nat} {bytes : Bool} {nest : Nat} (from_ : Int) (w : World) (hP : PAt w bp s i bytes nest) (hG : Glob w) (hi : i ≤ s.size) (hm : s.size ≤ 1024) (h : two s i 91 58 = true) :
    Calls Tryd.prog 73 #[.pointer (some ⟨bp, 0, none⟩), .int .i64 from_] w fun e w' => NamedPost bp s bytes nest from_ w w' e (namedF s i) := by
  obtain ⟨O, hO⟩ : ∃ O, namedF s i = O := ⟨_, rfl⟩
  rw [hO]
  have hi2 : i + 1 < s.size := by simp [two] at h; exact h.1
  have hs := see_calls (lit [91, 58]) w hP hi hm
  rw [see_two, show ((91 : UInt8).toNat : Int) = 91 from rfl, show ((58 : UInt8).toNat : Int) = 58 from rfl, h] at hs
  obtain ⟨mx, hmx⟩ := hG.max
  have hcut := fun w1 (hb : Below w.heap.size w w1) => Tryd.strings_Cut (s.extract (i + 2) s.size) (lit [58, 93]) mx w1 (by rw [tail_size]; omega) ((hb.cell (p := ⟨_, _, none⟩) (World.block_lt_of_cell? w _ hmx)).trans hmx)
  rw [show (lit [58, 93]).data.toList = [58, 93] from rfl] at hcut
  have hcn := @cut_none s (i + 2)
  have hcs := @cut_some s (i + 2)
  obtain ⟨C, hC⟩ : ∃ C, Lib.cut (s.extract (i + 2) s.size).data.toList [58, 93] = C := ⟨_, rfl⟩
  rw [hC] at hcut hcn
  simp only [hC] at hcs
  obtain ⟨c1, c2, c3⟩ := C
  simp only at hcut hcn hcs
  have HS := hide hs; have HCUT := hide hcut; have HP := hide hP
  have q0 := hP.cell 0
  have q1 := hP.cell 1
  have f1 := hP.frozen 1
  have hbp := hP.lt
  simp at q0 q1
  have b1 : (0 : Int) ≤ (i : Int) + 2 := by omega
  have b2 : (i : Int) + 2 ≤ s.size := by omega
  clear hs hcut hP hG hmx hC h
  unfold namedF at hO
  have hcl := fun n w => class_calls n w
  cases hsh : shutAt s s.size (i + 2) with
  | none =>
    obtain rfl := hcn hsh
    rw [hsh] at hO
    subst hO
    have HCL := hide hcl
    clear hcn hcs hsh hcl
    go_enter Tryd.func73, Tryd.ntmps73
    go_wp2_with fail
    refine (unhide HS).mono ?_
    rintro e w1 ⟨rfl, hb1⟩
    have p0 := ((bcell hb1).1 bp 0 hbp).trans q0
    have p1 := ((bcell hb1).1 bp 1 hbp).trans q1
    have HB1 := hide hb1
    clear hb1
    go_wp2_with fail
    have b3 : ((i : Int) + 2).toNat = i + 2 := by omega
    have b4 : IntKind.i64.wrap ((i : Int) + 2) = (i : Int) + 2 := by rw [IntKind.wrap_i64]; omega
    go_region_held3 (fun w' => w'.cell? ⟨bp, 0, none⟩ = some (.string s) ∧ w'.cell? ⟨bp, 1, none⟩ = some (.int .i64 i)) (go_keep) ((go_at_call 79; refine (unhide HCUT _ (by first | exact unhide HB1 | exact (unhide HB1).drew | exact below_drewN (unhide HB1) _)).mono ?_; rintro e w2 ⟨rfl, nn, rfl⟩))
    all_goals
      go_wp2_with fail
      refine (unhide HCL _ _).mono ?_
      rintro e w3 hcp
      have hcp' : (∃ v c, (v = .slice none 0 0 ∨ ∃ b, v = .slice (some ⟨b, 0, none⟩) c c) ∧ e = .returned v) ∧ Below w1.heap.size w1 w3 := by
        generalize classF _ = X at hcp
        cases X with
        | none => exact ⟨⟨_, 0, .inl rfl, hcp.1⟩, (below_drewN (Below.refl w1.heap.size w1) _).trans hcp.2⟩
        | some l => obtain ⟨b, h1, h2, h3, h4⟩ := hcp; exact ⟨⟨_, l.length, .inr ⟨b, rfl⟩, h1⟩, (below_drewN (Below.refl w1.heap.size w1) _).trans h4⟩
      obtain ⟨⟨v, c, hv, rfl⟩, hb3⟩ := hcp'
      have HB3 := hide (below_then (unhide HB1) hb3)
      clear hcp hb3
      rcases hv with rfl | ⟨b, rfl⟩
      all_goals
        go_wp2_with fail
        refine (fail_calls _ _ _ _).mono ?_
        rintro e w' ⟨rfl, hw⟩
        obtain rfl := hw.symm
        exact ⟨rfl, rfl, Keeps.of_below (unhide HB3) _⟩
  | some k =>
    obtain ⟨rfl, hnm⟩ := hcs hsh
    have hkl := shutAt_le _ _ _ hsh
    have hcut := unhide HCUT
    simp only [hnm] at hcut
    rw [hsh] at hO
    simp only at hO
    have hsz : (s.extract (i + 2) k).size = k - (i + 2) := by simp [ByteArray.size_extract]; omega
    generalize s.extract (i + 2) k = nm at *
    have hcl := fun w => hcl nm w
    have hns : (nm.size : Int) ≤ 1024 := by omega
    have hfin : (i : Int) + (nm.size + 4) = ((k + 2 : Nat) : Int) := by omega
    have hq := fun (w : World) (a : Option Addr) (n c : Nat) => Lib.run_eql_slice_nil w 23 65 a n c 0 0 Tryd.underlying23
    have HCUT2 := hide hcut; have HFIN := hide hfin
    clear hcut HCUT hcn hcs hsh hnm hfin
    have b3 : ((i : Int) + 2).toNat = i + 2 := by omega
    have b4 : IntKind.i64.wrap ((i : Int) + 2) = (i : Int) + 2 := by rw [IntKind.wrap_i64]; omega
    cases hcf : classF nm with
    | none =>
      rw [hcf] at hO hcl
      subst hO
      have HCL := hide hcl
      clear hcl hcf hsz
      go_enter Tryd.func73, Tryd.ntmps73
      go_wp2_with fail
      refine (unhide HS).mono ?_
      rintro e w1 ⟨rfl, hb1⟩
      have p0 := ((bcell hb1).1 bp 0 hbp).trans q0
      have p1 := ((bcell hb1).1 bp 1 hbp).trans q1
      have HB1 := hide hb1
      clear hb1
      go_wp2_with fail
      go_region_held3 (fun w' => w'.cell? ⟨bp, 0, none⟩ = some (.string s) ∧ w'.cell? ⟨bp, 1, none⟩ = some (.int .i64 i)) (go_keep) ((go_at_call 79; refine (unhide HCUT2 _ (by first | exact unhide HB1 | exact (unhide HB1).drew | exact below_drewN (unhide HB1) _)).mono ?_; rintro e w2 ⟨rfl, nn, rfl⟩))
      all_goals
        go_wp2_with fail
        refine (unhide HCL _).mono ?_
        rintro e w3 ⟨rfl, hb3⟩
        have HB3 := hide (below_then (unhide HB1) ((below_drewN (Below.refl w1.heap.size w1) _).trans hb3))
        clear hb3
        go_wp2_with fail
        refine (fail_calls _ _ _ _).mono ?_
        rintro e w' ⟨rfl, hw⟩
        obtain rfl := hw.symm
        exact ⟨rfl, rfl, Keeps.of_below (unhide HB3) _⟩
    | some l =>
      rw [hcf] at hO hcl
      subst hO
      have HCL := hide hcl
      clear hcl hcf hsz
      go_enter Tryd.func73, Tryd.ntmps73
      go_wp2_with fail
      refine (unhide HS).mono ?_
      rintro e w1 ⟨rfl, hb1⟩
      have p0 := ((bcell hb1).1 bp 0 hbp).trans q0
      have p1 := ((bcell hb1).1 bp 1 hbp).trans q1
      have HB1 := hide hb1
      clear hb1
      go_wp2_with fail
      go_region_held3 (fun w' => w'.cell? ⟨bp, 0, none⟩ = some (.string s) ∧ w'.cell? ⟨bp, 1, none⟩ = some (.int .i64 i)) (go_keep) ((go_at_call 79; refine (unhide HCUT2 _ (by first | exact unhide HB1 | exact (unhide HB1).drew | exact below_drewN (unhide HB1) _)).mono ?_; rintro e w2 ⟨rfl, nn, rfl⟩))
      all_goals
        go_wp2_with fail
        refine (unhide HCL _).mono ?_
        rintro e w3 ⟨b, rfl, hb0, hst, hb3⟩
        have hb4 := below_then (unhide HB1) ((below_drewN (Below.refl w1.heap.size w1) _).trans hb3)
        have r1 := ((bcell hb4).1 bp 1 hbp).trans q1
        have rf := ((bcell hb4).2 bp 1 hbp).trans f1
        have hbp3 : bp < w3.heap.size := by have := hb4.size; omega
        have hz1 := (unhide HB1).size
        have hb0' : w1.heap.size ≤ b := hb0
        have HB3 := hide hb4; have HST := hide hst
        clear hb3 hst hb4 hb0
        go_wp2_with fail
        go_ret
        refine ⟨b, rfl, by omega, ?_, ?_, Keeps.setCell (S := fun k => k = bp) (p := ⟨bp, 1, none⟩) (Keeps.of_below (unhide HB3) _) (.inl rfl) _⟩
        · refine ((unhide HST).mono (ok' := fun k => w.heap.size ≤ k) (fun k hk => by have : w1.heap.size ≤ k := hk; omega)).step (fun k hk hkl => Below.heap_setCell _ _ _ k (by simp only; omega))
        · have := ((unhide HP).below (unhide HB3)).go_on (k + 2)
          rw [← unhide HFIN] at this
          exact this
end Go.Proofs.YtanmlgliibgpcaaDoor
