/- The walks of fail, see, char, figure, interval. -/
import Derived.Test.YtanmlgliibgpcaaDoorRxC
import Derived.Test.YtanmlgliibgpcaaDoorStrC
import Derived.Test.YtanmlgliibgpcaaDoorPureParse
import Derived.Deep.RegionHeld3
namespace Go.Proofs.YtanmlgliibgpcaaDoor
open Go.RowKit Thr
set_option linter.unusedVariables false
set_option linter.unusedSimpArgs false

/-- The parser: its text, where it is, how characters are told, how deep. -/
def PAt (w : World) (bp : Nat) (s : ByteArray) (at_ : Nat) (bytes : Bool) (nest : Nat) : Prop := Blk w bp 80 #[.string s, .int .i64 at_, .bool bytes, .int .i64 nest]

def faultV (at_ e : Int) : List PanicEntry := [{ v := .iface 77 (.agg #[.int .i64 at_, .int .i64 e]), recovered := false }]

set_option maxHeartbeats 2000000 in
theorem fail_calls (vp : Value) (at_ e : Int) (w : World) : Calls Tryd.prog 66 #[vp, .int .i64 at_, .int .i64 e] w fun e' w' => e' = .panicked (faultV at_ e) ∧ w' = w := by
  unfold faultV
  go_enter Tryd.func66, Tryd.ntmps66
  go_wp2_with fail
  exact ⟨rfl, rfl, rfl⟩

def seeF (s : ByteArray) (i : Nat) (t : ByteArray) : Bool := Lib.hasPrefix (s.extract i s.size).data.toList t.data.toList

set_option maxHeartbeats 4000000 in
theorem see_calls {bp : Nat} {s : ByteArray} {i : Nat} {bytes : Bool} {nest : Nat} (t : ByteArray) (w : World) (hP : PAt w bp s i bytes nest) (hi : i ≤ s.size) (hm : s.size ≤ 1024) :
    Calls Tryd.prog 51 #[.pointer (some ⟨bp, 0, none⟩), .string t] w fun e w' => e = .returned (.bool (seeF s i t)) ∧ Below w.heap.size w w' := by
  have c0 := hP.cell 0
  have c1 := hP.cell 1
  have hbp := hP.lt
  simp at c0 c1
  have hpre := fun w => Tryd.strings_HasPrefix (s.extract i s.size) t w
  unfold seeF
  obtain ⟨F, hF⟩ : ∃ F, Lib.hasPrefix (s.extract i s.size).data.toList t.data.toList = F := ⟨_, rfl⟩
  rw [hF]
  rw [hF] at hpre
  have HPRE := hide hpre
  clear hP hpre hF
  go_enter Tryd.func51, Tryd.ntmps51
  go_wp2_with fail
  go_quiet ((go_at_call 63; exact Calls.quiet_of_same (unhide HPRE _)))
  go_wp2_with fail
  go_ret
  exact ⟨rfl, (by repeat (first | exact Below.refl _ _ | assumption | refine below_drewN ?_ _ | refine Below.drew ?_ | refine below_alloc' ?_ _))⟩

theorem PAt.go_on {w : World} {bp : Nat} {s : ByteArray} {i : Nat} {bytes : Bool} {nest : Nat} (h : PAt w bp s i bytes nest) (k : Nat) : PAt (w.setCell ⟨bp, 1, none⟩ (.int .i64 k)) bp s k bytes nest := h.set_ 1 _
theorem PAt.below {w w' : World} {bp : Nat} {s : ByteArray} {i : Nat} {bytes : Bool} {nest : Nat} (h : PAt w bp s i bytes nest) (hb : Below w.heap.size w w') : PAt w' bp s i bytes nest := Blk.below h hb h.lt
theorem PAt.deep {w : World} {bp : Nat} {s : ByteArray} {i : Nat} {bytes : Bool} {nest : Nat} (h : PAt w bp s i bytes nest) (k : Nat) : PAt (w.setCell ⟨bp, 3, none⟩ (.int .i64 k)) bp s i bytes k := h.set_ 3 _

set_option maxHeartbeats 4000000 in
theorem char_calls {bp : Nat} {s : ByteArray} {i : Nat} {bytes : Bool} {nest : Nat} (w : World) (hP : PAt w bp s i bytes nest) (hT : Tabs w) (hi : i ≤ s.size) (hm : s.size ≤ 1024) :
    Calls Tryd.prog 67 #[.pointer (some ⟨bp, 0, none⟩)] w fun e w' => e = .returned (.int .i64 (nextF s i bytes).1) ∧ PAt w' bp s (i + (nextF s i bytes).2.toNat) bytes nest ∧ Keeps (fun k => k = bp) w w' := by
  have c0 := hP.cell 0
  have c1 := hP.cell 1
  have c2 := hP.cell 2
  have f1 := hP.frozen 1
  have hbp := hP.lt
  simp at c0 c1 c2
  have hn := fun (w1 : World) (hb : Below w.heap.size w w1) => next_calls s i bytes w1 (hT.below hb) (by omega)
  have hle := next_le (s := s) (i := i) (sized_all s bytes)
  have hle2 : 0 ≤ (nextF s i bytes).2 ∧ (i : Int) + (nextF s i bytes).2 ≤ 1024 := by
    rcases Nat.lt_or_ge i s.size with h | h
    · have := hle.2.1 h; omega
    · have := hle.2.2 h; omega
  generalize nextF s i bytes = z at *
  obtain ⟨c, n⟩ := z
  simp only at hn hle hle2
  obtain ⟨h0, h1⟩ := hle2
  have HN := hide hn; have HP := hide hP
  clear hP hn hT hle
  go_enter Tryd.func67, Tryd.ntmps67
  go_wp2_with fail
  go_region_held3 (fun w' => w'.cell? ⟨bp, 0, none⟩ = some (.string s) ∧ w'.cell? ⟨bp, 1, none⟩ = some (.int .i64 i) ∧ w'.cell? ⟨bp, 2, none⟩ = some (.bool bytes)) (go_keep) ((go_at_call 29; refine (unhide HN _ (by repeat (first | exact Below.refl _ _ | assumption | refine below_drewN ?_ _ | refine Below.drew ?_ | refine below_alloc' ?_ _))).mono ?_; rintro e w1 ⟨rfl, hb1⟩; have q0 := ((bcell hb1).1 bp 0 (by simp; omega)).trans c0; have qq := ((bcell hb1).1 bp 2 (by simp; omega)).trans c2; have q1 := ((bcell hb1).1 bp 1 (by simp; omega)).trans c1; have q2 := ((bcell hb1).2 bp 1 (by simp; omega)).trans f1; have hbp1 : bp < w1.heap.size := by have := hb1.size; simp at this; omega))
  all_goals
    have HB1 := hide (below_then (w := w) (by repeat (first | exact Below.refl _ _ | assumption | refine below_drewN ?_ _ | refine Below.drew ?_ | refine below_alloc' ?_ _)) hb1)
    clear hb1
    go_wp2_with fail
    go_ret
    refine ⟨rfl, ?_, Keeps.setCell (S := fun k => k = bp) (p := ⟨bp, 1, none⟩) (Keeps.of_below (unhide HB1) _) (.inl rfl) _⟩
    have := ((unhide HP).below (unhide HB1)).go_on (i + n.toNat)
    rw [show ((i + n.toNat : Nat) : Int) = i + n by omega] at this
    exact this

set_option maxHeartbeats 4000000 in
theorem figure_calls (s : ByteArray) (w : World) (hm : s.size ≤ 1024) :
    Calls Tryd.prog 72 #[.string s] w fun e w' => e = .returned (.tuple #[.int .i64 (digF s s.size 0 0).1, .int .i64 (digF s s.size 0 0).2]) ∧ w' = w := by
  obtain ⟨D, hD⟩ : ∃ D, digF s s.size 0 0 = D := ⟨_, rfl⟩
  rw [hD]
  have HD := hide hD
  clear hD
  go_enter Tryd.func72, Tryd.ntmps72
  go_wp2_with fail
  go_loop [4, 5] (fun v_ i_ => ∃ (i : Nat) (v : Int), i ≤ s.size ∧ i_ = .int .i64 i ∧ v_ = .int .i64 v ∧ 0 ≤ v ∧ v ≤ 1000 ∧ Hid (digF s (s.size - i) i v = D)) (fun _ i_ => s.size - (intOf i_).toNat)
  case atStart => exact ⟨0, 0, by omega, rfl, rfl, by omega, by omega, HD⟩
  case round =>
    obtain ⟨i, v, hi, rfl, rfl, hv0, hv1, HR⟩ := hrel
    by_cases hlt : i < s.size
    · have hb := byt_at hlt
      have hr := byt_range s i
      have hd := unhide HR
      rw [show s.size - i = (s.size - (i + 1)) + 1 by omega] at hd
      simp only [digF] at hd
      obtain ⟨b, hb0⟩ : ∃ b, byt s i = b := ⟨_, rfl⟩
      rw [hb0] at hb hr hd
      by_cases h48 : 48 ≤ b
      · by_cases h57 : b ≤ 57
        · rw [if_pos ⟨hlt, by simp [isDig]; omega⟩] at hd
          have HR' := hide hd
          clear hd HR hb0
          go_wp2_with fail
          go_round
          case rel => exact ⟨i + 1, min (10 * v + (b - 48)) 1000, by omega, by go_num, rfl, by omega, by omega, HR'⟩
          case measure => simp [intOf]; omega
        · rw [if_neg (by simp [isDig]; omega)] at hd
          subst hd
          clear HR hb0
          go_wp2_with fail
          go_ret2
          exact ⟨rfl, rfl⟩
      · rw [if_neg (by simp [isDig]; omega)] at hd
        subst hd
        clear HR hb0
        go_wp2_with fail
        go_ret2
        exact ⟨rfl, rfl⟩
    · have hd := unhide HR
      rw [show s.size - i = 0 by omega] at hd
      simp only [digF] at hd
      subst hd
      clear HR
      go_wp2_with fail
      go_ret2
      exact ⟨rfl, rfl⟩
end Go.Proofs.YtanmlgliibgpcaaDoor
