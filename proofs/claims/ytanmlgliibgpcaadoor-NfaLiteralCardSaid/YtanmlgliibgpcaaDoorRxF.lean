/- The walks of single, word, space, class. -/
import Derived.Test.YtanmlgliibgpcaaDoorRxE
namespace Go.Proofs.YtanmlgliibgpcaaDoor
open Go.RowKit Thr
set_option linter.unusedVariables false
set_option linter.unusedSimpArgs false

def singleV (c : Int) : Value := match singleF c with
  | some x => .tuple #[.int .i64 x, .bool true]
  | none => .tuple #[.int .i64 c, .bool false]

theorem ret_ib {a b : Int} {p q : Bool} (h : a = b) (k : p = q) : Ending.returned (.tuple #[.int .i64 a, .bool p]) = .returned (.tuple #[.int .i64 b, .bool q]) := by rw [h, k]
theorem wrap_byte (b : UInt8) : wrap64 (b.toNat : Int) = (b.toNat : Int) := by
  have := b.toNat_lt
  unfold wrap64
  omega
theorem indexByte_out : ∀ (l : List UInt8) (c : UInt8), (∀ k ∈ l, k ≠ c) → Lib.indexByte l c = -1
  | [], c, _ => rfl
  | b :: l, c, h => by
    have ih := indexByte_out l c (fun k hk => h k (by simp [hk]))
    unfold Lib.indexByte
    rw [if_neg (by simpa using h b (by simp)), if_pos (by rw [ih]; rfl)]
theorem index_none (c : Int) (h0 : 0 ≤ c) (h : c ≠ 110 ∧ c ≠ 116 ∧ c ≠ 114 ∧ c ≠ 102 ∧ c ≠ 118 ∧ c ≠ 97 ∧ c ≠ 98) :
    Lib.indexByte (lit [110, 116, 114, 102, 118, 97, 98]).data.toList (min c 255).toNat.toUInt8 = -1 := by
  have hm : ∀ k : UInt8, (k.toNat : Int) ≠ c → k.toNat < 128 → (k == (min c 255).toNat.toUInt8) = false := by
    intro k hk hk2
    rw [beq_eq_false_iff_ne]
    intro e
    have := congrArg UInt8.toNat e
    have h2 : ((min c 255).toNat.toUInt8).toNat = (min c 255).toNat := by
      rw [Nat.toUInt8, UInt8.toNat_ofNat']
      omega
    rw [h2] at this
    omega
  refine indexByte_out _ _ fun k hk => ?_
  have : k = 110 ∨ k = 116 ∨ k = 114 ∨ k = 102 ∨ k = 118 ∨ k = 97 ∨ k = 98 := by simpa [lit] using hk
  intro e
  have hx : (k == (min c 255).toNat.toUInt8) = false := by
    rcases this with rfl | rfl | rfl | rfl | rfl | rfl | rfl
    all_goals exact hm _ (by simp; omega) (by decide)
  rw [← e] at hx
  simp at hx

set_option maxHeartbeats 4000000 in
theorem single_calls (c : Int) (w : World) (h0 : 0 ≤ c) (h1 : c ≤ 2000000) :
    Calls Tryd.prog 78 #[.int .i64 c] w fun e w' => e = .returned (singleV c) ∧ w' = w := by
  have hI := fun (b : Int) w => Tryd.strings_IndexByte (lit [110, 116, 114, 102, 118, 97, 98]) b w
  by_cases hc : c = 110 ∨ c = 116 ∨ c = 114 ∨ c = 102 ∨ c = 118 ∨ c = 97 ∨ c = 98
  · rcases hc with rfl | rfl | rfl | rfl | rfl | rfl | rfl
    · have hk : ∀ w, Calls Tryd.prog 84 #[.string (lit [110, 116, 114, 102, 118, 97, 98]), .int .u8 110] w fun e w' => e = .returned (.int .i64 0) ∧ w' = w := fun w => by
        have := hI 110 w
        rw [show Lib.indexByte (lit [110, 116, 114, 102, 118, 97, 98]).data.toList (110 : Int).toNat.toUInt8 = 0 from by decide] at this
        exact this
      have HK := hide hk
      clear hk hI
      go_enter Tryd.func78, Tryd.ntmps78
      go_wp2_with fail
      refine (unhide HK _).mono ?_
      rintro e w' ⟨rfl, hw⟩
      obtain rfl := hw.symm
      go_wp2_with fail
      go_ret2
      exact ⟨ret_ib ((wrap_byte _).trans (by first | rfl | decide)) rfl, rfl⟩
    · have hk : ∀ w, Calls Tryd.prog 84 #[.string (lit [110, 116, 114, 102, 118, 97, 98]), .int .u8 116] w fun e w' => e = .returned (.int .i64 1) ∧ w' = w := fun w => by
        have := hI 116 w
        rw [show Lib.indexByte (lit [110, 116, 114, 102, 118, 97, 98]).data.toList (116 : Int).toNat.toUInt8 = 1 from by decide] at this
        exact this
      have HK := hide hk
      clear hk hI
      go_enter Tryd.func78, Tryd.ntmps78
      go_wp2_with fail
      refine (unhide HK _).mono ?_
      rintro e w' ⟨rfl, hw⟩
      obtain rfl := hw.symm
      go_wp2_with fail
      go_ret2
      exact ⟨ret_ib ((wrap_byte _).trans (by first | rfl | decide)) rfl, rfl⟩
    · have hk : ∀ w, Calls Tryd.prog 84 #[.string (lit [110, 116, 114, 102, 118, 97, 98]), .int .u8 114] w fun e w' => e = .returned (.int .i64 2) ∧ w' = w := fun w => by
        have := hI 114 w
        rw [show Lib.indexByte (lit [110, 116, 114, 102, 118, 97, 98]).data.toList (114 : Int).toNat.toUInt8 = 2 from by decide] at this
        exact this
      have HK := hide hk
      clear hk hI
      go_enter Tryd.func78, Tryd.ntmps78
      go_wp2_with fail
      refine (unhide HK _).mono ?_
      rintro e w' ⟨rfl, hw⟩
      obtain rfl := hw.symm
      go_wp2_with fail
      go_ret2
      exact ⟨ret_ib ((wrap_byte _).trans (by first | rfl | decide)) rfl, rfl⟩
    · have hk : ∀ w, Calls Tryd.prog 84 #[.string (lit [110, 116, 114, 102, 118, 97, 98]), .int .u8 102] w fun e w' => e = .returned (.int .i64 3) ∧ w' = w := fun w => by
        have := hI 102 w
        rw [show Lib.indexByte (lit [110, 116, 114, 102, 118, 97, 98]).data.toList (102 : Int).toNat.toUInt8 = 3 from by decide] at this
        exact this
      have HK := hide hk
      clear hk hI
      go_enter Tryd.func78, Tryd.ntmps78
      go_wp2_with fail
      refine (unhide HK _).mono ?_
      rintro e w' ⟨rfl, hw⟩
      obtain rfl := hw.symm
      go_wp2_with fail
      go_ret2
      exact ⟨ret_ib ((wrap_byte _).trans (by first | rfl | decide)) rfl, rfl⟩
    · have hk : ∀ w, Calls Tryd.prog 84 #[.string (lit [110, 116, 114, 102, 118, 97, 98]), .int .u8 118] w fun e w' => e = .returned (.int .i64 4) ∧ w' = w := fun w => by
        have := hI 118 w
        rw [show Lib.indexByte (lit [110, 116, 114, 102, 118, 97, 98]).data.toList (118 : Int).toNat.toUInt8 = 4 from by decide] at this
        exact this
      have HK := hide hk
      clear hk hI
      go_enter Tryd.func78, Tryd.ntmps78
      go_wp2_with fail
      refine (unhide HK _).mono ?_
      rintro e w' ⟨rfl, hw⟩
      obtain rfl := hw.symm
      go_wp2_with fail
      go_ret2
      exact ⟨ret_ib ((wrap_byte _).trans (by first | rfl | decide)) rfl, rfl⟩
    · have hk : ∀ w, Calls Tryd.prog 84 #[.string (lit [110, 116, 114, 102, 118, 97, 98]), .int .u8 97] w fun e w' => e = .returned (.int .i64 5) ∧ w' = w := fun w => by
        have := hI 97 w
        rw [show Lib.indexByte (lit [110, 116, 114, 102, 118, 97, 98]).data.toList (97 : Int).toNat.toUInt8 = 5 from by decide] at this
        exact this
      have HK := hide hk
      clear hk hI
      go_enter Tryd.func78, Tryd.ntmps78
      go_wp2_with fail
      refine (unhide HK _).mono ?_
      rintro e w' ⟨rfl, hw⟩
      obtain rfl := hw.symm
      go_wp2_with fail
      go_ret2
      exact ⟨ret_ib ((wrap_byte _).trans (by first | rfl | decide)) rfl, rfl⟩
    · have hk : ∀ w, Calls Tryd.prog 84 #[.string (lit [110, 116, 114, 102, 118, 97, 98]), .int .u8 98] w fun e w' => e = .returned (.int .i64 6) ∧ w' = w := fun w => by
        have := hI 98 w
        rw [show Lib.indexByte (lit [110, 116, 114, 102, 118, 97, 98]).data.toList (98 : Int).toNat.toUInt8 = 6 from by decide] at this
        exact this
      have HK := hide hk
      clear hk hI
      go_enter Tryd.func78, Tryd.ntmps78
      go_wp2_with fail
      refine (unhide HK _).mono ?_
      rintro e w' ⟨rfl, hw⟩
      obtain rfl := hw.symm
      go_wp2_with fail
      go_ret2
      exact ⟨ret_ib ((wrap_byte _).trans (by first | rfl | decide)) rfl, rfl⟩
  · have hn := index_none c h0 (by omega)
    have hI' := fun w => hI (min c 255) w
    simp only [hn] at hI'
    have hs : singleF c = if isLet c = true then none else some c := by
      unfold singleF
      rw [if_neg (by omega), if_neg (by omega), if_neg (by omega), if_neg (by omega), if_neg (by omega), if_neg (by omega), if_neg (by omega)]
    have hv : singleV c = .tuple #[.int .i64 c, .bool (!isLet c)] := by
      unfold singleV
      rw [hs]
      cases hl : isLet c <;> simp
    rw [hv]
    obtain ⟨L, hL⟩ : ∃ L, (!isLet c) = L := ⟨_, rfl⟩
    rw [hL]
    have HL := hide hL
    have HI := hide hI'
    clear hI hI' hs hc hn hv hL
    go_enter Tryd.func78, Tryd.ntmps78
    go_wp2_with fail
    refine (unhide HI _).mono ?_
    rintro e w' ⟨rfl, hw⟩
    obtain rfl := hw.symm
    go_wp2_with fail
    all_goals
      go_ret2
      refine ⟨ret_ib rfl ?_, rfl⟩
      rw [← unhide HL]
      clear HL HI
      rw [Bool.eq_iff_iff]
      simp_all [isLet] <;> omega

/-- A set that was laid just now. -/
def NewSet (w w' : World) (e : Ending) (l : List (Int × Int)) : Prop := ∃ b, e = .returned (.slice (some ⟨b, 0, none⟩) l.length l.length) ∧ w.heap.size ≤ b ∧ SetAt (fun k => w.heap.size ≤ k) w' (.slice (some ⟨b, 0, none⟩) l.length l.length) l ∧ Below w.heap.size w w'

/-- A block of ranges is a set. -/
def rangeCells : List (Int × Int) → List Value
  | [] => []
  | r :: l => .int .i64 r.1 :: .int .i64 r.2 :: rangeCells l
theorem rangeCells_get : ∀ (l : List (Int × Int)) (i : Nat) (x : Int × Int), l[i]? = some x → (rangeCells l)[i * 2]? = some (.int .i64 x.1) ∧ (rangeCells l)[i * 2 + 1]? = some (.int .i64 x.2)
  | [], i, x, h => by simp at h
  | r :: l, 0, x, h => by
    simp at h; subst h
    simp [rangeCells]
  | r :: l, i + 1, x, h => by
    have := rangeCells_get l i x (by simpa using h)
    rw [show (i + 1) * 2 = i * 2 + 1 + 1 by omega, show i * 2 + 1 + 1 + 1 = (i * 2 + 1) + 1 + 1 by omega]
    simp only [rangeCells, List.getElem?_cons_succ]
    exact this
theorem set_of_block {ok : Nat → Prop} {W : World} {b c : Nat} {t : TypeId} {l : List (Int × Int)} (h : W.heap[b]? = some (.cells (rangeCells l).toArray t (0, 0))) (hb : ok b) (hc : l.length ≤ c) (hc2 : c ≤ 1000000) : SetAt ok W (.slice (some ⟨b, 0, none⟩) l.length c) l := by
  refine ⟨_, _, rfl, hc, by omega, .inr ⟨b, 0, rfl, hb, fun i x hx => ?_⟩⟩
  obtain ⟨h1, h2⟩ := rangeCells_get l i x hx
  rw [cell_of_row W b _ _ t (0, 0) h, cell_of_row W b _ _ t (0, 0) h]
  simpa using ⟨h1, h2⟩

set_option maxHeartbeats 4000000 in
theorem word_calls (w : World) : Calls Tryd.prog 76 #[] w fun e w' => NewSet w w' e wordS := by
  go_enter Tryd.func76, Tryd.ntmps76
  go_wp2_with fail
  go_ret
  exact ⟨w.heap.size, rfl, Nat.le_refl _, set_of_block (l := wordS) (t := 65) (heap_alloc_new w _) (Nat.le_refl _) (by decide) (by decide), (by repeat (first | exact Below.refl _ _ | assumption | refine below_drewN ?_ _ | refine Below.drew ?_ | refine below_alloc' ?_ _))⟩
set_option maxHeartbeats 4000000 in
theorem space_calls (w : World) : Calls Tryd.prog 77 #[] w fun e w' => NewSet w w' e spaceS := by
  go_enter Tryd.func77, Tryd.ntmps77
  go_wp2_with fail
  go_ret
  exact ⟨w.heap.size, rfl, Nat.le_refl _, set_of_block (l := spaceS) (t := 65) (heap_alloc_new w _) (Nat.le_refl _) (by decide) (by decide), (by repeat (first | exact Below.refl _ _ | assumption | refine below_drewN ?_ _ | refine Below.drew ?_ | refine below_alloc' ?_ _))⟩

theorem lit_of {n : ByteArray} {l : List UInt8} (h : (n.toList == l) = true) : n = lit l := by
  have := eq_of_beq h
  rw [ByteArray.toList_eq] at this
  apply ByteArray.ext
  apply Array.toList_inj.1
  rw [this]
  rfl
theorem not_lit {n : ByteArray} {l : List UInt8} (h : ¬ (n.toList == l) = true) : ¬ n = lit l := by
  rintro rfl
  apply h
  rw [ByteArray.toList_eq]
  simp [lit]

theorem class_alpha : classF (lit [97, 108, 112, 104, 97]) = some [(65, 90), (97, 122)] := by decide
theorem class_digit : classF (lit [100, 105, 103, 105, 116]) = some [(48, 57)] := by decide
theorem class_alnum : classF (lit [97, 108, 110, 117, 109]) = some [(48, 57), (65, 90), (97, 122)] := by decide
theorem class_upper : classF (lit [117, 112, 112, 101, 114]) = some [(65, 90)] := by decide
theorem class_lower : classF (lit [108, 111, 119, 101, 114]) = some [(97, 122)] := by decide
theorem class_space : classF (lit [115, 112, 97, 99, 101]) = some [(9, 13), (32, 32)] := by decide
theorem class_blank : classF (lit [98, 108, 97, 110, 107]) = some [(9, 9), (32, 32)] := by decide
theorem class_punct : classF (lit [112, 117, 110, 99, 116]) = some [(33, 47), (58, 64), (91, 96), (123, 126)] := by decide
theorem class_print : classF (lit [112, 114, 105, 110, 116]) = some [(32, 126)] := by decide
theorem class_graph : classF (lit [103, 114, 97, 112, 104]) = some [(33, 126)] := by decide
theorem class_cntrl : classF (lit [99, 110, 116, 114, 108]) = some [(0, 31), (127, 127)] := by decide
theorem class_xdigit : classF (lit [120, 100, 105, 103, 105, 116]) = some [(48, 57), (65, 70), (97, 102)] := by decide
theorem new_fourth (w : World) (a b c d : Obj) : ((((w.alloc a).alloc b).alloc c).alloc d).heap[w.heap.size + 1 + 1 + 1]? = some d := by
  have h : (((w.alloc a).alloc b).alloc c).heap.size = w.heap.size + 1 + 1 + 1 := by simp
  have := heap_alloc_new (((w.alloc a).alloc b).alloc c) d
  rw [h] at this
  exact this

def ClassPost (w w' : World) (e : Ending) : Option (List (Int × Int)) → Prop
  | none => e = .returned (.slice none 0 0) ∧ Below w.heap.size w w'
  | some l => NewSet w w' e l

set_option maxRecDepth 100000 in
set_option maxHeartbeats 16000000 in
theorem class_calls (n : ByteArray) (w : World) : Calls Tryd.prog 80 #[.string n] w fun e w' => ClassPost w w' e (classF n) := by
  obtain ⟨C, hC⟩ : ∃ C, classF n = C := ⟨_, rfl⟩
  rw [hC]
  have HC := hide hC
  have HSP := hide space_calls
  clear hC
  go_enter Tryd.func80, Tryd.ntmps80
  go_wp2_with fail
  · have hn := lit_of (by assumption)
    subst hn
    rw [class_alpha] at HC
    obtain rfl := unhide HC
    go_ret
    exact ⟨w.heap.size + 1 + 1 + 1, rfl, by omega, set_of_block (l := [(65, 90), (97, 122)]) (t := 65) (new_fourth _ _ _ _ _) (by omega) (by decide) (by decide), (by repeat (first | exact Below.refl _ _ | assumption | refine below_drewN ?_ _ | refine Below.drew ?_ | refine below_alloc' ?_ _))⟩
  · have hn := lit_of (by assumption)
    subst hn
    rw [class_digit] at HC
    obtain rfl := unhide HC
    go_ret
    exact ⟨w.heap.size + 1 + 1 + 1, rfl, by omega, set_of_block (l := [(48, 57)]) (t := 65) (new_fourth _ _ _ _ _) (by omega) (by decide) (by decide), (by repeat (first | exact Below.refl _ _ | assumption | refine below_drewN ?_ _ | refine Below.drew ?_ | refine below_alloc' ?_ _))⟩
  · have hn := lit_of (by assumption)
    subst hn
    rw [class_alnum] at HC
    obtain rfl := unhide HC
    go_ret
    exact ⟨w.heap.size + 1 + 1 + 1, rfl, by omega, set_of_block (l := [(48, 57), (65, 90), (97, 122)]) (t := 65) (new_fourth _ _ _ _ _) (by omega) (by decide) (by decide), (by repeat (first | exact Below.refl _ _ | assumption | refine below_drewN ?_ _ | refine Below.drew ?_ | refine below_alloc' ?_ _))⟩
  · have hn := lit_of (by assumption)
    subst hn
    rw [class_upper] at HC
    obtain rfl := unhide HC
    go_ret
    exact ⟨w.heap.size + 1 + 1 + 1, rfl, by omega, set_of_block (l := [(65, 90)]) (t := 65) (new_fourth _ _ _ _ _) (by omega) (by decide) (by decide), (by repeat (first | exact Below.refl _ _ | assumption | refine below_drewN ?_ _ | refine Below.drew ?_ | refine below_alloc' ?_ _))⟩
  · have hn := lit_of (by assumption)
    subst hn
    rw [class_lower] at HC
    obtain rfl := unhide HC
    go_ret
    exact ⟨w.heap.size + 1 + 1 + 1, rfl, by omega, set_of_block (l := [(97, 122)]) (t := 65) (new_fourth _ _ _ _ _) (by omega) (by decide) (by decide), (by repeat (first | exact Below.refl _ _ | assumption | refine below_drewN ?_ _ | refine Below.drew ?_ | refine below_alloc' ?_ _))⟩
  · have hn := lit_of (by assumption)
    subst hn
    rw [class_space] at HC
    obtain rfl := unhide HC
    refine (unhide HSP _).mono ?_
    rintro e w1 ⟨b, rfl, hb, hs, hb1⟩
    go_wp2_with fail
    go_ret
    simp at hb
    exact ⟨b, rfl, by omega, hs.mono (fun k hk => by simp at hk; omega), below_then (by repeat (first | exact Below.refl _ _ | assumption | refine below_drewN ?_ _ | refine Below.drew ?_ | refine below_alloc' ?_ _)) hb1⟩
  · have hn := lit_of (by assumption)
    subst hn
    rw [class_blank] at HC
    obtain rfl := unhide HC
    go_ret
    exact ⟨w.heap.size + 1 + 1 + 1, rfl, by omega, set_of_block (l := [(9, 9), (32, 32)]) (t := 65) (new_fourth _ _ _ _ _) (by omega) (by decide) (by decide), (by repeat (first | exact Below.refl _ _ | assumption | refine below_drewN ?_ _ | refine Below.drew ?_ | refine below_alloc' ?_ _))⟩
  · have hn := lit_of (by assumption)
    subst hn
    rw [class_punct] at HC
    obtain rfl := unhide HC
    go_ret
    exact ⟨w.heap.size + 1 + 1 + 1, rfl, by omega, set_of_block (l := [(33, 47), (58, 64), (91, 96), (123, 126)]) (t := 65) (new_fourth _ _ _ _ _) (by omega) (by decide) (by decide), (by repeat (first | exact Below.refl _ _ | assumption | refine below_drewN ?_ _ | refine Below.drew ?_ | refine below_alloc' ?_ _))⟩
  · have hn := lit_of (by assumption)
    subst hn
    rw [class_print] at HC
    obtain rfl := unhide HC
    go_ret
    exact ⟨w.heap.size + 1 + 1 + 1, rfl, by omega, set_of_block (l := [(32, 126)]) (t := 65) (new_fourth _ _ _ _ _) (by omega) (by decide) (by decide), (by repeat (first | exact Below.refl _ _ | assumption | refine below_drewN ?_ _ | refine Below.drew ?_ | refine below_alloc' ?_ _))⟩
  · have hn := lit_of (by assumption)
    subst hn
    rw [class_graph] at HC
    obtain rfl := unhide HC
    go_ret
    exact ⟨w.heap.size + 1 + 1 + 1, rfl, by omega, set_of_block (l := [(33, 126)]) (t := 65) (new_fourth _ _ _ _ _) (by omega) (by decide) (by decide), (by repeat (first | exact Below.refl _ _ | assumption | refine below_drewN ?_ _ | refine Below.drew ?_ | refine below_alloc' ?_ _))⟩
  · have hn := lit_of (by assumption)
    subst hn
    rw [class_cntrl] at HC
    obtain rfl := unhide HC
    go_ret
    exact ⟨w.heap.size + 1 + 1 + 1, rfl, by omega, set_of_block (l := [(0, 31), (127, 127)]) (t := 65) (new_fourth _ _ _ _ _) (by omega) (by decide) (by decide), (by repeat (first | exact Below.refl _ _ | assumption | refine below_drewN ?_ _ | refine Below.drew ?_ | refine below_alloc' ?_ _))⟩
  · have hn := lit_of (by assumption)
    subst hn
    rw [class_xdigit] at HC
    obtain rfl := unhide HC
    go_ret
    exact ⟨w.heap.size + 1 + 1 + 1, rfl, by omega, set_of_block (l := [(48, 57), (65, 70), (97, 102)]) (t := 65) (new_fourth _ _ _ _ _) (by omega) (by decide) (by decide), (by repeat (first | exact Below.refl _ _ | assumption | refine below_drewN ?_ _ | refine Below.drew ?_ | refine below_alloc' ?_ _))⟩
  · obtain rfl : C = none := by
      rw [← unhide HC]
      simp only [classF, classTab, lookF]
      repeat rw [if_neg (not_lit (by simp [*]))]
    go_ret
    exact ⟨rfl, (by repeat (first | exact Below.refl _ _ | assumption | refine below_drewN ?_ _ | refine Below.drew ?_ | refine below_alloc' ?_ _))⟩
end Go.Proofs.YtanmlgliibgpcaaDoor
