/- NfaChoice returns true of every two texts, every string and every place: no condition beyond the statement's own (a part of its proof). -/
import Derived.Test.YtanmlgliibgpcaaDoorKc03
import Derived.Deep.OwnRows
import Derived.WalkMore

/- The walk of longest. -/
namespace Go.Proofs.YtanmlgliibgpcaaDoor
open Go.RowKit Thr
set_option linter.unusedVariables false

theorem sized_all (s : ByteArray) (bytes : Bool) : Sized s bytes := by
  refine ⟨fun i hi => ?_⟩
  have hr := byt_range s i
  have hx : 0 < (s.extract i s.size).size := by simp [ByteArray.size_extract]; omega
  have hk := sizeF_known (s.extract i s.size) hx
  have hz : (s.extract i s.size).size = s.size - i := by simp [ByteArray.size_extract]
  unfold nextF
  rw [if_neg (by omega)]
  simp only [Int.toNat_natCast]
  cases bytes with
  | true => rw [if_pos rfl]; simp only; omega
  | false =>
    rw [if_neg (by simp)]
    by_cases h : (sizeF (s.extract i s.size)).1 = 0
    · rw [if_pos h]; simp only; omega
    · rw [if_neg h]; simp only; omega

/-- A program that was made ready lies in the blocks below N. -/
structure ProgAt (N : Nat) (w : World) (bp : Nat) (fold bytes : Bool) (I : List Inst) (start : Int) : Prop where
  lies : ∃ vI, Blk w bp 47 #[.bool fold, .bool bytes, vI, .int .i64 start] ∧ InstsAt (fun k => k < N) w vI I
  lt : bp < N
  sound : Sound I
  small : I.length ≤ 1000
  st : 0 ≤ start ∧ start < I.length
theorem ProgAt.below {N : Nat} {w w' : World} {bp : Nat} {fold bytes : Bool} {I : List Inst} {start : Int} (h : ProgAt N w bp fold bytes I start) (hb : Below N w w') : ProgAt N w' bp fold bytes I start := by
  obtain ⟨vI, h1, h2⟩ := h.lies
  exact ⟨⟨vI, h1.below hb h.lt, h2.below hb⟩, h.lt, h.sound, h.small, h.st⟩

theorem Tryd.infoBool : (Tryd.prog.info? 4).map (fun i => (i.zero, i.size, i.bytes)) = some (some (.bool false), 1, 1) := by kernel_rfl
/-- So many cells that are false. -/
def falses (n : Nat) : Array Value := ((List.replicate n false).map Value.bool).toArray
theorem make_bools (n : Nat) (hn : n ≤ 1000) (w : World) :
    (Instr.makeSlice 66 (.int .i64 (n : Int)) (.int .i64 (n : Int))).run Tryd.prog w = .ok (.slice (some ⟨w.heap.size, 0, none⟩) n n) (w.alloc (.cells (falses n) 4)) := by
  rw [run_make_row' 66 4 (.bool false) 1 Tryd.underlying66 Tryd.infoBool rfl .i64 .i64 n (by omega) (by omega) w]
  have e : madeCells #[Value.bool false] n = falses n := by
    apply Array.toList_inj.1
    rw [toList_madeCells_one]
    simp [falses]
  rw [e]

/-- The first set of marks: none. -/
theorem SetS.fresh (w : World) (n base : Nat) (hn : n ≤ 1000) (hb : base ≤ w.heap.size) :
    SetS ((w.alloc (.cells (falses n) 4)).alloc (.cells #[.slice (some ⟨w.heap.size, 0, none⟩) n n, .slice none 0 0] 68)) base (w.heap.size + 1) w.heap.size (.slice none 0 0) (List.replicate n false) [] := by
  refine ⟨?_, ⟨by simp, .inl ⟨rfl, rfl⟩⟩, (Blk.new w _ _).alloc _, ⟨by omega, hb, by simp; omega⟩⟩
  have := Blk.new (w.alloc (.cells (falses n) 4)) 68 #[.slice (some ⟨w.heap.size, 0, none⟩) n n, .slice none 0 0]
  simpa using this

/-- The end of a match, as bytes. -/
def endB (s : ByteArray) (bytes : Bool) (e : Int) : Int := if e < 0 then -1 else place s bytes e.toNat

/-- All that a list tells are instructions. -/
theorem follow_in {I : List Inst} {chk : Rx → Bool} : ∀ (f : Nat) (has : List Bool) (list : List Int) (i : Int) (r : List Bool × List Int), 0 ≤ i → Sound I → has.length = I.length → i < I.length →
    followF I chk f has list i = some r → (∀ c ∈ list, 0 ≤ c ∧ c < I.length) → ∀ c ∈ r.2, 0 ≤ c ∧ c < I.length := by
  intro f has list i r h0 hI hl hi h hin c hc
  obtain ⟨F, _⟩ := follow_met f has list i r h0 hI hi hl h
  obtain ⟨new, e, a, _⟩ := F.news
  rw [e] at hc
  rcases List.mem_append.1 hc with hc | hc
  · exact hin c hc
  · obtain ⟨c0, _, q, hq, _⟩ := a c hc
    have := (List.getElem?_eq_some_iff.1 hq).1
    omega

theorem InstsAt.mono {ok ok' : Nat → Prop} {W : World} {v : Value} {I : List Inst} (h : InstsAt ok W v I) (hk : ∀ k, ok k → ok' k) : InstsAt ok' W v I := by
  obtain ⟨b, o, c, h1, h2, h3, hb, h⟩ := h
  refine ⟨b, o, c, h1, h2, h3, hk b hb, fun k q hq => ?_⟩
  obtain ⟨cs, ht, h4⟩ := h k q hq
  exact ⟨cs, TreeAt.mono hk _ _ ht, h4⟩
theorem ProgAt.more {N M : Nat} {w : World} {bp : Nat} {fold bytes : Bool} {I : List Inst} {start : Int} (h : ProgAt N w bp fold bytes I start) (hM : N ≤ M) : ProgAt M w bp fold bytes I start := by
  obtain ⟨vI, h1, h2⟩ := h.lies
  exact ⟨⟨vI, h1, h2.mono (fun k hk => Nat.lt_of_lt_of_le hk hM)⟩, Nat.lt_of_lt_of_le h.lt hM, h.sound, h.small, h.st⟩
theorem bare_false (n : Nat) : bare (List.replicate n false) = n := by
  induction n with
  | zero => rfl
  | succ n ih => simp [List.replicate_succ, bare, ih]; omega

/-- follow, of a program that lies below base. -/
theorem follow_prog {base bp bt bh : Nat} {fold bytes : Bool} {I : List Inst} {start : Int} (sa sb : Int) (f : Nat) (has : List Bool) (list : List Int) (i : Int) (r : List Bool × List Int) (vl : Value) (w : World)
    (hr : followF I (fun t => checkF t.kind sa sb) f has list i = some r) (hP : ProgAt base w bp fold bytes I start) (hl : has.length = I.length) (hlen : list.length + bare has ≤ 1000000) (hS : SetS w base bt bh vl has list) (h0 : 0 ≤ i) (hi : i < I.length) :
    Calls Tryd.prog 27 #[.pointer (some ⟨bp, 0, none⟩), .pointer (some ⟨bt, 0, none⟩), .int .i64 i, .agg #[.int .i64 sa, .int .i64 sb]] w fun e w' =>
      e = .returned (.tuple #[]) ∧ ∃ vl', SetS w' base bt bh vl' r.1 r.2 ∧ Keeps (Turn bt bh vl) w w' ∧ At w vl vl' := by
  obtain ⟨vI, h1, h2⟩ := hP.lies
  exact follow_calls sa sb hP.sound f has list i r vl w hr h1 hP.lt h2 hl hlen hS h0 hi

theorem own_lower {w : World} {base base' n size : Nat} {e : TypeId} {v : Value} {xs : List Value} (h : w.ownsRow base e size v n xs) (hb : base' ≤ base) : w.ownsRow base' e size v n xs := by
  obtain ⟨h1, h2⟩ := h
  refine ⟨h1, ?_⟩
  rcases h2 with h2 | ⟨g, cap, cur, rfl, hg, r⟩
  · exact .inl h2
  · exact .inr ⟨g, cap, cur, rfl, Nat.le_trans hb hg, r⟩
/-- What is read of a row of ints. -/
theorem own_ints {w : World} {base : Nat} {v : Value} {xs : List Int} (h : w.ownsRow base 3 1 v xs.length (xs.map (Value.int .i64))) :
    ∃ A c, v = .slice A xs.length c ∧ ∀ (j : Nat) (hj : j < xs.length), ∃ g, A = some ⟨g, 0, none⟩ ∧ g < w.heap.size ∧ base ≤ g ∧ v.ownBlock = some g ∧ w.cell? ⟨g, j, none⟩ = some (.int .i64 (xs[j]'hj)) := by
  rcases h.2 with ⟨rfl, h0⟩ | ⟨g, cap, cur, rfl, hg, hh, hc1, hc2, hc3, hc4⟩
  · refine ⟨none, 0, by rw [h0], fun j hj => ?_⟩
    omega
  · refine ⟨_, _, rfl, fun j hj => ⟨g, rfl, (Array.getElem?_eq_some_iff.1 hh).1, hg, rfl, ?_⟩⟩
    rw [cell_of_row w g j cur _ (0, 0) hh]
    have hsz : cur.toList.length = cap := by rw [Array.length_toList]; omega
    have e : cur.toList[j]? = (xs.map (Value.int .i64))[j]? := by
      rw [← hc4, List.getElem?_take, if_pos (by omega)]
    rw [← Array.getElem?_toList, e, List.getElem?_map, List.getElem?_eq_getElem hj]
    rfl
theorem SetS.lower {w : World} {base base' bt bh : Nat} {vl : Value} {has : List Bool} {list : List Int} (h : SetS w base bt bh vl has list) (hb : base' ≤ base) : SetS w base' bt bh vl has list :=
  ⟨h.row, own_lower h.own hb, h.marks, by have := h.lt; omega⟩
theorem SetS.old {w w1 : World} {B base bt bh : Nat} {vl : Value} {has : List Bool} {list : List Int} (h : SetS w base bt bh vl has list) (hB : w.heap.size ≤ B) (hb : Below B w w1) : SetS w1 base bt bh vl has list :=
  ⟨h.row.below hb (by have := h.bt_lt; omega), own_step h.own (fun k hk => hb.block k (by have := (own_lt h.own k hk).2; omega)), h.marks.below hb (by have := h.bh_lt; omega), h.lt⟩

set_option maxRecDepth 100000 in
set_option maxHeartbeats 40000000 in
theorem longest_calls {N bp : Nat} {fold bytes : Bool} {I : List Inst} {start : Int} (s : ByteArray) (k : Nat) (f rounds : Nat) (r : Int) (w : World) (hP : ProgAt N w bp fold bytes I start) (hN : N ≤ w.heap.size)
    (hT : Tabs w) (hm : s.size ≤ 140737488351232) (hk : k ≤ nCh s bytes)
    (hr : (followF I (fun t => checkF t.kind (aheadK s bytes k) (codeK s bytes k)) f (List.replicate I.length false) [] start).bind (fun q => longF (txt s fold bytes) I f rounds k q.2 (-1)) = some r) :
    Calls Tryd.prog 18 #[.pointer (some ⟨bp, 0, none⟩), .string s, .int .i64 (place s bytes k), .int .i64 (aheadK s bytes k)] w fun e w' => e = .returned (.int .i64 (endB s bytes r)) ∧ Below w.heap.size w w' := by
  have hZ := sized_all s bytes
  obtain ⟨q0, hq0, hr0⟩ := Option.bind_eq_some_iff.1 hr
  obtain ⟨vI, hB, hIn⟩ := hP.lies
  have hcode : ∀ (w1 : World), Below w.heap.size w w1 → ∀ j : Nat, Calls Tryd.prog 19 #[.pointer (some ⟨bp, 0, none⟩), .string s, .int .i64 (place s bytes j)] w1 fun e w' => e = .returned (.tuple #[.int .i64 (codeK s bytes j), .int .i64 ((place s bytes (j + 1) : Int) - place s bytes j)]) ∧ Below w1.heap.size w1 w' := fun w1 hb j => by
    have := code_calls s (place s bytes j) w1 (hT.below hb) hm (hB.below hb hB.lt)
    rw [codeAt_place hZ j] at this
    exact this
  have hmk := make_bools I.length hP.small
  have p2 := hB.cell 2
  have p3 := hB.cell 3
  obtain ⟨bI, oI, cI, rfl, hc1, hc2, hbI, hcells⟩ := hIn
  simp at p2 p3
  have hbp := hB.lt
  have hst := hP.st
  have hsm := hP.small
  have HC := hide hcode; have HP := hide hP; have HQ := hide hq0; have HR := hide hr0; have HT := hide hT; have HZ := hide hZ; have HIC := hide hcells
  clear hcode hP hq0 hr0 hr hB hT hZ hcells
  go_enter Tryd.func18, Tryd.ntmps18
  go_wp2_with fail
  go_step3
  go_wp2_with (go_at_call 19; refine (unhide HC _ (by repeat (first | exact Below.refl _ _ | assumption | refine below_drewN ?_ _ | refine Below.drew ?_ | refine below_alloc' ?_ _)) k).mono ?_; rintro e w1 ⟨rfl, hb1⟩; obtain ⟨g0, g1⟩ := bcell hb1; have p2' := (g0 _ 2 hbp).trans p2; have p3' := (g0 _ 3 hbp).trans p3; have hz1 := hb1.size; have hbp1 : bp < w1.heap.size := by omega)
  have hP1 := ((((unhide HP).more hN).below hb1).below ((Below.refl w.heap.size _).alloc hz1 (.cells (falses I.length) 4))).below ((Below.refl w.heap.size _).alloc (by simp <;> omega) (.cells #[.slice (some ⟨w1.heap.size, 0, none⟩) I.length I.length, .slice none 0 0] 68))
  refine (follow_prog (aheadK s bytes k) (codeK s bytes k) f (List.replicate I.length false) [] start q0 (.slice none 0 0) _ (unhide HQ) hP1 (by simp) (by rw [bare_false]; simp <;> omega) (SetS.fresh w1 I.length w.heap.size hsm hz1) hst.1 hst.2).mono ?_
  rintro e w2 ⟨rfl, vl, hS, hK, hat⟩
  have hbd := follow_bound _ _ _ _ _ (by simp) (unhide HQ)
  have hin := follow_in _ _ _ _ _ hst.1 (unhide HP).sound (by simp) hst.2 (unhide HQ) (by simp)
  rw [bare_false] at hbd
  have hB2 : Below w.heap.size w w2 := (((hb1.alloc hz1 _).alloc (by simp <;> omega) _)).trans (hK.below (by simp <;> omega) (fun j hj => (SetS.fresh w1 I.length w.heap.size hsm hz1).old_not hj))
  have hl2 : q0.2.length ≤ I.length := by have := hbd.1; simp at this; omega
  obtain ⟨has, list⟩ := q0
  simp only at hS hbd hin hl2
  have hl1 : has.length = I.length := hbd.2
  have HS := hide hS; have HIN := hide hin; have HB2 := hide hB2; have HL1 := hide hl1
  have hr0 := unhide HR
  simp only at hr0
  have HR0 := hide hr0
  clear hS hK hat hbd hin hB2 hP1 hl1 hb1 g0 g1 p2' p3' hz1 hbp1 HR hr0 HQ
  go_wp2_with fail
  go_step3
  go_wp2_with fail
  go_loopw [2, 9, 10, 11] (fun at_ e_ c_ n_ wr => ∃ (j rounds' bh : Nat) (ee : Int) (vl : Value) (has : List Bool) (list : List Int), at_ = .int .i64 (place s bytes j) ∧ e_ = .int .i64 (endB s bytes ee) ∧ c_ = .int .i64 (codeK s bytes j) ∧ n_ = .int .i64 ((place s bytes (j + 1) : Int) - place s bytes j) ∧ j ≤ nCh s bytes ∧ Hid (longF (txt s fold bytes) I f rounds' j list ee = some r) ∧ Hid (SetS wr w.heap.size (w1.heap.size + 1) bh vl has list) ∧ Hid (has.length = I.length) ∧ list.length ≤ 1000 ∧ Hid (∀ c ∈ list, 0 ≤ c ∧ c < I.length) ∧ Hid (Below w.heap.size w wr))
    (fun at_ _ _ _ _ => s.size - (intOf at_).toNat)
  case atStart => exact ⟨k, rounds, w1.heap.size, -1, vl, has, list, rfl, rfl, rfl, rfl, hk, HR0, HS, HL1, by omega, HIN, HB2⟩
  case round =>
    clear HS HL1 HIN HB2 HR0 hl2 vl has list
    obtain ⟨j, rounds', bh, ee, vl, has, list, rfl, rfl, rfl, rfl, hj, HR0, HS, HL1, hl2, HIN, HB2⟩ := hrel
    have hS := unhide HS
    obtain ⟨A, cl, hv, hcl⟩ := own_ints hS.own
    have r1 := hS.row.cell 1
    have r0 := hS.row.cell 0
    rw [hv] at r1
    simp at r1 r0
    have hbt := hS.bt_lt
    obtain ⟨g0, g1⟩ := bcell (unhide HB2)
    have p2' := (g0 _ 2 hbp).trans p2
    have hz1 := (unhide HB2).size
    have HCL := hide hcl
    have HV := hide hv
    clear hS hv hcl g0 g1
    obtain ⟨wo, rfl⟩ : ∃ wo : World, wo = wr := ⟨_, rfl⟩
    go_wp2_with fail
    go_loop [47, 9] (fun i e => ∃ m : Nat, m ≤ list.length ∧ i = .int .i64 m ∧ e = .int .i64 (endB s bytes (if (list.take m).any (isMatch I) = true then (j : Int) else ee))) (fun i _ => list.length - (intOf i).toNat)
    case atStart => exact ⟨0, by omega, rfl, by simp⟩
    case round =>
      obtain ⟨m, hm1, rfl, rfl⟩ := hrel
      by_cases hlt : m < list.length
      · obtain ⟨g, rfl, hg1, _, _, hg2⟩ := (unhide HCL) m hlt
        obtain ⟨x0, x1⟩ := (unhide HIN) list[m] (List.getElem_mem hlt)
        have hbx : list[m].toNat < I.length := by omega
        obtain ⟨q, hq⟩ : ∃ q, I[list[m].toNat]? = some q := ⟨_, List.getElem?_eq_getElem hbx⟩
        obtain ⟨cs, ht, d0, d1, d8, d9⟩ := (unhide HIC) _ q hq
        have d0' := ((bcell (unhide HB2)).1 bI _ (World.block_lt_of_cell? w _ d0)).trans d0
        have hst1 : (list.take (m + 1)).any (isMatch I) = ((list.take m).any (isMatch I) || (q.op == 3)) := by
          rw [List.take_succ_eq_append_getElem hlt, List.any_append]
          simp [isMatch, hq]
        generalize list[m] = x at *
        obtain ⟨xn, rfl⟩ := Int.eq_ofNat_of_zero_le x0
        simp only [Int.toNat_natCast] at d0'
        have hxn : xn < I.length := by omega
        have HST := hide hst1
        clear hst1 hq d0 d1 d8 d9 ht x0 x1
        by_cases h3 : q.op = 3
        · have h3' : (q.op == 3) = true := by simpa using h3
          clear h3
          go_wp2_with fail
          go_round
          case rel => exact ⟨m + 1, by omega, by go_num, by rw [unhide HST, h3', Bool.or_true, if_pos rfl]; simp [endB]⟩
          case measure => simp [intOf]; omega
        · have h3' : (q.op == 3) = false := by simpa using h3
          clear h3
          go_wp2_with fail
          go_round
          case rel => exact ⟨m + 1, by omega, by go_num, by rw [unhide HST, h3', Bool.or_false]⟩
          case measure => simp [intOf]; omega
      · obtain rfl : m = list.length := by omega
        clear hlt
        obtain ⟨e2, he2⟩ : ∃ e2, (if (list.take list.length).any (isMatch I) = true then (j : Int) else ee) = e2 := ⟨_, rfl⟩
        rw [he2]
        rw [List.take_length] at he2
        have HE := hide he2
        clear he2 hm1
        have hr0 := unhide HR0
        cases rounds' with
        | zero => simp [longF] at hr0
        | succ rounds' =>
        simp only [longF] at hr0
        rw [unhide HE] at hr0
        by_cases hjn : j < nCh s bytes
        · obtain ⟨ps1, ps2, ps3⟩ := place_step (unhide HZ) hjn
          have hpn : ((((place s bytes (j + 1) : Int) - place s bytes j)) == 0) = false := by
            have : ¬ ((place s bytes (j + 1) : Int) - place s bytes j = 0) := by omega
            simpa using this
          by_cases hle : list = []
          · rw [if_pos (.inr hle)] at hr0
            obtain rfl := Option.some.inj hr0
            have hll : ((list.length : Int) == 0) = true := by rw [hle]; rfl
            clear hle hr0
            go_wp2_with fail
            go_ret
            exact ⟨rfl, unhide HB2⟩
          · have hll : ((list.length : Int) == 0) = false := by simpa using hle
            rw [if_neg (by simp [txt, hjn, hle])] at hr0
            obtain ⟨r2, hr2, hr3⟩ := Option.bind_eq_some_iff.1 hr0
            have HR2 := hide hr2; have HR3 := hide hr3
            clear hr0 hr2 hr3 hle HR0
            go_wp2_with fail
            rw [show (place s bytes j : Int) + ((place s bytes (j + 1) : Int) - place s bytes j) = (place s bytes (j + 1) : Int) by omega]
            refine (unhide HC _ (unhide HB2) (j + 1)).mono ?_
            rintro e w3 ⟨rfl, hb3⟩
            obtain ⟨g0, g1⟩ := bcell hb3
            have p2'' := (g0 _ 2 (by omega)).trans p2'
            have r1'' := (g0 _ 1 hbt).trans r1
            have hz3 := hb3.size
            have HB3 := hide hb3
            have hbt3 : w1.heap.size + 1 < w3.heap.size := by omega
            have hbt4 : w1.heap.size < w3.heap.size := by omega
            have hcr := code_range (unhide HZ) hjn
            clear g0 g1 hb3
            go_wp2_with fail
            go_loopw [89] (fun i wq => ∃ (m : Nat) (vl2 : Value) (has2 : List Bool) (list2 : List Int), m ≤ list.length ∧ i = .int .i64 m ∧ Hid (stepF I (fun t => fitsF t (codeK s bytes j) fold bytes) (fun t => checkF t.kind (codeK s bytes j) (codeK s bytes (j + 1))) f (list.drop m) has2 list2 = some r2) ∧ Hid (SetS wq w3.heap.size (w3.heap.size + 1) w3.heap.size vl2 has2 list2) ∧ Hid (has2.length = I.length) ∧ list2.length + bare has2 ≤ I.length ∧ Hid (∀ c ∈ list2, 0 ≤ c ∧ c < I.length) ∧ Hid (Below w3.heap.size w3 wq)) (fun i _ => list.length - (intOf i).toNat)
            case atStart => exact ⟨0, .slice none 0 0, List.replicate I.length false, [], by omega, rfl, HR2, SetS.fresh w3 I.length w3.heap.size hsm (Nat.le_refl _), hide (by simp), by rw [bare_false]; simp, hide (by simp), hide (by repeat (first | exact Below.refl _ _ | assumption | refine below_drewN ?_ _ | refine Below.drew ?_ | refine below_alloc' ?_ _))⟩
            case round =>
              obtain ⟨m, vl2, has2, list2, hm1, rfl, HS2, HSS2, HL2, hb2, HIN2, HB4⟩ := hrel
              have hbq : Below w.heap.size w wr := below_then (below_then (unhide HB2) (unhide HB3)) (unhide HB4)
              have hz4 := (unhide HB4).size
              by_cases hlt : m < list.length
              · obtain ⟨g, rfl, hg1, _, _, hg2⟩ := (unhide HCL) m hlt
                obtain ⟨x0, x1⟩ := (unhide HIN) list[m] (List.getElem_mem hlt)
                have hbx : list[m].toNat < I.length := by omega
                obtain ⟨q, hq⟩ : ∃ q, I[list[m].toNat]? = some q := ⟨_, List.getElem?_eq_getElem hbx⟩
                have hs2 := unhide HS2
                rw [List.drop_eq_getElem_cons hlt] at hs2
                simp only [stepF, hq] at hs2
                obtain ⟨cs, ht, d0, d1, d8, d9⟩ := (unhide HIC) _ q hq
                have hx := ((unhide HP).sound _ _ hq).2.1
                have hg2' := ((bcell (unhide HB4)).1 g m (by omega)).trans (((bcell (unhide HB3)).1 g m hg1).trans hg2)
                generalize list[m] = x at *
                obtain ⟨xn, rfl⟩ := Int.eq_ofNat_of_zero_le x0
                simp only [Int.toNat_natCast] at d0 d1 d8 d9 hbx
                obtain ⟨op, node, qx, qy⟩ := q
                have ht0 := ht
                obtain ⟨kind, code, neg, set, mn, mx, kids⟩ := node
                simp only [TreeAt] at ht
                obtain ⟨vs, A, cc, rfl, ⟨As, cs', rfl, -⟩, -⟩ := ht
                have hbIw : bI < w.heap.size := by omega
                have hq0 := (bcell hbq).1 bI
                have e0 := (hq0 _ hbIw).trans d0
                have e1 := (hq0 _ hbIw).trans (d1 0 _ rfl)
                have e2 := (hq0 _ hbIw).trans (d1 1 _ rfl)
                have e3 := (hq0 _ hbIw).trans (d1 2 _ rfl)
                have e4 := (hq0 _ hbIw).trans (d1 3 _ rfl)
                have e5 := (hq0 _ hbIw).trans (d1 4 _ rfl)
                have e6 := (hq0 _ hbIw).trans (d1 5 _ rfl)
                have e7 := (hq0 _ hbIw).trans (d1 6 _ rfl)
                have e8 := (hq0 _ hbIw).trans d8
                have e9 := (hq0 _ hbIw).trans d9
                have p2q := ((bcell hbq).1 bp 2 hbp).trans p2
                simp at e1
                have HT0 := hide ht0; have HS3 := hide hs2; have HBQ := hide hbq; have HX := hide hx
                clear d0 d1 d8 d9 hq0 hg2 ht0 hs2 hbq hx HS2 hq x0 x1
                simp only at HT0 HS3 HX
                by_cases h0 : op = 0
                · subst h0
                  have hs3 := unhide HS3
                  simp only [true_and] at hs3
                  have hPw := (unhide HP).below (unhide HBQ |>.mono hN)
                  obtain ⟨vI, hBw, -⟩ := hPw.lies
                  go_wp2_with fail
                  refine (fits_calls (.mk kind code neg set mn mx kids) _ (codeK s bytes j) _ (hBw.alloc _) (TreeAt.step (fun _ _ hj => Below.heap_alloc _ _ _ hj) _ _ (TreeAt.step (fun _ hj _ => (unhide HBQ).block _ (by omega)) _ _ (unhide HT0))) (by omega) (by omega)).mono ?_
                  rintro e w5 ⟨rfl, hb5⟩
                  generalize hfit : fitsF (.mk kind code neg set mn mx kids) (codeK s bytes j) fold bytes = fit at *
                  cases fit with
                  | true =>
                    rw [if_pos rfl] at hs3
                    obtain ⟨r5, hr5, hs5⟩ := Option.bind_eq_some_iff.1 hs3
                    obtain ⟨hx0, hx1⟩ : 0 ≤ qx ∧ qx < I.length := by simpa using unhide HX
                    have f8 : w5.cell? ⟨wr.heap.size, 8, none⟩ = some (.int .i64 qx) := ((bcell hb5).1 _ _ (by simp)).trans (by go_simp)
                    have HR5 := hide hr5; have HS5 := hide hs5; have HB5 := hide hb5; have HPW := hide hPw
                    clear hs3 hr5 hs5 hb5 hPw hBw HX HT0 HS3
                    go_wp2_with fail
                    have hPW : ProgAt w3.heap.size w5 bp fold bytes I start := ((((unhide HPW).below ((Below.refl _ _).alloc (by omega) _)).below ((unhide HB5).mono (by simp; omega))).more (by omega))
                    refine (follow_prog (codeK s bytes j) (codeK s bytes (j + 1)) f has2 list2 qx r5 vl2 _ (unhide HR5) hPW (unhide HL2) (by omega) (((unhide HSS2).alloc _).below (unhide HB5)) hx0 hx1).mono ?_
                    rintro e w6 ⟨rfl, vl6, hS6, hK6, hat6⟩
                    have hbd := follow_bound _ _ _ _ _ (unhide HL2) (unhide HR5)
                    have hin6 := follow_in _ _ _ _ _ hx0 (unhide HP).sound (unhide HL2) hx1 (unhide HR5) (unhide HIN2)
                    have hb6 : Below w3.heap.size w3 w6 := ((((unhide HB4).alloc (by omega) _).trans ((unhide HB5).mono (by simp; omega)))).trans (hK6.below (by have := (unhide HB5).size; simp at this; omega) (fun j hj => (((unhide HSS2).alloc _).below (unhide HB5)).old_not hj))
                    have HS6 := hide hS6; have HIN6 := hide hin6; have HB6 := hide hb6
                    clear hS6 hK6 hat6 hin6 hb6 hPW
                    go_wp2_with fail
                    go_roundw
                    case rel => exact ⟨m + 1, vl6, r5.1, r5.2, by omega, by go_num, HS5, HS6, hbd.2, by have := hbd.1; omega, HIN6, HB6⟩
                    case measure => simp [intOf]; omega
                  | false =>
                    rw [if_neg (by simp)] at hs3
                    have HS5 := hide hs3; have HB5 := hide hb5
                    clear hs3 hb5 hPw hBw HX HT0 HS3
                    go_wp2_with fail
                    go_roundw
                    case rel => exact ⟨m + 1, vl2, has2, list2, by omega, by go_num, HS5, (((unhide HSS2).alloc _).below (unhide HB5)), HL2, hb2, HIN2, (((unhide HB4).alloc (by omega) _).trans ((unhide HB5).mono (by simp; omega)))⟩
                    case measure => simp [intOf]; omega
                · have h0' : (op == 0) = false := by simpa using h0
                  have hs3 := unhide HS3
                  rw [if_neg (by simp [h0])] at hs3
                  have HS4 := hide hs3
                  clear h0 hs3 HS3
                  go_wp2_with fail
                  go_roundw
                  case rel => exact ⟨m + 1, vl2, has2, list2, by omega, by go_num, HS4, (unhide HSS2).alloc _, HL2, hb2, HIN2, (unhide HB4).alloc (by omega) _⟩
                  case measure => simp [intOf]; omega
              · obtain rfl : m = list.length := by omega
                have hs2 := unhide HS2
                rw [List.drop_length] at hs2
                simp only [stepF] at hs2
                obtain rfl := Option.some.inj hs2
                simp only at HR3
                obtain ⟨A2, c2, rfl, -⟩ := own_ints (unhide HSS2).own
                have t0 := (unhide HSS2).row.cell 0
                have t1 := (unhide HSS2).row.cell 1
                simp at t0 t1
                have hwn : w3.heap.size + 1 < wr.heap.size := (unhide HSS2).bt_lt
                have HBQ := hide hbq
                clear hs2 hbq hlt hm1 HS2 HR2
                have o0 := (unhide HS).row.frozen 0
                have o1 := (unhide HS).row.frozen 1
                have o0' := ((bcell (unhide HB4)).2 _ 0 (by omega)).trans (((bcell (unhide HB3)).2 _ 0 hbt).trans o0)
                have o1' := ((bcell (unhide HB4)).2 _ 1 (by omega)).trans (((bcell (unhide HB3)).2 _ 1 hbt).trans o1)
                have r0q := ((bcell (unhide HB4)).1 _ 0 hbt3).trans (((bcell (unhide HB3)).1 _ 0 hbt).trans r0)
                have r1q := ((bcell (unhide HB4)).1 _ 1 hbt3).trans r1''
                have hbtq : w1.heap.size + 1 < wr.heap.size := by omega
                clear o0 o1 p2'' r1'' r0 r1 p2' p2 p3
                go_wp2_with fail
                go_roundw
                case rel =>
                  have hne : (Value.slice A2 list2.length c2).ownBlock ≠ some (w1.heap.size + 1) := fun e => by
                    have := own_lt (unhide HSS2).own _ e; omega
                  have hS := unhide HSS2
                  have hrow : Blk wr (w1.heap.size + 1) 68 _ := ((unhide HS).row.below (unhide HB3) hbt).below (unhide HB4) hbt3
                  refine ⟨j + 1, rounds', w3.heap.size, e2, .slice A2 list2.length c2, has2, list2, ?_, rfl, rfl, rfl, by omega, HR3, ⟨?_, ?_, ?_, ?_⟩, HL2, by omega, HIN2, ?_⟩
                  · congr 1; omega
                  · exact ((hrow.set_ 0 _).set_ 1 _)
                  · exact own_step (own_step (own_lower hS.own (by omega)) (fun k hk => Below.heap_setCell _ _ _ k (by rintro rfl; exact hne hk))) (fun k hk => Below.heap_setCell _ _ _ k (by rintro rfl; exact hne hk))
                  · exact (hS.marks.far (by simp only; omega) _).far (by simp only; omega) _
                  · have := (unhide HS).lt; have := hS.lt; omega
                  · exact ((unhide HBQ).setCell (p := ⟨w1.heap.size + 1, 0, none⟩) (by have := (unhide HS).lt; simp only; omega) _).setCell (p := ⟨w1.heap.size + 1, 1, none⟩) (by have := (unhide HS).lt; simp only; omega) _
                case measure => simp [intOf]; omega
        · obtain rfl : j = nCh s bytes := by omega
          have hpn : ((((place s bytes (nCh s bytes + 1) : Int) - place s bytes (nCh s bytes))) == 0) = true := by
            rw [place_end (by omega), place_end (by omega)]; simp
          rw [if_pos (.inl (by simp [txt]))] at hr0
          obtain rfl := Option.some.inj hr0
          clear hr0
          go_wp2_with fail
          go_ret
          exact ⟨rfl, unhide HB2⟩
end Go.Proofs.YtanmlgliibgpcaaDoor

/- The walk of Find. -/
namespace Go.Proofs.YtanmlgliibgpcaaDoor
open Go.RowKit Thr
set_option linter.unusedVariables false

/-- The first place from which on there is a match, and where the longest one ends. -/
def Found (T : Txt) (n : Nat) (pl : Nat → Nat) (t : Rx) (from_ : Int) : Option (Nat × Nat) → Prop
  | some (k, e) => k ≤ n ∧ e ≤ n ∧ k ≤ e ∧ from_ ≤ pl k ∧ den T t k e ∧ (∀ j, den T t k j → j ≤ e) ∧ ∀ k', k' < k → from_ ≤ pl k' → ∀ j, ¬ den T t k' j
  | none => ∀ k, k ≤ n → from_ ≤ pl k → ∀ j, ¬ den T t k j
def foundVal (pl : Nat → Nat) : Option (Nat × Nat) → Value
  | some (k, e) => .tuple #[.int .i64 (pl k), .int .i64 (pl e), .bool true]
  | none => .tuple #[.int .i64 0, .int .i64 0, .bool false]

/-- longest, of a program that was made of an expression. -/
theorem longest_den {N bp : Nat} {fold bytes : Bool} {t : Rx} (ht : Makes t) (s : ByteArray) (k : Nat) (w : World) (hP : ProgAt N w bp fold bytes (compiled t).2 (compiled t).1) (hN : N ≤ w.heap.size)
    (hT : Tabs w) (hm : s.size ≤ 140737488351232) (hk : k ≤ nCh s bytes) :
    ∃ r, Last (den (txt s fold bytes) t k) (-1) r ∧ Calls Tryd.prog 18 #[.pointer (some ⟨bp, 0, none⟩), .string s, .int .i64 (place s bytes k), .int .i64 (aheadK s bytes k)] w fun e w' => e = .returned (.int .i64 (endB s bytes r)) ∧ Below w.heap.size w w' := by
  obtain ⟨r, hr, hL⟩ := longest_ends (txt_fine s fold bytes) ht (f := (compiled t).2.length + 1) (k := nCh s bytes - k + 1) (i := k) (by omega) hk (by omega)
  exact ⟨r, hL, longest_calls s k _ _ r w hP hN hT hm hk hr⟩

def atK (s : ByteArray) (bytes : Bool) (k : Nat) : Int := if k ≤ nCh s bytes then (place s bytes k : Int) else (s.size : Int) + 1
theorem atK_next {s : ByteArray} {bytes : Bool} (hZ : Sized s bytes) {k : Nat} (hk : k ≤ nCh s bytes) : (place s bytes k : Int) + max ((place s bytes (k + 1) : Int) - place s bytes k) 1 = atK s bytes (k + 1) := by
  unfold atK
  by_cases h : k + 1 ≤ nCh s bytes
  · rw [if_pos h]
    have := (place_step hZ (k := k) (by omega)).1
    omega
  · rw [if_neg h, place_end (k := k) (by omega), place_end (k := k + 1) (by omega)]
    omega

theorem Found.unique {T : Txt} {n : Nat} {pl : Nat → Nat} {t : Rx} {f : Int} {o o' : Option (Nat × Nat)} (h : Found T n pl t f o) (h' : Found T n pl t f o') : o = o' := by
  cases o with
  | none =>
    cases o' with
    | none => rfl
    | some q => exact absurd h'.2.2.2.2.1 (h q.1 h'.1 h'.2.2.2.1 q.2)
  | some p =>
    cases o' with
    | none => exact absurd h.2.2.2.2.1 (h' p.1 h.1 h.2.2.2.1 p.2)
    | some q =>
      obtain ⟨k, e⟩ := p
      obtain ⟨k', e'⟩ := q
      obtain ⟨_, _, _, a3, a4, a5, a6⟩ := h
      obtain ⟨_, _, _, b3, b4, b5, b6⟩ := h'
      have hk : k = k' := by
        rcases Nat.lt_trichotomy k k' with hlt | hlt | hlt
        · exact absurd a4 (b6 k hlt a3 e)
        · exact hlt
        · exact absurd b4 (a6 k' hlt b3 e')
      subst hk
      have := b5 _ a4
      have := a5 _ b4
      rw [show e = e' by omega]
theorem found_ends {T : Txt} {n : Nat} (hT : T.Fine n) (pl : Nat → Nat) {t : Rx} (ht : Makes t) (f : Int) : ∃ o, Found T n pl t f o := by
  have h : ∀ m, m ≤ n + 1 → (∃ o, Found T n pl t f o) ∨ ∀ k, k < m → f ≤ pl k → ∀ j, ¬ den T t k j := by
    intro m
    induction m with
    | zero => intro _; exact .inr (fun k hk => by omega)
    | succ m ih =>
      intro hm
      rcases ih (by omega) with ih | ih
      · exact .inl ih
      · by_cases hf : f ≤ pl m
        · obtain ⟨r, _, hL⟩ := longest_ends hT ht (f := (compiled t).2.length + 1) (k := n - m + 1) (i := m) (by omega) (by omega) (by omega)
          rcases hL with ⟨_, hn⟩ | ⟨e, _, hd, hmax⟩
          · refine .inr fun k hk hfk => ?_
            rcases Nat.lt_or_ge k m with h | h
            · exact ih k h hfk
            · obtain rfl : k = m := by omega
              exact hn
          · have := den_le hT t m e (by omega) hd
            exact .inl ⟨some (m, e), by omega, by omega, by omega, hf, hd, hmax, ih⟩
        · refine .inr fun k hk hfk => ?_
          rcases Nat.lt_or_ge k m with h | h
          · exact ih k h hfk
          · obtain rfl : k = m := by omega
            exact absurd hfk hf
  rcases h (n + 1) (Nat.le_refl _) with h | h
  · exact h
  · exact ⟨none, fun k hk => h k (by omega)⟩

set_option maxHeartbeats 4000000 in
theorem Find_nil (s : ByteArray) (from_ : Int) (w : World) : Calls Tryd.prog 9 #[.pointer none, .string s, .int .i64 from_] w fun e w' => e = .returned (foundVal (place s true) none) ∧ w' = w := by
  unfold foundVal
  go_enter Tryd.func9, Tryd.ntmps9
  go_wp2_with fail
  go_ret3
  exact ⟨rfl, rfl⟩
set_option maxHeartbeats 4000000 in
theorem Find_less (bp : Nat) (s : ByteArray) (from_ : Int) (w : World) (h : from_ < 0) : Calls Tryd.prog 9 #[.pointer (some ⟨bp, 0, none⟩), .string s, .int .i64 from_] w fun e w' => e = .returned (foundVal (place s true) none) ∧ w' = w := by
  unfold foundVal
  have h' : decide (from_ < 0) = true := by simpa using h
  clear h
  go_enter Tryd.func9, Tryd.ntmps9
  go_wp2_with fail
  go_ret3
  exact ⟨rfl, rfl⟩
set_option maxHeartbeats 40000000 in
theorem Find_calls {N bp : Nat} {fold bytes : Bool} {t : Rx} (ht : Makes t) (s : ByteArray) (from_ : Int) (o : Option (Nat × Nat)) (w : World) (hP : ProgAt N w bp fold bytes (compiled t).2 (compiled t).1) (hN : N ≤ w.heap.size)
    (hT : Tabs w) (hm : s.size ≤ 140737488351232) (h0 : 0 ≤ from_) (ho : Found (txt s fold bytes) (nCh s bytes) (place s bytes) t from_ o) :
    Calls Tryd.prog 9 #[.pointer (some ⟨bp, 0, none⟩), .string s, .int .i64 from_] w fun e w' => e = .returned (foundVal (place s bytes) o) ∧ Below w.heap.size w w' := by
  have hZ := sized_all s bytes
  have hcode : ∀ (w1 : World), Below w.heap.size w w1 → ∀ j : Nat, Calls Tryd.prog 19 #[.pointer (some ⟨bp, 0, none⟩), .string s, .int .i64 (place s bytes j)] w1 fun e w' => e = .returned (.tuple #[.int .i64 (codeK s bytes j), .int .i64 ((place s bytes (j + 1) : Int) - place s bytes j)]) ∧ Below w1.heap.size w1 w' := fun w1 hb j => by
    obtain ⟨vI, hB, -⟩ := hP.lies
    have := code_calls s (place s bytes j) w1 (hT.below hb) hm (hB.below hb (by have := hP.lt; omega))
    rw [codeAt_place hZ j] at this
    exact this
  have hlong := fun (w1 : World) (hb : Below w.heap.size w w1) k hk => longest_den ht s k w1 ((hP.more hN).below hb) hb.size (hT.below hb) hm hk
  have hz0 := place_zero hZ
  have h0' : decide (from_ < 0) = false := by simpa using h0
  have HC := hide hcode; have HL := hide hlong; have HO := hide ho; have HZ := hide hZ; have HP := hide hP; have HT := hide hT; have HZ0 := hide hz0
  clear hcode hlong ho hZ hP hT hz0 h0
  go_enter Tryd.func9, Tryd.ntmps9
  go_wp2_with fail
  go_loopw [9, 10] (fun ahead_ at_ wr => ∃ k : Nat, k ≤ nCh s bytes + 1 ∧ at_ = .int .i64 (atK s bytes k) ∧ ahead_ = .int .i64 (aheadK s bytes k) ∧ Hid (∀ k', k' < k → from_ ≤ place s bytes k' → ∀ j, ¬ den (txt s fold bytes) t k' j) ∧ Hid (Below w.heap.size w wr))
    (fun _ at_ _ => s.size + 1 - (intOf at_).toNat)
  case atStart => exact ⟨0, by omega, by rw [atK, if_pos (by omega), unhide HZ0]; rfl, rfl, fun k hk => by omega, Below.refl _ _⟩
  case round =>
    obtain ⟨k, hk, rfl, rfl, HN, HB⟩ := hrel
    by_cases hk' : k ≤ nCh s bytes
    · rw [show atK s bytes k = (place s bytes k : Int) from if_pos hk'] at *
      have hpl := place_le (unhide HZ) k
      have hnx : wrap64 ((place s bytes k : Int) + max ((place s bytes (k + 1) : Int) - place s bytes k) 1) = atK s bytes (k + 1) := by
        rw [atK_next (unhide HZ) hk']; unfold wrap64
        unfold atK
        have := place_le (unhide HZ) (k + 1)
        split <;> omega
      have hup : (place s bytes k : Int) < atK s bytes (k + 1) := by rw [← atK_next (unhide HZ) hk']; omega
      have hle : decide ((place s bytes k : Int) ≤ s.size) = true := by simp; omega
      by_cases hf : from_ ≤ place s bytes k
      · have hf' : decide (from_ ≤ (place s bytes k : Int)) = true := by simpa using hf
        obtain ⟨r, hL, hC⟩ := (unhide HL) wr (unhide HB) k hk'
        rcases hL with ⟨rfl, hno⟩ | ⟨e, rfl, hd, hmax⟩
        · rw [show endB s bytes (-1) = -1 from rfl] at hC
          have HC1 := hide hC; have HN1 := hide hno
          clear hC hno hf
          go_wp2_with fail
          refine (unhide HC1).mono ?_
          rintro e w1 ⟨rfl, hb1⟩
          have HB1 := hide (below_then (unhide HB) hb1)
          clear hb1
          go_wp2_with fail
          refine (unhide HC _ (unhide HB1) k).mono ?_
          rintro e w2 ⟨rfl, hb2⟩
          go_wp2_with fail
          go_roundw
          case rel => exact ⟨k + 1, by omega, by rw [hnx], rfl, fun k' hk1 => by
            rcases Nat.lt_or_ge k' k with h | h
            · exact unhide HN k' h
            · obtain rfl : k' = k := by omega
              exact fun _ => unhide HN1, below_then (unhide HB1) hb2⟩
          case measure => rw [hnx]; simp only [intOf]; omega
        · have hle' := den_le (txt_fine s fold bytes) t k e hk' hd
          have ho' := Found.unique (unhide HO) (o' := some (k, e)) ⟨hk', by omega, by omega, hf, hd, hmax, unhide HN⟩
          subst ho'
          rw [show endB s bytes (e : Int) = (place s bytes e : Int) by simp [endB]] at hC
          have HC1 := hide hC
          clear hC hd hmax hf
          go_wp2_with fail
          refine (unhide HC1).mono ?_
          rintro e w1 ⟨rfl, hb1⟩
          have HB1 := hide (below_then (unhide HB) hb1)
          clear hb1
          go_wp2_with fail
          go_ret3
          exact ⟨rfl, unhide HB1⟩
      · have hf' : decide (from_ ≤ (place s bytes k : Int)) = false := by simpa using hf
        clear hf
        go_wp2_with fail
        refine (unhide HC _ (unhide HB) k).mono ?_
        rintro e w2 ⟨rfl, hb2⟩
        go_wp2_with fail
        go_roundw
        case rel => exact ⟨k + 1, by omega, by rw [hnx], rfl, fun k' hk1 => by
          rcases Nat.lt_or_ge k' k with h | h
          · exact unhide HN k' h
          · obtain rfl : k' = k := by omega
            intro hx; simp at hf'; omega, below_then (unhide HB) hb2⟩
        case measure => rw [hnx]; simp only [intOf]; omega
    · obtain rfl : k = nCh s bytes + 1 := by omega
      have ha : atK s bytes (nCh s bytes + 1) = (s.size : Int) + 1 := if_neg (by omega)
      have ho' := Found.unique (unhide HO) (o' := none) (fun k hk => unhide HN k (by omega))
      subst ho'
      rw [ha]
      go_wp2_with fail
      go_ret3
      exact ⟨rfl, unhide HB⟩
end Go.Proofs.YtanmlgliibgpcaaDoor
