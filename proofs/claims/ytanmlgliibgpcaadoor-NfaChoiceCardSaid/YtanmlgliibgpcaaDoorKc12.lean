/- NfaChoice returns true of every two texts, every string and every place: no condition beyond the statement's own (a part of its proof). -/
import Derived.Test.YtanmlgliibgpcaaDoorKc11
import Derived.Test.YtanmlgliibgpcaaDoorRows
import Derived.Lib.LaidIn
import Derived.Lib.LaidU8T
import Derived.Lib.SmallJoins
import Derived.Deep.DeepHandedRow
import Derived.Deep.DeepWitnessRowRef
import Derived.ProofKit
import Derived.SizedLaws
import Derived.PinnedBridge
import Derived.OpenShut
import Derived.Test.YtanmlgliibgpcaaDoorTie
import Derived.Test.YtanmlgliibgpcaaDoorCards
import Derived.SevenTiedAt

/- NfaChoice returns true of every two texts, every string and every place: no condition beyond the statement's own. -/
namespace Go.Proofs.YtanmlgliibgpcaaDoor
open Go.Shelf Go.ChangeShapes Go.WideShapes Go.ChangeAt Go.RowKit Go.Lib Thr
open Go.ChangeMaps (open_string shut_string)
set_option linter.unusedVariables false
set_option linter.unusedSimpArgs false

theorem own : ownKnob Tryd.prog.godebug = none := by kernel_rfl
/-- The witness: the settled world, the two tables holding what their initialisers lay. -/
noncomputable def laidWorld (os : Os) : World :=
  let w0 := World.holding Tryd.prog os ⟨#[], #[], []⟩
  let put (h : Array Obj) (g : Nat) (cs : Array Value) : Array Obj := h.modify g fun
    | .cells _ t frozen => .cells cs t frozen
    | o => o
  let h1 := put w0.heap 1 (Lib.firstTab.map fun z => Value.int .u8 z).toArray
  let h2 := put h1 2 ((List.range 16).flatMap fun i => [Value.int .u8 (Lib.accLo i), Value.int .u8 (Lib.accHi i)]).toArray
  { w0 with heap := h2 }
theorem accept_eq : (Rows.laid_unicode_utf8_acceptRanges : DataW Unit) = Lib.acceptData := by kernel_rfl
theorem first_eq : Rows.laid_unicode_utf8_first = Lib.firstData := Pinned.utf8First_eq
theorem laid_eq : Rows.nfaChoiceRow.laid = [("unicode/utf8.acceptRanges", Lib.acceptData), ("unicode/utf8.first", Lib.firstData)] := by
  show [("unicode/utf8.acceptRanges", Rows.laid_unicode_utf8_acceptRanges), ("unicode/utf8.first", Rows.laid_unicode_utf8_first)] = _
  rw [accept_eq, first_eq]
theorem laid_met (os : Os) (args : Array Value) : laidMet Tryd.prog Rows.nfaChoiceRow.laid ((laidWorld os).forCall (fun _ _ => 0) ⟨#[], args, []⟩).memory := by
  rw [laid_eq]
  exact (LaidIn.of_run (l := [("unicode/utf8.acceptRanges", Lib.acceptData), ("unicode/utf8.first", Lib.firstData)]) [2, 1] 8 (by kernel_rfl) (by kernel_rfl) (by kernel_rfl) (by kernel_rfl)).met
abbrev choSpec : OpenSpec := OpenSpec.ofChange Rows.nfaChoiceSpec
theorem witness_row (os : Os) {H : Type} (enc : TypeId × Value → H) :
    choSpec.preRow enc Tryd.prog Tryd.f4 Rows.nfaChoiceRow.domain false Rows.nfaChoiceRow.laid ((laidWorld os).forCall (fun _ _ => 0) ⟨#[], #[.string ⟨#[]⟩, .string ⟨#[]⟩, .agg #[.string ⟨#[]⟩, .int .i64 0]], []⟩).memory #[.string ⟨#[]⟩, .string ⟨#[]⟩, .agg #[.string ⟨#[]⟩, .int .i64 0]] := by
  have hw : (DataW.whole enc Tryd.prog ((laidWorld os).forCall (fun _ _ => 0) ⟨#[], #[.string ⟨#[]⟩, .string ⟨#[]⟩, .agg #[.string ⟨#[]⟩, .int .i64 0]], []⟩).memory Tryd.f4.params.toList choSpec.vars false #[Value.string ⟨#[]⟩, .string ⟨#[]⟩, .agg #[.string ⟨#[]⟩, .int .i64 0]].toList 8).map (fun x => (x.1, x.2.1)) =
      some ([.lit (.string []), .lit (.string []), .agg [.lit (.string []), .lit (.int .i64 0)]], []) := by kernel_rfl
  obtain ⟨⟨x1, x2, x3⟩, hx, hx1⟩ := Option.map_eq_some_iff.1 hw
  simp only [Prod.mk.injEq] at hx1
  obtain ⟨rfl, rfl⟩ := hx1
  exact OpenSpec.preRow_of_cond 8 hx (by kernel_rfl) (fun k hk => by cases hk) (by kernel_rfl) (laid_met os _)

set_option maxRecDepth 100000 in
set_option maxHeartbeats 2000000 in
theorem cho_lifted (os : Os) (started : os.Started) (H : Type) (enc : TypeId × Value → H) (F : Stop.Interp) :
    ReturnsInHanded {} Tryd.checked os 4 .any (choSpec.preRow enc Tryd.prog Tryd.f4 Rows.nfaChoiceRow.domain false Rows.nfaChoiceRow.laid) ((choSpec.at F).post enc Tryd.prog Tryd.f4 false true false false) := by
  refine returnsInHanded_of_row (C := Tryd.checked) (s := choSpec) own started (by kernel_rfl) Tryd.func4
    (witness_row_atRef (enc := enc) (C := Tryd.checked) false (laidWorld os) #[.string ⟨#[]⟩, .string ⟨#[]⟩, .agg #[.string ⟨#[]⟩, .int .i64 0]] rfl (by kernel_rfl) (by kernel_rfl) (by kernel_rfl) (witness_row os enc)) ?_
  intro W base args ds gs before hval0 hW _ _ hwt hL hsh _
  have hval : ∀ (j : Nat) t v, Tryd.f4.params[j]? = some t → args[j]? = some v → Value.okWide Tryd.prog W .any base t v := hval0
  have hW' := hW
  obtain ⟨p, q, hA0, hV0, rfl, _, _⟩ := hW
  have hA : DataW.TrodAll enc Tryd.prog W 0 (fun _ => true) true Tryd.f4.params.toList args.toList ds p := hA0
  rw [Tryd.params4] at hA hval
  obtain ⟨v0, v1, v2, d0, d1, d2, p0, p1, p2, rfl, rfl, rfl, h0, h1, h2⟩ := trodAll_three hA
  obtain ⟨rfl, rfl⟩ := trodVars_none hV0
  obtain ⟨s, rfl, rfl, rfl, ws⟩ := open_string Tryd.underlying9 (hval 0 9 v0 rfl rfl) h0
  obtain ⟨s2, rfl, rfl, rfl, ws2⟩ := open_string Tryd.underlying9 (hval 1 9 v1 rfl rfl) h1
  obtain ⟨c0, c1, y0, y1, m, rfl, rfl, rfl, hy0, hy1⟩ := Joins.open_agg2 Tryd.underlying28 (by kernel_rfl) (by kernel_rfl) (hval 2 28 v2 rfl rfl) h2
  obtain ⟨S, e0, rfl, wS⟩ := DataW.trod_string Tryd.underlying9 hy0
  obtain ⟨n, e1, rfl, wn⟩ := DataW.trod_int Tryd.underlying3 hy1
  simp at e0 e1
  subst e0 e1
  have hz1 : s.size ≤ 140737488351232 := by
    have := sized_string hwt (j := 0) (t := 9) (bytes := s.data.toList) (by rw [Tryd.params4]; rfl) rfl
    rw [Array.length_toList] at this
    exact this
  have hz2 : s2.size ≤ 140737488351232 := by
    have := sized_string hwt (j := 1) (t := 9) (bytes := s2.data.toList) (by rw [Tryd.params4]; rfl) rfl
    rw [Array.length_toList] at this
    exact this
  clear hA0 hV0 hval0
  rw [laid_eq] at hL
  have htab : Tabs W :=
    utf8Tabs_of_readsT (U8Types.of260 Tryd.lays260) ⟨by kernel_rfl, by kernel_rfl, by kernel_rfl, by kernel_rfl, by kernel_rfl, by kernel_rfl, by kernel_rfl⟩ (Lib.laidMet.reads hL (.tail _ (.head _))) (Lib.laidMet.reads hL (.head _))
  have hmax := Tryd.laysM143.s1_3 W hsh
  have structReads : ∀ (W' : World) (sp : Nat → Bool), DataW.Trod enc Tryd.prog W' 0 sp true 28 (.agg #[.string S, .int .i64 n]) (.agg [.lit (.string S.data.toList), .lit (.int .i64 n)]) [] := fun W' sp =>
    Joins.shut_agg2 (y0 := (.lit (.string S.data.toList), [])) (y1 := (.lit (.int .i64 n), [])) Tryd.underlying28 (by kernel_rfl) (by kernel_rfl) ⟨1, by simp [DataW.trod, Tryd.underlying9, wS]⟩ ⟨1, by simp [DataW.trod, Tryd.underlying3, wn]⟩
  have hn : -9223372036854775808 ≤ n ∧ n ≤ 9223372036854775807 := by
    have := wn
    have hmn : IntKind.i64.min = -9223372036854775808 := by decide
    have hmx : IntKind.i64.max = 9223372036854775807 := by decide
    simp [Lit.wf, IntKind.wrap_i64] at this
    omega
  refine (choice_calls s s2 S n W ⟨htab, hmax⟩ hn.1 hn.2 hz1 hz2 wS).mono ?_
  rintro e W' ⟨rfl, bel⟩
  have e1 : (choSpec.at F).fn H ([.lit (.string s.data.toList), .lit (.string s2.data.toList), .agg [.lit (.string S.data.toList), .lit (.int .i64 n)]] ++ []) = { results := [.lit (.bool true)], args := [.lit (.string s.data.toList), .lit (.string s2.data.toList), .agg [.lit (.string S.data.toList), .lit (.int .i64 n)]] } := rfl
  refine ⟨_, rfl, _, _, _, [], [], [], hW', ?_, ?_, ?_, bel.frame _, fun h => by cases h⟩
  · rw [e1]; exact trodAll_mk1 (shut_bool Tryd.underlying4 _)
  · rw [e1]; exact trodAll_mk3 (shut_string Tryd.underlying9 ws) (shut_string Tryd.underlying9 ws2) (structReads _ _)
  · rw [e1]; rfl

theorem choice_holds : Rows.NfaChoiceSaid :=
  OpenClaim.holds_of_cond 4 Tryd.f4 rfl rfl rfl rfl rfl rfl rfl ⟨rfl, rfl, rfl, rfl, rfl⟩ rfl rfl rfl rfl rfl (by kernel_rfl) Tryd.func4 (by kernel_rfl)
    (of_decide_eq_true (by kernel_rfl)) (by unfold Func.isWrapper; first | (rw [if_neg (of_decide_eq_false (by kernel_rfl))]; exact ⟨rfl, rfl⟩) | (rw [if_pos (of_decide_eq_true (by kernel_rfl))]; kernel_rfl))
    (fun os started H enc _ F0 => by rw [OpenClaim.pre_eq_preRow]; exact cho_lifted os started H enc F0)
#print axioms choice_holds
end Go.Proofs.YtanmlgliibgpcaaDoor

namespace Go.Proofs.YtanmlgliibgpcaaDoor
open Go

theorem choice_card : Rows.NfaChoiceCardSaid :=
  Claim7.holds_tied_plain_at .later [] [.data, .pinned] true (true, "a3710effdc1e3f0895447a8e8a768be1629044227cc9100b6371bab178515853") true
    choice_holds (fun _ h => by cases h) (by kernel_rfl) (fun _ h => by cases h) nfaChoice_row_tie rfl ⟨rfl, rfl⟩ (by kernel_rfl) rfl
    (fun f fn hf hfn => by
      obtain rfl : f = 4 := Option.some.inj ((show Tryd.prog.funcNamed "thresher/thresherlaw10.NfaChoice" = some 4 by kernel_rfl).symm.trans hf) |>.symm
      obtain rfl : fn = Tryd.f4 := (Option.some.inj (Tryd.func4.symm.trans hfn)).symm
      exact ⟨by kernel_rfl, fun j t ht => by
        rw [Tryd.params4] at ht
        have hm : t ∈ [9, 9, 28] := by simpa using Array.mem_of_getElem? ht
        have hall : ([9, 9, 28].all fun u => !Tryd.prog.wantsStandIn u) = true := by kernel_rfl
        exact (show Tryd.prog.wantsStandIn t = false by simpa using List.all_eq_true.1 hall t hm)⟩)
    (by kernel_rfl)
#print axioms choice_card
end Go.Proofs.YtanmlgliibgpcaaDoor
