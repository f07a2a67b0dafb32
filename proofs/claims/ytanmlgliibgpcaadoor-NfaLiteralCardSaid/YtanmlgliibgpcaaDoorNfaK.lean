/- The walk of make, whole. -/
import Derived.Test.YtanmlgliibgpcaaDoorNfaJ
namespace Go.Proofs.YtanmlgliibgpcaaDoor
open Go.RowKit Thr
set_option linter.unusedVariables false
set_option linter.unusedSimpArgs false

set_option maxHeartbeats 4000000 in
theorem make_rep (code : Int) (neg : Bool) (set : List (Int × Int)) (mn mx : Int) (kid : Rx) (hok : MakeOK kid) (hmk : Makes kid) (hmn : 0 ≤ mn) (hmx : -1 ≤ mx) (hmx1 : mx ≤ 1000) (hmn1 : mn ≤ 1000) : MakeOK (.mk 7 code neg set mn mx [kid]) := by
  intro next I vI w base bp fold bytes cs hP ht h0 h1 hl
  have hrp := fun w1 h1' ht1 => repeat_calls code neg set mn mx kid hok hmk hmn hmx hmx1 hmn1 next I vI w1 base bp fold bytes cs h1' ht1 h0 h1 hl
  obtain ⟨kind', code', neg', As', ls', cs'', mn', mx', A', lk', cc', rfl⟩ := ht.form
  have hk : kind' = 7 := by
    simp only [TreeAt] at ht
    obtain ⟨_, _, _, h, _⟩ := ht
    simp at h; omega
  subst hk
  generalize make (.mk 7 code neg set mn mx [kid]) next I = R at *
  have HP := hide hP; have HT := hide ht; have HRP := hide hrp
  clear hP ht hrp hok hmk
  go_enter Tryd.func14, Tryd.ntmps14
  go_wp2_with fail
  refine ((unhide HRP) _ ((unhide HP).alloc _) ((unhide HT).more fun k _ hk => Below.heap_alloc _ _ _ hk)).mono ?_
  rintro e w1 ⟨rfl, vI1, hP1, hK1, hA1⟩
  go_wp2_with fail
  go_ret
  exact ⟨rfl, vI1, hP1, ((Keeps.refl _ _).alloc _).trans hK1 (fun _ _ h => h), At.later hA1 (by simp)⟩

mutual
theorem make_calls : ∀ t : Rx, Valids t → MakeOK t
  | .mk kind code neg set mn mx kids, h => by
    have hks := makes_calls kids h.2
    have hmk := validsAll_makes kids h.2
    by_cases k7 : kind = 7
    · subst k7
      obtain ⟨⟨k, rfl⟩, r1, r2, r3, r4, r5⟩ := valid_rep h.1
      exact make_rep code neg set mn mx k (hks k (by simp)) hmk.1 r1 r3 (by omega) (by omega)
    by_cases k5 : kind = 5
    · subst k5
      exact make_cat code neg set mn mx kids hks hmk
    by_cases k6 : kind = 6
    · subst k6
      exact make_alt code neg set mn mx kids hks hmk (by have := valid_many h.1 (.inr rfl); omega)
    by_cases k1 : kind = 1
    · subst k1
      exact make_empty code neg set mn mx kids
    by_cases k2 : kind = 2 ∨ kind = 3 ∨ kind = 4
    · exact make_char kind code neg set mn mx kids k2
    exact make_check kind code neg set mn mx kids ⟨k1, by omega, by omega, by omega, k5, k6, k7⟩
theorem makes_calls : ∀ ks : List Rx, ValidsAll ks → ∀ k ∈ ks, MakeOK k
  | [], _, k, hk => by simp at hk
  | k' :: ks, h, k, hk => by
    rcases List.mem_cons.1 hk with e | hk
    · rw [e]; exact make_calls k' h.1
    · exact makes_calls ks h.2 k hk
end
end Go.Proofs.YtanmlgliibgpcaaDoor
