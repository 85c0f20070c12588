/- GroundBack: for every input the call returns true, and the arguments read as before. -/
import Derived.Test.YtgapiecbinplfaaGreatD20
set_option linter.all false
namespace Go.Proofs.YtgapiecbinplfaaGreat
open Go.RowKit Go.ChangeShapes Go.WideShapes Go.ChangeAt

set_option maxHeartbeats 800000 in
set_option maxRecDepth 100000 in
theorem groundBack_lifted (os : Os) (started : os.Started) (H : Type) (enc : TypeId × Value → H) :
    ReturnsInHanded {} Tryz.checked os 8 .any (Rows.groundBackSpec.pre6 enc Tryz.prog Tryz.f8 Rows.groundBackRow.domain false) (Rows.groundBackSpec.post enc Tryz.prog Tryz.f8 false true false false) := by
  refine returnsInHanded_of_change_sized (C := Tryz.checked) own started (by kernel_rfl) Tryz.func8
    (ChangeSpec.witness6 (enc := enc) (C := Tryz.checked) false ⟨#[], #[.agg #[.slice none 0 0, .slice none 0 0]], []⟩ 8 (by kernel_rfl) (by kernel_rfl) (by kernel_rfl) (by kernel_rfl)) ?_
  intro W base args ds gs before hval hW _ _ _
  obtain ⟨q1, q2, hA, _⟩ := id hW
  refine law_end (k := 1) laidOut rfl rfl Tryz.underlying4 rfl (by intro t ht; simp [Tryz.f8] at ht; (try rcases ht with rfl) <;> (try subst ht) <;> exact ⟨by kernel_rfl, of_decide_eq_true (by kernel_rfl)⟩)
    (fun ds h => by match ds, h with | [_], _ => rfl) hW ?_
  rw [Tryz.params8] at hA hval
  obtain ⟨v0, d0, rfl, rfl, h0⟩ := trodAll_one hA
  have ok0 := hval 0 25 v0 rfl rfl
  obtain ⟨g, r0, n0⟩ := prg_reads ok0 h0
  refine law_calls (back_ctr g n0) ?_
  simp only [RdL]
  exact ⟨_, _, rfl, r0, rfl⟩

set_option maxHeartbeats 40000000 in
set_option maxRecDepth 100000 in
theorem groundBack_joined : joinedFacts Tryz.prog 8 Tryz.f8 Rows.groundBackSpec Rows.groundBackRow = true := by
  unfold joinedFacts
  simp only [mayEnter_ok, lifts_ok, Bool.and_eq_true]
  repeat' apply And.intro
  all_goals first | exact True.intro | (as_aux_lemma => kernel_rfl)

theorem groundBack_holds : Rows.GroundBackSaid :=
  OpenClaim.holds_of_wide 8 Tryz.f8 rfl rfl rfl rfl rfl rfl rfl ⟨rfl, rfl, rfl, rfl, rfl⟩ rfl rfl rfl rfl rfl (by kernel_rfl) Tryz.func8 groundBack_joined
    (of_decide_eq_true (by kernel_rfl)) (by unfold Func.isWrapper; first | (rw [if_pos (by decide +kernel)]; kernel_rfl) | (rw [if_neg (by decide +kernel)]; exact ⟨rfl, rfl⟩))
    (fun os started H enc _ => groundBack_lifted os started H enc)

end Go.Proofs.YtgapiecbinplfaaGreat
