/- GroundMore: for every input the call returns true, and the arguments read as before. -/
import Derived.Test.YtgapiecbinplfaaGreatD25
set_option linter.all false
namespace Go.Proofs.YtgapiecbinplfaaGreat
open Go.RowKit Go.ChangeShapes Go.WideShapes Go.ChangeAt

set_option maxHeartbeats 800000 in
set_option maxRecDepth 100000 in
theorem groundMore_lifted (os : Os) (started : os.Started) (H : Type) (enc : TypeId × Value → H) :
    ReturnsInHanded {} Tryz.checked os 12 .any (Rows.groundMoreSpec.pre6 enc Tryz.prog Tryz.f12 Rows.groundMoreRow.domain false) (Rows.groundMoreSpec.post enc Tryz.prog Tryz.f12 false true false false) := by
  refine returnsInHanded_of_change_sized (C := Tryz.checked) own started (by kernel_rfl) Tryz.func12
    (ChangeSpec.witness6 (enc := enc) (C := Tryz.checked) false ⟨#[], #[.slice none 0 0, .int .u8 0], []⟩ 8 (by kernel_rfl) (by kernel_rfl) (by kernel_rfl) (by kernel_rfl)) ?_
  intro W base args ds gs before hval hW _ _ _
  obtain ⟨q1, q2, hA, _⟩ := id hW
  refine law_end (k := 2) laidOut rfl rfl Tryz.underlying4 rfl (by intro t ht; simp [Tryz.f12] at ht; (try rcases ht with rfl | rfl) <;> (try subst ht) <;> exact ⟨by kernel_rfl, of_decide_eq_true (by kernel_rfl)⟩)
    (fun ds h => by match ds, h with | [_, _], _ => rfl) hW ?_
  rw [Tryz.params12] at hA hval
  obtain ⟨v0, v1, d0, d1, p0, p1, rfl, rfl, _, h0, h1⟩ := trodAll_two hA
  have ok0 := hval 0 44 v0 rfl rfl
  obtain ⟨l, r0, s0⟩ := trod_one (τ := .sl .inst) 8 (by kernel_rfl) (sl_cells Tryz.underlying44 ok0) h0
  have ok1 := hval 1 5 v1 rfl rfl
  obtain ⟨n, r1, s1⟩ := trod_one (τ := .int .u8) 8 (by kernel_rfl) (int_cells Tryz.underlying5 ok1 h1) h1
  refine law_calls (more_ctr l n (fun x hx => nmI_of (s0 x hx)) (u8_of s1)) ?_
  simp only [RdL]
  exact ⟨_, _, rfl, r0, _, _, rfl, r1, rfl⟩

set_option maxHeartbeats 40000000 in
set_option maxRecDepth 100000 in
theorem groundMore_joined : joinedFacts Tryz.prog 12 Tryz.f12 Rows.groundMoreSpec Rows.groundMoreRow = true := by
  unfold joinedFacts
  simp only [mayEnter_ok, lifts_ok, Bool.and_eq_true]
  repeat' apply And.intro
  all_goals first | exact True.intro | (as_aux_lemma => kernel_rfl)

theorem groundMore_holds : Rows.GroundMoreSaid :=
  OpenClaim.holds_of_wide 12 Tryz.f12 rfl rfl rfl rfl rfl rfl rfl ⟨rfl, rfl, rfl, rfl, rfl⟩ rfl rfl rfl rfl rfl (by kernel_rfl) Tryz.func12 groundMore_joined
    (of_decide_eq_true (by kernel_rfl)) (by unfold Func.isWrapper; first | (rw [if_pos (by decide +kernel)]; kernel_rfl) | (rw [if_neg (by decide +kernel)]; exact ⟨rfl, rfl⟩))
    (fun os started H enc _ => groundMore_lifted os started H enc)

end Go.Proofs.YtgapiecbinplfaaGreat
