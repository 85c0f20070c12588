/- GroundAsks: for every input the call returns true, and the arguments read as before. -/
import Derived.Test.YtgapiecbinplfaaGreatC14
set_option linter.all false
namespace Go.Proofs.YtgapiecbinplfaaGreat
open Go.RowKit Go.ChangeShapes Go.WideShapes Go.ChangeAt

set_option maxHeartbeats 800000 in
set_option maxRecDepth 100000 in
theorem groundAsks_lifted (os : Os) (started : os.Started) (H : Type) (enc : TypeId × Value → H) :
    ReturnsInHanded {} Tryz.checked os 6 .any (Rows.groundAsksSpec.pre6 enc Tryz.prog Tryz.f6 Rows.groundAsksRow.domain false) (Rows.groundAsksSpec.post enc Tryz.prog Tryz.f6 false true false false) := by
  refine returnsInHanded_of_change_sized (C := Tryz.checked) own started (by kernel_rfl) Tryz.func6
    (ChangeSpec.witness6 (enc := enc) (C := Tryz.checked) false ⟨#[], #[.agg #[.slice none 0 0, .slice none 0 0], .slice none 0 0, .int .i64 0], []⟩ 8 (by kernel_rfl) (by kernel_rfl) (by kernel_rfl) (by kernel_rfl)) ?_
  intro W base args ds gs before hval hW _ _ _
  obtain ⟨q1, q2, hA, _⟩ := id hW
  refine law_end (k := 3) laidOut rfl rfl Tryz.underlying4 rfl (by intro t ht; simp [Tryz.f6] at ht; (try rcases ht with rfl | rfl | rfl) <;> (try subst ht) <;> exact ⟨by kernel_rfl, of_decide_eq_true (by kernel_rfl)⟩)
    (fun ds h => by match ds, h with | [_, _, _], _ => rfl) hW ?_
  rw [Tryz.params6] at hA hval
  obtain ⟨v0, v1, v2, d0, d1, d2, p0, p1, p2, rfl, rfl, _, h0, h1, h2⟩ := trodAll_three hA
  have ok0 := hval 0 25 v0 rfl rfl
  obtain ⟨g, r0, n0⟩ := prg_reads ok0 h0
  have ok1 := hval 1 36 v1 rfl rfl
  obtain ⟨t, r1, s1⟩ := trod_one (τ := .sl .cell) 8 (by kernel_rfl) (sl_cells Tryz.underlying36 ok1) h1
  have ok2 := hval 2 3 v2 rfl rfl
  obtain ⟨n, r2, s2⟩ := trod_one (τ := .int .i64) 8 (by kernel_rfl) (int_cells Tryz.underlying3 ok2 h2) h2
  refine law_calls (asks_ctr g t n n0) ?_
  simp only [RdL]
  exact ⟨_, _, rfl, r0, _, _, rfl, r1, _, _, rfl, r2, rfl⟩

set_option maxHeartbeats 40000000 in
set_option maxRecDepth 100000 in
theorem groundAsks_joined : joinedFacts Tryz.prog 6 Tryz.f6 Rows.groundAsksSpec Rows.groundAsksRow = true := by
  unfold joinedFacts
  simp only [mayEnter_ok, lifts_ok, Bool.and_eq_true]
  repeat' apply And.intro
  all_goals first | exact True.intro | (as_aux_lemma => kernel_rfl)

theorem groundAsks_holds : Rows.GroundAsksSaid :=
  OpenClaim.holds_of_wide 6 Tryz.f6 rfl rfl rfl rfl rfl rfl rfl ⟨rfl, rfl, rfl, rfl, rfl⟩ rfl rfl rfl rfl rfl (by kernel_rfl) Tryz.func6 groundAsks_joined
    (of_decide_eq_true (by kernel_rfl)) (by unfold Func.isWrapper; first | (rw [if_pos (by decide +kernel)]; kernel_rfl) | (rw [if_neg (by decide +kernel)]; exact ⟨rfl, rfl⟩))
    (fun os started H enc _ => groundAsks_lifted os started H enc)

end Go.Proofs.YtgapiecbinplfaaGreat
