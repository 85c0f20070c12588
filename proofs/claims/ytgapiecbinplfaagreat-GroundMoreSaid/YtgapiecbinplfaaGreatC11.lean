/- Own framework, walks and plain laws behind the laws of this seat, part C11: lemmas, no statement of the seat. -/
import Derived.Test.YtgapiecbinplfaaGreatC10
set_option linter.all false
/- Walks: terms, programs. Printed by walk.py from annotations. -/
namespace Go.Proofs.YtgapiecbinplfaaGreat
open Go.RowKit


set_option maxRecDepth 8000 in
set_option maxHeartbeats 4000000 in
theorem rightP_ctr (g : Prg) (hla : g.atoms.length ≤ 1000000) (hlr : g.rules.length ≤ 1000000) (hn : ∀ i : Nat, i < g.atoms.length → NmOk (gt g.atoms i)) : Ctr Tryz.prog 40 [pav g] [] (.d .bool (rightP g)) [] := by
  refine ctr_pure E Tryz.func40 rfl Tryz.ntmps40 Tryz.results40 (Nat.le_of_ble_eq_true rfl) rfl ?_
  simp only [pav]
  repeat refine ok_seq ?_
  refine ok_reg E [1] [] (by simp [-Option.some.injEq, -Prod.mk.injEq]; rfl) (by first | trivial | omega | simp | (simp; omega)) ?_
  repeat refine ok_seq ?_
  refine ok_reg E [1, 3] [] (by simp [-Option.some.injEq, -Prod.mk.injEq]; rfl) (by first | trivial | omega | simp | (simp; omega)) ?_
  repeat refine ok_seq ?_
  refine ok_reg E [1, 3, 4] [] (by simp [-Option.some.injEq, -Prod.mk.injEq]; rfl) (by first | trivial | omega | simp | (simp; omega)) ?_
  repeat refine ok_seq ?_
  refine ok_block ?_
  repeat refine ok_seq ?_
  refine ok_loop (σ := Nat) (fun i => [(1, .ptr 0 0), (3, .d .i (g.atoms.length : Int)), (4, .d .i (i : Int))]) (fun i => [.cells [.d .terms g.atoms, .d (.sl .rule) g.rules]]) (fun i => i ≤ g.atoms.length ∧ AtomsOk g.atoms i) (fun i => g.atoms.length - i) 0 ⟨by simp, fun _ h => absurd h (by omega)⟩ ?_ ?_
  · constructor <;> simp [EntF, EntH, EntB, Conv, scop]
  rintro i ⟨hi1, hi⟩
  repeat refine ok_seq ?_
  refine ok_reg E [1, 3, 4, 12] [] (by simp [-Option.some.injEq, -Prod.mk.injEq]; rfl) (by first | trivial | omega | simp | (simp; omega)) ?_
  repeat refine ok_seq ?_
  refine ok_if rfl (fun c1 => ?_) (fun c1 => ?_)
  · try simp at c1
    all_goals
      have hw : IntKind.i64.wrap ((i : Int) - 1) = (i : Int) - 1 := wrap_i64 (by omega) (by omega)
      have hlt : i < g.atoms.length := by omega
      have k1 := atomT_ctr (gt g.atoms i) (hn i hlt)
      have k2 := atomT_len (t := gt g.atoms i)
      have k3 : atomT (gt g.atoms i) = true → Ctr Tryz.prog 116 [.d .term (gt g.atoms i)] [] (.d .bool (groundT (gt g.atoms i))) [] := fun h => groundT_ctr (gt g.atoms i) (by have := k2 h; omega)
      have k4 := cmpT_ctr (gt g.atoms ((i : Int) - 1)) (gt g.atoms i)
      refine ok_skip ?_
      repeat refine ok_seq ?_
      refine ok_block ?_
      repeat refine ok_seq ?_
      refine ok_drJ E rfl [(49, .d .bool (decide (¬ (atomT (gt g.atoms i) = true ∧ groundT (gt g.atoms i) = true ∧ (0 < i → cmpT (gt g.atoms ((i : Int) - 1)) (gt g.atoms i) < 0)))))] [1, 3, 4] [1, 3, 4, 49] 35 [.pure (.d .bool (atomT (gt g.atoms i))), .pure (.d .bool (groundT (gt g.atoms i))), .pure (.d .i (cmpT (gt g.atoms ((i : Int) - 1)) (gt g.atoms i)))] (by decide) (by simp [nodupF]) ?_ ?_
      · skip
        by_cases q0 : atomT (gt g.atoms i) = true
        rotate_left
        · refine ⟨_, _, _, by simp [q0, hlt, hw, -Option.some.injEq, -Prod.mk.injEq]; rfl, (by first | trivial | omega | (simp_all; done) | (simp_all; omega)), by constructor <;> simp [EntF, EntH, EntB, Conv, scop, q0, hlt, hw] <;> first | omega | (rw [Bool.eq_iff_iff]; simp; omega)⟩
        by_cases q1 : groundT (gt g.atoms i) = true
        rotate_left
        · refine ⟨_, _, _, by simp [q0, q1, hlt, hw, -Option.some.injEq, -Prod.mk.injEq]; rfl, (by first | trivial | omega | (simp_all; done) | (simp_all; omega)), by constructor <;> simp [EntF, EntH, EntB, Conv, scop, q0, q1, hlt, hw] <;> first | omega | (rw [Bool.eq_iff_iff]; simp; omega)⟩
        by_cases q2 : 0 < i
        rotate_left
        · refine ⟨_, _, _, by simp [q0, q1, q2, hlt, hw, -Option.some.injEq, -Prod.mk.injEq]; rfl, (by first | trivial | omega | (simp_all; done) | (simp_all; omega)), by constructor <;> simp [EntF, EntH, EntB, Conv, scop, q0, q1, q2, hlt, hw] <;> first | omega | (rw [Bool.eq_iff_iff]; simp; omega)⟩
        by_cases q3 : 0 ≤ cmpT (gt g.atoms ((i : Int) - 1)) (gt g.atoms i) <;> (
        refine ⟨_, _, _, by simp [q0, q1, q2, q3, hlt, hw, -Option.some.injEq, -Prod.mk.injEq]; rfl, (by first | trivial | omega | (simp_all; done) | (simp_all; omega)), by constructor <;> simp [EntF, EntH, EntB, Conv, scop, q0, q1, q2, q3, hlt, hw] <;> first | omega | (rw [Bool.eq_iff_iff]; simp; omega)⟩)
      repeat refine ok_seq ?_
      refine ok_if rfl (fun c2 => ?_) (fun c2 => ?_)
      · try simp at c2
        all_goals
          repeat refine ok_seq ?_
          refine ok_reg E [2] [] (by simp [-Option.some.injEq, -Prod.mk.injEq]; rfl) (by first | trivial | omega | simp | (simp; omega)) ?_
          refine ok_ret ⟨.inr rfl, ?_⟩
          -- ret1
          simp [resAll, resL, resA, frozE]
          rw [rightP, Bool.and_eq_false_iff]
          left
          rw [decide_eq_false_iff_not]
          intro h
          obtain ⟨h1, h2, h3⟩ := h i hlt
          rcases c2 with c2 | c2 | c2
          · rw [h1] at c2; cases c2
          · rw [h2] at c2; cases c2
          · have := h3 c2.1; omega
      · try simp at c2
        all_goals
          refine ok_skip ?_
          repeat refine ok_seq ?_
          refine ok_reg E [1, 3, 4] [] (by simp [-Option.some.injEq, -Prod.mk.injEq]; rfl) (by first | trivial | omega | simp | (simp; omega)) ?_
          -- end01
          exact ⟨i + 1, ⟨by omega, fun j hj => by by_cases e : j = i; subst e; exact c2; exact hi j (by omega)⟩, by omega, by constructor <;> simp (disch := omega) [EntF, EntH, EntB, Conv, scop, wrap_i64]⟩
  · try simp at c1
    all_goals
      skip
      refine ok_exit ?_
      repeat refine ok_seq ?_
      refine ok_reg E [1, 3, 5] [] (by simp [-Option.some.injEq, -Prod.mk.injEq]; rfl) (by first | trivial | omega | simp | (simp; omega)) ?_
      repeat refine ok_seq ?_
      refine ok_block ?_
      repeat refine ok_seq ?_
      refine ok_loop (σ := Nat) (fun i => [(1, .ptr 0 0), (3, .d .i (g.atoms.length : Int)), (5, .d .i (i : Int))]) (fun i => [.cells [.d .terms g.atoms, .d (.sl .rule) g.rules]]) (fun i => i ≤ g.rules.length ∧ RulesOk g.rules g.atoms.length i) (fun i => g.rules.length - i) 0 ⟨by simp, fun _ h => absurd h (by omega)⟩ ?_ ?_
      · constructor <;> simp [EntF, EntH, EntB, Conv, scop]
      rintro i ⟨hj1, hj⟩
      repeat refine ok_seq ?_
      refine ok_reg E [1, 3, 5, 54] [] (by simp [-Option.some.injEq, -Prod.mk.injEq]; rfl) (by first | trivial | omega | simp | (simp; omega)) ?_
      repeat refine ok_seq ?_
      refine ok_if rfl (fun c3 => ?_) (fun c3 => ?_)
      · try simp at c3
        all_goals
          have hw : IntKind.i64.wrap ((i : Int) - 1) = (i : Int) - 1 := wrap_i64 (by omega) (by omega)
          have hlt : i < g.rules.length := by omega
          have k1 := setOk_ctr (gr g.rules i).pos g.atoms.length
          have k2 := setOk_ctr (gr g.rules i).neg g.atoms.length
          have k3 := order_ctr (gr g.rules ((i : Int) - 1)) (gr g.rules i)
          refine ok_skip ?_
          repeat refine ok_seq ?_
          refine ok_block ?_
          repeat refine ok_seq ?_
          refine ok_reg E [1, 3, 5, 6] [] (by simp [-Option.some.injEq, -Prod.mk.injEq]; rfl) (by first | trivial | omega | simp | (simp; omega)) ?_
          repeat refine ok_seq ?_
          refine ok_drJ E rfl [(99, .d .bool (decide (¬ (0 ≤ (gr g.rules i).head ∧ (gr g.rules i).head < g.atoms.length ∧ setOk (gr g.rules i).pos g.atoms.length = true ∧ setOk (gr g.rules i).neg g.atoms.length = true ∧ (0 < i → rOrder (gr g.rules ((i : Int) - 1)) (gr g.rules i) < 0)))))] [1, 3, 5] [1, 3, 5, 99] 38 [.pure (.d .bool (setOk (gr g.rules i).pos g.atoms.length)), .pure (.d .bool (setOk (gr g.rules i).neg g.atoms.length)), .pure (.d .i (rOrder (gr g.rules ((i : Int) - 1)) (gr g.rules i)))] (by decide) (by simp [nodupF]) ?_ ?_
          · skip
            by_cases q0 : (gr g.rules i).head < 0
            · refine ⟨_, _, _, by simp [q0, hlt, hw, -Option.some.injEq, -Prod.mk.injEq]; rfl, (by first | trivial | omega | (simp_all; done) | (simp_all; omega)), by constructor <;> simp [EntF, EntH, EntB, Conv, scop, q0, hlt, hw] <;> first | omega | (rw [Bool.eq_iff_iff]; simp; omega)⟩
            by_cases q1 : (g.atoms.length : Int) ≤ (gr g.rules i).head
            · refine ⟨_, _, _, by simp [q0, q1, hlt, hw, -Option.some.injEq, -Prod.mk.injEq]; rfl, (by first | trivial | omega | (simp_all; done) | (simp_all; omega)), by constructor <;> simp [EntF, EntH, EntB, Conv, scop, q0, q1, hlt, hw] <;> first | omega | (rw [Bool.eq_iff_iff]; simp; omega)⟩
            by_cases q2 : setOk (gr g.rules i).pos g.atoms.length = true
            rotate_left
            · refine ⟨_, _, _, by simp [q0, q1, q2, hlt, hw, -Option.some.injEq, -Prod.mk.injEq]; rfl, (by first | trivial | omega | (simp_all; done) | (simp_all; omega)), by constructor <;> simp [EntF, EntH, EntB, Conv, scop, q0, q1, q2, hlt, hw] <;> first | omega | (rw [Bool.eq_iff_iff]; simp; omega)⟩
            by_cases q3 : setOk (gr g.rules i).neg g.atoms.length = true
            rotate_left
            · refine ⟨_, _, _, by simp [q0, q1, q2, q3, hlt, hw, -Option.some.injEq, -Prod.mk.injEq]; rfl, (by first | trivial | omega | (simp_all; done) | (simp_all; omega)), by constructor <;> simp [EntF, EntH, EntB, Conv, scop, q0, q1, q2, q3, hlt, hw] <;> first | omega | (rw [Bool.eq_iff_iff]; simp; omega)⟩
            by_cases q4 : 0 < i
            rotate_left
            · refine ⟨_, _, _, by simp [q0, q1, q2, q3, q4, hlt, hw, -Option.some.injEq, -Prod.mk.injEq]; rfl, (by first | trivial | omega | (simp_all; done) | (simp_all; omega)), by constructor <;> simp [EntF, EntH, EntB, Conv, scop, q0, q1, q2, q3, q4, hlt, hw] <;> first | omega | (rw [Bool.eq_iff_iff]; simp; omega)⟩
            by_cases q5 : 0 ≤ rOrder (gr g.rules ((i : Int) - 1)) (gr g.rules i) <;> (
            refine ⟨_, _, _, by simp [q0, q1, q2, q3, q4, q5, hlt, hw, -Option.some.injEq, -Prod.mk.injEq]; rfl, (by first | trivial | omega | (simp_all; done) | (simp_all; omega)), by constructor <;> simp [EntF, EntH, EntB, Conv, scop, q0, q1, q2, q3, q4, q5, hlt, hw] <;> first | omega | (rw [Bool.eq_iff_iff]; simp; omega)⟩)
          repeat refine ok_seq ?_
          refine ok_if rfl (fun c4 => ?_) (fun c4 => ?_)
          · try simp at c4
            all_goals
              repeat refine ok_seq ?_
              refine ok_reg E [2] [] (by simp [-Option.some.injEq, -Prod.mk.injEq]; rfl) (by first | trivial | omega | simp | (simp; omega)) ?_
              refine ok_ret ⟨.inr rfl, ?_⟩
              -- ret2
              simp [resAll, resL, resA, frozE]
              rw [rightP, Bool.and_eq_false_iff]
              right
              rw [decide_eq_false_iff_not]
              intro h
              obtain ⟨h1, h2, h3, h4, h5⟩ := h i hlt
              rcases c4 with c4 | c4 | c4 | c4 | c4
              · omega
              · omega
              · rw [h3] at c4; cases c4
              · rw [h4] at c4; cases c4
              · have := h5 c4.1; omega
          · try simp at c4
            all_goals
              refine ok_skip ?_
              repeat refine ok_seq ?_
              refine ok_reg E [1, 3, 5] [] (by simp [-Option.some.injEq, -Prod.mk.injEq]; rfl) (by first | trivial | omega | simp | (simp; omega)) ?_
              -- end21
              exact ⟨i + 1, ⟨by omega, fun k hk => by by_cases e : k = i; subst e; exact c4; exact hj k (by omega)⟩, by omega, by constructor <;> simp (disch := omega) [EntF, EntH, EntB, Conv, scop, wrap_i64]⟩
      · try simp at c3
        all_goals
          skip
          refine ok_exit ?_
          repeat refine ok_seq ?_
          refine ok_reg E [2] [] (by simp [-Option.some.injEq, -Prod.mk.injEq]; rfl) (by first | trivial | omega | simp | (simp; omega)) ?_
          refine ok_ret ⟨.inr rfl, ?_⟩
          -- ret3
          simp [resAll, resL, resA, frozE]
          rw [rightP, Bool.and_eq_true]; exact ⟨decide_eq_true (fun k hk => hi k (by omega)), decide_eq_true (fun k hk => hj k (by omega))⟩

end Go.Proofs.YtgapiecbinplfaaGreat
/- Walks: the document's answer to layer 16. Printed by walk.py from annotations. -/
namespace Go.Proofs.YtgapiecbinplfaaGreat
open Go.RowKit


set_option maxRecDepth 8000 in
set_option maxHeartbeats 4000000 in
theorem ints_ctr (a b : List Int) : Ctr Tryz.prog 42 [.d (.sl .i) a, .d (.sl .i) b] [] (.d .bool (decide (a = b))) [] := by
  refine ctr_pure E Tryz.func42 rfl Tryz.ntmps42 Tryz.results42 (Nat.le_of_ble_eq_true rfl) rfl ?_
  repeat refine ok_seq ?_
  refine ok_reg E [0, 1] [] (by simp [-Option.some.injEq, -Prod.mk.injEq]; rfl) (by first | trivial | omega | simp | (simp; omega)) ?_
  repeat refine ok_seq ?_
  refine ok_reg E [0, 1, 10] [] (by simp [-Option.some.injEq, -Prod.mk.injEq]; rfl) (by first | trivial | omega | simp | (simp; omega)) ?_
  repeat refine ok_seq ?_
  refine ok_if rfl (fun c1 => ?_) (fun c1 => ?_)
  · try simp at c1
    all_goals
      repeat refine ok_seq ?_
      refine ok_reg E [4] [] (by simp [-Option.some.injEq, -Prod.mk.injEq]; rfl) (by first | trivial | omega | simp | (simp; omega)) ?_
      refine ok_ret ⟨.inr rfl, ?_⟩
      -- ret1
      simp [resAll, resL, resA, frozE]
      intro e; simp [e] at c1
  · try simp at c1
    all_goals
      refine ok_skip ?_
      repeat refine ok_seq ?_
      refine ok_reg E [0, 1, 5] [] (by simp [-Option.some.injEq, -Prod.mk.injEq]; rfl) (by first | trivial | omega | simp | (simp; omega)) ?_
      repeat refine ok_seq ?_
      refine ok_block ?_
      repeat refine ok_seq ?_
      refine ok_lenN 0 rfl fun ha => ?_
      refine ok_loop (σ := Nat) (fun i => [(0, .d (.sl .i) a), (1, .d (.sl .i) b), (5, .d .i (i : Int))]) (fun i => []) (fun i => i ≤ a.length ∧ a.take i = b.take i) (fun i => a.length - i) 0 (by simp) ?_ ?_
      · constructor <;> simp [EntF, EntH, EntB, Conv, scop]
      rintro i ⟨hi1, hi⟩
      repeat refine ok_seq ?_
      refine ok_reg E [0, 1, 5, 14] [] (by simp [-Option.some.injEq, -Prod.mk.injEq]; rfl) (by first | trivial | omega | simp | (simp; omega)) ?_
      repeat refine ok_seq ?_
      refine ok_if rfl (fun c2 => ?_) (fun c2 => ?_)
      · try simp at c2
        all_goals
          refine ok_skip ?_
          repeat refine ok_seq ?_
          refine ok_block ?_
          repeat refine ok_seq ?_
          refine ok_dr E rfl [0, 1, 5, 25] 9 [] (by decide) (by simp [nodupF]) (by simp [-Option.some.injEq, -Prod.mk.injEq]; rfl) (by first | trivial | omega | simp | (simp; omega)) ?_
          repeat refine ok_seq ?_
          refine ok_if rfl (fun c3 => ?_) (fun c3 => ?_)
          · try simp at c3
            all_goals
              repeat refine ok_seq ?_
              refine ok_reg E [4] [] (by simp [-Option.some.injEq, -Prod.mk.injEq]; rfl) (by first | trivial | omega | simp | (simp; omega)) ?_
              refine ok_ret ⟨.inr rfl, ?_⟩
              -- ret2
              simp (disch := omega) only [gi_lt] at c3
              simp [resAll, resL, resA, frozE]
              intro e; simp [e] at c3
          · try simp at c3
            all_goals
              refine ok_skip ?_
              repeat refine ok_seq ?_
              refine ok_reg E [0, 1, 5] [] (by simp [-Option.some.injEq, -Prod.mk.injEq]; rfl) (by first | trivial | omega | simp | (simp; omega)) ?_
              -- end01
              simp (disch := omega) only [gi_lt] at c3
              refine ⟨i + 1, ⟨by omega, ?_⟩, by omega, by constructor <;> simp (disch := omega) [EntF, EntH, EntB, Conv, scop, wrap_i64]⟩
              exact take_ne (by omega) (by omega) hi c3
      · try simp at c2
        all_goals
          refine ok_exit ?_
          repeat refine ok_seq ?_
          refine ok_reg E [4] [] (by simp [-Option.some.injEq, -Prod.mk.injEq]; rfl) (by first | trivial | omega | simp | (simp; omega)) ?_
          refine ok_ret ⟨.inr rfl, ?_⟩
          -- ret3
          simp [resAll, resL, resA, frozE]
          exact take_end (by omega) (by omega) hi

set_option maxRecDepth 8000 in
set_option maxHeartbeats 4000000 in
theorem sameAll_ctr (a b : List Term) : Ctr Tryz.prog 47 [.d (.sl (.sl .cell)) a, .d (.sl (.sl .cell)) b] [] (.d .bool (decide (a = b))) [] := by
  refine ctr_pure E Tryz.func47 rfl Tryz.ntmps47 Tryz.results47 (Nat.le_of_ble_eq_true rfl) rfl ?_
  repeat refine ok_seq ?_
  refine ok_reg E [0, 1] [] (by simp [-Option.some.injEq, -Prod.mk.injEq]; rfl) (by first | trivial | omega | simp | (simp; omega)) ?_
  repeat refine ok_seq ?_
  refine ok_reg E [0, 1, 10] [] (by simp [-Option.some.injEq, -Prod.mk.injEq]; rfl) (by first | trivial | omega | simp | (simp; omega)) ?_
  repeat refine ok_seq ?_
  refine ok_if rfl (fun c1 => ?_) (fun c1 => ?_)
  · try simp at c1
    all_goals
      repeat refine ok_seq ?_
      refine ok_reg E [4] [] (by simp [-Option.some.injEq, -Prod.mk.injEq]; rfl) (by first | trivial | omega | simp | (simp; omega)) ?_
      refine ok_ret ⟨.inr rfl, ?_⟩
      -- ret1
      simp [resAll, resL, resA, frozE]
      intro e; simp [e] at c1
  · try simp at c1
    all_goals
      refine ok_skip ?_
      repeat refine ok_seq ?_
      refine ok_reg E [0, 1, 5] [] (by simp [-Option.some.injEq, -Prod.mk.injEq]; rfl) (by first | trivial | omega | simp | (simp; omega)) ?_
      repeat refine ok_seq ?_
      refine ok_block ?_
      repeat refine ok_seq ?_
      refine ok_lenN 0 rfl fun ha => ?_
      refine ok_loop (σ := Nat) (fun i => [(0, .d (.sl (.sl .cell)) a), (1, .d (.sl (.sl .cell)) b), (5, .d .i (i : Int))]) (fun i => []) (fun i => i ≤ a.length ∧ a.take i = b.take i) (fun i => a.length - i) 0 (by simp) ?_ ?_
      · constructor <;> simp [EntF, EntH, EntB, Conv, scop]
      rintro i ⟨hi1, hi⟩
      repeat refine ok_seq ?_
      refine ok_reg E [0, 1, 5, 14] [] (by simp [-Option.some.injEq, -Prod.mk.injEq]; rfl) (by first | trivial | omega | simp | (simp; omega)) ?_
      repeat refine ok_seq ?_
      refine ok_if rfl (fun c2 => ?_) (fun c2 => ?_)
      · try simp at c2
        all_goals
          refine ok_skip ?_
          repeat refine ok_seq ?_
          refine ok_block ?_
          repeat refine ok_seq ?_
          refine ok_dr E rfl [0, 1, 5, 26] 10 [.pure (.d .bool (decide (gt a i = gt b i)))] (by decide) (by simp [nodupF]) (by simp [-Option.some.injEq, -Prod.mk.injEq]; rfl) (by (have k1 := same_ctr (gt a i) (gt b i); (try simp at k1); simp [k1]; try omega)) ?_
          repeat refine ok_seq ?_
          refine ok_if rfl (fun c3 => ?_) (fun c3 => ?_)
          · try simp at c3
            all_goals
              repeat refine ok_seq ?_
              refine ok_reg E [4] [] (by simp [-Option.some.injEq, -Prod.mk.injEq]; rfl) (by first | trivial | omega | simp | (simp; omega)) ?_
              refine ok_ret ⟨.inr rfl, ?_⟩
              -- ret2
              simp (disch := omega) only [gt_lt] at c3
              simp [resAll, resL, resA, frozE]
              intro e; simp [e] at c3
          · try simp at c3
            all_goals
              refine ok_skip ?_
              repeat refine ok_seq ?_
              refine ok_reg E [0, 1, 5] [] (by simp [-Option.some.injEq, -Prod.mk.injEq]; rfl) (by first | trivial | omega | simp | (simp; omega)) ?_
              -- end01
              simp (disch := omega) only [gt_lt] at c3
              refine ⟨i + 1, ⟨by omega, ?_⟩, by omega, by constructor <;> simp (disch := omega) [EntF, EntH, EntB, Conv, scop, wrap_i64]⟩
              exact take_ne (by omega) (by omega) hi c3
      · try simp at c2
        all_goals
          refine ok_exit ?_
          repeat refine ok_seq ?_
          refine ok_reg E [4] [] (by simp [-Option.some.injEq, -Prod.mk.injEq]; rfl) (by first | trivial | omega | simp | (simp; omega)) ?_
          refine ok_ret ⟨.inr rfl, ?_⟩
          -- ret3
          simp [resAll, resL, resA, frozE]
          exact take_end (by omega) (by omega) hi

set_option maxRecDepth 8000 in
set_option maxHeartbeats 4000000 in
theorem findR_ctr (g : Prg) (t : Term) (hl : g.atoms.length ≤ 1000000) : Ctr Tryz.prog 41 [pav g, .d .term t] [] (.d .i (findR g.atoms t)) [] := by
  refine ctr_pure E Tryz.func41 rfl Tryz.ntmps41 Tryz.results41 (Nat.le_of_ble_eq_true rfl) rfl ?_
  simp only [pav]
  repeat refine ok_seq ?_
  refine ok_reg E [1, 2] [] (by simp [-Option.some.injEq, -Prod.mk.injEq]; rfl) (by first | trivial | omega | simp | (simp; omega)) ?_
  repeat refine ok_seq ?_
  refine ok_reg E [1, 2, 5] [] (by simp [-Option.some.injEq, -Prod.mk.injEq]; rfl) (by first | trivial | omega | simp | (simp; omega)) ?_
  repeat refine ok_seq ?_
  refine ok_block ?_
  repeat refine ok_seq ?_
  refine ok_loop (σ := Nat) (fun i => [(1, .d .term t), (2, .ptr 0 0), (5, .d .i (i : Int))]) (fun i => [.cells [.d .terms g.atoms, .d (.sl .rule) g.rules]]) (fun i => i ≤ g.atoms.length ∧ idxP (fun x => decide (x = t)) (g.atoms.drop i) i = findR g.atoms t) (fun i => g.atoms.length - i) 0 ⟨by simp, rfl⟩ ?_ ?_
  · constructor <;> simp [EntF, EntH, EntB, Conv, scop]
  rintro i ⟨hi1, hi⟩
  repeat refine ok_seq ?_
  refine ok_reg E [1, 2, 5, 10] [] (by simp [-Option.some.injEq, -Prod.mk.injEq]; rfl) (by first | trivial | omega | simp | (simp; omega)) ?_
  repeat refine ok_seq ?_
  refine ok_if rfl (fun c1 => ?_) (fun c1 => ?_)
  · try simp at c1
    all_goals
      refine ok_skip ?_
      repeat refine ok_seq ?_
      refine ok_block ?_
      repeat refine ok_seq ?_
      refine ok_reg E [1, 2, 5, 19] [.pure (.d .bool (decide (gt g.atoms i = t)))] (by simp [-Option.some.injEq, -Prod.mk.injEq]; rfl) (by (have k1 := same_ctr (gt g.atoms i) t; (try simp at k1); simp [k1]; try omega)) ?_
      repeat refine ok_seq ?_
      refine ok_if rfl (fun c2 => ?_) (fun c2 => ?_)
      · try simp at c2
        all_goals
          repeat refine ok_seq ?_
          refine ok_reg E [4] [] (by simp [-Option.some.injEq, -Prod.mk.injEq]; rfl) (by first | trivial | omega | simp | (simp; omega)) ?_
          refine ok_ret ⟨.inr rfl, ?_⟩
          -- ret1
          simp [resAll, resL, resA, frozE]
          rw [← hi, List.drop_eq_getElem_cons c1, idxP, ← gt_lt c1, if_pos (by simpa using c2)]
      · try simp at c2
        all_goals
          refine ok_skip ?_
          repeat refine ok_seq ?_
          refine ok_reg E [1, 2, 5] [] (by simp [-Option.some.injEq, -Prod.mk.injEq]; rfl) (by first | trivial | omega | simp | (simp; omega)) ?_
          -- end01
          exact ⟨i + 1, ⟨by omega, by rw [← hi, List.drop_eq_getElem_cons c1, idxP, ← gt_lt c1, if_neg (by simpa using c2)]⟩, by omega, by constructor <;> simp (disch := omega) [EntF, EntH, EntB, Conv, scop, wrap_i64]⟩
  · try simp at c1
    all_goals
      refine ok_exit ?_
      repeat refine ok_seq ?_
      refine ok_reg E [4] [] (by simp [-Option.some.injEq, -Prod.mk.injEq]; rfl) (by first | trivial | omega | simp | (simp; omega)) ?_
      refine ok_ret ⟨.inr rfl, ?_⟩
      -- ret2
      simp [resAll, resL, resA, frozE]
      rw [← hi, List.drop_of_length_le (by omega)]; rfl

set_option maxRecDepth 8000 in
set_option maxHeartbeats 4000000 in
theorem ofRR_ctr (g : Prg) (n : Int) (hr : g.rules.length ≤ 1000) : Ctr Tryz.prog 43 [pav g, .d .i n] [] (.d .ints (ofR g.rules n g.rules.length)) [] := by
  refine ctr_pure E Tryz.func43 rfl Tryz.ntmps43 Tryz.results43 (Nat.le_of_ble_eq_true rfl) rfl ?_
  simp only [pav]
  repeat refine ok_seq ?_
  refine ok_reg E [1, 2] [] (by simp [-Option.some.injEq, -Prod.mk.injEq]; rfl) (by first | trivial | omega | simp | (simp; omega)) ?_
  repeat refine ok_seq ?_
  refine ok_reg E [1, 2, 5] [] (by simp [-Option.some.injEq, -Prod.mk.injEq]; rfl) (by first | trivial | omega | simp | (simp; omega)) ?_
  repeat refine ok_seq ?_
  refine ok_reg E [1, 2, 5, 6] [] (by simp [-Option.some.injEq, -Prod.mk.injEq]; rfl) (by first | trivial | omega | simp | (simp; omega)) ?_
  repeat refine ok_seq ?_
  refine ok_block ?_
  repeat refine ok_seq ?_
  refine ok_loop (σ := Nat) (fun i => [(1, .d .i n), (2, .ptr 0 0), (5, .orow 1), (6, .d .i (i : Int))]) (fun i => [.cells [.d .terms g.atoms, .d (.sl .rule) g.rules], .orow 3 .i (ofR g.rules n i)]) (fun i => i ≤ g.rules.length) (fun i => g.rules.length - i) 0 (by simp) ?_ ?_
  · constructor <;> simp [EntF, EntH, EntB, Conv, scop, ofR]
  rintro i hi
  have k2 := ofR_len g.rules n i
  have e1 := ofR_step g.rules n i
  repeat refine ok_seq ?_
  refine ok_reg E [1, 2, 5, 6, 12] [] (by simp [-Option.some.injEq, -Prod.mk.injEq]; rfl) (by first | trivial | omega | simp | (simp; omega)) ?_
  repeat refine ok_seq ?_
  refine ok_if rfl (fun c1 => ?_) (fun c1 => ?_)
  · try simp at c1
    all_goals
      refine ok_skip ?_
      repeat refine ok_seq ?_
      refine ok_block ?_
      repeat refine ok_seq ?_
      refine ok_reg E [1, 2, 5, 6, 22] [] (by simp [-Option.some.injEq, -Prod.mk.injEq]; rfl) (by first | trivial | omega | simp | (simp; omega)) ?_
      repeat refine ok_seq ?_
      refine ok_if rfl (fun c2 => ?_) (fun c2 => ?_)
      · try simp at c2
        all_goals
          repeat refine ok_seq ?_
          refine ok_reg E [1, 2, 5, 6] [] (by simp [-Option.some.injEq, -Prod.mk.injEq]; rfl) (by simp [big]; omega) ?_
          repeat refine ok_seq ?_
          refine ok_reg E [1, 2, 5, 6] [] (by simp [-Option.some.injEq, -Prod.mk.injEq]; rfl) (by first | trivial | omega | simp | (simp; omega)) ?_
          -- end01
          rw [if_pos c2] at e1
          exact ⟨i + 1, by omega, by omega, by constructor <;> simp (disch := omega) [EntF, EntH, EntB, Conv, scop, wrap_i64, e1]⟩
      · try simp at c2
        all_goals
          refine ok_skip ?_
          repeat refine ok_seq ?_
          refine ok_reg E [1, 2, 5, 6] [] (by simp [-Option.some.injEq, -Prod.mk.injEq]; rfl) (by first | trivial | omega | simp | (simp; omega)) ?_
          -- end02
          rw [if_neg c2, List.append_nil] at e1
          exact ⟨i + 1, by omega, by omega, by constructor <;> simp (disch := omega) [EntF, EntH, EntB, Conv, scop, wrap_i64, e1]⟩
  · try simp at c1
    all_goals
      refine ok_exit ?_
      repeat refine ok_seq ?_
      refine ok_reg E [4] [] (by simp [-Option.some.injEq, -Prod.mk.injEq]; rfl) (by first | trivial | omega | simp | (simp; omega)) ?_
      refine ok_ret ⟨.inr rfl, ?_⟩
      -- ret1
      simp [resAll, resL, resA, frozE]
      rw [show i = g.rules.length by omega]

set_option maxRecDepth 8000 in
set_option maxHeartbeats 4000000 in
theorem sameP_ctr (a b : Prg) (hl : a.rules.length ≤ 1000000) : Ctr Tryz.prog 29 [pav a, pav b] [] (.d .bool (decide (SameP a b))) [] := by
  refine ctr_pure E Tryz.func29 rfl Tryz.ntmps29 Tryz.results29 (Nat.le_of_ble_eq_true rfl) rfl ?_
  simp only [pav]
  have k1 := sameAll_ctr a.atoms b.atoms
  repeat refine ok_seq ?_
  refine ok_reg E [2, 3] [] (by simp [-Option.some.injEq, -Prod.mk.injEq]; rfl) (by first | trivial | omega | simp | (simp; omega)) ?_
  repeat refine ok_seq ?_
  refine ok_regJ E [(20, .d .bool (decide (¬ (a.rules.length = b.rules.length ∧ a.atoms = b.atoms))))] [2, 3] [2, 3, 20] [.pure (.d .bool (decide (a.atoms = b.atoms)))] ?_ ?_
  · skip
    by_cases q0 : (a.rules.length : Int) = b.rules.length
    rotate_left
    · refine ⟨_, _, _, by simp [q0, -Option.some.injEq, -Prod.mk.injEq]; rfl, (by first | trivial | (simp_all; done) | (simp_all; omega)), by constructor <;> simp [EntF, EntH, EntB, Conv, scop, q0] <;> first | omega | (rw [Bool.eq_iff_iff]; simp; omega)⟩
    by_cases q1 : a.atoms = b.atoms <;> (
    refine ⟨_, _, _, by simp [q0, q1, -Option.some.injEq, -Prod.mk.injEq]; rfl, (by first | trivial | (simp_all; done) | (simp_all; omega)), by constructor <;> simp [EntF, EntH, EntB, Conv, scop, q0, q1] <;> first | omega | (rw [Bool.eq_iff_iff]; simp; omega)⟩)
  repeat refine ok_seq ?_
  refine ok_if rfl (fun c1 => ?_) (fun c1 => ?_)
  · try simp at c1
    all_goals
      repeat refine ok_seq ?_
      refine ok_reg E [4] [] (by simp [-Option.some.injEq, -Prod.mk.injEq]; rfl) (by first | trivial | omega | simp | (simp; omega)) ?_
      refine ok_ret ⟨.inr rfl, ?_⟩
      -- ret1
      simp [resAll, resL, resA, frozE]
      intro h; have h1 := h.1; have h2 := h.2.1; simp_all
  · try simp at c1
    all_goals
      refine ok_skip ?_
      repeat refine ok_seq ?_
      refine ok_reg E [2, 3, 5] [] (by simp [-Option.some.injEq, -Prod.mk.injEq]; rfl) (by first | trivial | omega | simp | (simp; omega)) ?_
      repeat refine ok_seq ?_
      refine ok_block ?_
      repeat refine ok_seq ?_
      refine ok_loop (σ := Nat) (fun i => [(2, .ptr 0 0), (3, .ptr 1 0), (5, .d .i (i : Int))]) (fun i => [.cells [.d .terms a.atoms, .d (.sl .rule) a.rules], .cells [.d .terms b.atoms, .d (.sl .rule) b.rules]]) (fun i => i ≤ a.rules.length ∧ ∀ j : Nat, j < i → rOrder (gr a.rules j) (gr b.rules j) = 0) (fun i => a.rules.length - i) 0 (by simp) ?_ ?_
      · constructor <;> simp [EntF, EntH, EntB, Conv, scop]
      rintro i ⟨hi1, hi⟩
      repeat refine ok_seq ?_
      refine ok_reg E [2, 3, 5, 25] [] (by simp [-Option.some.injEq, -Prod.mk.injEq]; rfl) (by first | trivial | omega | simp | (simp; omega)) ?_
      repeat refine ok_seq ?_
      refine ok_if rfl (fun c2 => ?_) (fun c2 => ?_)
      · try simp at c2
        all_goals
          refine ok_skip ?_
          repeat refine ok_seq ?_
          refine ok_block ?_
          repeat refine ok_seq ?_
          refine ok_dr E rfl [2, 3, 5, 39] 12 [.pure (.d .i (rOrder (gr a.rules i) (gr b.rules i)))] (by decide) (by simp [nodupF]) (by simp [-Option.some.injEq, -Prod.mk.injEq]; rfl) (by (have k1 := order_ctr (gr a.rules i) (gr b.rules i); (try simp at k1); simp [k1]; try omega)) ?_
          repeat refine ok_seq ?_
          refine ok_if rfl (fun c3 => ?_) (fun c3 => ?_)
          · try simp at c3
            all_goals
              repeat refine ok_seq ?_
              refine ok_reg E [4] [] (by simp [-Option.some.injEq, -Prod.mk.injEq]; rfl) (by first | trivial | omega | simp | (simp; omega)) ?_
              refine ok_ret ⟨.inr rfl, ?_⟩
              -- ret2
              simp [resAll, resL, resA, frozE]
              intro h; exact c3 (h.2.2 i c2)
          · try simp at c3
            all_goals
              refine ok_skip ?_
              repeat refine ok_seq ?_
              refine ok_reg E [2, 3, 5] [] (by simp [-Option.some.injEq, -Prod.mk.injEq]; rfl) (by first | trivial | omega | simp | (simp; omega)) ?_
              -- end01
              exact ⟨i + 1, ⟨by omega, fun j hj => by by_cases e : j = i; subst e; exact c3; exact hi j (by omega)⟩, by omega, by constructor <;> simp (disch := omega) [EntF, EntH, EntB, Conv, scop, wrap_i64]⟩
      · try simp at c2
        all_goals
          refine ok_exit ?_
          repeat refine ok_seq ?_
          refine ok_reg E [4] [] (by simp [-Option.some.injEq, -Prod.mk.injEq]; rfl) (by first | trivial | omega | simp | (simp; omega)) ?_
          refine ok_ret ⟨.inr rfl, ?_⟩
          -- ret3
          simp [resAll, resL, resA, frozE]
          exact ⟨c1.1, c1.2, fun j hj => hi j (by omega)⟩

set_option maxRecDepth 8000 in
set_option maxHeartbeats 4000000 in
theorem putI_ctr (l : List Int) (n : Int) (hl : l.length ≤ 1000000) : Ctr Tryz.prog 179 [.d .ints l, .d .i n] [] (.d .ints (putBy subI l n)) [] := by
  refine ctr_pure E Tryz.func179 rfl Tryz.ntmps179 Tryz.results179 (Nat.le_of_ble_eq_true rfl) rfl ?_
  repeat refine ok_seq ?_
  refine ok_reg E [0, 1] [] (by simp [-Option.some.injEq, -Prod.mk.injEq]; rfl) (by first | trivial | omega | simp | (simp; omega)) ?_
  repeat refine ok_seq ?_
  refine ok_reg E [0, 1, 5] [] (by simp [-Option.some.injEq, -Prod.mk.injEq]; rfl) (by first | trivial | omega | simp | (simp; omega)) ?_
  repeat refine ok_seq ?_
  refine ok_block ?_
  repeat refine ok_seq ?_
  refine ok_loop (σ := Nat) (fun i => [(0, .d .ints l), (1, .d .i n), (5, .d .i (i : Int))]) (fun i => []) (fun i => i ≤ l.length ∧ ∀ j : Nat, j < i → gi l j < n) (fun i => l.length - i) 0 (by simp) ?_ ?_
  · constructor <;> simp [EntF, EntH, EntB, Conv, scop]
  rintro i ⟨hi1, hi⟩
  repeat refine ok_seq ?_
  refine ok_regJ E [(18, .d .bool (decide (i < l.length ∧ gi l i < n)))] [0, 1, 5] [0, 1, 5, 18] [] ?_ ?_
  · skip
    by_cases q0 : i < l.length
    rotate_left
    · refine ⟨_, _, _, by simp [q0, -Option.some.injEq, -Prod.mk.injEq]; rfl, (by first | trivial | omega | simp | (simp; omega)), by constructor <;> simp [EntF, EntH, EntB, Conv, scop, q0] <;> first | omega | (rw [Bool.eq_iff_iff]; simp; omega)⟩
    by_cases q1 : gi l i < n <;> (
    refine ⟨_, _, _, by simp [q0, q1, -Option.some.injEq, -Prod.mk.injEq]; rfl, (by first | trivial | omega | simp | (simp; omega)), by constructor <;> simp [EntF, EntH, EntB, Conv, scop, q0, q1] <;> first | omega | (rw [Bool.eq_iff_iff]; simp; omega)⟩)
  repeat refine ok_seq ?_
  refine ok_if rfl (fun c1 => ?_) (fun c1 => ?_)
  · try simp at c1
    all_goals
      refine ok_skip ?_
      repeat refine ok_seq ?_
      refine ok_block ?_
      repeat refine ok_seq ?_
      refine ok_reg E [0, 1, 5] [] (by simp [-Option.some.injEq, -Prod.mk.injEq]; rfl) (by first | trivial | omega | simp | (simp; omega)) ?_
      -- end01
      exact ⟨i + 1, ⟨by omega, fun j hj => by by_cases e : j = i; subst e; exact c1.2; exact hi j (by omega)⟩, by omega, by constructor <;> simp (disch := omega) [EntF, EntH, EntB, Conv, scop, wrap_i64]⟩
  · try simp at c1
    all_goals
      refine ok_exit ?_
      repeat refine ok_seq ?_
      refine ok_regJ E [(32, .d .bool (decide (i < l.length ∧ gi l i = n)))] [0, 1, 5] [0, 1, 5, 32] [] ?_ ?_
      · skip
        by_cases q0 : i < l.length
        rotate_left
        · refine ⟨_, _, _, by simp [q0, -Option.some.injEq, -Prod.mk.injEq]; rfl, (by first | trivial | omega | simp | (simp; omega)), by constructor <;> simp [EntF, EntH, EntB, Conv, scop, q0] <;> first | omega | (rw [Bool.eq_iff_iff]; simp; omega)⟩
        by_cases q1 : gi l i = n <;> (
        refine ⟨_, _, _, by simp [q0, q1, -Option.some.injEq, -Prod.mk.injEq]; rfl, (by first | trivial | omega | simp | (simp; omega)), by constructor <;> simp [EntF, EntH, EntB, Conv, scop, q0, q1] <;> first | omega | (rw [Bool.eq_iff_iff]; simp; omega)⟩)
      repeat refine ok_seq ?_
      refine ok_if rfl (fun c2 => ?_) (fun c2 => ?_)
      · try simp at c2
        all_goals
          repeat refine ok_seq ?_
          refine ok_reg E [4] [] (by simp [-Option.some.injEq, -Prod.mk.injEq]; rfl) (by first | trivial | omega | simp | (simp; omega)) ?_
          refine ok_ret ⟨.inr rfl, ?_⟩
          -- ret1
          simp [resAll, resL, resA, frozE]
          have h0 := putBy_at subI n l i hi1 (fun j h h2 => by have := hi j h2; rw [gi_lt h] at this; simp only [subI]; omega)
          rw [gi_lt c2.1] at c2
          have h1 : putBy subI (l.drop i) n = l.drop i := by
            rw [List.drop_eq_getElem_cons c2.1, putBy, if_neg (by simp only [subI]; omega), if_pos (by simp only [subI]; omega)]
          rw [h0, h1, List.take_append_drop]
      · try simp at c2
        all_goals
          refine ok_skip ?_
          repeat refine ok_seq ?_
          refine ok_reg E [0, 1, 5, 6] [] (by simp [-Option.some.injEq, -Prod.mk.injEq]; rfl) (by simp [big]; omega) ?_
          repeat refine ok_seq ?_
          refine ok_reg E [0, 5, 6] [] (by simp [-Option.some.injEq, -Prod.mk.injEq]; rfl) (by simp [big]; omega) ?_
          repeat refine ok_seq ?_
          refine ok_reg E [4] [] (by simp [-Option.some.injEq, -Prod.mk.injEq]; rfl) (by simp [big]; omega) ?_
          refine ok_ret ⟨.inr rfl, ?_⟩
          -- ret2
          simp [resAll, resL, resA, frozE]
          have h0 := putBy_at subI n l i hi1 (fun j h h2 => by have := hi j h2; rw [gi_lt h] at this; simp only [subI]; omega)
          rw [h0]
          congr 1
          by_cases h : i < l.length
          · have c3 := c1 h
            have c4 := c2 h
            rw [gi_lt h] at c3 c4
            rw [List.drop_eq_getElem_cons h, putBy, if_neg (by simp only [subI]; omega), if_neg (by simp only [subI]; omega)]
          · rw [List.drop_of_length_le (by omega)]; rfl

set_option maxRecDepth 8000 in
set_option maxHeartbeats 4000000 in
theorem putT_ctr (l : List Term) (n : Term) (hl : l.length ≤ 1000000) : Ctr Tryz.prog 112 [.d (.sl .term) l, .d .term n] [] (.d (.sl .term) (putBy cmpT l n)) [] := by
  refine ctr_pure E Tryz.func112 rfl Tryz.ntmps112 Tryz.results112 (Nat.le_of_ble_eq_true rfl) rfl ?_
  repeat refine ok_seq ?_
  refine ok_reg E [0, 1] [] (by simp [-Option.some.injEq, -Prod.mk.injEq]; rfl) (by first | trivial | omega | simp | (simp; omega)) ?_
  repeat refine ok_seq ?_
  refine ok_reg E [0, 1, 5] [] (by simp [-Option.some.injEq, -Prod.mk.injEq]; rfl) (by first | trivial | omega | simp | (simp; omega)) ?_
  repeat refine ok_seq ?_
  refine ok_block ?_
  repeat refine ok_seq ?_
  refine ok_loop (σ := Nat) (fun i => [(0, .d (.sl .term) l), (1, .d .term n), (5, .d .i (i : Int))]) (fun i => []) (fun i => i ≤ l.length ∧ ∀ j : Nat, j < i → cmpT (gt l j) n < 0) (fun i => l.length - i) 0 (by simp) ?_ ?_
  · constructor <;> simp [EntF, EntH, EntB, Conv, scop]
  rintro i ⟨hi1, hi⟩
  repeat refine ok_seq ?_
  refine ok_regJ E [(19, .d .bool (decide (i < l.length ∧ cmpT (gt l i) n < 0)))] [0, 1, 5] [0, 1, 5, 19] [.pure (.d .i (cmpT (gt l i) n))] ?_ ?_
  · skip
    by_cases q0 : i < l.length
    rotate_left
    · refine ⟨_, _, _, by simp [q0, -Option.some.injEq, -Prod.mk.injEq]; rfl, (by first | trivial | (have k1 := cmpT_ctr (gt l i) n; (try simp at k1); simp [k1]; try omega) | (have k1 := cmpT_ctr (gt l i) n; simp_all; done) | (have k1 := cmpT_ctr (gt l i) n; simp_all; omega)), by constructor <;> simp [EntF, EntH, EntB, Conv, scop, q0] <;> first | omega | (rw [Bool.eq_iff_iff]; simp; omega)⟩
    by_cases q1 : cmpT (gt l i) n < 0 <;> (
    refine ⟨_, _, _, by simp [q0, q1, -Option.some.injEq, -Prod.mk.injEq]; rfl, (by first | trivial | (have k1 := cmpT_ctr (gt l i) n; (try simp at k1); simp [k1]; try omega) | (have k1 := cmpT_ctr (gt l i) n; simp_all; done) | (have k1 := cmpT_ctr (gt l i) n; simp_all; omega)), by constructor <;> simp [EntF, EntH, EntB, Conv, scop, q0, q1] <;> first | omega | (rw [Bool.eq_iff_iff]; simp; omega)⟩)
  repeat refine ok_seq ?_
  refine ok_if rfl (fun c1 => ?_) (fun c1 => ?_)
  · try simp at c1
    all_goals
      refine ok_skip ?_
      repeat refine ok_seq ?_
      refine ok_block ?_
      repeat refine ok_seq ?_
      refine ok_reg E [0, 1, 5] [] (by simp [-Option.some.injEq, -Prod.mk.injEq]; rfl) (by first | trivial | omega | simp | (simp; omega)) ?_
      -- end01
      exact ⟨i + 1, ⟨by omega, fun j hj => by by_cases e : j = i; subst e; exact c1.2; exact hi j (by omega)⟩, by omega, by constructor <;> simp (disch := omega) [EntF, EntH, EntB, Conv, scop, wrap_i64]⟩
  · try simp at c1
    all_goals
      refine ok_exit ?_
      repeat refine ok_seq ?_
      refine ok_regJ E [(34, .d .bool (decide (i < l.length ∧ cmpT (gt l i) n = 0)))] [0, 1, 5] [0, 1, 5, 34] [.pure (.d .i (cmpT (gt l i) n))] ?_ ?_
      · skip
        by_cases q0 : i < l.length
        rotate_left
        · refine ⟨_, _, _, by simp [q0, -Option.some.injEq, -Prod.mk.injEq]; rfl, (by first | trivial | (have k1 := cmpT_ctr (gt l i) n; (try simp at k1); simp [k1]; try omega) | (have k1 := cmpT_ctr (gt l i) n; simp_all; done) | (have k1 := cmpT_ctr (gt l i) n; simp_all; omega)), by constructor <;> simp [EntF, EntH, EntB, Conv, scop, q0] <;> first | omega | (rw [Bool.eq_iff_iff]; simp; omega)⟩
        by_cases q1 : cmpT (gt l i) n = 0 <;> (
        refine ⟨_, _, _, by simp [q0, q1, -Option.some.injEq, -Prod.mk.injEq]; rfl, (by first | trivial | (have k1 := cmpT_ctr (gt l i) n; (try simp at k1); simp [k1]; try omega) | (have k1 := cmpT_ctr (gt l i) n; simp_all; done) | (have k1 := cmpT_ctr (gt l i) n; simp_all; omega)), by constructor <;> simp [EntF, EntH, EntB, Conv, scop, q0, q1] <;> first | omega | (rw [Bool.eq_iff_iff]; simp; omega)⟩)
      repeat refine ok_seq ?_
      refine ok_if rfl (fun c2 => ?_) (fun c2 => ?_)
      · try simp at c2
        all_goals
          repeat refine ok_seq ?_
          refine ok_reg E [4] [] (by simp [-Option.some.injEq, -Prod.mk.injEq]; rfl) (by first | trivial | omega | simp | (simp; omega)) ?_
          refine ok_ret ⟨.inr rfl, ?_⟩
          -- ret1
          simp [resAll, resL, resA, frozE]
          have h0 := putBy_at cmpT n l i hi1 (fun j h h2 => by have := hi j h2; rwa [gt_lt h] at this)
          rw [gt_lt c2.1] at c2
          have h1 : putBy cmpT (l.drop i) n = l.drop i := by
            rw [List.drop_eq_getElem_cons c2.1, putBy, if_neg (by omega), if_pos c2.2]
          rw [h0, h1, List.take_append_drop]
      · try simp at c2
        all_goals
          refine ok_skip ?_
          repeat refine ok_seq ?_
          refine ok_reg E [0, 1, 5, 6] [] (by simp [-Option.some.injEq, -Prod.mk.injEq]; rfl) (by first | trivial | (simp [big]; omega) | (simp [big]; done) | (unfold big; omega)) ?_
          repeat refine ok_seq ?_
          refine ok_reg E [0, 5, 6] [] (by simp [-Option.some.injEq, -Prod.mk.injEq]; rfl) (by first | trivial | (simp [big]; omega)) ?_
          repeat refine ok_seq ?_
          refine ok_reg E [4] [] (by simp [-Option.some.injEq, -Prod.mk.injEq]; rfl) (by first | trivial | (simp [big]; omega) | (unfold big; omega)) ?_
          refine ok_ret ⟨.inr rfl, ?_⟩
          -- ret2
          simp [resAll, resL, resA, frozE]
          have h0 := putBy_at cmpT n l i hi1 (fun j h h2 => by have := hi j h2; rwa [gt_lt h] at this)
          rw [h0]
          congr 1
          by_cases h : i < l.length
          · have c3 := c1 h
            have c4 := c2 h
            rw [gt_lt h] at c3 c4
            rw [List.drop_eq_getElem_cons h, putBy, if_neg (by omega), if_neg c4]
          · rw [List.drop_of_length_le (by omega)]; rfl

set_option maxRecDepth 8000 in
set_option maxHeartbeats 4000000 in
theorem putR_ctr (l : List Rule) (n : Rule) (hl : l.length ≤ 1000000) : Ctr Tryz.prog 113 [.d (.sl .rule) l, avOf .rule n] [] (.d (.sl .rule) (putBy rOrder l n)) [] := by
  refine ctr_pure E Tryz.func113 rfl Tryz.ntmps113 Tryz.results113 (Nat.le_of_ble_eq_true rfl) rfl ?_
  repeat refine ok_seq ?_
  refine ok_reg E [0, 3] [] (by simp [-Option.some.injEq, -Prod.mk.injEq]; rfl) (by first | trivial | omega | simp | (simp; omega)) ?_
  repeat refine ok_seq ?_
  refine ok_reg E [0, 3, 5] [] (by simp [-Option.some.injEq, -Prod.mk.injEq]; rfl) (by first | trivial | omega | simp | (simp; omega)) ?_
  repeat refine ok_seq ?_
  refine ok_block ?_
  repeat refine ok_seq ?_
  refine ok_loop (σ := Nat) (fun i => [(0, .d (.sl .rule) l), (3, .ptr 0 0), (5, .d .i (i : Int))]) (fun i => [.cells [.d .i n.head, .d .ints n.pos, .d .ints n.neg]]) (fun i => i ≤ l.length ∧ ∀ j : Nat, j < i → rOrder (gr l j) n < 0) (fun i => l.length - i) 0 (by simp) ?_ ?_
  · constructor <;> simp [EntF, EntH, EntB, Conv, scop]
  rintro i ⟨hi1, hi⟩
  repeat refine ok_seq ?_
  refine ok_drJ E rfl [(19, .d .bool (decide (i < l.length ∧ rOrder (gr l i) n < 0)))] [0, 3, 5] [0, 3, 5, 19] 13 [.pure (.d .i (rOrder (gr l i) n))] (by decide) (by simp [nodupF]) ?_ ?_
  · skip
    by_cases q0 : i < l.length
    rotate_left
    · refine ⟨_, _, _, by simp [q0, -Option.some.injEq, -Prod.mk.injEq]; rfl, (by first | trivial | (have k1 := order_ctr (gr l i) n; (try simp at k1); simp [k1]; try omega) | (have k1 := order_ctr (gr l i) n; simp_all; done) | (have k1 := order_ctr (gr l i) n; simp_all; omega)), by constructor <;> simp [EntF, EntH, EntB, Conv, scop, q0] <;> first | omega | (rw [Bool.eq_iff_iff]; simp; omega)⟩
    by_cases q1 : rOrder (gr l i) n < 0 <;> (
    refine ⟨_, _, _, by simp [q0, q1, -Option.some.injEq, -Prod.mk.injEq]; rfl, (by first | trivial | (have k1 := order_ctr (gr l i) n; (try simp at k1); simp [k1]; try omega) | (have k1 := order_ctr (gr l i) n; simp_all; done) | (have k1 := order_ctr (gr l i) n; simp_all; omega)), by constructor <;> simp [EntF, EntH, EntB, Conv, scop, q0, q1] <;> first | omega | (rw [Bool.eq_iff_iff]; simp; omega)⟩)
  repeat refine ok_seq ?_
  refine ok_if rfl (fun c1 => ?_) (fun c1 => ?_)
  · try simp at c1
    all_goals
      refine ok_skip ?_
      repeat refine ok_seq ?_
      refine ok_block ?_
      repeat refine ok_seq ?_
      refine ok_reg E [0, 3, 5] [] (by simp [-Option.some.injEq, -Prod.mk.injEq]; rfl) (by first | trivial | omega | simp | (simp; omega)) ?_
      -- end01
      exact ⟨i + 1, ⟨by omega, fun j hj => by by_cases e : j = i; subst e; exact c1.2; exact hi j (by omega)⟩, by omega, by constructor <;> simp (disch := omega) [EntF, EntH, EntB, Conv, scop, wrap_i64]⟩
  · try simp at c1
    all_goals
      refine ok_exit ?_
      repeat refine ok_seq ?_
      refine ok_drJ E rfl [(34, .d .bool (decide (i < l.length ∧ rOrder (gr l i) n = 0)))] [0, 3, 5] [0, 3, 5, 34] 13 [.pure (.d .i (rOrder (gr l i) n))] (by decide) (by simp [nodupF]) ?_ ?_
      · skip
        by_cases q0 : i < l.length
        rotate_left
        · refine ⟨_, _, _, by simp [q0, -Option.some.injEq, -Prod.mk.injEq]; rfl, (by first | trivial | (have k1 := order_ctr (gr l i) n; (try simp at k1); simp [k1]; try omega) | (have k1 := order_ctr (gr l i) n; simp_all; done) | (have k1 := order_ctr (gr l i) n; simp_all; omega)), by constructor <;> simp [EntF, EntH, EntB, Conv, scop, q0] <;> first | omega | (rw [Bool.eq_iff_iff]; simp; omega)⟩
        by_cases q1 : rOrder (gr l i) n = 0 <;> (
        refine ⟨_, _, _, by simp [q0, q1, -Option.some.injEq, -Prod.mk.injEq]; rfl, (by first | trivial | (have k1 := order_ctr (gr l i) n; (try simp at k1); simp [k1]; try omega) | (have k1 := order_ctr (gr l i) n; simp_all; done) | (have k1 := order_ctr (gr l i) n; simp_all; omega)), by constructor <;> simp [EntF, EntH, EntB, Conv, scop, q0, q1] <;> first | omega | (rw [Bool.eq_iff_iff]; simp; omega)⟩)
      repeat refine ok_seq ?_
      refine ok_if rfl (fun c2 => ?_) (fun c2 => ?_)
      · try simp at c2
        all_goals
          repeat refine ok_seq ?_
          refine ok_reg E [4] [] (by simp [-Option.some.injEq, -Prod.mk.injEq]; rfl) (by first | trivial | omega | simp | (simp; omega)) ?_
          refine ok_ret ⟨.inr rfl, ?_⟩
          -- ret1
          simp [resAll, resL, resA, frozE]
          have h0 := putBy_at rOrder n l i hi1 (fun j h h2 => by have := hi j h2; rwa [gr_lt h] at this)
          rw [gr_lt c2.1] at c2
          have h1 : putBy rOrder (l.drop i) n = l.drop i := by
            rw [List.drop_eq_getElem_cons c2.1, putBy, if_neg (by omega), if_pos c2.2]
          rw [h0, h1, List.take_append_drop]
      · try simp at c2
        all_goals
          refine ok_skip ?_
          repeat refine ok_seq ?_
          refine ok_reg E [0, 3, 5, 6] [] (by simp [-Option.some.injEq, -Prod.mk.injEq]; rfl) (by first | trivial | (simp [big]; omega) | (simp [big]; done) | (unfold big; omega)) ?_
          repeat refine ok_seq ?_
          refine ok_reg E [0, 5, 6] [] (by simp [-Option.some.injEq, -Prod.mk.injEq]; rfl) (by first | trivial | (simp [big]; omega)) ?_
          repeat refine ok_seq ?_
          refine ok_reg E [4] [] (by simp [-Option.some.injEq, -Prod.mk.injEq]; rfl) (by first | trivial | (simp [big]; omega) | (unfold big; omega)) ?_
          refine ok_ret ⟨.inr rfl, ?_⟩
          -- ret2
          simp [resAll, resL, resA, frozE]
          have h0 := putBy_at rOrder n l i hi1 (fun j h h2 => by have := hi j h2; rwa [gr_lt h] at this)
          rw [h0]
          congr 1
          by_cases h : i < l.length
          · have c3 := c1 h
            have c4 := c2 h
            rw [gr_lt h] at c3 c4
            rw [List.drop_eq_getElem_cons h, putBy, if_neg (by omega), if_neg c4]
          · rw [List.drop_of_length_le (by omega)]; rfl

end Go.Proofs.YtgapiecbinplfaaGreat
/- Walks: more of the document's answer to layer 16. Printed by walk.py from annotations. -/
namespace Go.Proofs.YtgapiecbinplfaaGreat
open Go.RowKit


set_option maxRecDepth 8000 in
set_option maxHeartbeats 4000000 in
theorem nameT_ctr (s : List UInt8) : Ctr Tryz.prog 106 [.d .str s] [] (.d .term (nameT s)) [] := by
  refine ctr_pure E Tryz.func106 rfl Tryz.ntmps106 Tryz.results106 (Nat.le_of_ble_eq_true rfl) rfl ?_
  repeat refine ok_seq ?_
  refine ok_reg E [0] [] (by simp [-Option.some.injEq, -Prod.mk.injEq]; rfl) (by first | trivial | omega | simp | (simp; omega)) ?_
  repeat refine ok_seq ?_
  refine ok_reg E [2] [] (by simp [-Option.some.injEq, -Prod.mk.injEq]; rfl) (by first | trivial | omega | simp | (simp; omega)) ?_
  refine ok_ret ⟨.inr rfl, ?_⟩
  -- ret1
  simp [nameT]

set_option maxRecDepth 8000 in
set_option maxHeartbeats 4000000 in
theorem placeI_ctr (l : List Int) (n : Int) : Ctr Tryz.prog 181 [.d .ints l, .d .i n] [] (.d .i (placeI l n)) [] := by
  refine ctr_pure E Tryz.func181 rfl Tryz.ntmps181 Tryz.results181 (Nat.le_of_ble_eq_true rfl) rfl ?_
  repeat refine ok_seq ?_
  refine ok_reg E [0, 1] [] (by simp [-Option.some.injEq, -Prod.mk.injEq]; rfl) (by first | trivial | omega | simp | (simp; omega)) ?_
  repeat refine ok_seq ?_
  refine ok_reg E [0, 1, 5] [] (by simp [-Option.some.injEq, -Prod.mk.injEq]; rfl) (by first | trivial | omega | simp | (simp; omega)) ?_
  repeat refine ok_seq ?_
  refine ok_block ?_
  repeat refine ok_seq ?_
  refine ok_lenN 0 rfl fun ha => ?_
  refine ok_loop (σ := Nat) (fun i => [(0, .d .ints l), (1, .d .i n), (5, .d .i (i : Int))]) (fun i => []) (fun i => i ≤ l.length ∧ idxP (fun x => decide (x = n)) (l.drop i) i = placeI l n) (fun i => l.length - i) 0 ⟨by simp, rfl⟩ ?_ ?_
  · constructor <;> simp [EntF, EntH, EntB, Conv, scop]
  rintro i ⟨hi1, hi⟩
  repeat refine ok_seq ?_
  refine ok_reg E [0, 1, 5, 9] [] (by simp [-Option.some.injEq, -Prod.mk.injEq]; rfl) (by first | trivial | omega | simp | (simp; omega)) ?_
  repeat refine ok_seq ?_
  refine ok_if rfl (fun c1 => ?_) (fun c1 => ?_)
  · try simp at c1
    all_goals
      refine ok_skip ?_
      repeat refine ok_seq ?_
      refine ok_block ?_
      repeat refine ok_seq ?_
      refine ok_reg E [0, 1, 5, 17] [] (by simp [-Option.some.injEq, -Prod.mk.injEq]; rfl) (by first | trivial | omega | simp | (simp; omega)) ?_
      repeat refine ok_seq ?_
      refine ok_if rfl (fun c2 => ?_) (fun c2 => ?_)
      · try simp at c2
        all_goals
          repeat refine ok_seq ?_
          refine ok_reg E [4] [] (by simp [-Option.some.injEq, -Prod.mk.injEq]; rfl) (by first | trivial | omega | simp | (simp; omega)) ?_
          refine ok_ret ⟨.inr rfl, ?_⟩
          -- ret1
          simp [resAll, resL, resA, frozE]
          rw [← hi, List.drop_eq_getElem_cons c1, idxP, ← gi_lt c1, if_pos (by simpa using c2)]
      · try simp at c2
        all_goals
          refine ok_skip ?_
          repeat refine ok_seq ?_
          refine ok_reg E [0, 1, 5] [] (by simp [-Option.some.injEq, -Prod.mk.injEq]; rfl) (by first | trivial | omega | simp | (simp; omega)) ?_
          -- end01
          exact ⟨i + 1, ⟨by omega, by rw [← hi, List.drop_eq_getElem_cons c1, idxP, ← gi_lt c1, if_neg (by simpa using c2)]⟩, by omega, by constructor <;> simp (disch := omega) [EntF, EntH, EntB, Conv, scop, wrap_i64]⟩
  · try simp at c1
    all_goals
      refine ok_exit ?_
      repeat refine ok_seq ?_
      refine ok_reg E [4] [] (by simp [-Option.some.injEq, -Prod.mk.injEq]; rfl) (by first | trivial | omega | simp | (simp; omega)) ?_
      refine ok_ret ⟨.inr rfl, ?_⟩
      -- ret2
      simp [resAll, resL, resA, frozE]
      rw [← hi, List.drop_of_length_le (by omega)]; rfl

set_option maxRecDepth 8000 in
set_option maxHeartbeats 4000000 in
theorem anewR_ctr (l s : List Int) (hl : l.length ≤ 1000000) : Ctr Tryz.prog 182 [.d .ints l, .d .ints s] [] (.d .ints (anewR l s)) [] := by
  refine ctr_pure E Tryz.func182 rfl Tryz.ntmps182 Tryz.results182 (Nat.le_of_ble_eq_true rfl) rfl ?_
  repeat refine ok_seq ?_
  refine ok_reg E [0, 1] [] (by simp [-Option.some.injEq, -Prod.mk.injEq]; rfl) (by first | trivial | omega | simp | (simp; omega)) ?_
  repeat refine ok_seq ?_
  refine ok_reg E [0, 1, 5] [] (by simp [-Option.some.injEq, -Prod.mk.injEq]; rfl) (by first | trivial | omega | simp | (simp; omega)) ?_
  repeat refine ok_seq ?_
  refine ok_reg E [0, 1, 5, 6] [] (by simp [-Option.some.injEq, -Prod.mk.injEq]; rfl) (by first | trivial | omega | simp | (simp; omega)) ?_
  repeat refine ok_seq ?_
  refine ok_block ?_
  repeat refine ok_seq ?_
  refine ok_loop (σ := Nat) (fun i => [(0, .d .ints l), (1, .d .ints s), (5, .orow 0), (6, .d .i (i : Int))]) (fun i => [.orow 3 .i ((l.take i).map (placeI s))]) (fun i => i ≤ l.length) (fun i => l.length - i) 0 (by simp) ?_ ?_
  · constructor <;> simp [EntF, EntH, EntB, Conv, scop]
  rintro i hi
  repeat refine ok_seq ?_
  refine ok_reg E [0, 1, 5, 6, 11] [] (by simp [-Option.some.injEq, -Prod.mk.injEq]; rfl) (by first | trivial | omega | simp | (simp; omega)) ?_
  repeat refine ok_seq ?_
  refine ok_if rfl (fun c1 => ?_) (fun c1 => ?_)
  · try simp at c1
    all_goals
      refine ok_skip ?_
      repeat refine ok_seq ?_
      refine ok_block ?_
      repeat refine ok_seq ?_
      refine ok_reg E [0, 1, 5, 6] [.pure (.d .i (placeI s (gi l i)))] (by simp [-Option.some.injEq, -Prod.mk.injEq]; rfl) (by (have k1 := placeI_ctr s (gi l i); (try simp at k1); simp [k1, big]; omega)) ?_
      repeat refine ok_seq ?_
      refine ok_reg E [0, 1, 5, 6] [] (by simp [-Option.some.injEq, -Prod.mk.injEq]; rfl) (by first | trivial | omega | simp | (simp; omega)) ?_
      -- end01
      have e1 : (l.take (i + 1)).map (placeI s) = (l.take i).map (placeI s) ++ [placeI s (gi l i)] := by rw [List.take_succ_eq_append_getElem c1, List.map_append, gi_lt c1]; rfl
      exact ⟨i + 1, by omega, by omega, by constructor <;> simp (disch := omega) [EntF, EntH, EntB, Conv, scop, wrap_i64, e1]⟩
  · try simp at c1
    all_goals
      refine ok_exit ?_
      repeat refine ok_seq ?_
      refine ok_reg E [4] [] (by simp [-Option.some.injEq, -Prod.mk.injEq]; rfl) (by first | trivial | omega | simp | (simp; omega)) ?_
      refine ok_ret ⟨.inr rfl, ?_⟩
      -- ret1
      simp [resAll, resL, resA, frozE]
      rw [List.take_of_length_le (by simpa using c1)]; rfl

set_option maxRecDepth 8000 in
set_option maxHeartbeats 4000000 in
theorem placesR_ctr (g : Prg) (l : List Term) (hl : l.length ≤ 100000) (hg : g.atoms.length ≤ 1000000) : Ctr Tryz.prog 114 [pav g, .d .terms l] [] (.d .ints (placesR g.atoms l)) [] := by
  refine ctr_pure E Tryz.func114 rfl Tryz.ntmps114 Tryz.results114 (Nat.le_of_ble_eq_true rfl) rfl ?_
  simp only [pav]
  repeat refine ok_seq ?_
  refine ok_reg E [1, 2] [] (by simp [-Option.some.injEq, -Prod.mk.injEq]; rfl) (by first | trivial | omega | simp | (simp; omega)) ?_
  repeat refine ok_seq ?_
  refine ok_reg E [1, 2, 5] [] (by simp [-Option.some.injEq, -Prod.mk.injEq]; rfl) (by first | trivial | omega | simp | (simp; omega)) ?_
  repeat refine ok_seq ?_
  refine ok_reg E [1, 2, 5, 6] [] (by simp [-Option.some.injEq, -Prod.mk.injEq]; rfl) (by first | trivial | omega | simp | (simp; omega)) ?_
  repeat refine ok_seq ?_
  refine ok_block ?_
  repeat refine ok_seq ?_
  refine ok_loop (σ := Nat) (fun i => [(1, .d .terms l), (2, .ptr 0 0), (5, .d .ints (placesR g.atoms (l.take i))), (6, .d .i (i : Int))]) (fun i => [.cells [.d .terms g.atoms, .d (.sl .rule) g.rules]]) (fun i => i ≤ l.length) (fun i => l.length - i) 0 (by simp) ?_ ?_
  · constructor <;> simp [EntF, EntH, EntB, Conv, scop, placesR]
  rintro i hi
  have k3 : (placesR g.atoms (l.take i)).length ≤ i := by have := placesR_len g.atoms (l.take i) []; simp at this; unfold placesR; omega
  repeat refine ok_seq ?_
  refine ok_reg E [1, 2, 5, 6, 11] [] (by simp [-Option.some.injEq, -Prod.mk.injEq]; rfl) (by first | trivial | omega | simp | (simp; omega)) ?_
  repeat refine ok_seq ?_
  refine ok_if rfl (fun c1 => ?_) (fun c1 => ?_)
  · try simp at c1
    all_goals
      refine ok_skip ?_
      repeat refine ok_seq ?_
      refine ok_block ?_
      repeat refine ok_seq ?_
      refine ok_dr E rfl [1, 2, 5, 6] 9 [.pure (.d .i (findR g.atoms (gt l i))), .pure (.d .ints (putBy subI (placesR g.atoms (l.take i)) (findR g.atoms (gt l i))))] (by decide) (by simp [nodupF]) (by simp [-Option.some.injEq, -Prod.mk.injEq]; rfl) (by (have k1 := findR_ctr g (gt l i) hg; have k2 := putI_ctr (placesR g.atoms (l.take i)) (findR g.atoms (gt l i)) (by omega); (try simp at k1); simp [k1, k2]; try omega)) ?_
      repeat refine ok_seq ?_
      refine ok_reg E [1, 2, 5, 6] [] (by simp [-Option.some.injEq, -Prod.mk.injEq]; rfl) (by first | trivial | omega | simp | (simp; omega)) ?_
      -- end01
      have e1 := placesR_step g.atoms c1
      exact ⟨i + 1, by omega, by omega, by constructor <;> simp (disch := omega) [EntF, EntH, EntB, Conv, scop, wrap_i64, e1]⟩
  · try simp at c1
    all_goals
      refine ok_exit ?_
      repeat refine ok_seq ?_
      refine ok_reg E [4] [] (by simp [-Option.some.injEq, -Prod.mk.injEq]; rfl) (by first | trivial | omega | simp | (simp; omega)) ?_
      refine ok_ret ⟨.inr rfl, ?_⟩
      -- ret1
      simp [resAll, resL, resA, frozE]
      rw [List.take_of_length_le c1]

end Go.Proofs.YtgapiecbinplfaaGreat
/- Walks: the program of instances. Printed by walk.py from annotations. -/
namespace Go.Proofs.YtgapiecbinplfaaGreat
open Go.RowKit


set_option maxRecDepth 8000 in
set_option maxHeartbeats 4000000 in
theorem fromR_ctr (l : List Inst) (hl : InstsOk l) : Ctr Tryz.prog 39 [.d (.sl .inst) l] [] (pav (fromR l)) [] := by
  refine ctr_pure E Tryz.func39 rfl Tryz.ntmps39 Tryz.results39 (Nat.le_of_ble_eq_true rfl) rfl ?_
  have hl1 := hl.1
  repeat refine ok_seq ?_
  refine ok_reg E [0, 2] [] (by simp [-Option.some.injEq, -Prod.mk.injEq]; rfl) (by first | trivial | omega | simp | (simp; omega)) ?_
  repeat refine ok_seq ?_
  refine ok_reg E [0, 2, 3] [] (by simp [-Option.some.injEq, -Prod.mk.injEq]; rfl) (by first | trivial | omega | simp | (simp; omega)) ?_
  repeat refine ok_seq ?_
  refine ok_reg E [0, 2, 3, 4] [] (by simp [-Option.some.injEq, -Prod.mk.injEq]; rfl) (by first | trivial | omega | simp | (simp; omega)) ?_
  repeat refine ok_seq ?_
  refine ok_block ?_
  repeat refine ok_seq ?_
  refine ok_loop (σ := Nat) (fun i => [(0, .d (.sl .inst) l), (2, .ptr 0 0), (3, .ptr 1 0), (4, .d .i (i : Int))]) (fun i => [.cells [.nilsl, .nilsl], .cells [.d .terms (atomsR (l.take i)), .nilsl]]) (fun i => i ≤ l.length) (fun i => l.length - i) 0 (by simp) ?_ ?_
  · constructor <;> simp [EntF, EntH, EntB, Conv, ConvL, scop, atomsR, rulesR, putAll]
  rintro i hi
  have ha := atomsR_len hl i hi
  have hp1 := putBy_len cmpT (gin l i).head (atomsR (l.take i))
  repeat refine ok_seq ?_
  refine ok_reg E [0, 2, 3, 4, 12] [] (by simp [-Option.some.injEq, -Prod.mk.injEq]; rfl) (by first | trivial | omega | simp | (simp; omega)) ?_
  repeat refine ok_seq ?_
  refine ok_if rfl (fun c1 => ?_) (fun c1 => ?_)
  · try simp at c1
    all_goals
      have hq := hl.2 i (by omega)
      refine ok_skip ?_
      repeat refine ok_seq ?_
      refine ok_block ?_
      repeat refine ok_seq ?_
      refine ok_dr E rfl [0, 2, 3, 4] 9 [.pure (.d .terms (putBy cmpT (atomsR (l.take i)) (gin l i).head))] (by decide) (by simp [nodupF]) (by simp [-Option.some.injEq, -Prod.mk.injEq]; rfl) (by (have k1 := putT_ctr (atomsR (l.take i)) (gin l i).head (by omega); simp [k1]; try omega)) ?_
      repeat refine ok_seq ?_
      refine ok_reg E [0, 2, 3, 4, 5] [] (by simp [-Option.some.injEq, -Prod.mk.injEq]; rfl) (by first | trivial | omega | simp | (simp; omega)) ?_
      repeat refine ok_seq ?_
      refine ok_block ?_
      repeat refine ok_seq ?_
      refine ok_loop (σ := Nat) (fun k => [(0, .d (.sl .inst) l), (2, .ptr 0 0), (3, .ptr 1 0), (4, .d .i (i : Int)), (5, .d .i (k : Int))]) (fun k => [.cells [.nilsl, .nilsl], .cells [.d .terms (putAll (putBy cmpT (atomsR (l.take i)) (gin l i).head) ((gin l i).pos.take k)), .nilsl]]) (fun k => k ≤ (gin l i).pos.length) (fun k => (gin l i).pos.length - k) 0 (by simp) ?_ ?_
      · constructor <;> simp [EntF, EntH, EntB, Conv, ConvL, scop, atomsR, rulesR, putAll]
      rintro k hk
      have hb := putAll_len ((gin l i).pos.take k) (putBy cmpT (atomsR (l.take i)) (gin l i).head)
      have hb2 : ((gin l i).pos.take k).length ≤ k := by simp; omega
      repeat refine ok_seq ?_
      refine ok_reg E [0, 2, 3, 4, 5, 31] [] (by simp [-Option.some.injEq, -Prod.mk.injEq]; rfl) (by first | trivial | omega | simp | (simp; omega)) ?_
      repeat refine ok_seq ?_
      refine ok_if rfl (fun c2 => ?_) (fun c2 => ?_)
      · try simp at c2
        all_goals
          refine ok_skip ?_
          repeat refine ok_seq ?_
          refine ok_block ?_
          repeat refine ok_seq ?_
          refine ok_dr E rfl [0, 2, 3, 4, 5] 12 [.pure (.d .terms (putBy cmpT (putAll (putBy cmpT (atomsR (l.take i)) (gin l i).head) ((gin l i).pos.take k)) (gt (gin l i).pos k)))] (by decide) (by simp [nodupF]) (by simp [-Option.some.injEq, -Prod.mk.injEq]; rfl) (by (have k1 := putT_ctr (putAll (putBy cmpT (atomsR (l.take i)) (gin l i).head) ((gin l i).pos.take k)) (gt (gin l i).pos k) (by omega); simp [k1]; try omega)) ?_
          repeat refine ok_seq ?_
          refine ok_reg E [0, 2, 3, 4, 5] [] (by simp [-Option.some.injEq, -Prod.mk.injEq]; rfl) (by first | trivial | omega | simp | (simp; omega)) ?_
          -- end21
          have e1 := putAll_step (s := putBy cmpT (atomsR (l.take i)) (gin l i).head) c2
          exact ⟨k + 1, by omega, by omega, by constructor <;> simp (disch := omega) [EntF, EntH, EntB, Conv, ConvL, scop, wrap_i64, e1]⟩
      · try simp at c2
        all_goals
          refine ok_exit ?_
          repeat refine ok_seq ?_
          refine ok_reg E [0, 2, 3, 4, 6] [] (by simp [-Option.some.injEq, -Prod.mk.injEq]; rfl) (by first | trivial | omega | simp | (simp; omega)) ?_
          repeat refine ok_seq ?_
          refine ok_block ?_
          repeat refine ok_seq ?_
          have hb3 := putAll_len (gin l i).pos (putBy cmpT (atomsR (l.take i)) (gin l i).head)
          have e3 := List.take_of_length_le c2
          refine ok_loop (σ := Nat) (fun m => [(0, .d (.sl .inst) l), (2, .ptr 0 0), (3, .ptr 1 0), (4, .d .i (i : Int)), (6, .d .i (m : Int))]) (fun m => [.cells [.nilsl, .nilsl], .cells [.d .terms (putAll (putAll (putBy cmpT (atomsR (l.take i)) (gin l i).head) (gin l i).pos) ((gin l i).neg.take m)), .nilsl]]) (fun m => m ≤ (gin l i).neg.length) (fun m => (gin l i).neg.length - m) 0 (by simp) ?_ ?_
          · constructor <;> simp [EntF, EntH, EntB, Conv, ConvL, scop, atomsR, rulesR, putAll, e3]
          rintro m hm
          have hc := putAll_len ((gin l i).neg.take m) (putAll (putBy cmpT (atomsR (l.take i)) (gin l i).head) (gin l i).pos)
          have hc2 : ((gin l i).neg.take m).length ≤ m := by simp; omega
          repeat refine ok_seq ?_
          refine ok_reg E [0, 2, 3, 4, 6, 53] [] (by simp [-Option.some.injEq, -Prod.mk.injEq]; rfl) (by first | trivial | omega | simp | (simp; omega)) ?_
          repeat refine ok_seq ?_
          refine ok_if rfl (fun c3 => ?_) (fun c3 => ?_)
          · try simp at c3
            all_goals
              refine ok_skip ?_
              repeat refine ok_seq ?_
              refine ok_block ?_
              repeat refine ok_seq ?_
              refine ok_dr E rfl [0, 2, 3, 4, 6] 12 [.pure (.d .terms (putBy cmpT (putAll (putAll (putBy cmpT (atomsR (l.take i)) (gin l i).head) (gin l i).pos) ((gin l i).neg.take m)) (gt (gin l i).neg m)))] (by decide) (by simp [nodupF]) (by simp [-Option.some.injEq, -Prod.mk.injEq]; rfl) (by (have k1 := putT_ctr (putAll (putAll (putBy cmpT (atomsR (l.take i)) (gin l i).head) (gin l i).pos) ((gin l i).neg.take m)) (gt (gin l i).neg m) (by omega); simp [k1]; try omega)) ?_
              repeat refine ok_seq ?_
              refine ok_reg E [0, 2, 3, 4, 6] [] (by simp [-Option.some.injEq, -Prod.mk.injEq]; rfl) (by first | trivial | omega | simp | (simp; omega)) ?_
              -- end41
              have e1 := putAll_step (s := putAll (putBy cmpT (atomsR (l.take i)) (gin l i).head) (gin l i).pos) c3
              exact ⟨m + 1, by omega, by omega, by constructor <;> simp (disch := omega) [EntF, EntH, EntB, Conv, ConvL, scop, wrap_i64, e1]⟩
          · try simp at c3
            all_goals
              refine ok_exit ?_
              repeat refine ok_seq ?_
              refine ok_reg E [0, 2, 3, 4] [] (by simp [-Option.some.injEq, -Prod.mk.injEq]; rfl) (by first | trivial | omega | simp | (simp; omega)) ?_
              -- end01
              have e1 := atomsR_step c1
              have e2 := List.take_of_length_le c3
              exact ⟨i + 1, by omega, by omega, by constructor <;> simp (disch := omega) [EntF, EntH, EntB, Conv, ConvL, scop, wrap_i64, e1, atomsStep, e2]⟩
  · try simp at c1
    all_goals
      skip
      refine ok_exit ?_
      repeat refine ok_seq ?_
      refine ok_reg E [0, 2, 3, 7] [] (by simp [-Option.some.injEq, -Prod.mk.injEq]; rfl) (by first | trivial | omega | simp | (simp; omega)) ?_
      repeat refine ok_seq ?_
      refine ok_block ?_
      repeat refine ok_seq ?_
      have ha2 := atomsR_len hl l.length (Nat.le_refl _)
      rw [List.take_length] at ha2
      have e3 := List.take_of_length_le c1
      refine ok_loop (σ := Nat) (fun j => [(0, .d (.sl .inst) l), (2, .ptr 0 0), (3, .ptr 1 0), (7, .d .i (j : Int))]) (fun j => [.cells [.nilsl, .nilsl], .cells [.d .terms (atomsR l), .d (.sl .rule) (rulesR (atomsR l) (l.take j))]]) (fun j => j ≤ l.length) (fun j => l.length - j) 0 (by simp) ?_ ?_
      · constructor <;> simp [EntF, EntH, EntB, Conv, ConvL, scop, atomsR, rulesR, putAll, e3]
      rintro j hj
      have hr := rulesR_len (atomsR l) l j hj
      repeat refine ok_seq ?_
      refine ok_reg E [0, 2, 3, 7, 71] [] (by simp [-Option.some.injEq, -Prod.mk.injEq]; rfl) (by first | trivial | omega | simp | (simp; omega)) ?_
      repeat refine ok_seq ?_
      refine ok_if rfl (fun c4 => ?_) (fun c4 => ?_)
      · try simp at c4
        all_goals
          refine ok_skip ?_
          repeat refine ok_seq ?_
          refine ok_block ?_
          repeat refine ok_seq ?_
          refine ok_dr E rfl [0, 2, 3, 7] 26 [.pure (.d .i (findR (atomsR l) (gin l j).head)), .pure (.d .ints (placesR (atomsR l) (gin l j).pos)), .pure (.d .ints (placesR (atomsR l) (gin l j).neg)), .pure (.d (.sl .rule) (putBy rOrder (rulesR (atomsR l) (l.take j)) (ruleOf (atomsR l) (gin l j))))] (by decide) (by simp [nodupF]) (by simp [-Option.some.injEq, -Prod.mk.injEq]; rfl) (by (have hq := hl.2 j (by omega); have k1 := findR_ctr ⟨atomsR l, rulesR (atomsR l) (l.take j)⟩ (gin l j).head (by simp only; omega); have k2 := placesR_ctr ⟨atomsR l, rulesR (atomsR l) (l.take j)⟩ (gin l j).pos (by omega) (by simp only; omega); have k3 := placesR_ctr ⟨atomsR l, rulesR (atomsR l) (l.take j)⟩ (gin l j).neg (by omega) (by simp only; omega); have k4 := putR_ctr (rulesR (atomsR l) (l.take j)) (ruleOf (atomsR l) (gin l j)) (by omega); simp [ruleOf] at k1 k2 k3 k4; simp [k1, k2, k3, k4, ruleOf]; try omega)) ?_
          repeat refine ok_seq ?_
          refine ok_reg E [0, 2, 3, 7] [] (by simp [-Option.some.injEq, -Prod.mk.injEq]; rfl) (by first | trivial | omega | simp | (simp; omega)) ?_
          -- end61
          have e1 := rulesR_step (ts := atomsR l) c4
          exact ⟨j + 1, by omega, by omega, by constructor <;> simp (disch := omega) [EntF, EntH, EntB, Conv, ConvL, scop, wrap_i64, e1]⟩
      · try simp at c4
        all_goals
          refine ok_exit ?_
          repeat refine ok_seq ?_
          refine ok_reg E [2] [] (by simp [-Option.some.injEq, -Prod.mk.injEq]; rfl) (by first | trivial | omega | simp | (simp; omega)) ?_
          refine ok_ret ⟨.inr rfl, ?_⟩
          -- ret1
          have e2 := List.take_of_length_le c4
          simp [fromR, e2]

end Go.Proofs.YtgapiecbinplfaaGreat
/- What an atom leans on, what is cut: plain definitions, of both answers. -/
namespace Go.Proofs.YtgapiecbinplfaaGreat
open Go.RowKit

def putIs (l s : List Int) : List Int := l.foldl (putBy subI) s
def stepR (l : List Int) (r : Rule) : List Int := if r.head ∈ l then putIs r.neg (putIs r.pos l) else l
def roundR (rs : List Rule) (l : List Int) : List Int := rs.foldl stepR l
def leadsF (rs : List Rule) : Nat → Nat → List Int → List Int
  | 0, _, l => l
  | f + 1, many, l => if many < l.length then leadsF rs f l.length (roundR rs l) else l
def leadsR (g : Prg) (n : Int) : List Int := leadsF g.rules (g.atoms.length + 2) 0 [n]
def anewRule (l : List Int) (r : Rule) : Rule := ⟨placeI l r.head, anewR r.pos l, anewR r.neg l⟩
def onlyR (g : Prg) (l : List Int) : Prg := ⟨l.map (gt g.atoms), (g.rules.filter fun r => decide (r.head ∈ l)).map (anewRule l)⟩
def cutR (g : Prg) (n : Int) : Prg := if n < 0 ∨ (g.atoms.length : Int) ≤ n then ⟨[], []⟩ else onlyR g (leadsR g n)

/-- Package ground's marks: an atom, and all that it leans on. -/
def markF (g : Prg) : Nat → Int → List Int → List Int
  | 0, _, s => s
  | f + 1, n, s => if 0 < gi s n then s else
      (ofR g.rules n g.rules.length).foldl (fun s i => ((gr g.rules i).pos ++ (gr g.rules i).neg).foldl (fun s k => markF g f k s) s) (s.set n.toNat 1)
def markedL : List Int → Nat → List Int
  | [], _ => []
  | x :: xs, i => if 0 < x then (i : Int) :: markedL xs (i + 1) else markedL xs (i + 1)
def numF : List Int → Int → List Int
  | [], _ => []
  | x :: xs, c => if 0 < x then (c + 1) :: numF xs (c + 1) else x :: numF xs c
def cutRule (nu : List Int) (r : Rule) : Rule := ⟨gi nu r.head - 1, r.pos.map (fun k => gi nu k - 1), r.neg.map (fun k => gi nu k - 1)⟩
def marksG (g : Prg) (n : Int) : List Int := markF g (g.atoms.length + 1) n (List.replicate g.atoms.length 0)
def cutOf (g : Prg) (m : List Int) : Prg := ⟨(markedL m 0).map (gt g.atoms), (g.rules.filter fun r => decide (0 < gi (numF m 0) r.head)).map (cutRule (numF m 0))⟩
def cutG (g : Prg) (n : Int) : Prg := if n < 0 ∨ (g.atoms.length : Int) ≤ n then ⟨[], []⟩ else cutOf g (marksG g n)

/-- The instance of a rule. -/
def instR (g : Prg) (r : Rule) : Inst := ⟨gt g.atoms r.head, r.pos.map (gt g.atoms), r.neg.map (gt g.atoms)⟩
/-- An instance with its literals turned about, and its first ones twice. -/
def turnedR (x : Inst) : Inst := ⟨x.head, x.pos.reverse ++ x.pos.take 1, x.neg.reverse⟩

def atom200 (t : Term) : Bool := decide (t.length ≤ 200) && (atomT t && groundT t)
def madeOk (x : Inst) : Bool := atom200 x.head && (decide (x.pos.length ≤ 10 ∧ x.neg.length ≤ 10) && (x.pos.all atom200 && x.neg.all atom200))
def madeR (l : List Inst) : List Inst := (l.take 60).filter madeOk

end Go.Proofs.YtgapiecbinplfaaGreat
