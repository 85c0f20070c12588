/- Own framework, walks and plain laws behind the law Tells, part 9. -/
import Derived.Test.YtgapiecbinplfaaGreatC8
/- Walks: the document's answer to layer 16. Printed by walk.py from annotations. -/
namespace Go.Proofs.YtgapiecbinplfaaGreat
open Go.RowKit


set_option maxRecDepth 8000 in
set_option maxHeartbeats 4000000 in
theorem ints_ctr (a b : List Int) : Ctr Tryz.prog 42 [.d (.sl .i) a, .d (.sl .i) b] [] (.d .bool (decide (a = b))) [] := by
  refine ctr_pure E Tryz.func42 rfl Tryz.ntmps42 Tryz.results42 (Nat.le_of_ble_eq_true rfl) rfl ?_
  repeat refine ok_seq ?_
  refine ok_reg E [0, 1] [] (by simp [-Option.some.injEq, -Prod.mk.injEq]; rfl) (by first | trivial | omega | simp | (simp; omega)) ?_
  repeat refine ok_seq ?_
  refine ok_reg E [0, 1, 10] [] (by simp [-Option.some.injEq, -Prod.mk.injEq]; rfl) (by first | trivial | omega | simp | (simp; omega)) ?_
  repeat refine ok_seq ?_
  refine ok_if rfl (fun c1 => ?_) (fun c1 => ?_)
  · try simp at c1
    all_goals
      repeat refine ok_seq ?_
      refine ok_reg E [4] [] (by simp [-Option.some.injEq, -Prod.mk.injEq]; rfl) (by first | trivial | omega | simp | (simp; omega)) ?_
      refine ok_ret ⟨.inr rfl, ?_⟩
      -- ret1
      simp [resAll, resL, resA, frozE]
      intro e; simp [e] at c1
  · try simp at c1
    all_goals
      refine ok_skip ?_
      repeat refine ok_seq ?_
      refine ok_reg E [0, 1, 5] [] (by simp [-Option.some.injEq, -Prod.mk.injEq]; rfl) (by first | trivial | omega | simp | (simp; omega)) ?_
      repeat refine ok_seq ?_
      refine ok_block ?_
      repeat refine ok_seq ?_
      refine ok_lenN 0 rfl fun ha => ?_
      refine ok_loop (σ := Nat) (fun i => [(0, .d (.sl .i) a), (1, .d (.sl .i) b), (5, .d .i (i : Int))]) (fun i => []) (fun i => i ≤ a.length ∧ a.take i = b.take i) (fun i => a.length - i) 0 (by simp) ?_ ?_
      · constructor <;> simp [EntF, EntH, EntB, Conv, scop]
      rintro i ⟨hi1, hi⟩
      repeat refine ok_seq ?_
      refine ok_reg E [0, 1, 5, 14] [] (by simp [-Option.some.injEq, -Prod.mk.injEq]; rfl) (by first | trivial | omega | simp | (simp; omega)) ?_
      repeat refine ok_seq ?_
      refine ok_if rfl (fun c2 => ?_) (fun c2 => ?_)
      · try simp at c2
        all_goals
          refine ok_skip ?_
          repeat refine ok_seq ?_
          refine ok_block ?_
          repeat refine ok_seq ?_
          refine ok_dr E rfl [0, 1, 5, 25] 9 [] (by decide) (by simp [nodupF]) (by simp [-Option.some.injEq, -Prod.mk.injEq]; rfl) (by first | trivial | omega | simp | (simp; omega)) ?_
          repeat refine ok_seq ?_
          refine ok_if rfl (fun c3 => ?_) (fun c3 => ?_)
          · try simp at c3
            all_goals
              repeat refine ok_seq ?_
              refine ok_reg E [4] [] (by simp [-Option.some.injEq, -Prod.mk.injEq]; rfl) (by first | trivial | omega | simp | (simp; omega)) ?_
              refine ok_ret ⟨.inr rfl, ?_⟩
              -- ret2
              simp (disch := omega) only [gi_lt] at c3
              simp [resAll, resL, resA, frozE]
              intro e; simp [e] at c3
          · try simp at c3
            all_goals
              refine ok_skip ?_
              repeat refine ok_seq ?_
              refine ok_reg E [0, 1, 5] [] (by simp [-Option.some.injEq, -Prod.mk.injEq]; rfl) (by first | trivial | omega | simp | (simp; omega)) ?_
              -- end01
              simp (disch := omega) only [gi_lt] at c3
              refine ⟨i + 1, ⟨by omega, ?_⟩, by omega, by constructor <;> simp (disch := omega) [EntF, EntH, EntB, Conv, scop, wrap_i64]⟩
              exact take_ne (by omega) (by omega) hi c3
      · try simp at c2
        all_goals
          refine ok_exit ?_
          repeat refine ok_seq ?_
          refine ok_reg E [4] [] (by simp [-Option.some.injEq, -Prod.mk.injEq]; rfl) (by first | trivial | omega | simp | (simp; omega)) ?_
          refine ok_ret ⟨.inr rfl, ?_⟩
          -- ret3
          simp [resAll, resL, resA, frozE]
          exact take_end (by omega) (by omega) hi

set_option maxRecDepth 8000 in
set_option maxHeartbeats 4000000 in
theorem sameAll_ctr (a b : List Term) : Ctr Tryz.prog 47 [.d (.sl (.sl .cell)) a, .d (.sl (.sl .cell)) b] [] (.d .bool (decide (a = b))) [] := by
  refine ctr_pure E Tryz.func47 rfl Tryz.ntmps47 Tryz.results47 (Nat.le_of_ble_eq_true rfl) rfl ?_
  repeat refine ok_seq ?_
  refine ok_reg E [0, 1] [] (by simp [-Option.some.injEq, -Prod.mk.injEq]; rfl) (by first | trivial | omega | simp | (simp; omega)) ?_
  repeat refine ok_seq ?_
  refine ok_reg E [0, 1, 10] [] (by simp [-Option.some.injEq, -Prod.mk.injEq]; rfl) (by first | trivial | omega | simp | (simp; omega)) ?_
  repeat refine ok_seq ?_
  refine ok_if rfl (fun c1 => ?_) (fun c1 => ?_)
  · try simp at c1
    all_goals
      repeat refine ok_seq ?_
      refine ok_reg E [4] [] (by simp [-Option.some.injEq, -Prod.mk.injEq]; rfl) (by first | trivial | omega | simp | (simp; omega)) ?_
      refine ok_ret ⟨.inr rfl, ?_⟩
      -- ret1
      simp [resAll, resL, resA, frozE]
      intro e; simp [e] at c1
  · try simp at c1
    all_goals
      refine ok_skip ?_
      repeat refine ok_seq ?_
      refine ok_reg E [0, 1, 5] [] (by simp [-Option.some.injEq, -Prod.mk.injEq]; rfl) (by first | trivial | omega | simp | (simp; omega)) ?_
      repeat refine ok_seq ?_
      refine ok_block ?_
      repeat refine ok_seq ?_
      refine ok_lenN 0 rfl fun ha => ?_
      refine ok_loop (σ := Nat) (fun i => [(0, .d (.sl (.sl .cell)) a), (1, .d (.sl (.sl .cell)) b), (5, .d .i (i : Int))]) (fun i => []) (fun i => i ≤ a.length ∧ a.take i = b.take i) (fun i => a.length - i) 0 (by simp) ?_ ?_
      · constructor <;> simp [EntF, EntH, EntB, Conv, scop]
      rintro i ⟨hi1, hi⟩
      repeat refine ok_seq ?_
      refine ok_reg E [0, 1, 5, 14] [] (by simp [-Option.some.injEq, -Prod.mk.injEq]; rfl) (by first | trivial | omega | simp | (simp; omega)) ?_
      repeat refine ok_seq ?_
      refine ok_if rfl (fun c2 => ?_) (fun c2 => ?_)
      · try simp at c2
        all_goals
          refine ok_skip ?_
          repeat refine ok_seq ?_
          refine ok_block ?_
          repeat refine ok_seq ?_
          refine ok_dr E rfl [0, 1, 5, 26] 10 [.pure (.d .bool (decide (gt a i = gt b i)))] (by decide) (by simp [nodupF]) (by simp [-Option.some.injEq, -Prod.mk.injEq]; rfl) (by (have k1 := same_ctr (gt a i) (gt b i); (try simp at k1); simp [k1]; try omega)) ?_
          repeat refine ok_seq ?_
          refine ok_if rfl (fun c3 => ?_) (fun c3 => ?_)
          · try simp at c3
            all_goals
              repeat refine ok_seq ?_
              refine ok_reg E [4] [] (by simp [-Option.some.injEq, -Prod.mk.injEq]; rfl) (by first | trivial | omega | simp | (simp; omega)) ?_
              refine ok_ret ⟨.inr rfl, ?_⟩
              -- ret2
              simp (disch := omega) only [gt_lt] at c3
              simp [resAll, resL, resA, frozE]
              intro e; simp [e] at c3
          · try simp at c3
            all_goals
              refine ok_skip ?_
              repeat refine ok_seq ?_
              refine ok_reg E [0, 1, 5] [] (by simp [-Option.some.injEq, -Prod.mk.injEq]; rfl) (by first | trivial | omega | simp | (simp; omega)) ?_
              -- end01
              simp (disch := omega) only [gt_lt] at c3
              refine ⟨i + 1, ⟨by omega, ?_⟩, by omega, by constructor <;> simp (disch := omega) [EntF, EntH, EntB, Conv, scop, wrap_i64]⟩
              exact take_ne (by omega) (by omega) hi c3
      · try simp at c2
        all_goals
          refine ok_exit ?_
          repeat refine ok_seq ?_
          refine ok_reg E [4] [] (by simp [-Option.some.injEq, -Prod.mk.injEq]; rfl) (by first | trivial | omega | simp | (simp; omega)) ?_
          refine ok_ret ⟨.inr rfl, ?_⟩
          -- ret3
          simp [resAll, resL, resA, frozE]
          exact take_end (by omega) (by omega) hi

set_option maxRecDepth 8000 in
set_option maxHeartbeats 4000000 in
theorem findR_ctr (g : Prg) (t : Term) (hl : g.atoms.length ≤ 1000000) : Ctr Tryz.prog 41 [pav g, .d .term t] [] (.d .i (findR g.atoms t)) [] := by
  refine ctr_pure E Tryz.func41 rfl Tryz.ntmps41 Tryz.results41 (Nat.le_of_ble_eq_true rfl) rfl ?_
  simp only [pav]
  repeat refine ok_seq ?_
  refine ok_reg E [1, 2] [] (by simp [-Option.some.injEq, -Prod.mk.injEq]; rfl) (by first | trivial | omega | simp | (simp; omega)) ?_
  repeat refine ok_seq ?_
  refine ok_reg E [1, 2, 5] [] (by simp [-Option.some.injEq, -Prod.mk.injEq]; rfl) (by first | trivial | omega | simp | (simp; omega)) ?_
  repeat refine ok_seq ?_
  refine ok_block ?_
  repeat refine ok_seq ?_
  refine ok_loop (σ := Nat) (fun i => [(1, .d .term t), (2, .ptr 0 0), (5, .d .i (i : Int))]) (fun i => [.cells [.d .terms g.atoms, .d (.sl .rule) g.rules]]) (fun i => i ≤ g.atoms.length ∧ idxP (fun x => decide (x = t)) (g.atoms.drop i) i = findR g.atoms t) (fun i => g.atoms.length - i) 0 ⟨by simp, rfl⟩ ?_ ?_
  · constructor <;> simp [EntF, EntH, EntB, Conv, scop]
  rintro i ⟨hi1, hi⟩
  repeat refine ok_seq ?_
  refine ok_reg E [1, 2, 5, 10] [] (by simp [-Option.some.injEq, -Prod.mk.injEq]; rfl) (by first | trivial | omega | simp | (simp; omega)) ?_
  repeat refine ok_seq ?_
  refine ok_if rfl (fun c1 => ?_) (fun c1 => ?_)
  · try simp at c1
    all_goals
      refine ok_skip ?_
      repeat refine ok_seq ?_
      refine ok_block ?_
      repeat refine ok_seq ?_
      refine ok_reg E [1, 2, 5, 19] [.pure (.d .bool (decide (gt g.atoms i = t)))] (by simp [-Option.some.injEq, -Prod.mk.injEq]; rfl) (by (have k1 := same_ctr (gt g.atoms i) t; (try simp at k1); simp [k1]; try omega)) ?_
      repeat refine ok_seq ?_
      refine ok_if rfl (fun c2 => ?_) (fun c2 => ?_)
      · try simp at c2
        all_goals
          repeat refine ok_seq ?_
          refine ok_reg E [4] [] (by simp [-Option.some.injEq, -Prod.mk.injEq]; rfl) (by first | trivial | omega | simp | (simp; omega)) ?_
          refine ok_ret ⟨.inr rfl, ?_⟩
          -- ret1
          simp [resAll, resL, resA, frozE]
          rw [← hi, List.drop_eq_getElem_cons c1, idxP, ← gt_lt c1, if_pos (by simpa using c2)]
      · try simp at c2
        all_goals
          refine ok_skip ?_
          repeat refine ok_seq ?_
          refine ok_reg E [1, 2, 5] [] (by simp [-Option.some.injEq, -Prod.mk.injEq]; rfl) (by first | trivial | omega | simp | (simp; omega)) ?_
          -- end01
          exact ⟨i + 1, ⟨by omega, by rw [← hi, List.drop_eq_getElem_cons c1, idxP, ← gt_lt c1, if_neg (by simpa using c2)]⟩, by omega, by constructor <;> simp (disch := omega) [EntF, EntH, EntB, Conv, scop, wrap_i64]⟩
  · try simp at c1
    all_goals
      refine ok_exit ?_
      repeat refine ok_seq ?_
      refine ok_reg E [4] [] (by simp [-Option.some.injEq, -Prod.mk.injEq]; rfl) (by first | trivial | omega | simp | (simp; omega)) ?_
      refine ok_ret ⟨.inr rfl, ?_⟩
      -- ret2
      simp [resAll, resL, resA, frozE]
      rw [← hi, List.drop_of_length_le (by omega)]; rfl

set_option maxRecDepth 8000 in
set_option maxHeartbeats 4000000 in
theorem ofRR_ctr (g : Prg) (n : Int) (hr : g.rules.length ≤ 1000) : Ctr Tryz.prog 43 [pav g, .d .i n] [] (.d .ints (ofR g.rules n g.rules.length)) [] := by
  refine ctr_pure E Tryz.func43 rfl Tryz.ntmps43 Tryz.results43 (Nat.le_of_ble_eq_true rfl) rfl ?_
  simp only [pav]
  repeat refine ok_seq ?_
  refine ok_reg E [1, 2] [] (by simp [-Option.some.injEq, -Prod.mk.injEq]; rfl) (by first | trivial | omega | simp | (simp; omega)) ?_
  repeat refine ok_seq ?_
  refine ok_reg E [1, 2, 5] [] (by simp [-Option.some.injEq, -Prod.mk.injEq]; rfl) (by first | trivial | omega | simp | (simp; omega)) ?_
  repeat refine ok_seq ?_
  refine ok_reg E [1, 2, 5, 6] [] (by simp [-Option.some.injEq, -Prod.mk.injEq]; rfl) (by first | trivial | omega | simp | (simp; omega)) ?_
  repeat refine ok_seq ?_
  refine ok_block ?_
  repeat refine ok_seq ?_
  refine ok_loop (σ := Nat) (fun i => [(1, .d .i n), (2, .ptr 0 0), (5, .orow 1), (6, .d .i (i : Int))]) (fun i => [.cells [.d .terms g.atoms, .d (.sl .rule) g.rules], .orow 3 .i (ofR g.rules n i)]) (fun i => i ≤ g.rules.length) (fun i => g.rules.length - i) 0 (by simp) ?_ ?_
  · constructor <;> simp [EntF, EntH, EntB, Conv, scop, ofR]
  rintro i hi
  have k2 := ofR_len g.rules n i
  have e1 := ofR_step g.rules n i
  repeat refine ok_seq ?_
  refine ok_reg E [1, 2, 5, 6, 12] [] (by simp [-Option.some.injEq, -Prod.mk.injEq]; rfl) (by first | trivial | omega | simp | (simp; omega)) ?_
  repeat refine ok_seq ?_
  refine ok_if rfl (fun c1 => ?_) (fun c1 => ?_)
  · try simp at c1
    all_goals
      refine ok_skip ?_
      repeat refine ok_seq ?_
      refine ok_block ?_
      repeat refine ok_seq ?_
      refine ok_reg E [1, 2, 5, 6, 22] [] (by simp [-Option.some.injEq, -Prod.mk.injEq]; rfl) (by first | trivial | omega | simp | (simp; omega)) ?_
      repeat refine ok_seq ?_
      refine ok_if rfl (fun c2 => ?_) (fun c2 => ?_)
      · try simp at c2
        all_goals
          repeat refine ok_seq ?_
          refine ok_reg E [1, 2, 5, 6] [] (by simp [-Option.some.injEq, -Prod.mk.injEq]; rfl) (by simp [big]; omega) ?_
          repeat refine ok_seq ?_
          refine ok_reg E [1, 2, 5, 6] [] (by simp [-Option.some.injEq, -Prod.mk.injEq]; rfl) (by first | trivial | omega | simp | (simp; omega)) ?_
          -- end01
          rw [if_pos c2] at e1
          exact ⟨i + 1, by omega, by omega, by constructor <;> simp (disch := omega) [EntF, EntH, EntB, Conv, scop, wrap_i64, e1]⟩
      · try simp at c2
        all_goals
          refine ok_skip ?_
          repeat refine ok_seq ?_
          refine ok_reg E [1, 2, 5, 6] [] (by simp [-Option.some.injEq, -Prod.mk.injEq]; rfl) (by first | trivial | omega | simp | (simp; omega)) ?_
          -- end02
          rw [if_neg c2, List.append_nil] at e1
          exact ⟨i + 1, by omega, by omega, by constructor <;> simp (disch := omega) [EntF, EntH, EntB, Conv, scop, wrap_i64, e1]⟩
  · try simp at c1
    all_goals
      refine ok_exit ?_
      repeat refine ok_seq ?_
      refine ok_reg E [4] [] (by simp [-Option.some.injEq, -Prod.mk.injEq]; rfl) (by first | trivial | omega | simp | (simp; omega)) ?_
      refine ok_ret ⟨.inr rfl, ?_⟩
      -- ret1
      simp [resAll, resL, resA, frozE]
      rw [show i = g.rules.length by omega]

set_option maxRecDepth 8000 in
set_option maxHeartbeats 4000000 in
theorem sameP_ctr (a b : Prg) (hl : a.rules.length ≤ 1000000) : Ctr Tryz.prog 29 [pav a, pav b] [] (.d .bool (decide (SameP a b))) [] := by
  refine ctr_pure E Tryz.func29 rfl Tryz.ntmps29 Tryz.results29 (Nat.le_of_ble_eq_true rfl) rfl ?_
  simp only [pav]
  have k1 := sameAll_ctr a.atoms b.atoms
  repeat refine ok_seq ?_
  refine ok_reg E [2, 3] [] (by simp [-Option.some.injEq, -Prod.mk.injEq]; rfl) (by first | trivial | omega | simp | (simp; omega)) ?_
  repeat refine ok_seq ?_
  refine ok_regJ E [(20, .d .bool (decide (¬ (a.rules.length = b.rules.length ∧ a.atoms = b.atoms))))] [2, 3] [2, 3, 20] [.pure (.d .bool (decide (a.atoms = b.atoms)))] ?_ ?_
  · skip
    by_cases q0 : (a.rules.length : Int) = b.rules.length
    rotate_left
    · refine ⟨_, _, _, by simp [q0, -Option.some.injEq, -Prod.mk.injEq]; rfl, (by first | trivial | (simp_all; done) | (simp_all; omega)), by constructor <;> simp [EntF, EntH, EntB, Conv, scop, q0] <;> first | omega | (rw [Bool.eq_iff_iff]; simp; omega)⟩
    by_cases q1 : a.atoms = b.atoms <;> (
    refine ⟨_, _, _, by simp [q0, q1, -Option.some.injEq, -Prod.mk.injEq]; rfl, (by first | trivial | (simp_all; done) | (simp_all; omega)), by constructor <;> simp [EntF, EntH, EntB, Conv, scop, q0, q1] <;> first | omega | (rw [Bool.eq_iff_iff]; simp; omega)⟩)
  repeat refine ok_seq ?_
  refine ok_if rfl (fun c1 => ?_) (fun c1 => ?_)
  · try simp at c1
    all_goals
      repeat refine ok_seq ?_
      refine ok_reg E [4] [] (by simp [-Option.some.injEq, -Prod.mk.injEq]; rfl) (by first | trivial | omega | simp | (simp; omega)) ?_
      refine ok_ret ⟨.inr rfl, ?_⟩
      -- ret1
      simp [resAll, resL, resA, frozE]
      intro h; have h1 := h.1; have h2 := h.2.1; simp_all
  · try simp at c1
    all_goals
      refine ok_skip ?_
      repeat refine ok_seq ?_
      refine ok_reg E [2, 3, 5] [] (by simp [-Option.some.injEq, -Prod.mk.injEq]; rfl) (by first | trivial | omega | simp | (simp; omega)) ?_
      repeat refine ok_seq ?_
      refine ok_block ?_
      repeat refine ok_seq ?_
      refine ok_loop (σ := Nat) (fun i => [(2, .ptr 0 0), (3, .ptr 1 0), (5, .d .i (i : Int))]) (fun i => [.cells [.d .terms a.atoms, .d (.sl .rule) a.rules], .cells [.d .terms b.atoms, .d (.sl .rule) b.rules]]) (fun i => i ≤ a.rules.length ∧ ∀ j : Nat, j < i → rOrder (gr a.rules j) (gr b.rules j) = 0) (fun i => a.rules.length - i) 0 (by simp) ?_ ?_
      · constructor <;> simp [EntF, EntH, EntB, Conv, scop]
      rintro i ⟨hi1, hi⟩
      repeat refine ok_seq ?_
      refine ok_reg E [2, 3, 5, 25] [] (by simp [-Option.some.injEq, -Prod.mk.injEq]; rfl) (by first | trivial | omega | simp | (simp; omega)) ?_
      repeat refine ok_seq ?_
      refine ok_if rfl (fun c2 => ?_) (fun c2 => ?_)
      · try simp at c2
        all_goals
          refine ok_skip ?_
          repeat refine ok_seq ?_
          refine ok_block ?_
          repeat refine ok_seq ?_
          refine ok_dr E rfl [2, 3, 5, 39] 12 [.pure (.d .i (rOrder (gr a.rules i) (gr b.rules i)))] (by decide) (by simp [nodupF]) (by simp [-Option.some.injEq, -Prod.mk.injEq]; rfl) (by (have k1 := order_ctr (gr a.rules i) (gr b.rules i); (try simp at k1); simp [k1]; try omega)) ?_
          repeat refine ok_seq ?_
          refine ok_if rfl (fun c3 => ?_) (fun c3 => ?_)
          · try simp at c3
            all_goals
              repeat refine ok_seq ?_
              refine ok_reg E [4] [] (by simp [-Option.some.injEq, -Prod.mk.injEq]; rfl) (by first | trivial | omega | simp | (simp; omega)) ?_
              refine ok_ret ⟨.inr rfl, ?_⟩
              -- ret2
              simp [resAll, resL, resA, frozE]
              intro h; exact c3 (h.2.2 i c2)
          · try simp at c3
            all_goals
              refine ok_skip ?_
              repeat refine ok_seq ?_
              refine ok_reg E [2, 3, 5] [] (by simp [-Option.some.injEq, -Prod.mk.injEq]; rfl) (by first | trivial | omega | simp | (simp; omega)) ?_
              -- end01
              exact ⟨i + 1, ⟨by omega, fun j hj => by by_cases e : j = i; subst e; exact c3; exact hi j (by omega)⟩, by omega, by constructor <;> simp (disch := omega) [EntF, EntH, EntB, Conv, scop, wrap_i64]⟩
      · try simp at c2
        all_goals
          refine ok_exit ?_
          repeat refine ok_seq ?_
          refine ok_reg E [4] [] (by simp [-Option.some.injEq, -Prod.mk.injEq]; rfl) (by first | trivial | omega | simp | (simp; omega)) ?_
          refine ok_ret ⟨.inr rfl, ?_⟩
          -- ret3
          simp [resAll, resL, resA, frozE]
          exact ⟨c1.1, c1.2, fun j hj => hi j (by omega)⟩

set_option maxRecDepth 8000 in
set_option maxHeartbeats 4000000 in
theorem putI_ctr (l : List Int) (n : Int) (hl : l.length ≤ 1000000) : Ctr Tryz.prog 179 [.d .ints l, .d .i n] [] (.d .ints (putBy subI l n)) [] := by
  refine ctr_pure E Tryz.func179 rfl Tryz.ntmps179 Tryz.results179 (Nat.le_of_ble_eq_true rfl) rfl ?_
  repeat refine ok_seq ?_
  refine ok_reg E [0, 1] [] (by simp [-Option.some.injEq, -Prod.mk.injEq]; rfl) (by first | trivial | omega | simp | (simp; omega)) ?_
  repeat refine ok_seq ?_
  refine ok_reg E [0, 1, 5] [] (by simp [-Option.some.injEq, -Prod.mk.injEq]; rfl) (by first | trivial | omega | simp | (simp; omega)) ?_
  repeat refine ok_seq ?_
  refine ok_block ?_
  repeat refine ok_seq ?_
  refine ok_loop (σ := Nat) (fun i => [(0, .d .ints l), (1, .d .i n), (5, .d .i (i : Int))]) (fun i => []) (fun i => i ≤ l.length ∧ ∀ j : Nat, j < i → gi l j < n) (fun i => l.length - i) 0 (by simp) ?_ ?_
  · constructor <;> simp [EntF, EntH, EntB, Conv, scop]
  rintro i ⟨hi1, hi⟩
  repeat refine ok_seq ?_
  refine ok_regJ E [(18, .d .bool (decide (i < l.length ∧ gi l i < n)))] [0, 1, 5] [0, 1, 5, 18] [] ?_ ?_
  · skip
    by_cases q0 : i < l.length
    rotate_left
    · refine ⟨_, _, _, by simp [q0, -Option.some.injEq, -Prod.mk.injEq]; rfl, (by first | trivial | omega | simp | (simp; omega)), by constructor <;> simp [EntF, EntH, EntB, Conv, scop, q0] <;> first | omega | (rw [Bool.eq_iff_iff]; simp; omega)⟩
    by_cases q1 : gi l i < n <;> (
    refine ⟨_, _, _, by simp [q0, q1, -Option.some.injEq, -Prod.mk.injEq]; rfl, (by first | trivial | omega | simp | (simp; omega)), by constructor <;> simp [EntF, EntH, EntB, Conv, scop, q0, q1] <;> first | omega | (rw [Bool.eq_iff_iff]; simp; omega)⟩)
  repeat refine ok_seq ?_
  refine ok_if rfl (fun c1 => ?_) (fun c1 => ?_)
  · try simp at c1
    all_goals
      refine ok_skip ?_
      repeat refine ok_seq ?_
      refine ok_block ?_
      repeat refine ok_seq ?_
      refine ok_reg E [0, 1, 5] [] (by simp [-Option.some.injEq, -Prod.mk.injEq]; rfl) (by first | trivial | omega | simp | (simp; omega)) ?_
      -- end01
      exact ⟨i + 1, ⟨by omega, fun j hj => by by_cases e : j = i; subst e; exact c1.2; exact hi j (by omega)⟩, by omega, by constructor <;> simp (disch := omega) [EntF, EntH, EntB, Conv, scop, wrap_i64]⟩
  · try simp at c1
    all_goals
      refine ok_exit ?_
      repeat refine ok_seq ?_
      refine ok_regJ E [(32, .d .bool (decide (i < l.length ∧ gi l i = n)))] [0, 1, 5] [0, 1, 5, 32] [] ?_ ?_
      · skip
        by_cases q0 : i < l.length
        rotate_left
        · refine ⟨_, _, _, by simp [q0, -Option.some.injEq, -Prod.mk.injEq]; rfl, (by first | trivial | omega | simp | (simp; omega)), by constructor <;> simp [EntF, EntH, EntB, Conv, scop, q0] <;> first | omega | (rw [Bool.eq_iff_iff]; simp; omega)⟩
        by_cases q1 : gi l i = n <;> (
        refine ⟨_, _, _, by simp [q0, q1, -Option.some.injEq, -Prod.mk.injEq]; rfl, (by first | trivial | omega | simp | (simp; omega)), by constructor <;> simp [EntF, EntH, EntB, Conv, scop, q0, q1] <;> first | omega | (rw [Bool.eq_iff_iff]; simp; omega)⟩)
      repeat refine ok_seq ?_
      refine ok_if rfl (fun c2 => ?_) (fun c2 => ?_)
      · try simp at c2
        all_goals
          repeat refine ok_seq ?_
          refine ok_reg E [4] [] (by simp [-Option.some.injEq, -Prod.mk.injEq]; rfl) (by first | trivial | omega | simp | (simp; omega)) ?_
          refine ok_ret ⟨.inr rfl, ?_⟩
          -- ret1
          simp [resAll, resL, resA, frozE]
          have h0 := putBy_at subI n l i hi1 (fun j h h2 => by have := hi j h2; rw [gi_lt h] at this; simp only [subI]; omega)
          rw [gi_lt c2.1] at c2
          have h1 : putBy subI (l.drop i) n = l.drop i := by
            rw [List.drop_eq_getElem_cons c2.1, putBy, if_neg (by simp only [subI]; omega), if_pos (by simp only [subI]; omega)]
          rw [h0, h1, List.take_append_drop]
      · try simp at c2
        all_goals
          refine ok_skip ?_
          repeat refine ok_seq ?_
          refine ok_reg E [0, 1, 5, 6] [] (by simp [-Option.some.injEq, -Prod.mk.injEq]; rfl) (by simp [big]; omega) ?_
          repeat refine ok_seq ?_
          refine ok_reg E [0, 5, 6] [] (by simp [-Option.some.injEq, -Prod.mk.injEq]; rfl) (by simp [big]; omega) ?_
          repeat refine ok_seq ?_
          refine ok_reg E [4] [] (by simp [-Option.some.injEq, -Prod.mk.injEq]; rfl) (by simp [big]; omega) ?_
          refine ok_ret ⟨.inr rfl, ?_⟩
          -- ret2
          simp [resAll, resL, resA, frozE]
          have h0 := putBy_at subI n l i hi1 (fun j h h2 => by have := hi j h2; rw [gi_lt h] at this; simp only [subI]; omega)
          rw [h0]
          congr 1
          by_cases h : i < l.length
          · have c3 := c1 h
            have c4 := c2 h
            rw [gi_lt h] at c3 c4
            rw [List.drop_eq_getElem_cons h, putBy, if_neg (by simp only [subI]; omega), if_neg (by simp only [subI]; omega)]
          · rw [List.drop_of_length_le (by omega)]; rfl

set_option maxRecDepth 8000 in
set_option maxHeartbeats 4000000 in
theorem putT_ctr (l : List Term) (n : Term) (hl : l.length ≤ 1000000) : Ctr Tryz.prog 112 [.d (.sl .term) l, .d .term n] [] (.d (.sl .term) (putBy cmpT l n)) [] := by
  refine ctr_pure E Tryz.func112 rfl Tryz.ntmps112 Tryz.results112 (Nat.le_of_ble_eq_true rfl) rfl ?_
  repeat refine ok_seq ?_
  refine ok_reg E [0, 1] [] (by simp [-Option.some.injEq, -Prod.mk.injEq]; rfl) (by first | trivial | omega | simp | (simp; omega)) ?_
  repeat refine ok_seq ?_
  refine ok_reg E [0, 1, 5] [] (by simp [-Option.some.injEq, -Prod.mk.injEq]; rfl) (by first | trivial | omega | simp | (simp; omega)) ?_
  repeat refine ok_seq ?_
  refine ok_block ?_
  repeat refine ok_seq ?_
  refine ok_loop (σ := Nat) (fun i => [(0, .d (.sl .term) l), (1, .d .term n), (5, .d .i (i : Int))]) (fun i => []) (fun i => i ≤ l.length ∧ ∀ j : Nat, j < i → cmpT (gt l j) n < 0) (fun i => l.length - i) 0 (by simp) ?_ ?_
  · constructor <;> simp [EntF, EntH, EntB, Conv, scop]
  rintro i ⟨hi1, hi⟩
  repeat refine ok_seq ?_
  refine ok_regJ E [(19, .d .bool (decide (i < l.length ∧ cmpT (gt l i) n < 0)))] [0, 1, 5] [0, 1, 5, 19] [.pure (.d .i (cmpT (gt l i) n))] ?_ ?_
  · skip
    by_cases q0 : i < l.length
    rotate_left
    · refine ⟨_, _, _, by simp [q0, -Option.some.injEq, -Prod.mk.injEq]; rfl, (by first | trivial | (have k1 := cmpT_ctr (gt l i) n; (try simp at k1); simp [k1]; try omega) | (have k1 := cmpT_ctr (gt l i) n; simp_all; done) | (have k1 := cmpT_ctr (gt l i) n; simp_all; omega)), by constructor <;> simp [EntF, EntH, EntB, Conv, scop, q0] <;> first | omega | (rw [Bool.eq_iff_iff]; simp; omega)⟩
    by_cases q1 : cmpT (gt l i) n < 0 <;> (
    refine ⟨_, _, _, by simp [q0, q1, -Option.some.injEq, -Prod.mk.injEq]; rfl, (by first | trivial | (have k1 := cmpT_ctr (gt l i) n; (try simp at k1); simp [k1]; try omega) | (have k1 := cmpT_ctr (gt l i) n; simp_all; done) | (have k1 := cmpT_ctr (gt l i) n; simp_all; omega)), by constructor <;> simp [EntF, EntH, EntB, Conv, scop, q0, q1] <;> first | omega | (rw [Bool.eq_iff_iff]; simp; omega)⟩)
  repeat refine ok_seq ?_
  refine ok_if rfl (fun c1 => ?_) (fun c1 => ?_)
  · try simp at c1
    all_goals
      refine ok_skip ?_
      repeat refine ok_seq ?_
      refine ok_block ?_
      repeat refine ok_seq ?_
      refine ok_reg E [0, 1, 5] [] (by simp [-Option.some.injEq, -Prod.mk.injEq]; rfl) (by first | trivial | omega | simp | (simp; omega)) ?_
      -- end01
      exact ⟨i + 1, ⟨by omega, fun j hj => by by_cases e : j = i; subst e; exact c1.2; exact hi j (by omega)⟩, by omega, by constructor <;> simp (disch := omega) [EntF, EntH, EntB, Conv, scop, wrap_i64]⟩
  · try simp at c1
    all_goals
      refine ok_exit ?_
      repeat refine ok_seq ?_
      refine ok_regJ E [(34, .d .bool (decide (i < l.length ∧ cmpT (gt l i) n = 0)))] [0, 1, 5] [0, 1, 5, 34] [.pure (.d .i (cmpT (gt l i) n))] ?_ ?_
      · skip
        by_cases q0 : i < l.length
        rotate_left
        · refine ⟨_, _, _, by simp [q0, -Option.some.injEq, -Prod.mk.injEq]; rfl, (by first | trivial | (have k1 := cmpT_ctr (gt l i) n; (try simp at k1); simp [k1]; try omega) | (have k1 := cmpT_ctr (gt l i) n; simp_all; done) | (have k1 := cmpT_ctr (gt l i) n; simp_all; omega)), by constructor <;> simp [EntF, EntH, EntB, Conv, scop, q0] <;> first | omega | (rw [Bool.eq_iff_iff]; simp; omega)⟩
        by_cases q1 : cmpT (gt l i) n = 0 <;> (
        refine ⟨_, _, _, by simp [q0, q1, -Option.some.injEq, -Prod.mk.injEq]; rfl, (by first | trivial | (have k1 := cmpT_ctr (gt l i) n; (try simp at k1); simp [k1]; try omega) | (have k1 := cmpT_ctr (gt l i) n; simp_all; done) | (have k1 := cmpT_ctr (gt l i) n; simp_all; omega)), by constructor <;> simp [EntF, EntH, EntB, Conv, scop, q0, q1] <;> first | omega | (rw [Bool.eq_iff_iff]; simp; omega)⟩)
      repeat refine ok_seq ?_
      refine ok_if rfl (fun c2 => ?_) (fun c2 => ?_)
      · try simp at c2
        all_goals
          repeat refine ok_seq ?_
          refine ok_reg E [4] [] (by simp [-Option.some.injEq, -Prod.mk.injEq]; rfl) (by first | trivial | omega | simp | (simp; omega)) ?_
          refine ok_ret ⟨.inr rfl, ?_⟩
          -- ret1
          simp [resAll, resL, resA, frozE]
          have h0 := putBy_at cmpT n l i hi1 (fun j h h2 => by have := hi j h2; rwa [gt_lt h] at this)
          rw [gt_lt c2.1] at c2
          have h1 : putBy cmpT (l.drop i) n = l.drop i := by
            rw [List.drop_eq_getElem_cons c2.1, putBy, if_neg (by omega), if_pos c2.2]
          rw [h0, h1, List.take_append_drop]
      · try simp at c2
        all_goals
          refine ok_skip ?_
          repeat refine ok_seq ?_
          refine ok_reg E [0, 1, 5, 6] [] (by simp [-Option.some.injEq, -Prod.mk.injEq]; rfl) (by first | trivial | (simp [big]; omega) | (simp [big]; done) | (unfold big; omega)) ?_
          repeat refine ok_seq ?_
          refine ok_reg E [0, 5, 6] [] (by simp [-Option.some.injEq, -Prod.mk.injEq]; rfl) (by first | trivial | (simp [big]; omega)) ?_
          repeat refine ok_seq ?_
          refine ok_reg E [4] [] (by simp [-Option.some.injEq, -Prod.mk.injEq]; rfl) (by first | trivial | (simp [big]; omega) | (unfold big; omega)) ?_
          refine ok_ret ⟨.inr rfl, ?_⟩
          -- ret2
          simp [resAll, resL, resA, frozE]
          have h0 := putBy_at cmpT n l i hi1 (fun j h h2 => by have := hi j h2; rwa [gt_lt h] at this)
          rw [h0]
          congr 1
          by_cases h : i < l.length
          · have c3 := c1 h
            have c4 := c2 h
            rw [gt_lt h] at c3 c4
            rw [List.drop_eq_getElem_cons h, putBy, if_neg (by omega), if_neg c4]
          · rw [List.drop_of_length_le (by omega)]; rfl

set_option maxRecDepth 8000 in
set_option maxHeartbeats 4000000 in
theorem putR_ctr (l : List Rule) (n : Rule) (hl : l.length ≤ 1000000) : Ctr Tryz.prog 113 [.d (.sl .rule) l, avOf .rule n] [] (.d (.sl .rule) (putBy rOrder l n)) [] := by
  refine ctr_pure E Tryz.func113 rfl Tryz.ntmps113 Tryz.results113 (Nat.le_of_ble_eq_true rfl) rfl ?_
  repeat refine ok_seq ?_
  refine ok_reg E [0, 3] [] (by simp [-Option.some.injEq, -Prod.mk.injEq]; rfl) (by first | trivial | omega | simp | (simp; omega)) ?_
  repeat refine ok_seq ?_
  refine ok_reg E [0, 3, 5] [] (by simp [-Option.some.injEq, -Prod.mk.injEq]; rfl) (by first | trivial | omega | simp | (simp; omega)) ?_
  repeat refine ok_seq ?_
  refine ok_block ?_
  repeat refine ok_seq ?_
  refine ok_loop (σ := Nat) (fun i => [(0, .d (.sl .rule) l), (3, .ptr 0 0), (5, .d .i (i : Int))]) (fun i => [.cells [.d .i n.head, .d .ints n.pos, .d .ints n.neg]]) (fun i => i ≤ l.length ∧ ∀ j : Nat, j < i → rOrder (gr l j) n < 0) (fun i => l.length - i) 0 (by simp) ?_ ?_
  · constructor <;> simp [EntF, EntH, EntB, Conv, scop]
  rintro i ⟨hi1, hi⟩
  repeat refine ok_seq ?_
  refine ok_drJ E rfl [(19, .d .bool (decide (i < l.length ∧ rOrder (gr l i) n < 0)))] [0, 3, 5] [0, 3, 5, 19] 13 [.pure (.d .i (rOrder (gr l i) n))] (by decide) (by simp [nodupF]) ?_ ?_
  · skip
    by_cases q0 : i < l.length
    rotate_left
    · refine ⟨_, _, _, by simp [q0, -Option.some.injEq, -Prod.mk.injEq]; rfl, (by first | trivial | (have k1 := order_ctr (gr l i) n; (try simp at k1); simp [k1]; try omega) | (have k1 := order_ctr (gr l i) n; simp_all; done) | (have k1 := order_ctr (gr l i) n; simp_all; omega)), by constructor <;> simp [EntF, EntH, EntB, Conv, scop, q0] <;> first | omega | (rw [Bool.eq_iff_iff]; simp; omega)⟩
    by_cases q1 : rOrder (gr l i) n < 0 <;> (
    refine ⟨_, _, _, by simp [q0, q1, -Option.some.injEq, -Prod.mk.injEq]; rfl, (by first | trivial | (have k1 := order_ctr (gr l i) n; (try simp at k1); simp [k1]; try omega) | (have k1 := order_ctr (gr l i) n; simp_all; done) | (have k1 := order_ctr (gr l i) n; simp_all; omega)), by constructor <;> simp [EntF, EntH, EntB, Conv, scop, q0, q1] <;> first | omega | (rw [Bool.eq_iff_iff]; simp; omega)⟩)
  repeat refine ok_seq ?_
  refine ok_if rfl (fun c1 => ?_) (fun c1 => ?_)
  · try simp at c1
    all_goals
      refine ok_skip ?_
      repeat refine ok_seq ?_
      refine ok_block ?_
      repeat refine ok_seq ?_
      refine ok_reg E [0, 3, 5] [] (by simp [-Option.some.injEq, -Prod.mk.injEq]; rfl) (by first | trivial | omega | simp | (simp; omega)) ?_
      -- end01
      exact ⟨i + 1, ⟨by omega, fun j hj => by by_cases e : j = i; subst e; exact c1.2; exact hi j (by omega)⟩, by omega, by constructor <;> simp (disch := omega) [EntF, EntH, EntB, Conv, scop, wrap_i64]⟩
  · try simp at c1
    all_goals
      refine ok_exit ?_
      repeat refine ok_seq ?_
      refine ok_drJ E rfl [(34, .d .bool (decide (i < l.length ∧ rOrder (gr l i) n = 0)))] [0, 3, 5] [0, 3, 5, 34] 13 [.pure (.d .i (rOrder (gr l i) n))] (by decide) (by simp [nodupF]) ?_ ?_
      · skip
        by_cases q0 : i < l.length
        rotate_left
        · refine ⟨_, _, _, by simp [q0, -Option.some.injEq, -Prod.mk.injEq]; rfl, (by first | trivial | (have k1 := order_ctr (gr l i) n; (try simp at k1); simp [k1]; try omega) | (have k1 := order_ctr (gr l i) n; simp_all; done) | (have k1 := order_ctr (gr l i) n; simp_all; omega)), by constructor <;> simp [EntF, EntH, EntB, Conv, scop, q0] <;> first | omega | (rw [Bool.eq_iff_iff]; simp; omega)⟩
        by_cases q1 : rOrder (gr l i) n = 0 <;> (
        refine ⟨_, _, _, by simp [q0, q1, -Option.some.injEq, -Prod.mk.injEq]; rfl, (by first | trivial | (have k1 := order_ctr (gr l i) n; (try simp at k1); simp [k1]; try omega) | (have k1 := order_ctr (gr l i) n; simp_all; done) | (have k1 := order_ctr (gr l i) n; simp_all; omega)), by constructor <;> simp [EntF, EntH, EntB, Conv, scop, q0, q1] <;> first | omega | (rw [Bool.eq_iff_iff]; simp; omega)⟩)
      repeat refine ok_seq ?_
      refine ok_if rfl (fun c2 => ?_) (fun c2 => ?_)
      · try simp at c2
        all_goals
          repeat refine ok_seq ?_
          refine ok_reg E [4] [] (by simp [-Option.some.injEq, -Prod.mk.injEq]; rfl) (by first | trivial | omega | simp | (simp; omega)) ?_
          refine ok_ret ⟨.inr rfl, ?_⟩
          -- ret1
          simp [resAll, resL, resA, frozE]
          have h0 := putBy_at rOrder n l i hi1 (fun j h h2 => by have := hi j h2; rwa [gr_lt h] at this)
          rw [gr_lt c2.1] at c2
          have h1 : putBy rOrder (l.drop i) n = l.drop i := by
            rw [List.drop_eq_getElem_cons c2.1, putBy, if_neg (by omega), if_pos c2.2]
          rw [h0, h1, List.take_append_drop]
      · try simp at c2
        all_goals
          refine ok_skip ?_
          repeat refine ok_seq ?_
          refine ok_reg E [0, 3, 5, 6] [] (by simp [-Option.some.injEq, -Prod.mk.injEq]; rfl) (by first | trivial | (simp [big]; omega) | (simp [big]; done) | (unfold big; omega)) ?_
          repeat refine ok_seq ?_
          refine ok_reg E [0, 5, 6] [] (by simp [-Option.some.injEq, -Prod.mk.injEq]; rfl) (by first | trivial | (simp [big]; omega)) ?_
          repeat refine ok_seq ?_
          refine ok_reg E [4] [] (by simp [-Option.some.injEq, -Prod.mk.injEq]; rfl) (by first | trivial | (simp [big]; omega) | (unfold big; omega)) ?_
          refine ok_ret ⟨.inr rfl, ?_⟩
          -- ret2
          simp [resAll, resL, resA, frozE]
          have h0 := putBy_at rOrder n l i hi1 (fun j h h2 => by have := hi j h2; rwa [gr_lt h] at this)
          rw [h0]
          congr 1
          by_cases h : i < l.length
          · have c3 := c1 h
            have c4 := c2 h
            rw [gr_lt h] at c3 c4
            rw [List.drop_eq_getElem_cons h, putBy, if_neg (by omega), if_neg c4]
          · rw [List.drop_of_length_le (by omega)]; rfl

end Go.Proofs.YtgapiecbinplfaaGreat
/- Walks: more of the document's answer to layer 16. Printed by walk.py from annotations. -/
namespace Go.Proofs.YtgapiecbinplfaaGreat
open Go.RowKit


set_option maxRecDepth 8000 in
set_option maxHeartbeats 4000000 in
theorem nameT_ctr (s : List UInt8) : Ctr Tryz.prog 106 [.d .str s] [] (.d .term (nameT s)) [] := by
  refine ctr_pure E Tryz.func106 rfl Tryz.ntmps106 Tryz.results106 (Nat.le_of_ble_eq_true rfl) rfl ?_
  repeat refine ok_seq ?_
  refine ok_reg E [0] [] (by simp [-Option.some.injEq, -Prod.mk.injEq]; rfl) (by first | trivial | omega | simp | (simp; omega)) ?_
  repeat refine ok_seq ?_
  refine ok_reg E [2] [] (by simp [-Option.some.injEq, -Prod.mk.injEq]; rfl) (by first | trivial | omega | simp | (simp; omega)) ?_
  refine ok_ret ⟨.inr rfl, ?_⟩
  -- ret1
  simp [nameT]

set_option maxRecDepth 8000 in
set_option maxHeartbeats 4000000 in
theorem placeI_ctr (l : List Int) (n : Int) : Ctr Tryz.prog 181 [.d .ints l, .d .i n] [] (.d .i (placeI l n)) [] := by
  refine ctr_pure E Tryz.func181 rfl Tryz.ntmps181 Tryz.results181 (Nat.le_of_ble_eq_true rfl) rfl ?_
  repeat refine ok_seq ?_
  refine ok_reg E [0, 1] [] (by simp [-Option.some.injEq, -Prod.mk.injEq]; rfl) (by first | trivial | omega | simp | (simp; omega)) ?_
  repeat refine ok_seq ?_
  refine ok_reg E [0, 1, 5] [] (by simp [-Option.some.injEq, -Prod.mk.injEq]; rfl) (by first | trivial | omega | simp | (simp; omega)) ?_
  repeat refine ok_seq ?_
  refine ok_block ?_
  repeat refine ok_seq ?_
  refine ok_lenN 0 rfl fun ha => ?_
  refine ok_loop (σ := Nat) (fun i => [(0, .d .ints l), (1, .d .i n), (5, .d .i (i : Int))]) (fun i => []) (fun i => i ≤ l.length ∧ idxP (fun x => decide (x = n)) (l.drop i) i = placeI l n) (fun i => l.length - i) 0 ⟨by simp, rfl⟩ ?_ ?_
  · constructor <;> simp [EntF, EntH, EntB, Conv, scop]
  rintro i ⟨hi1, hi⟩
  repeat refine ok_seq ?_
  refine ok_reg E [0, 1, 5, 9] [] (by simp [-Option.some.injEq, -Prod.mk.injEq]; rfl) (by first | trivial | omega | simp | (simp; omega)) ?_
  repeat refine ok_seq ?_
  refine ok_if rfl (fun c1 => ?_) (fun c1 => ?_)
  · try simp at c1
    all_goals
      refine ok_skip ?_
      repeat refine ok_seq ?_
      refine ok_block ?_
      repeat refine ok_seq ?_
      refine ok_reg E [0, 1, 5, 17] [] (by simp [-Option.some.injEq, -Prod.mk.injEq]; rfl) (by first | trivial | omega | simp | (simp; omega)) ?_
      repeat refine ok_seq ?_
      refine ok_if rfl (fun c2 => ?_) (fun c2 => ?_)
      · try simp at c2
        all_goals
          repeat refine ok_seq ?_
          refine ok_reg E [4] [] (by simp [-Option.some.injEq, -Prod.mk.injEq]; rfl) (by first | trivial | omega | simp | (simp; omega)) ?_
          refine ok_ret ⟨.inr rfl, ?_⟩
          -- ret1
          simp [resAll, resL, resA, frozE]
          rw [← hi, List.drop_eq_getElem_cons c1, idxP, ← gi_lt c1, if_pos (by simpa using c2)]
      · try simp at c2
        all_goals
          refine ok_skip ?_
          repeat refine ok_seq ?_
          refine ok_reg E [0, 1, 5] [] (by simp [-Option.some.injEq, -Prod.mk.injEq]; rfl) (by first | trivial | omega | simp | (simp; omega)) ?_
          -- end01
          exact ⟨i + 1, ⟨by omega, by rw [← hi, List.drop_eq_getElem_cons c1, idxP, ← gi_lt c1, if_neg (by simpa using c2)]⟩, by omega, by constructor <;> simp (disch := omega) [EntF, EntH, EntB, Conv, scop, wrap_i64]⟩
  · try simp at c1
    all_goals
      refine ok_exit ?_
      repeat refine ok_seq ?_
      refine ok_reg E [4] [] (by simp [-Option.some.injEq, -Prod.mk.injEq]; rfl) (by first | trivial | omega | simp | (simp; omega)) ?_
      refine ok_ret ⟨.inr rfl, ?_⟩
      -- ret2
      simp [resAll, resL, resA, frozE]
      rw [← hi, List.drop_of_length_le (by omega)]; rfl

set_option maxRecDepth 8000 in
set_option maxHeartbeats 4000000 in
theorem anewR_ctr (l s : List Int) (hl : l.length ≤ 1000000) : Ctr Tryz.prog 182 [.d .ints l, .d .ints s] [] (.d .ints (anewR l s)) [] := by
  refine ctr_pure E Tryz.func182 rfl Tryz.ntmps182 Tryz.results182 (Nat.le_of_ble_eq_true rfl) rfl ?_
  repeat refine ok_seq ?_
  refine ok_reg E [0, 1] [] (by simp [-Option.some.injEq, -Prod.mk.injEq]; rfl) (by first | trivial | omega | simp | (simp; omega)) ?_
  repeat refine ok_seq ?_
  refine ok_reg E [0, 1, 5] [] (by simp [-Option.some.injEq, -Prod.mk.injEq]; rfl) (by first | trivial | omega | simp | (simp; omega)) ?_
  repeat refine ok_seq ?_
  refine ok_reg E [0, 1, 5, 6] [] (by simp [-Option.some.injEq, -Prod.mk.injEq]; rfl) (by first | trivial | omega | simp | (simp; omega)) ?_
  repeat refine ok_seq ?_
  refine ok_block ?_
  repeat refine ok_seq ?_
  refine ok_loop (σ := Nat) (fun i => [(0, .d .ints l), (1, .d .ints s), (5, .orow 0), (6, .d .i (i : Int))]) (fun i => [.orow 3 .i ((l.take i).map (placeI s))]) (fun i => i ≤ l.length) (fun i => l.length - i) 0 (by simp) ?_ ?_
  · constructor <;> simp [EntF, EntH, EntB, Conv, scop]
  rintro i hi
  repeat refine ok_seq ?_
  refine ok_reg E [0, 1, 5, 6, 11] [] (by simp [-Option.some.injEq, -Prod.mk.injEq]; rfl) (by first | trivial | omega | simp | (simp; omega)) ?_
  repeat refine ok_seq ?_
  refine ok_if rfl (fun c1 => ?_) (fun c1 => ?_)
  · try simp at c1
    all_goals
      refine ok_skip ?_
      repeat refine ok_seq ?_
      refine ok_block ?_
      repeat refine ok_seq ?_
      refine ok_reg E [0, 1, 5, 6] [.pure (.d .i (placeI s (gi l i)))] (by simp [-Option.some.injEq, -Prod.mk.injEq]; rfl) (by (have k1 := placeI_ctr s (gi l i); (try simp at k1); simp [k1, big]; omega)) ?_
      repeat refine ok_seq ?_
      refine ok_reg E [0, 1, 5, 6] [] (by simp [-Option.some.injEq, -Prod.mk.injEq]; rfl) (by first | trivial | omega | simp | (simp; omega)) ?_
      -- end01
      have e1 : (l.take (i + 1)).map (placeI s) = (l.take i).map (placeI s) ++ [placeI s (gi l i)] := by rw [List.take_succ_eq_append_getElem c1, List.map_append, gi_lt c1]; rfl
      exact ⟨i + 1, by omega, by omega, by constructor <;> simp (disch := omega) [EntF, EntH, EntB, Conv, scop, wrap_i64, e1]⟩
  · try simp at c1
    all_goals
      refine ok_exit ?_
      repeat refine ok_seq ?_
      refine ok_reg E [4] [] (by simp [-Option.some.injEq, -Prod.mk.injEq]; rfl) (by first | trivial | omega | simp | (simp; omega)) ?_
      refine ok_ret ⟨.inr rfl, ?_⟩
      -- ret1
      simp [resAll, resL, resA, frozE]
      rw [List.take_of_length_le (by simpa using c1)]; rfl

set_option maxRecDepth 8000 in
set_option maxHeartbeats 4000000 in
theorem placesR_ctr (g : Prg) (l : List Term) (hl : l.length ≤ 100000) (hg : g.atoms.length ≤ 1000000) : Ctr Tryz.prog 114 [pav g, .d .terms l] [] (.d .ints (placesR g.atoms l)) [] := by
  refine ctr_pure E Tryz.func114 rfl Tryz.ntmps114 Tryz.results114 (Nat.le_of_ble_eq_true rfl) rfl ?_
  simp only [pav]
  repeat refine ok_seq ?_
  refine ok_reg E [1, 2] [] (by simp [-Option.some.injEq, -Prod.mk.injEq]; rfl) (by first | trivial | omega | simp | (simp; omega)) ?_
  repeat refine ok_seq ?_
  refine ok_reg E [1, 2, 5] [] (by simp [-Option.some.injEq, -Prod.mk.injEq]; rfl) (by first | trivial | omega | simp | (simp; omega)) ?_
  repeat refine ok_seq ?_
  refine ok_reg E [1, 2, 5, 6] [] (by simp [-Option.some.injEq, -Prod.mk.injEq]; rfl) (by first | trivial | omega | simp | (simp; omega)) ?_
  repeat refine ok_seq ?_
  refine ok_block ?_
  repeat refine ok_seq ?_
  refine ok_loop (σ := Nat) (fun i => [(1, .d .terms l), (2, .ptr 0 0), (5, .d .ints (placesR g.atoms (l.take i))), (6, .d .i (i : Int))]) (fun i => [.cells [.d .terms g.atoms, .d (.sl .rule) g.rules]]) (fun i => i ≤ l.length) (fun i => l.length - i) 0 (by simp) ?_ ?_
  · constructor <;> simp [EntF, EntH, EntB, Conv, scop, placesR]
  rintro i hi
  have k3 : (placesR g.atoms (l.take i)).length ≤ i := by have := placesR_len g.atoms (l.take i) []; simp at this; unfold placesR; omega
  repeat refine ok_seq ?_
  refine ok_reg E [1, 2, 5, 6, 11] [] (by simp [-Option.some.injEq, -Prod.mk.injEq]; rfl) (by first | trivial | omega | simp | (simp; omega)) ?_
  repeat refine ok_seq ?_
  refine ok_if rfl (fun c1 => ?_) (fun c1 => ?_)
  · try simp at c1
    all_goals
      refine ok_skip ?_
      repeat refine ok_seq ?_
      refine ok_block ?_
      repeat refine ok_seq ?_
      refine ok_dr E rfl [1, 2, 5, 6] 9 [.pure (.d .i (findR g.atoms (gt l i))), .pure (.d .ints (putBy subI (placesR g.atoms (l.take i)) (findR g.atoms (gt l i))))] (by decide) (by simp [nodupF]) (by simp [-Option.some.injEq, -Prod.mk.injEq]; rfl) (by (have k1 := findR_ctr g (gt l i) hg; have k2 := putI_ctr (placesR g.atoms (l.take i)) (findR g.atoms (gt l i)) (by omega); (try simp at k1); simp [k1, k2]; try omega)) ?_
      repeat refine ok_seq ?_
      refine ok_reg E [1, 2, 5, 6] [] (by simp [-Option.some.injEq, -Prod.mk.injEq]; rfl) (by first | trivial | omega | simp | (simp; omega)) ?_
      -- end01
      have e1 := placesR_step g.atoms c1
      exact ⟨i + 1, by omega, by omega, by constructor <;> simp (disch := omega) [EntF, EntH, EntB, Conv, scop, wrap_i64, e1]⟩
  · try simp at c1
    all_goals
      refine ok_exit ?_
      repeat refine ok_seq ?_
      refine ok_reg E [4] [] (by simp [-Option.some.injEq, -Prod.mk.injEq]; rfl) (by first | trivial | omega | simp | (simp; omega)) ?_
      refine ok_ret ⟨.inr rfl, ?_⟩
      -- ret1
      simp [resAll, resL, resA, frozE]
      rw [List.take_of_length_le c1]

end Go.Proofs.YtgapiecbinplfaaGreat
/- Walks: the program of instances. Printed by walk.py from annotations. -/
namespace Go.Proofs.YtgapiecbinplfaaGreat
open Go.RowKit


set_option maxRecDepth 8000 in
set_option maxHeartbeats 4000000 in
theorem fromR_ctr (l : List Inst) (hl : InstsOk l) : Ctr Tryz.prog 39 [.d (.sl .inst) l] [] (pav (fromR l)) [] := by
  refine ctr_pure E Tryz.func39 rfl Tryz.ntmps39 Tryz.results39 (Nat.le_of_ble_eq_true rfl) rfl ?_
  have hl1 := hl.1
  repeat refine ok_seq ?_
  refine ok_reg E [0, 2] [] (by simp [-Option.some.injEq, -Prod.mk.injEq]; rfl) (by first | trivial | omega | simp | (simp; omega)) ?_
  repeat refine ok_seq ?_
  refine ok_reg E [0, 2, 3] [] (by simp [-Option.some.injEq, -Prod.mk.injEq]; rfl) (by first | trivial | omega | simp | (simp; omega)) ?_
  repeat refine ok_seq ?_
  refine ok_reg E [0, 2, 3, 4] [] (by simp [-Option.some.injEq, -Prod.mk.injEq]; rfl) (by first | trivial | omega | simp | (simp; omega)) ?_
  repeat refine ok_seq ?_
  refine ok_block ?_
  repeat refine ok_seq ?_
  refine ok_loop (σ := Nat) (fun i => [(0, .d (.sl .inst) l), (2, .ptr 0 0), (3, .ptr 1 0), (4, .d .i (i : Int))]) (fun i => [.cells [.nilsl, .nilsl], .cells [.d .terms (atomsR (l.take i)), .nilsl]]) (fun i => i ≤ l.length) (fun i => l.length - i) 0 (by simp) ?_ ?_
  · constructor <;> simp [EntF, EntH, EntB, Conv, ConvL, scop, atomsR, rulesR, putAll]
  rintro i hi
  have ha := atomsR_len hl i hi
  have hp1 := putBy_len cmpT (gin l i).head (atomsR (l.take i))
  repeat refine ok_seq ?_
  refine ok_reg E [0, 2, 3, 4, 12] [] (by simp [-Option.some.injEq, -Prod.mk.injEq]; rfl) (by first | trivial | omega | simp | (simp; omega)) ?_
  repeat refine ok_seq ?_
  refine ok_if rfl (fun c1 => ?_) (fun c1 => ?_)
  · try simp at c1
    all_goals
      have hq := hl.2 i (by omega)
      refine ok_skip ?_
      repeat refine ok_seq ?_
      refine ok_block ?_
      repeat refine ok_seq ?_
      refine ok_dr E rfl [0, 2, 3, 4] 9 [.pure (.d .terms (putBy cmpT (atomsR (l.take i)) (gin l i).head))] (by decide) (by simp [nodupF]) (by simp [-Option.some.injEq, -Prod.mk.injEq]; rfl) (by (have k1 := putT_ctr (atomsR (l.take i)) (gin l i).head (by omega); simp [k1]; try omega)) ?_
      repeat refine ok_seq ?_
      refine ok_reg E [0, 2, 3, 4, 5] [] (by simp [-Option.some.injEq, -Prod.mk.injEq]; rfl) (by first | trivial | omega | simp | (simp; omega)) ?_
      repeat refine ok_seq ?_
      refine ok_block ?_
      repeat refine ok_seq ?_
      refine ok_loop (σ := Nat) (fun k => [(0, .d (.sl .inst) l), (2, .ptr 0 0), (3, .ptr 1 0), (4, .d .i (i : Int)), (5, .d .i (k : Int))]) (fun k => [.cells [.nilsl, .nilsl], .cells [.d .terms (putAll (putBy cmpT (atomsR (l.take i)) (gin l i).head) ((gin l i).pos.take k)), .nilsl]]) (fun k => k ≤ (gin l i).pos.length) (fun k => (gin l i).pos.length - k) 0 (by simp) ?_ ?_
      · constructor <;> simp [EntF, EntH, EntB, Conv, ConvL, scop, atomsR, rulesR, putAll]
      rintro k hk
      have hb := putAll_len ((gin l i).pos.take k) (putBy cmpT (atomsR (l.take i)) (gin l i).head)
      have hb2 : ((gin l i).pos.take k).length ≤ k := by simp; omega
      repeat refine ok_seq ?_
      refine ok_reg E [0, 2, 3, 4, 5, 31] [] (by simp [-Option.some.injEq, -Prod.mk.injEq]; rfl) (by first | trivial | omega | simp | (simp; omega)) ?_
      repeat refine ok_seq ?_
      refine ok_if rfl (fun c2 => ?_) (fun c2 => ?_)
      · try simp at c2
        all_goals
          refine ok_skip ?_
          repeat refine ok_seq ?_
          refine ok_block ?_
          repeat refine ok_seq ?_
          refine ok_dr E rfl [0, 2, 3, 4, 5] 12 [.pure (.d .terms (putBy cmpT (putAll (putBy cmpT (atomsR (l.take i)) (gin l i).head) ((gin l i).pos.take k)) (gt (gin l i).pos k)))] (by decide) (by simp [nodupF]) (by simp [-Option.some.injEq, -Prod.mk.injEq]; rfl) (by (have k1 := putT_ctr (putAll (putBy cmpT (atomsR (l.take i)) (gin l i).head) ((gin l i).pos.take k)) (gt (gin l i).pos k) (by omega); simp [k1]; try omega)) ?_
          repeat refine ok_seq ?_
          refine ok_reg E [0, 2, 3, 4, 5] [] (by simp [-Option.some.injEq, -Prod.mk.injEq]; rfl) (by first | trivial | omega | simp | (simp; omega)) ?_
          -- end21
          have e1 := putAll_step (s := putBy cmpT (atomsR (l.take i)) (gin l i).head) c2
          exact ⟨k + 1, by omega, by omega, by constructor <;> simp (disch := omega) [EntF, EntH, EntB, Conv, ConvL, scop, wrap_i64, e1]⟩
      · try simp at c2
        all_goals
          refine ok_exit ?_
          repeat refine ok_seq ?_
          refine ok_reg E [0, 2, 3, 4, 6] [] (by simp [-Option.some.injEq, -Prod.mk.injEq]; rfl) (by first | trivial | omega | simp | (simp; omega)) ?_
          repeat refine ok_seq ?_
          refine ok_block ?_
          repeat refine ok_seq ?_
          have hb3 := putAll_len (gin l i).pos (putBy cmpT (atomsR (l.take i)) (gin l i).head)
          have e3 := List.take_of_length_le c2
          refine ok_loop (σ := Nat) (fun m => [(0, .d (.sl .inst) l), (2, .ptr 0 0), (3, .ptr 1 0), (4, .d .i (i : Int)), (6, .d .i (m : Int))]) (fun m => [.cells [.nilsl, .nilsl], .cells [.d .terms (putAll (putAll (putBy cmpT (atomsR (l.take i)) (gin l i).head) (gin l i).pos) ((gin l i).neg.take m)), .nilsl]]) (fun m => m ≤ (gin l i).neg.length) (fun m => (gin l i).neg.length - m) 0 (by simp) ?_ ?_
          · constructor <;> simp [EntF, EntH, EntB, Conv, ConvL, scop, atomsR, rulesR, putAll, e3]
          rintro m hm
          have hc := putAll_len ((gin l i).neg.take m) (putAll (putBy cmpT (atomsR (l.take i)) (gin l i).head) (gin l i).pos)
          have hc2 : ((gin l i).neg.take m).length ≤ m := by simp; omega
          repeat refine ok_seq ?_
          refine ok_reg E [0, 2, 3, 4, 6, 53] [] (by simp [-Option.some.injEq, -Prod.mk.injEq]; rfl) (by first | trivial | omega | simp | (simp; omega)) ?_
          repeat refine ok_seq ?_
          refine ok_if rfl (fun c3 => ?_) (fun c3 => ?_)
          · try simp at c3
            all_goals
              refine ok_skip ?_
              repeat refine ok_seq ?_
              refine ok_block ?_
              repeat refine ok_seq ?_
              refine ok_dr E rfl [0, 2, 3, 4, 6] 12 [.pure (.d .terms (putBy cmpT (putAll (putAll (putBy cmpT (atomsR (l.take i)) (gin l i).head) (gin l i).pos) ((gin l i).neg.take m)) (gt (gin l i).neg m)))] (by decide) (by simp [nodupF]) (by simp [-Option.some.injEq, -Prod.mk.injEq]; rfl) (by (have k1 := putT_ctr (putAll (putAll (putBy cmpT (atomsR (l.take i)) (gin l i).head) (gin l i).pos) ((gin l i).neg.take m)) (gt (gin l i).neg m) (by omega); simp [k1]; try omega)) ?_
              repeat refine ok_seq ?_
              refine ok_reg E [0, 2, 3, 4, 6] [] (by simp [-Option.some.injEq, -Prod.mk.injEq]; rfl) (by first | trivial | omega | simp | (simp; omega)) ?_
              -- end41
              have e1 := putAll_step (s := putAll (putBy cmpT (atomsR (l.take i)) (gin l i).head) (gin l i).pos) c3
              exact ⟨m + 1, by omega, by omega, by constructor <;> simp (disch := omega) [EntF, EntH, EntB, Conv, ConvL, scop, wrap_i64, e1]⟩
          · try simp at c3
            all_goals
              refine ok_exit ?_
              repeat refine ok_seq ?_
              refine ok_reg E [0, 2, 3, 4] [] (by simp [-Option.some.injEq, -Prod.mk.injEq]; rfl) (by first | trivial | omega | simp | (simp; omega)) ?_
              -- end01
              have e1 := atomsR_step c1
              have e2 := List.take_of_length_le c3
              exact ⟨i + 1, by omega, by omega, by constructor <;> simp (disch := omega) [EntF, EntH, EntB, Conv, ConvL, scop, wrap_i64, e1, atomsStep, e2]⟩
  · try simp at c1
    all_goals
      skip
      refine ok_exit ?_
      repeat refine ok_seq ?_
      refine ok_reg E [0, 2, 3, 7] [] (by simp [-Option.some.injEq, -Prod.mk.injEq]; rfl) (by first | trivial | omega | simp | (simp; omega)) ?_
      repeat refine ok_seq ?_
      refine ok_block ?_
      repeat refine ok_seq ?_
      have ha2 := atomsR_len hl l.length (Nat.le_refl _)
      rw [List.take_length] at ha2
      have e3 := List.take_of_length_le c1
      refine ok_loop (σ := Nat) (fun j => [(0, .d (.sl .inst) l), (2, .ptr 0 0), (3, .ptr 1 0), (7, .d .i (j : Int))]) (fun j => [.cells [.nilsl, .nilsl], .cells [.d .terms (atomsR l), .d (.sl .rule) (rulesR (atomsR l) (l.take j))]]) (fun j => j ≤ l.length) (fun j => l.length - j) 0 (by simp) ?_ ?_
      · constructor <;> simp [EntF, EntH, EntB, Conv, ConvL, scop, atomsR, rulesR, putAll, e3]
      rintro j hj
      have hr := rulesR_len (atomsR l) l j hj
      repeat refine ok_seq ?_
      refine ok_reg E [0, 2, 3, 7, 71] [] (by simp [-Option.some.injEq, -Prod.mk.injEq]; rfl) (by first | trivial | omega | simp | (simp; omega)) ?_
      repeat refine ok_seq ?_
      refine ok_if rfl (fun c4 => ?_) (fun c4 => ?_)
      · try simp at c4
        all_goals
          refine ok_skip ?_
          repeat refine ok_seq ?_
          refine ok_block ?_
          repeat refine ok_seq ?_
          refine ok_dr E rfl [0, 2, 3, 7] 26 [.pure (.d .i (findR (atomsR l) (gin l j).head)), .pure (.d .ints (placesR (atomsR l) (gin l j).pos)), .pure (.d .ints (placesR (atomsR l) (gin l j).neg)), .pure (.d (.sl .rule) (putBy rOrder (rulesR (atomsR l) (l.take j)) (ruleOf (atomsR l) (gin l j))))] (by decide) (by simp [nodupF]) (by simp [-Option.some.injEq, -Prod.mk.injEq]; rfl) (by (have hq := hl.2 j (by omega); have k1 := findR_ctr ⟨atomsR l, rulesR (atomsR l) (l.take j)⟩ (gin l j).head (by simp only; omega); have k2 := placesR_ctr ⟨atomsR l, rulesR (atomsR l) (l.take j)⟩ (gin l j).pos (by omega) (by simp only; omega); have k3 := placesR_ctr ⟨atomsR l, rulesR (atomsR l) (l.take j)⟩ (gin l j).neg (by omega) (by simp only; omega); have k4 := putR_ctr (rulesR (atomsR l) (l.take j)) (ruleOf (atomsR l) (gin l j)) (by omega); simp [ruleOf] at k1 k2 k3 k4; simp [k1, k2, k3, k4, ruleOf]; try omega)) ?_
          repeat refine ok_seq ?_
          refine ok_reg E [0, 2, 3, 7] [] (by simp [-Option.some.injEq, -Prod.mk.injEq]; rfl) (by first | trivial | omega | simp | (simp; omega)) ?_
          -- end61
          have e1 := rulesR_step (ts := atomsR l) c4
          exact ⟨j + 1, by omega, by omega, by constructor <;> simp (disch := omega) [EntF, EntH, EntB, Conv, ConvL, scop, wrap_i64, e1]⟩
      · try simp at c4
        all_goals
          refine ok_exit ?_
          repeat refine ok_seq ?_
          refine ok_reg E [2] [] (by simp [-Option.some.injEq, -Prod.mk.injEq]; rfl) (by first | trivial | omega | simp | (simp; omega)) ?_
          refine ok_ret ⟨.inr rfl, ?_⟩
          -- ret1
          have e2 := List.take_of_length_le c4
          simp [fromR, e2]

end Go.Proofs.YtgapiecbinplfaaGreat
/- What an atom leans on, what is cut: plain definitions, of both answers. -/
namespace Go.Proofs.YtgapiecbinplfaaGreat
open Go.RowKit

def putIs (l s : List Int) : List Int := l.foldl (putBy subI) s
def stepR (l : List Int) (r : Rule) : List Int := if r.head ∈ l then putIs r.neg (putIs r.pos l) else l
def roundR (rs : List Rule) (l : List Int) : List Int := rs.foldl stepR l
def leadsF (rs : List Rule) : Nat → Nat → List Int → List Int
  | 0, _, l => l
  | f + 1, many, l => if many < l.length then leadsF rs f l.length (roundR rs l) else l
def leadsR (g : Prg) (n : Int) : List Int := leadsF g.rules (g.atoms.length + 2) 0 [n]
def anewRule (l : List Int) (r : Rule) : Rule := ⟨placeI l r.head, anewR r.pos l, anewR r.neg l⟩
def onlyR (g : Prg) (l : List Int) : Prg := ⟨l.map (gt g.atoms), (g.rules.filter fun r => decide (r.head ∈ l)).map (anewRule l)⟩
def cutR (g : Prg) (n : Int) : Prg := if n < 0 ∨ (g.atoms.length : Int) ≤ n then ⟨[], []⟩ else onlyR g (leadsR g n)

/-- Package ground's marks: an atom, and all that it leans on. -/
def markF (g : Prg) : Nat → Int → List Int → List Int
  | 0, _, s => s
  | f + 1, n, s => if 0 < gi s n then s else
      (ofR g.rules n g.rules.length).foldl (fun s i => ((gr g.rules i).pos ++ (gr g.rules i).neg).foldl (fun s k => markF g f k s) s) (s.set n.toNat 1)
def markedL : List Int → Nat → List Int
  | [], _ => []
  | x :: xs, i => if 0 < x then (i : Int) :: markedL xs (i + 1) else markedL xs (i + 1)
def numF : List Int → Int → List Int
  | [], _ => []
  | x :: xs, c => if 0 < x then (c + 1) :: numF xs (c + 1) else x :: numF xs c
def cutRule (nu : List Int) (r : Rule) : Rule := ⟨gi nu r.head - 1, r.pos.map (fun k => gi nu k - 1), r.neg.map (fun k => gi nu k - 1)⟩
def marksG (g : Prg) (n : Int) : List Int := markF g (g.atoms.length + 1) n (List.replicate g.atoms.length 0)
def cutOf (g : Prg) (m : List Int) : Prg := ⟨(markedL m 0).map (gt g.atoms), (g.rules.filter fun r => decide (0 < gi (numF m 0) r.head)).map (cutRule (numF m 0))⟩
def cutG (g : Prg) (n : Int) : Prg := if n < 0 ∨ (g.atoms.length : Int) ≤ n then ⟨[], []⟩ else cutOf g (marksG g n)

/-- The instance of a rule. -/
def instR (g : Prg) (r : Rule) : Inst := ⟨gt g.atoms r.head, r.pos.map (gt g.atoms), r.neg.map (gt g.atoms)⟩
/-- An instance with its literals turned about, and its first ones twice. -/
def turnedR (x : Inst) : Inst := ⟨x.head, x.pos.reverse ++ x.pos.take 1, x.neg.reverse⟩

def atom200 (t : Term) : Bool := decide (t.length ≤ 200) && (atomT t && groundT t)
def madeOk (x : Inst) : Bool := atom200 x.head && (decide (x.pos.length ≤ 10 ∧ x.neg.length ≤ 10) && (x.pos.all atom200 && x.neg.all atom200))
def madeR (l : List Inst) : List Inst := (l.take 60).filter madeOk

end Go.Proofs.YtgapiecbinplfaaGreat
/- What an atom leans on: the document's set and package ground's marks are one. Plain laws. -/
namespace Go.Proofs.YtgapiecbinplfaaGreat
open Go.RowKit

def Succ (g : Prg) (n m : Int) : Prop := ∃ r ∈ g.rules, r.head = n ∧ (m ∈ r.pos ∨ m ∈ r.neg)
inductive Reach (g : Prg) (n : Int) : Int → Prop
  | refl : Reach g n n
  | step {k m : Int} : Reach g n k → Succ g k m → Reach g n m
theorem Reach.trans {g : Prg} {a b c : Int} (h : Reach g a b) (k : Reach g b c) : Reach g a c := by
  induction k with
  | refl => exact h
  | step _ hs ih => exact .step ih hs
theorem Reach.head {g : Prg} {a b c : Int} (h : Succ g a b) (k : Reach g b c) : Reach g a c := Reach.trans (.step .refl h) k
/-- Is a number an atom's? -/
def InP (g : Prg) (n : Int) : Prop := 0 ≤ n ∧ n < g.atoms.length
theorem Succ.inP {g : Prg} (hr : RightP g) {n m : Int} (h : Succ g n m) : InP g m := by
  obtain ⟨r, h1, _, h3⟩ := h
  rcases h3 with h3 | h3
  · exact (setOk_iff.1 (hr.pos r h1)).1 m h3
  · exact (setOk_iff.1 (hr.neg r h1)).1 m h3
theorem Succ.inH {g : Prg} (hr : RightP g) {n m : Int} (h : Succ g n m) : InP g n := by
  obtain ⟨r, h1, rfl, _⟩ := h
  exact hr.head r h1
theorem Reach.inP {g : Prg} (hr : RightP g) {n m : Int} (hn : InP g n) (h : Reach g n m) : InP g m := by
  cases h with
  | refl => exact hn
  | step _ hs => exact hs.inP hr

/-! ### the document's set -/
theorem putIs_all (l s : List Int) (hs : Ris subI s) : Ris subI (putIs l s) ∧ ∀ k, k ∈ putIs l s ↔ k ∈ s ∨ k ∈ l := by
  obtain ⟨h1, h2, _⟩ := foldl_put subI_ord (l := l) (s := s) (fun _ _ => trivial) (fun _ _ => trivial) hs
  exact ⟨h1, h2⟩
theorem stepR_all {l : List Int} (r : Rule) (hs : Ris subI l) : Ris subI (stepR l r) ∧ ∀ k, k ∈ stepR l r ↔ k ∈ l ∨ (r.head ∈ l ∧ (k ∈ r.pos ∨ k ∈ r.neg)) := by
  unfold stepR
  split
  · rename_i h
    obtain ⟨h1, h2⟩ := putIs_all r.pos l hs
    obtain ⟨h3, h4⟩ := putIs_all r.neg _ h1
    refine ⟨h3, fun k => ?_⟩
    rw [h4, h2]; simp only [h, true_and, or_assoc]
  · rename_i h
    exact ⟨hs, fun k => by simp [h]⟩
theorem roundR_all : ∀ (rs : List Rule) (l : List Int), Ris subI l → Ris subI (roundR rs l) ∧ (∀ k ∈ l, k ∈ roundR rs l) ∧ (∀ r ∈ rs, r.head ∈ l → ∀ k, k ∈ r.pos ∨ k ∈ r.neg → k ∈ roundR rs l) ∧
    ∀ (C : Int → Prop), (∀ k ∈ l, C k) → (∀ r ∈ rs, C r.head → ∀ k, k ∈ r.pos ∨ k ∈ r.neg → C k) → ∀ k ∈ roundR rs l, C k
  | [], l, hs => ⟨hs, fun _ h => h, fun _ h => by simp at h, fun C h _ => h⟩
  | r :: rs, l, hs => by
    obtain ⟨h1, h2⟩ := stepR_all r hs
    obtain ⟨h3, h4, h5, h6⟩ := roundR_all rs (stepR l r) h1
    refine ⟨h3, fun k hk => h4 k ((h2 k).2 (.inl hk)), fun r' hr' hh k hk => ?_, fun C hC hr k hk => ?_⟩
    · rcases List.mem_cons.1 hr' with rfl | hr'
      · exact h4 k ((h2 k).2 (.inr ⟨hh, hk⟩))
      · exact h5 r' hr' ((h2 _).2 (.inl hh)) k hk
    · refine h6 C (fun j hj => ?_) (fun r' hr' => hr r' (List.mem_cons_of_mem _ hr')) k hk
      rcases (h2 j).1 hj with hj | ⟨hh, hj⟩
      · exact hC j hj
      · exact hr r (by simp) (hC _ hh) j hj

theorem ris_len {l : List Int} {N : Nat} (hr : Ris subI l) (h : ∀ x ∈ l, 0 ≤ x ∧ x < N) : l.length ≤ N := by
  have hlt : ∀ i (hi : i < l.length), (i : Int) ≤ l[i] := by
    intro i
    induction i with
    | zero => intro hi; exact (h _ (List.getElem_mem hi)).1
    | succ i ih =>
      intro hi
      have a := ih (by omega)
      have b := Ris.lt hr i (i + 1) (by omega) hi (by omega)
      simp only [subI] at b
      omega
  by_cases c : l.length = 0
  · omega
  · have a := hlt (l.length - 1) (by omega)
    have b := h _ (List.getElem_mem (l := l) (n := l.length - 1) (by omega))
    omega
theorem ris_sublist : ∀ {l m : List Int}, Ris subI l → Ris subI m → (∀ k ∈ l, k ∈ m) → l.Sublist m
  | [], _, _, _, _ => List.nil_sublist _
  | a :: l, [], _, _, h => by have := h a (by simp); simp at this
  | a :: l, b :: m, hl, hm, h => by
    have h1 := List.pairwise_cons.1 hl
    have h2 := List.pairwise_cons.1 hm
    by_cases e : a = b
    · subst e
      refine List.Sublist.cons_cons a (ris_sublist h1.2 h2.2 fun k hk => ?_)
      rcases List.mem_cons.1 (h k (by simp [hk])) with rfl | hk'
      · have := h1.1 k hk; simp [subI] at this
      · exact hk'
    · refine List.Sublist.cons b (ris_sublist hl h2.2 fun k hk => ?_)
      rcases List.mem_cons.1 (h k hk) with rfl | hk'
      · rcases List.mem_cons.1 (h a (by simp)) with ea | ea
        · exact absurd ea e
        · have x1 := h2.1 a ea
          rcases List.mem_cons.1 hk with rfl | hk2
          · exact absurd rfl e
          · have x2 := h1.1 k hk2
            simp only [subI] at x1 x2; omega
      · exact hk'
/-- A set within another one of its length is that. -/
theorem ris_sub_eq {l m : List Int} (hl : Ris subI l) (hm : Ris subI m) (h : ∀ k ∈ l, k ∈ m) (hlen : m.length ≤ l.length) : l = m := by
  exact (ris_sublist hl hm h).eq_of_length_le hlen

structure LeadOk (g : Prg) (n : Int) (l : List Int) : Prop where
  ris : Ris subI l
  has : n ∈ l
  sub : ∀ k ∈ l, Reach g n k
theorem LeadOk.round {g : Prg} {n : Int} {l : List Int} (h : LeadOk g n l) : LeadOk g n (roundR g.rules l) := by
  obtain ⟨h1, h2, _, h4⟩ := roundR_all g.rules l h.ris
  exact ⟨h1, h2 n h.has, h4 (Reach g n) h.sub fun r hr hh k hk => .step hh ⟨r, hr, rfl, hk⟩⟩
theorem leadsF_all {g : Prg} (hr : RightP g) {n : Int} (hn : InP g n) : ∀ (f many : Nat) (l : List Int), LeadOk g n l → g.atoms.length + 1 ≤ f + many → (many = 0 ∨ ∃ p, LeadOk g n p ∧ p.length = many ∧ l = roundR g.rules p) →
    LeadOk g n (leadsF g.rules f many l) ∧ roundR g.rules (leadsF g.rules f many l) = leadsF g.rules f many l
  | 0, many, l, hl, hf, hp => by
    rcases hp with rfl | ⟨p, h1, h2, _⟩
    · omega
    · have := ris_len h1.ris (fun x hx => (h1.sub x hx).inP hr hn)
      omega
  | f + 1, many, l, hl, hf, hp => by
    simp only [leadsF]
    split
    · exact leadsF_all hr hn f l.length _ hl.round (by omega) (.inr ⟨l, hl, rfl, rfl⟩)
    · rename_i hlt
      refine ⟨hl, ?_⟩
      rcases hp with rfl | ⟨p, h1, h2, rfl⟩
      · have := List.length_pos_of_mem hl.has; omega
      · have e := ris_sub_eq h1.ris hl.ris (roundR_all g.rules p h1.ris).2.1 (by omega)
        rw [← e, ← e]
theorem leadsR_all {g : Prg} (hr : RightP g) {n : Int} (hn : InP g n) : Ris subI (leadsR g n) ∧ ∀ k, k ∈ leadsR g n ↔ Reach g n k := by
  obtain ⟨h1, h2⟩ := leadsF_all hr hn (g.atoms.length + 2) 0 [n] ⟨by simp [Ris], by simp, fun k hk => by simp at hk; subst hk; exact .refl⟩ (by omega) (.inl rfl)
  refine ⟨h1.ris, fun k => ⟨h1.sub k, fun hk => ?_⟩⟩
  induction hk with
  | refl => exact h1.has
  | step _ hs ih =>
    obtain ⟨r, hr1, hr2, hr3⟩ := hs
    have := (roundR_all g.rules _ h1.ris).2.2.1 r hr1 (by rw [hr2]; exact ih) _ hr3
    rw [h2] at this
    exact this

/-! ### package ground's marks -/
def zerosN (s : List Int) : Nat := s.countP fun x => decide (x ≤ 0)
def Mk (s : List Int) (k : Int) : Prop := 0 < gi s k
theorem gi_set {s : List Int} {n k : Int} (hn : 0 ≤ n ∧ n < s.length) (hk : 0 ≤ k) (x : Int) : gi (s.set n.toNat x) k = if k = n then x else gi s k := by
  simp only [gi, List.getD_eq_getElem?_getD, List.getElem?_set]
  by_cases e : k = n
  · subst e; rw [if_pos rfl, if_pos rfl, if_pos (by omega)]; rfl
  · rw [if_neg (by omega), if_neg e]
theorem zeros_set {s : List Int} {n : Int} (hn : 0 ≤ n ∧ n < s.length) (h : ¬ Mk s n) : zerosN (s.set n.toNat 1) + 1 = zerosN s := by
  have hi : n.toNat < s.length := by omega
  have h0 : s[n.toNat] ≤ 0 := by
    simp only [Mk, gi, List.getD_eq_getElem?_getD, List.getElem?_eq_getElem hi, Option.getD_some] at h; omega
  simp only [zerosN]
  have e : s = s.take n.toNat ++ s[n.toNat] :: s.drop (n.toNat + 1) := by rw [← List.drop_eq_getElem_cons hi, List.take_append_drop]
  have e2 : s.set n.toNat 1 = s.take n.toNat ++ 1 :: s.drop (n.toNat + 1) := by rw [List.set_eq_take_append_cons_drop, if_pos hi]
  rw [e2]
  conv => rhs; rw [e]
  simp only [List.countP_append, List.countP_cons, h0]
  simp; omega

structure MarkOk (g : Prg) (s s' : List Int) (from_ : Int → Prop) : Prop where
  len : s'.length = s.length
  mono : ∀ k, InP g k → Mk s k → Mk s' k
  zer : zerosN s' ≤ zerosN s
  only : ∀ k, InP g k → Mk s' k → Mk s k ∨ ∃ j, from_ j ∧ Reach g j k
  clos : ∀ k, InP g k → Mk s' k → ¬ Mk s k → ∀ m, Succ g k m → Mk s' m
theorem MarkOk.refl {g : Prg} {s : List Int} {c : Int → Prop} : MarkOk g s s c := ⟨rfl, fun _ _ h => h, Nat.le_refl _, fun _ _ h => .inl h, fun _ _ h h' => absurd h h'⟩
theorem MarkOk.trans {g : Prg} (hr : RightP g) {s s' s'' : List Int} {c d e : Int → Prop} (h : MarkOk g s s' c) (k : MarkOk g s' s'' d) (hc : ∀ j, c j → e j) (hd : ∀ j, d j → e j) : MarkOk g s s'' e := by
  refine ⟨k.len.trans h.len, fun n hn hm => k.mono n hn (h.mono n hn hm), Nat.le_trans k.zer h.zer, fun n hn hm => ?_, fun n hn hm hs m hsu => ?_⟩
  · rcases k.only n hn hm with h1 | ⟨j, h1, h2⟩
    · rcases h.only n hn h1 with h1 | ⟨j, h1, h2⟩
      · exact .inl h1
      · exact .inr ⟨j, hc j h1, h2⟩
    · exact .inr ⟨j, hd j h1, h2⟩
  · by_cases h' : Mk s' n
    · exact k.mono m (hsu.inP hr) (h.clos n hn h' hs m hsu)
    · exact k.clos n hn hm h' m hsu

theorem fold_mark {g : Prg} (hr : RightP g) {f : Nat} (ih : ∀ (n : Int) (s : List Int), s.length = g.atoms.length → InP g n → zerosN s ≤ f → MarkOk g s (markF g f n s) (· = n) ∧ Mk (markF g f n s) n) :
    ∀ (ks : List Int) (s : List Int), s.length = g.atoms.length → (∀ k ∈ ks, InP g k) → zerosN s ≤ f → MarkOk g s (ks.foldl (fun s k => markF g f k s) s) (· ∈ ks) ∧ ∀ k ∈ ks, Mk (ks.foldl (fun s k => markF g f k s) s) k
  | [], s, _, _, _ => ⟨.refl, fun _ h => by simp at h⟩
  | a :: ks, s, hl, hk, hz => by
    have ha := hk a (by simp)
    obtain ⟨h1, h2⟩ := ih a s hl ha hz
    obtain ⟨h3, h4⟩ := fold_mark hr ih ks (markF g f a s) (h1.len.trans hl) (fun k h => hk k (by simp [h])) (Nat.le_trans h1.zer hz)
    refine ⟨h1.trans hr h3 (fun j e => by simp [e]) (fun j e => by simp [e]), fun k hkm => ?_⟩
    rcases List.mem_cons.1 hkm with rfl | hkm
    · exact h3.mono k ha h2
    · exact h4 k hkm
theorem fold_rules {g : Prg} (hr : RightP g) {f : Nat} (ih : ∀ (n : Int) (s : List Int), s.length = g.atoms.length → InP g n → zerosN s ≤ f → MarkOk g s (markF g f n s) (· = n) ∧ Mk (markF g f n s) n) :
    ∀ (is : List Int) (s : List Int), s.length = g.atoms.length → (∀ i ∈ is, 0 ≤ i ∧ i < g.rules.length) → zerosN s ≤ f →
      MarkOk g s (is.foldl (fun s i => ((gr g.rules i).pos ++ (gr g.rules i).neg).foldl (fun s k => markF g f k s) s) s) (fun k => ∃ i ∈ is, k ∈ (gr g.rules i).pos ++ (gr g.rules i).neg) ∧
      ∀ i ∈ is, ∀ k ∈ (gr g.rules i).pos ++ (gr g.rules i).neg, Mk (is.foldl (fun s i => ((gr g.rules i).pos ++ (gr g.rules i).neg).foldl (fun s k => markF g f k s) s) s) k
  | [], s, _, _, _ => ⟨.refl, fun _ h => by simp at h⟩
  | a :: is, s, hl, hi, hz => by
    have ha := hi a (by simp)
    have hra : gr g.rules a ∈ g.rules := by
      have : a.toNat < g.rules.length := by omega
      rw [show a = (a.toNat : Int) by omega, gr_lt this]; exact List.getElem_mem _
    have hin : ∀ k ∈ (gr g.rules a).pos ++ (gr g.rules a).neg, InP g k := fun k hk => Succ.inP hr (n := (gr g.rules a).head) ⟨_, hra, rfl, List.mem_append.1 hk⟩
    obtain ⟨h1, h2⟩ := fold_mark hr ih ((gr g.rules a).pos ++ (gr g.rules a).neg) s hl hin hz
    obtain ⟨h3, h4⟩ := fold_rules hr ih is _ (h1.len.trans hl) (fun i h => hi i (by simp [h])) (Nat.le_trans h1.zer hz)
    refine ⟨h1.trans hr h3 (fun j e => ⟨a, by simp, e⟩) (fun j ⟨i, e, e2⟩ => ⟨i, by simp [e], e2⟩), fun i him k hk => ?_⟩
    rcases List.mem_cons.1 him with rfl | him
    · exact h3.mono k (hin k hk) (h2 k hk)
    · exact h4 i him k hk

theorem mem_ofR {l : List Rule} {n : Int} {i : Int} : i ∈ ofR l n l.length ↔ ∃ k : Nat, ∃ h : k < l.length, i = k ∧ l[k].head = n := by
  simp only [ofR, List.mem_map, List.mem_filter, List.mem_range, decide_eq_true_eq]
  constructor
  · rintro ⟨k, ⟨h1, h2⟩, rfl⟩; rw [gr_lt h1] at h2; exact ⟨k, h1, rfl, h2⟩
  · rintro ⟨k, h1, rfl, h2⟩; exact ⟨k, ⟨h1, by rw [gr_lt h1]; exact h2⟩, rfl⟩

theorem mark_all {g : Prg} (hr : RightP g) : ∀ (f : Nat) (n : Int) (s : List Int), s.length = g.atoms.length → InP g n → zerosN s ≤ f → MarkOk g s (markF g f n s) (· = n) ∧ Mk (markF g f n s) n
  | 0, n, s, hl, hn, hz => by
    refine ⟨.refl, ?_⟩
    by_cases h : Mk s n
    · exact h
    · have := zeros_set (s := s) (n := n) (by rw [hl]; exact hn) h
      omega
  | f + 1, n, s, hl, hn, hz => by
    simp only [markF]
    split
    · rename_i h; exact ⟨.refl, h⟩
    · rename_i h
      have hn' : 0 ≤ n ∧ n < s.length := by rw [hl]; exact hn
      have hz' := zeros_set hn' h
      obtain ⟨h1, h2⟩ := fold_rules hr (mark_all hr f) (ofR g.rules n g.rules.length) (s.set n.toNat 1) (by simpa using hl) (fun i hi => by obtain ⟨k, h1, rfl, _⟩ := mem_ofR.1 hi; omega) (by omega)
      have hset : ∀ k, InP g k → (Mk (s.set n.toNat 1) k ↔ k = n ∨ Mk s k) := fun k hk => by
        simp only [Mk, gi_set hn' hk.1]
        by_cases e : k = n
        · simp [e]
        · simp [e]
      have hsucc : ∀ m, Succ g n m → ∃ i ∈ ofR g.rules n g.rules.length, m ∈ (gr g.rules i).pos ++ (gr g.rules i).neg := by
        rintro m ⟨r, hr1, hr2, hr3⟩
        obtain ⟨k, hk, rfl⟩ := List.getElem_of_mem hr1
        exact ⟨k, mem_ofR.2 ⟨k, hk, rfl, hr2⟩, by rw [gr_lt hk]; exact List.mem_append.2 hr3⟩
      have hfrom : ∀ j, (∃ i ∈ ofR g.rules n g.rules.length, j ∈ (gr g.rules i).pos ++ (gr g.rules i).neg) → Succ g n j := by
        rintro j ⟨i, hi, hj⟩
        obtain ⟨k, hk, rfl, hh⟩ := mem_ofR.1 hi
        rw [gr_lt hk] at hj
        exact ⟨_, List.getElem_mem hk, hh, List.mem_append.1 hj⟩
      refine ⟨⟨by rw [h1.len]; simp, fun k hk hm => h1.mono k hk ((hset k hk).2 (.inr hm)), by have := h1.zer; omega, fun k hk hm => ?_, fun k hk hm hs m hsu => ?_⟩, h1.mono n hn ((hset n hn).2 (.inl rfl))⟩
      · rcases h1.only k hk hm with h3 | ⟨j, h3, h4⟩
        · rcases (hset k hk).1 h3 with rfl | h3
          · exact .inr ⟨k, rfl, .refl⟩
          · exact .inl h3
        · exact .inr ⟨n, rfl, Reach.head (hfrom j h3) h4⟩
      · by_cases e : k = n
        · subst e
          obtain ⟨i, hi, hmi⟩ := hsucc m hsu
          exact h2 i hi m hmi
        · exact h1.clos k hk hm (fun h' => by rcases (hset k hk).1 h' with h' | h'; exact e h'; exact hs h') m hsu

theorem marks_all {g : Prg} (hr : RightP g) {n : Int} (hn : InP g n) : (marksG g n).length = g.atoms.length ∧ ∀ k, InP g k → (Mk (marksG g n) k ↔ Reach g n k) := by
  have h0 : ∀ k, ¬ Mk (List.replicate g.atoms.length 0) k := fun k => by
    simp only [Mk, gi, List.getD_eq_getElem?_getD, List.getElem?_replicate]; split <;> simp
  obtain ⟨h1, h2⟩ := mark_all hr (g.atoms.length + 1) n (List.replicate g.atoms.length 0) (by simp) hn (by have := List.countP_le_length (p := fun x : Int => decide (x ≤ 0)) (l := List.replicate g.atoms.length (0 : Int)); rw [List.length_replicate] at this; exact Nat.le_succ_of_le this)
  refine ⟨by rw [marksG, h1.len]; simp, fun k hk => ⟨fun hm => ?_, fun h => ?_⟩⟩
  · rcases h1.only k hk hm with h3 | ⟨j, rfl, h4⟩
    · exact absurd h3 (h0 k)
    · exact h4
  · induction h with
    | refl => exact h2
    | step h3 hs ih => exact h1.clos _ (h3.inP hr hn) (ih (h3.inP hr hn)) (h0 _) _ hs

/-! ### new numbers -/
theorem mem_markedL : ∀ (s : List Int) (i : Nat) (k : Int), k ∈ markedL s i ↔ ∃ j : Nat, ∃ h : j < s.length, k = (i + j : Nat) ∧ 0 < s[j]
  | [], i, k => by simp [markedL]
  | x :: xs, i, k => by
    have ih := mem_markedL xs (i + 1) k
    have hz : (∃ j : Nat, ∃ h : j < (x :: xs).length, k = (i + j : Nat) ∧ 0 < (x :: xs)[j]) ↔ (k = i ∧ 0 < x) ∨ ∃ j : Nat, ∃ h : j < xs.length, k = (i + 1 + j : Nat) ∧ 0 < xs[j] := by
      constructor
      · rintro ⟨j, h, h1, h2⟩
        cases j with
        | zero => exact .inl ⟨by simpa using h1, by simpa using h2⟩
        | succ j => exact .inr ⟨j, by simpa using h, by rw [h1]; congr 1; omega, by simpa using h2⟩
      · rintro (⟨h1, h2⟩ | ⟨j, h, h1, h2⟩)
        · exact ⟨0, by simp, by simpa using h1, by simpa using h2⟩
        · exact ⟨j + 1, by simpa using h, by rw [h1]; congr 1; omega, by simpa using h2⟩
    rw [hz, ← ih]
    simp only [markedL]
    split
    · rename_i hx; simp [hx]
    · rename_i hx; simp [hx]
theorem markedL_ris : ∀ (s : List Int) (i : Nat), Ris subI (markedL s i)
  | [], i => by simp [markedL, Ris]
  | x :: xs, i => by
    have ih := markedL_ris xs (i + 1)
    simp only [markedL]
    split
    · refine List.pairwise_cons.2 ⟨fun y hy => ?_, ih⟩
      obtain ⟨j, _, rfl, _⟩ := (mem_markedL xs (i + 1) y).1 hy
      simp only [subI]; omega
    · exact ih
theorem numF_len : ∀ (s : List Int) (c : Int), (numF s c).length = s.length
  | [], _ => rfl
  | x :: xs, c => by simp only [numF]; split <;> simp [numF_len]
/-- A marked number's new one is its place among the marked, and one. -/
theorem numF_at : ∀ (s : List Int) (c : Int) (i j : Nat) (h : j < s.length), 0 < s[j] → (numF s c)[j]'(by rw [numF_len]; exact h) = c + 1 + idxP (fun x => decide (x = ((i + j : Nat) : Int))) (markedL s i) 0
  | x :: xs, c, i, 0, _, h => by
    have h' : 0 < x := by simpa using h
    simp [numF, markedL, h', idxP]
  | x :: xs, c, i, j + 1, hj, h => by
    have hj' : j < xs.length := by simpa using hj
    have ih := fun c => numF_at xs c (i + 1) j hj' (by simpa using h)
    have shift : ∀ (l : List Int) (p : Int → Bool) (k : Nat), l.any p = true → idxP p l (k + 1) = 1 + idxP p l k := by
      intro l p
      induction l with
      | nil => intro k h; simp at h
      | cons y ys ihl =>
        intro k h
        simp only [idxP]
        split
        · omega
        · rename_i hy
          exact ihl (k + 1) (by simpa [hy] using h)
    have hmem : (markedL xs (i + 1)).any (fun x => decide (x = ((i + (j + 1) : Nat) : Int))) = true := by
      rw [List.any_eq_true]
      exact ⟨_, (mem_markedL xs (i + 1) _).2 ⟨j, hj', rfl, by simpa using h⟩, by simp; omega⟩
    have e : (i + 1 + j : Nat) = i + (j + 1) := by omega
    by_cases hx : 0 < x
    · have e1 : markedL (x :: xs) i = (i : Int) :: markedL xs (i + 1) := by rw [markedL, if_pos hx]
      have e2 : numF (x :: xs) c = (c + 1) :: numF xs (c + 1) := by rw [numF, if_pos hx]
      simp only [e1, e2, List.getElem_cons_succ, idxP]
      rw [if_neg (by simp; omega), shift _ _ _ hmem, ih (c + 1), e]; omega
    · have e1 : markedL (x :: xs) i = markedL xs (i + 1) := by rw [markedL, if_neg hx]
      have e2 : numF (x :: xs) c = x :: numF xs c := by rw [numF, if_neg hx]
      simp only [e1, e2, List.getElem_cons_succ]
      rw [ih c, e]
theorem numF_pos : ∀ (s : List Int) (c : Int) (j : Nat) (h : j < s.length), 0 ≤ c → (0 < (numF s c)[j]'(by rw [numF_len]; exact h) ↔ 0 < s[j])
  | x :: xs, c, 0, _, hc => by
    simp only [numF]; split <;> simp <;> omega
  | x :: xs, c, j + 1, hj, hc => by
    have hj' : j < xs.length := by simpa using hj
    by_cases hx : 0 < x
    · have e2 : numF (x :: xs) c = (c + 1) :: numF xs (c + 1) := by rw [numF, if_pos hx]
      simp only [e2, List.getElem_cons_succ]; exact numF_pos xs (c + 1) j hj' (by omega)
    · have e2 : numF (x :: xs) c = x :: numF xs c := by rw [numF, if_neg hx]
      simp only [e2, List.getElem_cons_succ]; exact numF_pos xs c j hj' hc

theorem gi_nat {l : List Int} {k : Int} (h : 0 ≤ k ∧ k < l.length) : ∃ (j : Nat) (hj : j < l.length), k = j ∧ gi l k = l[j] := by
  refine ⟨k.toNat, by omega, by omega, ?_⟩
  have h1 : k.toNat < l.length := by omega
  rw [show gi l k = gi l ((k.toNat : Nat) : Int) by congr 1; omega, gi_lt h1]

theorem leads_marks {g : Prg} (hr : RightP g) {n : Int} (hn : InP g n) : leadsR g n = markedL (marksG g n) 0 := by
  obtain ⟨h1, h2⟩ := leadsR_all hr hn
  obtain ⟨h3, h4⟩ := marks_all hr hn
  refine ris_ext subI_ord (fun _ _ => trivial) (fun _ _ => trivial) h1 (markedL_ris _ 0) fun k => ?_
  rw [h2, mem_markedL]
  constructor
  · intro h
    have hk := h.inP hr hn
    have hm := (h4 k hk).2 h
    obtain ⟨j, hj, rfl, e⟩ := gi_nat (l := marksG g n) (k := k) (by rw [h3]; exact hk)
    exact ⟨j, hj, by simp, by rw [← e]; exact hm⟩
  · rintro ⟨j, hj, rfl, hm⟩
    have hk : InP g ((0 + j : Nat) : Int) := ⟨by omega, by rw [← h3]; omega⟩
    refine (h4 _ hk).1 ?_
    simp only [Mk]
    rw [Nat.zero_add, gi_lt hj]; exact hm

/-- The two cuts are the same. -/
theorem cut_eq {g : Prg} (hr : RightP g) (n : Int) : cutG g n = cutR g n := by
  unfold cutG cutR
  split
  · rfl
  · rename_i h
    have hn : InP g n := ⟨by omega, by omega⟩
    obtain ⟨h1, h2⟩ := leadsR_all hr hn
    obtain ⟨h3, h4⟩ := marks_all hr hn
    have hlm := leads_marks hr hn
    have hin : ∀ k, InP g k → (0 < gi (numF (marksG g n) 0) k ↔ k ∈ leadsR g n) := fun k hk => by
      obtain ⟨j, hj, rfl, e⟩ := gi_nat (l := marksG g n) (k := k) (by rw [h3]; exact hk)
      rw [h2, ← h4 _ hk, Mk, e, gi_lt (by rw [numF_len]; exact hj), numF_pos _ _ _ hj (by omega)]
    have hnum : ∀ k, k ∈ leadsR g n → gi (numF (marksG g n) 0) k - 1 = placeI (leadsR g n) k := fun k hk => by
      have hk' := ((h2 k).1 hk).inP hr hn
      have hm := (h4 k hk').2 ((h2 k).1 hk)
      obtain ⟨j, hj, rfl, e⟩ := gi_nat (l := marksG g n) (k := k) (by rw [h3]; exact hk')
      rw [Mk, e] at hm
      rw [gi_lt (by rw [numF_len]; exact hj), numF_at _ _ 0 j hj hm, hlm, placeI, Nat.zero_add]; omega
    unfold cutOf onlyR
    rw [← hlm]
    congr 1
    have hf : (g.rules.filter fun r => decide (0 < gi (numF (marksG g n) 0) r.head)) = g.rules.filter fun r => decide (r.head ∈ leadsR g n) :=
      List.filter_congr fun r hr' => by rw [decide_eq_decide]; exact hin _ (hr.head r hr')
    rw [hf]
    refine List.map_congr_left fun r hrm => ?_
    obtain ⟨hr1, hr2⟩ := List.mem_filter.1 hrm
    have hh : r.head ∈ leadsR g n := by simpa using hr2
    have hb : ∀ k, k ∈ r.pos ∨ k ∈ r.neg → k ∈ leadsR g n := fun k hk => (h2 k).2 (.step ((h2 _).1 hh) ⟨r, hr1, rfl, hk⟩)
    simp only [cutRule, anewRule, anewR, hnum _ hh]
    congr 1
    · exact List.map_congr_left fun k hk => hnum k (hb k (.inl hk))
    · exact List.map_congr_left fun k hk => hnum k (hb k (.inr hk))
end Go.Proofs.YtgapiecbinplfaaGreat
/- A nil slice in a variable's cell, taken as a row of one's own. -/
namespace Go.Proofs.YtgapiecbinplfaaGreat
open Go.RowKit

variable {P : Program} {m0 N : Nat} {ρ ρ' : Fr} {H H' : List Box} {Q : Exit → Fr → List Box → Prop}

theorem RdL.put {fz : Fz} {β : List Value} {w : World} : ∀ {cs : List AV} {vs : List Value} (o : Nat) (x : AV), RdL fz β w cs vs → (∀ v, vs[o]? = some v → RdA fz β w x v) → RdL fz β w (cs.set o x) vs
  | [], vs, o, x, h, _ => by simpa using h
  | c :: cs, vs, 0, x, h, hx => by
    simp only [RdL] at h
    obtain ⟨v, r, rfl, h2, h3⟩ := h
    simp only [List.set_cons_zero, RdL]
    exact ⟨v, r, rfl, hx v (by simp), h3⟩
  | c :: cs, vs, o + 1, x, h, hx => by
    simp only [RdL] at h
    obtain ⟨v, r, rfl, h2, h3⟩ := h
    simp only [List.set_cons_succ, RdL]
    exact ⟨v, r, rfl, h2, RdL.put o x h3 (fun v hv => hx v (by simpa using hv))⟩

theorem ok_ownC {c : Code} (b o : Nat) (e : TypeId) (τ : Ty) {cs : List AV} (hb : H[b]? = some (.cells cs)) (ho : cs[o]? = some .nilsl)
    (h : Ok P m0 N c Q ρ (H.set b (.cells (cs.set o (.orow H.length))) ++ [.orow e τ []])) : Ok P m0 N c Q ρ H := by
  intro S fz β w a hr
  have hn := hr.addNil e τ
  have hlen := hr.bx.len
  have hbl := (List.getElem?_eq_some_iff.1 hb).1
  have key : ∀ (i : Nat) (y : Box), (H.set b (.cells (cs.set o (.orow H.length))) ++ [Box.orow e τ []])[i]? = some y → ((H ++ [Box.orow e τ []])[i]? = some y) ∨ (i = b ∧ y = .cells (cs.set o (.orow H.length)) ∧ (H ++ [Box.orow e τ []])[i]? = some (.cells cs)) := by
    intro i y hy
    by_cases hi : i < H.length
    · rw [List.getElem?_append_left (by simpa using hi), List.getElem?_set] at hy
      split at hy
      · rename_i hbi
        subst hbi
        cases hy
        exact .inr ⟨rfl, rfl, by rw [List.getElem?_append_left hi]; exact hb⟩
      · exact .inl (by rw [List.getElem?_append_left hi]; exact hy)
    · rw [List.getElem?_append_right (by simpa using hi)] at hy
      exact .inl (by rw [List.getElem?_append_right (by omega)]; simpa using hy)
  have live : ∀ (i : Nat) (y : Box), (H.set b (.cells (cs.set o (.orow H.length))) ++ [Box.orow e τ []])[i]? = some y → y.live = true → ∃ z : Box, (H ++ [Box.orow e τ []])[i]? = some z ∧ z.live = true := by
    intro i y hy hl
    rcases key i y hy with h1 | ⟨_, rfl, h2⟩
    · exact ⟨y, h1, hl⟩
    · exact ⟨_, h2, rfl⟩
  refine h S fz _ w a ⟨hn.fr, ⟨by simpa using hn.bx.len, hn.bx.one, fun i g y hg hy => ?_, fun i j gi gj xi xj hij hgi hgj hxi hxj li lj => ?_⟩, fun i g y hg hy hl k hk => ?_, hn.anc, hn.fzok, ⟨hn.pre.len, by simpa using hn.pre.le, hn.pre.same, fun i y hi hy => ?_⟩⟩
  · rcases key i y hy with h1 | ⟨rfl, rfl, h2⟩
    · exact hn.bx.ok i g y hg h1
    · obtain ⟨blk, vs, e', hg2, hh, hrl, hz⟩ := hn.bx.ok i g _ hg h2
      refine ⟨blk, vs, e', hg2, hh, hrl.put o _ fun v hv => ?_, hz⟩
      obtain ⟨u, hu1, hu2⟩ := hrl.get o .nilsl ho
      rw [hv] at hu1; cases hu1
      simp only [RdA] at hu2 ⊢
      rw [hu2, ← hlen]; simp
  · obtain ⟨yi, a1, a2⟩ := live i xi hxi li
    obtain ⟨yj, b1, b2⟩ := live j xj hxj lj
    exact hn.bx.apart i j gi gj yi yj hij hgi hgj a1 b1 a2 b2
  · obtain ⟨z, a1, a2⟩ := live i y hy hl
    exact hn.mine i g z hg a1 a2 k hk
  · rcases key i y hy with h1 | ⟨rfl, rfl, h2⟩
    · exact hn.pre.noO i y hi h1
    · rfl

end Go.Proofs.YtgapiecbinplfaaGreat
