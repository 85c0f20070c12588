/- Own framework, walks and plain laws behind the laws of this seat, part C6: lemmas, no statement of the seat. -/
import Derived.Test.YtgapiecbinplfaaGreatC5
set_option linter.all false
/- Walks: plain ones. Printed by walk.py from annotations. -/
namespace Go.Proofs.YtgapiecbinplfaaGreat
open Go.RowKit


set_option maxHeartbeats 4000000 in
theorem row_ctr (a b : List Int) : Ctr Tryz.prog 138 [.d .ints a, .d .ints b] [] (.d .i (rRow a b)) [] := by
  refine ctr_pure E Tryz.func138 rfl Tryz.ntmps138 Tryz.results138 (Nat.le_of_ble_eq_true rfl) rfl ?_
  repeat refine ok_seq ?_
  refine ok_reg E [0, 1] [] (by simp [-Option.some.injEq, -Prod.mk.injEq]; rfl) (by first | trivial | omega | simp | (simp; omega)) ?_
  repeat refine ok_seq ?_
  refine ok_reg E [0, 1, 5] [] (by simp [-Option.some.injEq, -Prod.mk.injEq]; rfl) (by first | trivial | omega | simp | (simp; omega)) ?_
  repeat refine ok_seq ?_
  refine ok_block ?_
  repeat refine ok_seq ?_
  refine ok_lenN 0 rfl fun ha => ?_
  refine ok_lenN 1 rfl fun hb => ?_
  refine ok_loop (σ := Nat) (fun i => [(0, .d .ints a), (1, .d .ints b), (5, .d .i (i : Int))]) (fun i => []) (fun i => i ≤ a.length ∧ i ≤ b.length ∧ rRow (a.drop i) (b.drop i) = rRow a b) (fun i => a.length - i) 0 (by simp) ?_ ?_
  · constructor <;> simp [EntF, EntH, EntB, Conv, scop]
  rintro i ⟨hi1, hi2, hi⟩
  repeat refine ok_seq ?_
  by_cases h : i < a.length
  · skip
    refine ok_reg E [0, 1, 5, 15] [] (by simp [h, -Option.some.injEq, -Prod.mk.injEq]; rfl) (by first | trivial | omega | simp | (simp; omega)) ?_
    repeat refine ok_seq ?_
    refine ok_if rfl (fun c1 => ?_) (fun c1 => ?_)
    · try simp at c1
      all_goals
        refine ok_skip ?_
        repeat refine ok_seq ?_
        refine ok_block ?_
        repeat refine ok_seq ?_
        refine ok_dr E rfl [0, 1, 5, 26] 9 [] (by decide) (by simp [nodupF]) (by simp [h, -Option.some.injEq, -Prod.mk.injEq]; rfl) (by first | trivial | omega | simp | (simp; omega)) ?_
        repeat refine ok_seq ?_
        refine ok_if rfl (fun c2 => ?_) (fun c2 => ?_)
        · try simp at c2
          all_goals
            repeat refine ok_seq ?_
            refine ok_dr E rfl [4] 10 [] (by decide) (by simp [nodupF]) (by simp [h, -Option.some.injEq, -Prod.mk.injEq]; rfl) (by first | trivial | omega | simp | (simp; omega)) ?_
            refine ok_ret ⟨.inr rfl, ?_⟩
            -- ret1
            simp (disch := omega) only [gc_lt, gi_lt] at c2
            simp (disch := omega) [resAll, resL, resA, frozE, gc_lt, gi_lt]
            rw [← hi, List.drop_eq_getElem_cons h, List.drop_eq_getElem_cons c1, rRow, if_neg c2]
        · try simp at c2
          all_goals
            refine ok_skip ?_
            repeat refine ok_seq ?_
            refine ok_reg E [0, 1, 5] [] (by simp [h, -Option.some.injEq, -Prod.mk.injEq]; rfl) (by first | trivial | omega | simp | (simp; omega)) ?_
            -- end01
            simp (disch := omega) only [gc_lt, gi_lt] at c2
            refine ⟨i + 1, ⟨by omega, by omega, ?_⟩, by omega, by constructor <;> simp (disch := omega) [EntF, EntH, EntB, Conv, scop, wrap_i64]⟩
            rw [← hi, List.drop_eq_getElem_cons h, List.drop_eq_getElem_cons c1, rRow, if_pos c2]
    · try simp at c1
      all_goals
        refine ok_exit ?_
        repeat refine ok_seq ?_
        refine ok_reg E [4] [] (by simp [h, -Option.some.injEq, -Prod.mk.injEq]; rfl) (by first | trivial | omega | simp | (simp; omega)) ?_
        refine ok_ret ⟨.inr rfl, ?_⟩
        -- ret2
        simp [resAll, resL, resA, frozE]
        rw [← hi, rRow_end (.inr (by simp; omega))]
        congr 1; simp; omega
  · skip
    refine ok_reg E [0, 1, 5, 15] [] (by simp [h, -Option.some.injEq, -Prod.mk.injEq]; rfl) (by first | trivial | omega | simp | (simp; omega)) ?_
    repeat refine ok_seq ?_
    refine ok_if rfl (fun c3 => ?_) (fun c3 => ?_)
    · try simp at c3
      all_goals
        refine ok_skip ?_
        repeat refine ok_seq ?_
        refine ok_block ?_
        repeat refine ok_seq ?_
        refine ok_dr E rfl [0, 1, 5, 26] 9 [] (by decide) (by simp [nodupF]) (by simp [h, -Option.some.injEq, -Prod.mk.injEq]; rfl) (by first | trivial | omega | simp | (simp; omega)) ?_
        repeat refine ok_seq ?_
        refine ok_if rfl (fun c4 => ?_) (fun c4 => ?_)
        · try simp at c4
          all_goals
            repeat refine ok_seq ?_
            refine ok_dr E rfl [4] 10 [] (by decide) (by simp [nodupF]) (by simp [h, -Option.some.injEq, -Prod.mk.injEq]; rfl) (by first | trivial | omega | simp | (simp; omega)) ?_
            refine ok_ret ⟨.inr rfl, ?_⟩
            -- ret3
            trivial
        · try simp at c4
          all_goals
            refine ok_skip ?_
            repeat refine ok_seq ?_
            refine ok_reg E [0, 1, 5] [] (by simp [h, -Option.some.injEq, -Prod.mk.injEq]; rfl) (by first | trivial | omega | simp | (simp; omega)) ?_
            -- end02
            trivial
    · try simp at c3
      all_goals
        refine ok_exit ?_
        repeat refine ok_seq ?_
        refine ok_reg E [4] [] (by simp [h, -Option.some.injEq, -Prod.mk.injEq]; rfl) (by first | trivial | omega | simp | (simp; omega)) ?_
        refine ok_ret ⟨.inr rfl, ?_⟩
        -- ret4
        simp [resAll, resL, resA, frozE]
        rw [← hi, rRow_end (.inl (by simp; omega))]
        congr 1; simp; omega

set_option maxHeartbeats 4000000 in
theorem same_ctr (a b : List Cell) : Ctr Tryz.prog 30 [.d .term a, .d .term b] [] (.d .bool (decide (a = b))) [] := by
  refine ctr_pure E Tryz.func30 rfl Tryz.ntmps30 Tryz.results30 (Nat.le_of_ble_eq_true rfl) rfl ?_
  repeat refine ok_seq ?_
  refine ok_reg E [0, 1] [] (by simp [cell_ext, -Option.some.injEq, -Prod.mk.injEq]; rfl) (by first | trivial | omega | simp | (simp; omega)) ?_
  repeat refine ok_seq ?_
  refine ok_reg E [0, 1, 10] [] (by simp [cell_ext, -Option.some.injEq, -Prod.mk.injEq]; rfl) (by first | trivial | omega | simp | (simp; omega)) ?_
  repeat refine ok_seq ?_
  refine ok_if rfl (fun c1 => ?_) (fun c1 => ?_)
  · try simp at c1
    all_goals
      repeat refine ok_seq ?_
      refine ok_reg E [4] [] (by simp [cell_ext, -Option.some.injEq, -Prod.mk.injEq]; rfl) (by first | trivial | omega | simp | (simp; omega)) ?_
      refine ok_ret ⟨.inr rfl, ?_⟩
      -- ret1
      simp [resAll, resL, resA, frozE]
      intro e; simp [e] at c1
  · try simp at c1
    all_goals
      refine ok_skip ?_
      repeat refine ok_seq ?_
      refine ok_reg E [0, 1, 5] [] (by simp [cell_ext, -Option.some.injEq, -Prod.mk.injEq]; rfl) (by first | trivial | omega | simp | (simp; omega)) ?_
      repeat refine ok_seq ?_
      refine ok_block ?_
      repeat refine ok_seq ?_
      refine ok_lenN 0 rfl fun ha => ?_
      refine ok_loop (σ := Nat) (fun i => [(0, .d .term a), (1, .d .term b), (5, .d .i (i : Int))]) (fun i => []) (fun i => i ≤ a.length ∧ a.take i = b.take i) (fun i => a.length - i) 0 (by simp) ?_ ?_
      · constructor <;> simp [EntF, EntH, EntB, Conv, scop]
      rintro i ⟨hi1, hi⟩
      repeat refine ok_seq ?_
      refine ok_reg E [0, 1, 5, 14] [] (by simp [cell_ext, -Option.some.injEq, -Prod.mk.injEq]; rfl) (by first | trivial | omega | simp | (simp; omega)) ?_
      repeat refine ok_seq ?_
      refine ok_if rfl (fun c2 => ?_) (fun c2 => ?_)
      · try simp at c2
        all_goals
          refine ok_skip ?_
          repeat refine ok_seq ?_
          refine ok_block ?_
          repeat refine ok_seq ?_
          refine ok_dr E rfl [0, 1, 5, 25] 9 [] (by decide) (by simp [nodupF]) (by simp [cell_ext, -Option.some.injEq, -Prod.mk.injEq]; rfl) (by first | trivial | omega | simp | (simp; omega)) ?_
          repeat refine ok_seq ?_
          refine ok_if rfl (fun c3 => ?_) (fun c3 => ?_)
          · try simp at c3
            all_goals
              repeat refine ok_seq ?_
              refine ok_reg E [4] [] (by simp [cell_ext, -Option.some.injEq, -Prod.mk.injEq]; rfl) (by first | trivial | omega | simp | (simp; omega)) ?_
              refine ok_ret ⟨.inr rfl, ?_⟩
              -- ret2
              simp (disch := omega) only [gc_lt, gi_lt] at c3
              simp [resAll, resL, resA, frozE]
              intro e; simp [e] at c3
          · try simp at c3
            all_goals
              refine ok_skip ?_
              repeat refine ok_seq ?_
              refine ok_reg E [0, 1, 5] [] (by simp [cell_ext, -Option.some.injEq, -Prod.mk.injEq]; rfl) (by first | trivial | omega | simp | (simp; omega)) ?_
              -- end01
              simp (disch := omega) only [gc_lt, gi_lt] at c3
              refine ⟨i + 1, ⟨by omega, ?_⟩, by omega, by constructor <;> simp (disch := omega) [EntF, EntH, EntB, Conv, scop, wrap_i64]⟩
              exact take_ne (by omega) (by omega) hi c3
      · try simp at c2
        all_goals
          refine ok_exit ?_
          repeat refine ok_seq ?_
          refine ok_reg E [4] [] (by simp [cell_ext, -Option.some.injEq, -Prod.mk.injEq]; rfl) (by first | trivial | omega | simp | (simp; omega)) ?_
          refine ok_ret ⟨.inr rfl, ?_⟩
          -- ret3
          simp [resAll, resL, resA, frozE]
          exact take_end (by omega) (by omega) hi

set_option maxHeartbeats 4000000 in
theorem isIn_ctr (l : List Int) (n : Int) : Ctr Tryz.prog 48 [.d .ints l, .d .i n] [] (.d .bool (decide (n ∈ l))) [] := by
  refine ctr_pure E Tryz.func48 rfl Tryz.ntmps48 Tryz.results48 (Nat.le_of_ble_eq_true rfl) rfl ?_
  repeat refine ok_seq ?_
  refine ok_reg E [0, 1] [] (by simp [-Option.some.injEq, -Prod.mk.injEq]; rfl) (by first | trivial | omega | simp | (simp; omega)) ?_
  repeat refine ok_seq ?_
  refine ok_reg E [0, 1, 5] [] (by simp [-Option.some.injEq, -Prod.mk.injEq]; rfl) (by first | trivial | omega | simp | (simp; omega)) ?_
  repeat refine ok_seq ?_
  refine ok_block ?_
  repeat refine ok_seq ?_
  refine ok_lenN 0 rfl fun ha => ?_
  refine ok_loop (σ := Nat) (fun i => [(0, .d .ints l), (1, .d .i n), (5, .d .i (i : Int))]) (fun i => []) (fun i => i ≤ l.length ∧ ¬ n ∈ l.take i) (fun i => l.length - i) 0 (by simp) ?_ ?_
  · constructor <;> simp [EntF, EntH, EntB, Conv, scop]
  rintro i ⟨hi1, hi⟩
  repeat refine ok_seq ?_
  refine ok_reg E [0, 1, 5, 9] [] (by simp [-Option.some.injEq, -Prod.mk.injEq]; rfl) (by first | trivial | omega | simp | (simp; omega)) ?_
  repeat refine ok_seq ?_
  refine ok_if rfl (fun c1 => ?_) (fun c1 => ?_)
  · try simp at c1
    all_goals
      refine ok_skip ?_
      repeat refine ok_seq ?_
      refine ok_block ?_
      repeat refine ok_seq ?_
      refine ok_reg E [0, 1, 5, 17] [] (by simp [-Option.some.injEq, -Prod.mk.injEq]; rfl) (by first | trivial | omega | simp | (simp; omega)) ?_
      repeat refine ok_seq ?_
      refine ok_if rfl (fun c2 => ?_) (fun c2 => ?_)
      · try simp at c2
        all_goals
          repeat refine ok_seq ?_
          refine ok_reg E [4] [] (by simp [-Option.some.injEq, -Prod.mk.injEq]; rfl) (by first | trivial | omega | simp | (simp; omega)) ?_
          refine ok_ret ⟨.inr rfl, ?_⟩
          -- ret1
          simp (disch := omega) only [gc_lt, gi_lt] at c2
          simp [resAll, resL, resA, frozE]
          subst c2; exact List.getElem_mem _
      · try simp at c2
        all_goals
          refine ok_skip ?_
          repeat refine ok_seq ?_
          refine ok_reg E [0, 1, 5] [] (by simp [-Option.some.injEq, -Prod.mk.injEq]; rfl) (by first | trivial | omega | simp | (simp; omega)) ?_
          -- end01
          simp (disch := omega) only [gc_lt, gi_lt] at c2
          refine ⟨i + 1, ⟨by omega, ?_⟩, by omega, by constructor <;> simp (disch := omega) [EntF, EntH, EntB, Conv, scop, wrap_i64]⟩
          rw [List.take_succ_eq_append_getElem (by omega), List.mem_append, List.mem_singleton]; rintro (e | e); exact hi e; exact c2 e.symm
  · try simp at c1
    all_goals
      refine ok_exit ?_
      repeat refine ok_seq ?_
      refine ok_reg E [4] [] (by simp [-Option.some.injEq, -Prod.mk.injEq]; rfl) (by first | trivial | omega | simp | (simp; omega)) ?_
      refine ok_ret ⟨.inr rfl, ?_⟩
      -- ret2
      simp [resAll, resL, resA, frozE]
      rwa [List.take_of_length_le (by omega)] at hi

set_option maxHeartbeats 4000000 in
theorem isNaN_ctr (n : Int) : Ctr Tryz.prog 159 [.d .i n] [] (.d .bool false) [] := by
  refine ctr_pure E Tryz.func159 rfl Tryz.ntmps159 Tryz.results159 (Nat.le_of_ble_eq_true rfl) rfl ?_
  repeat refine ok_seq ?_
  refine ok_reg E [0] [] (by simp [-Option.some.injEq, -Prod.mk.injEq]; rfl) (by first | trivial | omega | simp | (simp; omega)) ?_
  repeat refine ok_seq ?_
  refine ok_reg E [2] [] (by simp [-Option.some.injEq, -Prod.mk.injEq]; rfl) (by first | trivial | omega | simp | (simp; omega)) ?_
  refine ok_ret ⟨.inr rfl, ?_⟩
  -- ret1
  simp [resAll, resL, resA, frozE]

set_option maxHeartbeats 4000000 in
theorem cmpI_ctr (x y : Int) : Ctr Tryz.prog 94 [.d .i x, .d .i y] [] (.d .i (cmpI x y)) [] := by
  refine ctr_pure E Tryz.func94 rfl Tryz.ntmps94 Tryz.results94 (Nat.le_of_ble_eq_true rfl) rfl ?_
  repeat refine ok_seq ?_
  refine ok_reg E [0, 1] [] (by simp [-Option.some.injEq, -Prod.mk.injEq]; rfl) (by first | trivial | omega | simp [isNaN_ctr] | (simp [isNaN_ctr]; omega)) ?_
  repeat refine ok_seq ?_
  refine ok_reg E [0, 1, 5] [.pure (.d .bool false)] (by simp [-Option.some.injEq, -Prod.mk.injEq]; rfl) (by first | trivial | omega | simp [isNaN_ctr] | (simp [isNaN_ctr]; omega)) ?_
  repeat refine ok_seq ?_
  refine ok_reg E [0, 1, 5, 6] [.pure (.d .bool false)] (by simp [-Option.some.injEq, -Prod.mk.injEq]; rfl) (by first | trivial | omega | simp [isNaN_ctr] | (simp [isNaN_ctr]; omega)) ?_
  repeat refine ok_seq ?_
  refine ok_reg E [0, 1, 6, 11] [] (by simp [-Option.some.injEq, -Prod.mk.injEq]; rfl) (by first | trivial | omega | simp [isNaN_ctr] | (simp [isNaN_ctr]; omega)) ?_
  repeat refine ok_seq ?_
  refine ok_if rfl (fun c1 => ?_) (fun c1 => ?_)
  · try simp at c1
    all_goals
      repeat refine ok_seq ?_
      refine ok_reg E [12] [] (by simp [-Option.some.injEq, -Prod.mk.injEq]; rfl) (by first | trivial | omega | simp [isNaN_ctr] | (simp [isNaN_ctr]; omega)) ?_
      repeat refine ok_seq ?_
      refine ok_if rfl (fun c2 => ?_) (fun c2 => ?_)
      · try simp at c2
        all_goals
          repeat refine ok_seq ?_
          refine ok_reg E [4] [] (by simp [-Option.some.injEq, -Prod.mk.injEq]; rfl) (by first | trivial | omega | simp [isNaN_ctr] | (simp [isNaN_ctr]; omega)) ?_
          refine ok_ret ⟨.inr rfl, ?_⟩
          -- ret1
          simp [resAll, resL, resA, frozE]
          first | rw [cmpI, if_pos (by omega)] | rw [cmpI, if_neg (by omega), if_pos (by omega)] | rw [cmpI, if_neg (by omega), if_neg (by omega)]
      · try simp at c2
        all_goals
          refine ok_skip ?_
          repeat refine ok_seq ?_
          refine ok_reg E [4] [] (by simp [-Option.some.injEq, -Prod.mk.injEq]; rfl) (by first | trivial | omega | simp [isNaN_ctr] | (simp [isNaN_ctr]; omega)) ?_
          refine ok_ret ⟨.inr rfl, ?_⟩
          -- ret2
          simp [resAll, resL, resA, frozE]
          first | rw [cmpI, if_pos (by omega)] | rw [cmpI, if_neg (by omega), if_pos (by omega)] | rw [cmpI, if_neg (by omega), if_neg (by omega)]
  · try simp at c1
    all_goals
      refine ok_skip ?_
      repeat refine ok_seq ?_
      refine ok_reg E [0, 1, 13] [] (by simp [-Option.some.injEq, -Prod.mk.injEq]; rfl) (by first | trivial | omega | simp [isNaN_ctr] | (simp [isNaN_ctr]; omega)) ?_
      repeat refine ok_seq ?_
      refine ok_if rfl (fun c3 => ?_) (fun c3 => ?_)
      · try simp at c3
        all_goals
          repeat refine ok_seq ?_
          refine ok_reg E [4] [] (by simp [-Option.some.injEq, -Prod.mk.injEq]; rfl) (by first | trivial | omega | simp [isNaN_ctr] | (simp [isNaN_ctr]; omega)) ?_
          refine ok_ret ⟨.inr rfl, ?_⟩
          -- ret3
          simp [resAll, resL, resA, frozE]
          first | rw [cmpI, if_pos (by omega)] | rw [cmpI, if_neg (by omega), if_pos (by omega)] | rw [cmpI, if_neg (by omega), if_neg (by omega)]
      · try simp at c3
        all_goals
          refine ok_skip ?_
          repeat refine ok_seq ?_
          refine ok_reg E [0, 1, 16] [] (by simp [-Option.some.injEq, -Prod.mk.injEq]; rfl) (by first | trivial | omega | simp [isNaN_ctr] | (simp [isNaN_ctr]; omega)) ?_
          repeat refine ok_seq ?_
          refine ok_if rfl (fun c4 => ?_) (fun c4 => ?_)
          · try simp at c4
            all_goals
              repeat refine ok_seq ?_
              refine ok_reg E [4] [] (by simp [-Option.some.injEq, -Prod.mk.injEq]; rfl) (by first | trivial | omega | simp [isNaN_ctr] | (simp [isNaN_ctr]; omega)) ?_
              refine ok_ret ⟨.inr rfl, ?_⟩
              -- ret4
              simp [resAll, resL, resA, frozE]
              first | rw [cmpI, if_pos (by omega)] | rw [cmpI, if_neg (by omega), if_pos (by omega)] | rw [cmpI, if_neg (by omega), if_neg (by omega)]
          · try simp at c4
            all_goals
              refine ok_skip ?_
              repeat refine ok_seq ?_
              refine ok_reg E [19] [] (by simp [-Option.some.injEq, -Prod.mk.injEq]; rfl) (by first | trivial | omega | simp [isNaN_ctr] | (simp [isNaN_ctr]; omega)) ?_
              repeat refine ok_seq ?_
              refine ok_if rfl (fun c5 => ?_) (fun c5 => ?_)
              · try simp at c5
                all_goals
                  repeat refine ok_seq ?_
                  refine ok_reg E [4] [] (by simp [-Option.some.injEq, -Prod.mk.injEq]; rfl) (by first | trivial | omega | simp [isNaN_ctr] | (simp [isNaN_ctr]; omega)) ?_
                  refine ok_ret ⟨.inr rfl, ?_⟩
                  -- ret5
                  simp [resAll, resL, resA, frozE]
                  first | rw [cmpI, if_pos (by omega)] | rw [cmpI, if_neg (by omega), if_pos (by omega)] | rw [cmpI, if_neg (by omega), if_neg (by omega)]
              · try simp at c5
                all_goals
                  refine ok_skip ?_
                  repeat refine ok_seq ?_
                  refine ok_reg E [4] [] (by simp [-Option.some.injEq, -Prod.mk.injEq]; rfl) (by first | trivial | omega | simp [isNaN_ctr] | (simp [isNaN_ctr]; omega)) ?_
                  refine ok_ret ⟨.inr rfl, ?_⟩
                  -- ret6
                  simp [resAll, resL, resA, frozE]
                  first | rw [cmpI, if_pos (by omega)] | rw [cmpI, if_neg (by omega), if_pos (by omega)] | rw [cmpI, if_neg (by omega), if_neg (by omega)]

set_option maxHeartbeats 4000000 in
theorem order_ctr (a b : Rule) : Ctr Tryz.prog 97 [avOf .rule a, avOf .rule b] [] (.d .i (rOrder a b)) [] := by
  refine ctr_pure E Tryz.func97 rfl Tryz.ntmps97 Tryz.results97 (Nat.le_of_ble_eq_true rfl) rfl ?_
  repeat refine ok_seq ?_
  refine ok_reg E [2, 3] [] (by simp [-Option.some.injEq, -Prod.mk.injEq]; rfl) (by first | trivial | omega | simp [row_ctr] | (simp [row_ctr]; omega)) ?_
  repeat refine ok_seq ?_
  refine ok_reg E [2, 3, 10] [] (by simp [-Option.some.injEq, -Prod.mk.injEq]; rfl) (by first | trivial | omega | simp [row_ctr] | (simp [row_ctr]; omega)) ?_
  repeat refine ok_seq ?_
  refine ok_if rfl (fun c1 => ?_) (fun c1 => ?_)
  · try simp at c1
    all_goals
      repeat refine ok_seq ?_
      refine ok_reg E [4] [] (by simp [-Option.some.injEq, -Prod.mk.injEq]; rfl) (by first | trivial | omega | simp [row_ctr] | (simp [row_ctr]; omega)) ?_
      refine ok_ret ⟨.inr rfl, ?_⟩
      -- ret1
      simp [resAll, resL, resA, frozE]
      simp [rOrder, *]
  · try simp at c1
    all_goals
      refine ok_skip ?_
      repeat refine ok_seq ?_
      refine ok_reg E [2, 3, 5] [.pure (.d .i (rRow a.pos b.pos))] (by simp [-Option.some.injEq, -Prod.mk.injEq]; rfl) (by first | trivial | omega | simp [row_ctr] | (simp [row_ctr]; omega)) ?_
      repeat refine ok_seq ?_
      refine ok_reg E [2, 3, 5, 22] [] (by simp [-Option.some.injEq, -Prod.mk.injEq]; rfl) (by first | trivial | omega | simp [row_ctr] | (simp [row_ctr]; omega)) ?_
      repeat refine ok_seq ?_
      refine ok_if rfl (fun c2 => ?_) (fun c2 => ?_)
      · try simp at c2
        all_goals
          repeat refine ok_seq ?_
          refine ok_reg E [4] [] (by simp [-Option.some.injEq, -Prod.mk.injEq]; rfl) (by first | trivial | omega | simp [row_ctr] | (simp [row_ctr]; omega)) ?_
          refine ok_ret ⟨.inr rfl, ?_⟩
          -- ret2
          simp [resAll, resL, resA, frozE]
          simp [rOrder, *]
      · try simp at c2
        all_goals
          refine ok_skip ?_
          repeat refine ok_seq ?_
          refine ok_reg E [4] [.pure (.d .i (rRow a.neg b.neg))] (by simp [-Option.some.injEq, -Prod.mk.injEq]; rfl) (by first | trivial | omega | simp [row_ctr] | (simp [row_ctr]; omega)) ?_
          refine ok_ret ⟨.inr rfl, ?_⟩
          -- ret3
          simp [resAll, resL, resA, frozE]
          simp [rOrder, *]

set_option maxHeartbeats 4000000 in
theorem name_ctr (s : List UInt8) (ha : s.length ≤ 9223372036854775807) : Ctr Tryz.prog 216 [.d .str s] [] (.d .bool (nameOk s)) [] := by
  refine ctr_pure E Tryz.func216 rfl Tryz.ntmps216 Tryz.results216 (Nat.le_of_ble_eq_true rfl) rfl ?_
  repeat refine ok_seq ?_
  refine ok_reg E [0] [] (by simp [-Option.some.injEq, -Prod.mk.injEq]; rfl) (by first | trivial | omega | simp | (simp; omega)) ?_
  repeat refine ok_seq ?_
  refine ok_reg E [0, 3] [] (by simp [-Option.some.injEq, -Prod.mk.injEq]; rfl) (by first | trivial | omega | simp | (simp; omega)) ?_
  repeat refine ok_seq ?_
  refine ok_block ?_
  repeat refine ok_seq ?_
  refine ok_loop (σ := Nat) (fun i => [(0, .d .str s), (3, .d .i (i : Int))]) (fun i => []) (fun i => i ≤ s.length ∧ (s.take i).all okB = true) (fun i => s.length - i) 0 (by simp) ?_ ?_
  · constructor <;> simp [EntF, EntH, EntB, Conv, scop]
  rintro i ⟨hi1, hi⟩
  repeat refine ok_seq ?_
  refine ok_reg E [0, 3, 7] [] (by simp [-Option.some.injEq, -Prod.mk.injEq]; rfl) (by first | trivial | omega | simp | (simp; omega)) ?_
  repeat refine ok_seq ?_
  refine ok_if rfl (fun c1 => ?_) (fun c1 => ?_)
  · try simp at c1
    all_goals
      have hlt : i < s.length := by omega
      refine ok_skip ?_
      repeat refine ok_seq ?_
      refine ok_block ?_
      repeat refine ok_seq ?_
      refine ok_regJ E [(25, .d .bool (!okB s[i]))] [0, 3] [0, 3, 25] [] ?_ ?_
      · skip
        by_cases q0 : ((s[i]).toNat : Int) < 32
        · refine ⟨_, _, _, by simp [q0, hlt, okB, at0_lt, -Option.some.injEq, -Prod.mk.injEq]; rfl, (by first | trivial | omega | simp | (simp; omega)), by constructor <;> simp [EntF, EntH, EntB, Conv, scop, q0, hlt, okB, at0_lt] <;> first | omega | (rw [Bool.eq_iff_iff]; simp; omega)⟩
        by_cases q1 : 126 < ((s[i]).toNat : Int)
        · refine ⟨_, _, _, by simp [q0, q1, hlt, okB, at0_lt, -Option.some.injEq, -Prod.mk.injEq]; rfl, (by first | trivial | omega | simp | (simp; omega)), by constructor <;> simp [EntF, EntH, EntB, Conv, scop, q0, q1, hlt, okB, at0_lt] <;> first | omega | (rw [Bool.eq_iff_iff]; simp; omega)⟩
        refine ⟨_, _, _, by simp [q0, q1, hlt, okB, at0_lt, -Option.some.injEq, -Prod.mk.injEq]; rfl, (by first | trivial | omega | simp | (simp; omega)), by constructor <;> simp [EntF, EntH, EntB, Conv, scop, q0, q1, hlt, okB, at0_lt] <;> first | omega | (rw [Bool.eq_iff_iff]; simp; omega)⟩
      repeat refine ok_seq ?_
      refine ok_if rfl (fun c2 => ?_) (fun c2 => ?_)
      · try simp at c2
        all_goals
          repeat refine ok_seq ?_
          refine ok_reg E [2] [] (by simp [-Option.some.injEq, -Prod.mk.injEq]; rfl) (by first | trivial | omega | simp | (simp; omega)) ?_
          refine ok_ret ⟨.inr rfl, ?_⟩
          -- ret1
          simp [resAll, resL, resA, frozE]
          rw [Bool.eq_false_iff]; intro h2; simp [nameOk] at h2; have := h2.2 s[i] (List.getElem_mem _); rw [this] at c2; simp at c2
      · try simp at c2
        all_goals
          refine ok_skip ?_
          repeat refine ok_seq ?_
          refine ok_reg E [0, 3] [] (by simp [-Option.some.injEq, -Prod.mk.injEq]; rfl) (by first | trivial | omega | simp | (simp; omega)) ?_
          -- end01
          refine ⟨i + 1, ⟨by omega, ?_⟩, by omega, by constructor <;> simp (disch := omega) [EntF, EntH, EntB, Conv, scop, wrap_i64]⟩
          rw [List.take_succ_eq_append_getElem hlt, List.all_append, hi]; simpa using c2
  · try simp at c1
    all_goals
      skip
      refine ok_exit ?_
      repeat refine ok_seq ?_
      refine ok_regJ E [(2, .d .bool (decide (1 ≤ s.length ∧ s.length ≤ 12)))] [] [2] [] ?_ ?_
      · skip
        by_cases q0 : 1 ≤ (s.length : Int) <;> (
        refine ⟨_, _, _, by simp [q0, -Option.some.injEq, -Prod.mk.injEq]; rfl, (by first | trivial | omega | simp | (simp; omega)), by constructor <;> simp [EntF, EntH, EntB, Conv, scop, q0] <;> first | omega | (rw [Bool.eq_iff_iff]; simp; omega)⟩)
      refine ok_ret ⟨.inr rfl, ?_⟩
      -- ret2
      simp [resAll, resL, resA, frozE]
      rw [List.take_of_length_le (by omega)] at hi; simp [nameOk, hi]

set_option maxHeartbeats 4000000 in
theorem setOk_ctr (l : List Int) (n : Int) : Ctr Tryz.prog 117 [.d .ints l, .d .i n] [] (.d .bool (setOk l n)) [] := by
  refine ctr_pure E Tryz.func117 rfl Tryz.ntmps117 Tryz.results117 (Nat.le_of_ble_eq_true rfl) rfl ?_
  repeat refine ok_seq ?_
  refine ok_reg E [0, 1] [] (by simp [-Option.some.injEq, -Prod.mk.injEq]; rfl) (by first | trivial | omega | simp | (simp; omega)) ?_
  repeat refine ok_seq ?_
  refine ok_reg E [0, 1, 5] [] (by simp [-Option.some.injEq, -Prod.mk.injEq]; rfl) (by first | trivial | omega | simp | (simp; omega)) ?_
  repeat refine ok_seq ?_
  refine ok_block ?_
  repeat refine ok_seq ?_
  refine ok_lenN 0 rfl fun ha => ?_
  refine ok_loop (σ := Nat) (fun i => [(0, .d .ints l), (1, .d .i n), (5, .d .i (i : Int))]) (fun i => []) (fun i => i ≤ l.length ∧ SetOk l n i) (fun i => l.length - i) 0 ⟨by simp, fun _ h => absurd h (by omega)⟩ ?_ ?_
  · constructor <;> simp [EntF, EntH, EntB, Conv, scop]
  rintro i ⟨hi1, hi⟩
  repeat refine ok_seq ?_
  refine ok_reg E [0, 1, 5, 9] [] (by simp [-Option.some.injEq, -Prod.mk.injEq]; rfl) (by first | trivial | omega | simp | (simp; omega)) ?_
  repeat refine ok_seq ?_
  refine ok_if rfl (fun c1 => ?_) (fun c1 => ?_)
  · try simp at c1
    all_goals
      have hw : IntKind.i64.wrap ((i : Int) - 1) = (i : Int) - 1 := wrap_i64 (by omega) (by omega)
      have hlt : i < l.length := by omega
      refine ok_skip ?_
      repeat refine ok_seq ?_
      refine ok_block ?_
      repeat refine ok_seq ?_
      refine ok_drJ E rfl [(40, .d .bool (decide (¬ (0 ≤ gi l i ∧ gi l i < n ∧ (0 < i → gi l ((i : Int) - 1) < gi l i)))))] [0, 1, 5] [0, 1, 5, 40] 29 [] (by decide) (by simp [nodupF]) ?_ ?_
      · skip
        by_cases q0 : gi l i < 0
        · refine ⟨_, _, _, by simp [q0, hlt, hw, -Option.some.injEq, -Prod.mk.injEq]; rfl, (by first | trivial | omega | simp | (simp; omega)), by constructor <;> simp [EntF, EntH, EntB, Conv, scop, q0, hlt, hw] <;> first | omega | (rw [Bool.eq_iff_iff]; simp; omega)⟩
        by_cases q1 : n ≤ gi l i
        · refine ⟨_, _, _, by simp [q0, q1, hlt, hw, -Option.some.injEq, -Prod.mk.injEq]; rfl, (by first | trivial | omega | simp | (simp; omega)), by constructor <;> simp [EntF, EntH, EntB, Conv, scop, q0, q1, hlt, hw] <;> first | omega | (rw [Bool.eq_iff_iff]; simp; omega)⟩
        by_cases q2 : 0 < i
        rotate_left
        · refine ⟨_, _, _, by simp [q0, q1, q2, hlt, hw, -Option.some.injEq, -Prod.mk.injEq]; rfl, (by first | trivial | omega | simp | (simp; omega)), by constructor <;> simp [EntF, EntH, EntB, Conv, scop, q0, q1, q2, hlt, hw] <;> first | omega | (rw [Bool.eq_iff_iff]; simp; omega)⟩
        by_cases q3 : gi l i ≤ gi l ((i : Int) - 1) <;> (
        refine ⟨_, _, _, by simp [q0, q1, q2, q3, hlt, hw, -Option.some.injEq, -Prod.mk.injEq]; rfl, (by first | trivial | omega | simp | (simp; omega)), by constructor <;> simp [EntF, EntH, EntB, Conv, scop, q0, q1, q2, q3, hlt, hw] <;> first | omega | (rw [Bool.eq_iff_iff]; simp; omega)⟩)
      repeat refine ok_seq ?_
      refine ok_if rfl (fun c2 => ?_) (fun c2 => ?_)
      · try simp at c2
        all_goals
          repeat refine ok_seq ?_
          refine ok_reg E [4] [] (by simp [-Option.some.injEq, -Prod.mk.injEq]; rfl) (by first | trivial | omega | simp | (simp; omega)) ?_
          refine ok_ret ⟨.inr rfl, ?_⟩
          -- ret1
          simp [resAll, resL, resA, frozE]
          unfold setOk; simp only [decide_eq_false_iff_not]; intro h; have := h i hlt; omega
      · try simp at c2
        all_goals
          refine ok_skip ?_
          repeat refine ok_seq ?_
          refine ok_reg E [0, 1, 5] [] (by simp [-Option.some.injEq, -Prod.mk.injEq]; rfl) (by first | trivial | omega | simp | (simp; omega)) ?_
          -- end01
          refine ⟨i + 1, ⟨by omega, ?_⟩, by omega, by constructor <;> simp (disch := omega) [EntF, EntH, EntB, Conv, scop, wrap_i64]⟩
          intro j hj; by_cases e : j = i; subst e; omega; exact hi j (by omega)
  · try simp at c1
    all_goals
      skip
      refine ok_exit ?_
      repeat refine ok_seq ?_
      refine ok_reg E [4] [] (by simp [-Option.some.injEq, -Prod.mk.injEq]; rfl) (by first | trivial | omega | simp | (simp; omega)) ?_
      refine ok_ret ⟨.inr rfl, ?_⟩
      -- ret2
      simp [resAll, resL, resA, frozE]
      unfold setOk; simp only [decide_eq_true_eq]; exact fun j hj => hi j (by omega)

set_option maxHeartbeats 4000000 in
theorem cmpT_ctr (a b : List Cell) : Ctr Tryz.prog 69 [.d .term a, .d .term b] [] (.d .i (cmpT a b)) [] := by
  refine ctr_pure E Tryz.func69 rfl Tryz.ntmps69 Tryz.results69 (Nat.le_of_ble_eq_true rfl) rfl ?_
  repeat refine ok_seq ?_
  refine ok_reg E [0, 1] [] (by simp [cell_ext, -Option.some.injEq, -Prod.mk.injEq]; rfl) (by first | trivial | omega | simp | (simp; omega)) ?_
  repeat refine ok_seq ?_
  refine ok_reg E [0, 1, 5] [] (by simp [cell_ext, -Option.some.injEq, -Prod.mk.injEq]; rfl) (by first | trivial | omega | simp | (simp; omega)) ?_
  repeat refine ok_seq ?_
  refine ok_block ?_
  repeat refine ok_seq ?_
  refine ok_lenN 0 rfl fun ha => ?_
  refine ok_lenN 1 rfl fun hb => ?_
  refine ok_loop (σ := Nat) (fun i => [(0, .d .term a), (1, .d .term b), (5, .d .i (i : Int))]) (fun i => []) (fun i => i ≤ a.length ∧ i ≤ b.length ∧ cmpT (a.drop i) (b.drop i) = cmpT a b) (fun i => a.length - i) 0 (by simp) ?_ ?_
  · constructor <;> simp [EntF, EntH, EntB, Conv, scop]
  rintro i ⟨hi1, hi2, hi⟩
  repeat refine ok_seq ?_
  by_cases h : i < a.length
  · skip
    refine ok_reg E [0, 1, 5, 17] [] (by simp [h, cell_ext, -Option.some.injEq, -Prod.mk.injEq]; rfl) (by first | trivial | omega | simp | (simp; omega)) ?_
    repeat refine ok_seq ?_
    refine ok_if rfl (fun c1 => ?_) (fun c1 => ?_)
    · try simp at c1
      all_goals
        refine ok_skip ?_
        repeat refine ok_seq ?_
        refine ok_block ?_
        repeat refine ok_seq ?_
        refine ok_reg E [0, 1, 5, 6] [] (by simp [h, cell_ext, -Option.some.injEq, -Prod.mk.injEq]; rfl) (by first | trivial | omega | simp | (simp; omega)) ?_
        repeat refine ok_seq ?_
        refine ok_reg E [0, 1, 5, 6, 7] [] (by simp [h, cell_ext, -Option.some.injEq, -Prod.mk.injEq]; rfl) (by first | trivial | omega | simp | (simp; omega)) ?_
        repeat refine ok_seq ?_
        refine ok_reg E [0, 1, 5, 6, 7, 30] [] (by simp [h, cell_ext, -Option.some.injEq, -Prod.mk.injEq]; rfl) (by first | trivial | omega | simp | (simp; omega)) ?_
        repeat refine ok_seq ?_
        refine ok_if rfl (fun c2 => ?_) (fun c2 => ?_)
        · try simp at c2
          all_goals
            refine ok_exit ?_
            repeat refine ok_seq ?_
            refine ok_reg E [0, 1, 5] [] (by simp [h, cell_ext, -Option.some.injEq, -Prod.mk.injEq]; rfl) (by first | trivial | omega | simp | (simp; omega)) ?_
            -- end01
            simp (disch := omega) only [gc_lt] at c2
            refine ⟨i + 1, ⟨by omega, by omega, ?_⟩, by omega, by constructor <;> simp (disch := omega) [EntF, EntH, EntB, Conv, scop, wrap_i64]⟩
            rw [← hi, List.drop_eq_getElem_cons h, List.drop_eq_getElem_cons c1, cmpT, if_pos c2]
        · try simp at c2
          all_goals
            refine ok_skip ?_
            repeat refine ok_seq ?_
            refine ok_regJ E [(63, .d .bool (cellLess (gc a i) (gc b i)))] [] [63] [] ?_ ?_
            · skip
              by_cases q0 : (gc a i).kind < (gc b i).kind
              · refine ⟨_, _, _, by simp [q0, h, cellLess, cell_ext, -Option.some.injEq, -Prod.mk.injEq]; rfl, (by first | trivial | omega | simp | (simp; omega)), by constructor <;> simp [EntF, EntH, EntB, Conv, scop, q0, h, cellLess, cell_ext] <;> first | omega | (rw [Bool.eq_iff_iff]; simp; omega)⟩
              by_cases q1 : (gc a i).kind = (gc b i).kind
              rotate_left
              · refine ⟨_, _, _, by simp [q0, q1, h, cellLess, cell_ext, -Option.some.injEq, -Prod.mk.injEq]; rfl, (by first | trivial | omega | simp | (simp; omega)), by constructor <;> simp [EntF, EntH, EntB, Conv, scop, q0, q1, h, cellLess, cell_ext] <;> first | omega | (rw [Bool.eq_iff_iff]; simp; omega)⟩
              by_cases q2 : (gc a i).n < (gc b i).n
              · refine ⟨_, _, _, by simp [q0, q1, q2, h, cellLess, cell_ext, -Option.some.injEq, -Prod.mk.injEq]; rfl, (by first | trivial | omega | simp | (simp; omega)), by constructor <;> simp [EntF, EntH, EntB, Conv, scop, q0, q1, q2, h, cellLess, cell_ext] <;> first | omega | (rw [Bool.eq_iff_iff]; simp; omega)⟩
              by_cases q3 : (gc a i).n = (gc b i).n
              rotate_left
              · refine ⟨_, _, _, by simp [q0, q1, q2, q3, h, cellLess, cell_ext, -Option.some.injEq, -Prod.mk.injEq]; rfl, (by first | trivial | omega | simp | (simp; omega)), by constructor <;> simp [EntF, EntH, EntB, Conv, scop, q0, q1, q2, q3, h, cellLess, cell_ext] <;> first | omega | (rw [Bool.eq_iff_iff]; simp; omega)⟩
              by_cases q4 : Op.bytesLess (gc a i).name (gc b i).name = true <;> (
              refine ⟨_, _, _, by simp [q0, q1, q2, q3, q4, h, cellLess, cell_ext, -Option.some.injEq, -Prod.mk.injEq]; rfl, (by first | trivial | omega | simp | (simp; omega)), by constructor <;> simp [EntF, EntH, EntB, Conv, scop, q0, q1, q2, q3, q4, h, cellLess, cell_ext] <;> first | omega | (rw [Bool.eq_iff_iff]; simp; omega)⟩)
            repeat refine ok_seq ?_
            refine ok_if rfl (fun c3 => ?_) (fun c3 => ?_)
            · try simp at c3
              all_goals
                repeat refine ok_seq ?_
                refine ok_reg E [4] [] (by simp [h, cell_ext, -Option.some.injEq, -Prod.mk.injEq]; rfl) (by first | trivial | omega | simp | (simp; omega)) ?_
                refine ok_ret ⟨.inr rfl, ?_⟩
                -- ret1
                simp [resAll, resL, resA, frozE]
                simp (disch := omega) only [gc_lt] at c2 c3
                rw [← hi, List.drop_eq_getElem_cons h, List.drop_eq_getElem_cons c1, cmpT, if_neg c2, if_pos c3]
            · try simp at c3
              all_goals
                refine ok_skip ?_
                repeat refine ok_seq ?_
                refine ok_reg E [4] [] (by simp [h, cell_ext, -Option.some.injEq, -Prod.mk.injEq]; rfl) (by first | trivial | omega | simp | (simp; omega)) ?_
                refine ok_ret ⟨.inr rfl, ?_⟩
                -- ret2
                simp [resAll, resL, resA, frozE]
                simp (disch := omega) only [gc_lt] at c2 c3
                rw [← hi, List.drop_eq_getElem_cons h, List.drop_eq_getElem_cons c1, cmpT, if_neg c2, if_neg (by simp [c3])]
    · try simp at c1
      all_goals
        refine ok_exit ?_
        repeat refine ok_seq ?_
        refine ok_reg E [4] [] (by simp [h, cell_ext, -Option.some.injEq, -Prod.mk.injEq]; rfl) (by first | trivial | omega | simp | (simp; omega)) ?_
        refine ok_ret ⟨.inr rfl, ?_⟩
        -- ret3
        simp [resAll, resL, resA, frozE]
        rw [← hi, cmpT_end (.inr (by simp; omega))]
  · skip
    refine ok_reg E [0, 1, 5, 17] [] (by simp [h, cell_ext, -Option.some.injEq, -Prod.mk.injEq]; rfl) (by first | trivial | omega | simp | (simp; omega)) ?_
    repeat refine ok_seq ?_
    refine ok_if rfl (fun c4 => ?_) (fun c4 => ?_)
    · try simp at c4
      all_goals
        refine ok_skip ?_
        repeat refine ok_seq ?_
        refine ok_block ?_
        repeat refine ok_seq ?_
        refine ok_reg E [0, 1, 5, 6] [] (by simp [h, cell_ext, -Option.some.injEq, -Prod.mk.injEq]; rfl) (by first | trivial | omega | simp | (simp; omega)) ?_
        repeat refine ok_seq ?_
        refine ok_reg E [0, 1, 5, 6, 7] [] (by simp [h, cell_ext, -Option.some.injEq, -Prod.mk.injEq]; rfl) (by first | trivial | omega | simp | (simp; omega)) ?_
        repeat refine ok_seq ?_
        refine ok_reg E [0, 1, 5, 6, 7, 30] [] (by simp [h, cell_ext, -Option.some.injEq, -Prod.mk.injEq]; rfl) (by first | trivial | omega | simp | (simp; omega)) ?_
        repeat refine ok_seq ?_
        refine ok_if rfl (fun c5 => ?_) (fun c5 => ?_)
        · try simp at c5
          all_goals
            refine ok_exit ?_
            repeat refine ok_seq ?_
            refine ok_reg E [0, 1, 5] [] (by simp [h, cell_ext, -Option.some.injEq, -Prod.mk.injEq]; rfl) (by first | trivial | omega | simp | (simp; omega)) ?_
            -- end02
            trivial
        · try simp at c5
          all_goals
            refine ok_skip ?_
            repeat refine ok_seq ?_
            refine ok_regJ E [(63, .d .bool (cellLess (gc a i) (gc b i)))] [] [63] [] ?_ ?_
            · skip
              by_cases q0 : (gc a i).kind < (gc b i).kind
              · refine ⟨_, _, _, by simp [q0, h, cellLess, cell_ext, -Option.some.injEq, -Prod.mk.injEq]; rfl, (by first | trivial | omega | simp | (simp; omega)), by constructor <;> simp [EntF, EntH, EntB, Conv, scop, q0, h, cellLess, cell_ext] <;> first | omega | (rw [Bool.eq_iff_iff]; simp; omega)⟩
              by_cases q1 : (gc a i).kind = (gc b i).kind
              rotate_left
              · refine ⟨_, _, _, by simp [q0, q1, h, cellLess, cell_ext, -Option.some.injEq, -Prod.mk.injEq]; rfl, (by first | trivial | omega | simp | (simp; omega)), by constructor <;> simp [EntF, EntH, EntB, Conv, scop, q0, q1, h, cellLess, cell_ext] <;> first | omega | (rw [Bool.eq_iff_iff]; simp; omega)⟩
              by_cases q2 : (gc a i).n < (gc b i).n
              · refine ⟨_, _, _, by simp [q0, q1, q2, h, cellLess, cell_ext, -Option.some.injEq, -Prod.mk.injEq]; rfl, (by first | trivial | omega | simp | (simp; omega)), by constructor <;> simp [EntF, EntH, EntB, Conv, scop, q0, q1, q2, h, cellLess, cell_ext] <;> first | omega | (rw [Bool.eq_iff_iff]; simp; omega)⟩
              by_cases q3 : (gc a i).n = (gc b i).n
              rotate_left
              · refine ⟨_, _, _, by simp [q0, q1, q2, q3, h, cellLess, cell_ext, -Option.some.injEq, -Prod.mk.injEq]; rfl, (by first | trivial | omega | simp | (simp; omega)), by constructor <;> simp [EntF, EntH, EntB, Conv, scop, q0, q1, q2, q3, h, cellLess, cell_ext] <;> first | omega | (rw [Bool.eq_iff_iff]; simp; omega)⟩
              by_cases q4 : Op.bytesLess (gc a i).name (gc b i).name = true <;> (
              refine ⟨_, _, _, by simp [q0, q1, q2, q3, q4, h, cellLess, cell_ext, -Option.some.injEq, -Prod.mk.injEq]; rfl, (by first | trivial | omega | simp | (simp; omega)), by constructor <;> simp [EntF, EntH, EntB, Conv, scop, q0, q1, q2, q3, q4, h, cellLess, cell_ext] <;> first | omega | (rw [Bool.eq_iff_iff]; simp; omega)⟩)
            repeat refine ok_seq ?_
            refine ok_if rfl (fun c6 => ?_) (fun c6 => ?_)
            · try simp at c6
              all_goals
                repeat refine ok_seq ?_
                refine ok_reg E [4] [] (by simp [h, cell_ext, -Option.some.injEq, -Prod.mk.injEq]; rfl) (by first | trivial | omega | simp | (simp; omega)) ?_
                refine ok_ret ⟨.inr rfl, ?_⟩
                -- ret4
                trivial
            · try simp at c6
              all_goals
                refine ok_skip ?_
                repeat refine ok_seq ?_
                refine ok_reg E [4] [] (by simp [h, cell_ext, -Option.some.injEq, -Prod.mk.injEq]; rfl) (by first | trivial | omega | simp | (simp; omega)) ?_
                refine ok_ret ⟨.inr rfl, ?_⟩
                -- ret5
                trivial
    · try simp at c4
      all_goals
        refine ok_exit ?_
        repeat refine ok_seq ?_
        refine ok_reg E [4] [] (by simp [h, cell_ext, -Option.some.injEq, -Prod.mk.injEq]; rfl) (by first | trivial | omega | simp | (simp; omega)) ?_
        refine ok_ret ⟨.inr rfl, ?_⟩
        -- ret6
        simp [resAll, resL, resA, frozE]
        rw [← hi, cmpT_end (.inl (by simp; omega))]

set_option maxHeartbeats 4000000 in
theorem cellOk_ctr (c : Cell) (hc : c.name.length ≤ 9223372036854775807) : Ctr Tryz.prog 184 [avOf .cell c] [] (.d .bool (cellOk c)) [] := by
  refine ctr_pure E Tryz.func184 rfl Tryz.ntmps184 Tryz.results184 (Nat.le_of_ble_eq_true rfl) rfl ?_
  have k1 := name_ctr c.name hc
  repeat refine ok_seq ?_
  refine ok_reg E [1] [] (by simp [-Option.some.injEq, -Prod.mk.injEq]; rfl) (by first | trivial | omega | simp | (simp; omega)) ?_
  repeat refine ok_seq ?_
  refine ok_reg E [1, 4] [] (by simp [-Option.some.injEq, -Prod.mk.injEq]; rfl) (by first | trivial | omega | simp | (simp; omega)) ?_
  repeat refine ok_seq ?_
  refine ok_block ?_
  repeat refine ok_seq ?_
  refine ok_reg E [1, 4, 5] [] (by simp [-Option.some.injEq, -Prod.mk.injEq]; rfl) (by first | trivial | omega | simp | (simp; omega)) ?_
  repeat refine ok_seq ?_
  refine ok_if rfl (fun c1 => ?_) (fun c1 => ?_)
  · try simp at c1
    all_goals
      repeat refine ok_seq ?_
      refine ok_regJ E [(2, .d .bool (decide (c.name = [] ∧ 0 ≤ c.n ∧ c.n ≤ 999)))] [] [2] [] ?_ ?_
      · skip
        by_cases q0 : c.name = []
        rotate_left
        · refine ⟨_, _, _, by simp [q0, -Option.some.injEq, -Prod.mk.injEq]; rfl, (by first | trivial | omega | simp | (simp; omega)), by constructor <;> simp [EntF, EntH, EntB, Conv, scop, q0] <;> first | omega | (rw [Bool.eq_iff_iff]; simp; omega)⟩
        by_cases q1 : 0 ≤ c.n <;> (
        refine ⟨_, _, _, by simp [q0, q1, -Option.some.injEq, -Prod.mk.injEq]; rfl, (by first | trivial | omega | simp | (simp; omega)), by constructor <;> simp [EntF, EntH, EntB, Conv, scop, q0, q1] <;> first | omega | (rw [Bool.eq_iff_iff]; simp; omega)⟩)
      refine ok_ret ⟨.inr rfl, ?_⟩
      -- ret1
      simp [resAll, resL, resA, frozE]
      simp [cellOk, *]
  · try simp at c1
    all_goals
      repeat refine ok_seq ?_
      refine ok_reg E [1, 4, 20] [] (by simp [-Option.some.injEq, -Prod.mk.injEq]; rfl) (by first | trivial | omega | simp | (simp; omega)) ?_
      repeat refine ok_seq ?_
      refine ok_if rfl (fun c2 => ?_) (fun c2 => ?_)
      · try simp at c2
        all_goals
          repeat refine ok_seq ?_
          refine ok_regJ E [(2, .d .bool (decide (c.name = [] ∧ -2147483647 ≤ c.n ∧ c.n ≤ 2147483647)))] [] [2] [] ?_ ?_
          · skip
            by_cases q0 : c.name = []
            rotate_left
            · refine ⟨_, _, _, by simp [q0, -Option.some.injEq, -Prod.mk.injEq]; rfl, (by first | trivial | omega | simp | (simp; omega)), by constructor <;> simp [EntF, EntH, EntB, Conv, scop, q0] <;> first | omega | (rw [Bool.eq_iff_iff]; simp; omega)⟩
            by_cases q1 : -2147483647 ≤ c.n <;> (
            refine ⟨_, _, _, by simp [q0, q1, -Option.some.injEq, -Prod.mk.injEq]; rfl, (by first | trivial | omega | simp | (simp; omega)), by constructor <;> simp [EntF, EntH, EntB, Conv, scop, q0, q1] <;> first | omega | (rw [Bool.eq_iff_iff]; simp; omega)⟩)
          refine ok_ret ⟨.inr rfl, ?_⟩
          -- ret2
          simp [resAll, resL, resA, frozE]
          simp [cellOk, *]
      · try simp at c2
        all_goals
          repeat refine ok_seq ?_
          refine ok_reg E [1, 35] [] (by simp [-Option.some.injEq, -Prod.mk.injEq]; rfl) (by first | trivial | omega | simp | (simp; omega)) ?_
          repeat refine ok_seq ?_
          refine ok_if rfl (fun c3 => ?_) (fun c3 => ?_)
          · try simp at c3
            all_goals
              repeat refine ok_seq ?_
              refine ok_regJ E [(2, .d .bool (nameOk c.name && decide (0 ≤ c.n ∧ c.n ≤ 6)))] [] [2] [.pure (.d .bool (nameOk c.name))] ?_ ?_
              · skip
                by_cases q0 : nameOk c.name = true
                rotate_left
                · refine ⟨_, _, _, by simp [q0, -Option.some.injEq, -Prod.mk.injEq]; rfl, (by first | trivial | simp_all), by constructor <;> simp [EntF, EntH, EntB, Conv, scop, q0] <;> first | omega | (rw [Bool.eq_iff_iff]; simp; omega)⟩
                by_cases q1 : 0 ≤ c.n <;> (
                refine ⟨_, _, _, by simp [q0, q1, -Option.some.injEq, -Prod.mk.injEq]; rfl, (by first | trivial | simp_all), by constructor <;> simp [EntF, EntH, EntB, Conv, scop, q0, q1] <;> first | omega | (rw [Bool.eq_iff_iff]; simp; omega)⟩)
              refine ok_ret ⟨.inr rfl, ?_⟩
              -- ret3
              simp [resAll, resL, resA, frozE]
              simp [cellOk, *]
          · try simp at c3
            all_goals
              refine ok_skip ?_
              repeat refine ok_seq ?_
              refine ok_reg E [2] [] (by simp [-Option.some.injEq, -Prod.mk.injEq]; rfl) (by first | trivial | omega | simp | (simp; omega)) ?_
              refine ok_ret ⟨.inr rfl, ?_⟩
              -- ret4
              simp [resAll, resL, resA, frozE]
              simp [cellOk, *]

set_option maxHeartbeats 4000000 in
theorem endR_ctr (t : List Cell) (hn : NmOk t) (hl : t.length ≤ 200) : Ctr Tryz.prog 125 [.d .term t, .d .i 0] [] (.d .i (endR t 1 0)) [] := by
  refine ctr_pure E Tryz.func125 rfl Tryz.ntmps125 Tryz.results125 (Nat.le_of_ble_eq_true rfl) rfl ?_
  repeat refine ok_seq ?_
  refine ok_reg E [0, 1] [] (by simp [-Option.some.injEq, -Prod.mk.injEq]; rfl) (by first | trivial | omega | simp | (simp; omega)) ?_
  repeat refine ok_seq ?_
  refine ok_reg E [0, 1, 5] [] (by simp [-Option.some.injEq, -Prod.mk.injEq]; rfl) (by first | trivial | omega | simp | (simp; omega)) ?_
  repeat refine ok_seq ?_
  refine ok_reg E [0, 5, 6] [] (by simp [-Option.some.injEq, -Prod.mk.injEq]; rfl) (by first | trivial | omega | simp | (simp; omega)) ?_
  repeat refine ok_seq ?_
  refine ok_block ?_
  repeat refine ok_seq ?_
  refine ok_loop (σ := (Nat × Int)) (fun s => [(0, .d .term t), (5, .d .i s.2), (6, .d .i (s.1 : Int))]) (fun s => []) (fun s => s.1 ≤ t.length ∧ 1 ≤ s.2 ∧ s.2 ≤ 1 + 6 * s.1 ∧ endR (t.drop s.1) s.2 s.1 = endR t 1 0) (fun s => t.length - s.1) (0, 1) (by simp) ?_ ?_
  · constructor <;> simp [EntF, EntH, EntB, Conv, scop]
  rintro ⟨i, o⟩ ⟨hi1, ho1, ho2, hi⟩
  simp only at hi1 ho1 ho2 hi ⊢
  have w1 := wrap_i64 (n := o - 1) (by omega) (by omega)
  have w2 := wrap_i64 (n := (i : Int) + 1) (by omega) (by omega)
  repeat refine ok_seq ?_
  refine ok_reg E [0, 5, 6, 11] [] (by simp [-Option.some.injEq, -Prod.mk.injEq]; rfl) (by first | trivial | omega | simp | (simp; omega)) ?_
  repeat refine ok_seq ?_
  refine ok_if rfl (fun c1 => ?_) (fun c1 => ?_)
  · try simp at c1
    all_goals
      have hlt : i < t.length := by omega
      have k1 := cellOk_ctr (gc t i) (hn _ (by rw [gc_lt hlt]; exact List.getElem_mem _))
      have e1 : endR (t.drop i) o i = if cellOk (gc t i) = false then -1 else if openOf (gc t i) o = 0 then (i : Int) + 1 else endR (t.drop (i + 1)) (openOf (gc t i) o) (i + 1) := by rw [List.drop_eq_getElem_cons hlt, endR, gc_lt hlt]
      refine ok_skip ?_
      repeat refine ok_seq ?_
      refine ok_block ?_
      repeat refine ok_seq ?_
      refine ok_reg E [0, 5, 6, 19] [.pure (.d .bool (cellOk (gc t i)))] (by simp [-Option.some.injEq, -Prod.mk.injEq]; rfl) (by first | trivial | simp_all) ?_
      repeat refine ok_seq ?_
      refine ok_if rfl (fun c2 => ?_) (fun c2 => ?_)
      · try simp at c2
        all_goals
          repeat refine ok_seq ?_
          refine ok_reg E [4] [] (by simp [-Option.some.injEq, -Prod.mk.injEq]; rfl) (by first | trivial | omega | simp | (simp; omega)) ?_
          refine ok_ret ⟨.inr rfl, ?_⟩
          -- ret1
          simp [resAll, resL, resA, frozE]
          rw [← hi, e1, if_pos c2]
      · try simp at c2
        all_goals
          refine ok_skip ?_
          repeat refine ok_seq ?_
          refine ok_reg E [0, 5, 6] [] (by simp [w1, -Option.some.injEq, -Prod.mk.injEq]; rfl) (by first | trivial | omega | simp | (simp; omega)) ?_
          repeat refine ok_seq ?_
          refine ok_reg E [0, 5, 6, 27] [] (by simp [-Option.some.injEq, -Prod.mk.injEq]; rfl) (by first | trivial | omega | simp | (simp; omega)) ?_
          repeat refine ok_seq ?_
          refine ok_if rfl (fun c3 => ?_) (fun c3 => ?_)
          · try simp at c3
            all_goals
              have hk := cellOk_n c2 c3
              have w3 := wrap_i64 (n := o - 1 + (gc t i).n) (by omega) (by omega)
              repeat refine ok_seq ?_
              refine ok_reg E [0, 5, 6] [] (by simp [w3, -Option.some.injEq, -Prod.mk.injEq]; rfl) (by first | trivial | omega | simp | (simp; omega)) ?_
              repeat refine ok_seq ?_
              refine ok_reg E [0, 5, 6, 36] [] (by simp [-Option.some.injEq, -Prod.mk.injEq]; rfl) (by first | trivial | omega | simp | (simp; omega)) ?_
              repeat refine ok_seq ?_
              refine ok_if rfl (fun c4 => ?_) (fun c4 => ?_)
              · try simp at c4
                all_goals
                  repeat refine ok_seq ?_
                  refine ok_reg E [4] [] (by simp [w2, -Option.some.injEq, -Prod.mk.injEq]; rfl) (by first | trivial | omega | simp | (simp; omega)) ?_
                  refine ok_ret ⟨.inr rfl, ?_⟩
                  -- ret2
                  simp [resAll, resL, resA, frozE]
                  have e2 : openOf (gc t i) o = 0 := by simp [openOf, c3]; omega
                  rw [← hi, e1, if_neg (by simp [c2]), if_pos e2]
              · try simp at c4
                all_goals
                  refine ok_skip ?_
                  repeat refine ok_seq ?_
                  refine ok_reg E [0, 5, 6] [] (by simp [w2, -Option.some.injEq, -Prod.mk.injEq]; rfl) (by first | trivial | omega | simp | (simp; omega)) ?_
                  -- end01
                  have e2 : openOf (gc t i) o = o - 1 + (gc t i).n := by simp [openOf, c3]
                  refine ⟨(i + 1, openOf (gc t i) o), ⟨by simp; omega, by simp only; omega, by simp only; omega, ?_⟩, by simp only; omega, by constructor <;> simp [EntF, EntH, EntB, Conv, scop, e2, w3]⟩
                  simp only
                  rw [← hi, e1, if_neg (by simp [c2]), if_neg (by omega)]
          · try simp at c3
            all_goals
              skip
              refine ok_skip ?_
              repeat refine ok_seq ?_
              refine ok_reg E [0, 5, 6, 36] [] (by simp [-Option.some.injEq, -Prod.mk.injEq]; rfl) (by first | trivial | omega | simp | (simp; omega)) ?_
              repeat refine ok_seq ?_
              refine ok_if rfl (fun c5 => ?_) (fun c5 => ?_)
              · try simp at c5
                all_goals
                  repeat refine ok_seq ?_
                  refine ok_reg E [4] [] (by simp [w2, -Option.some.injEq, -Prod.mk.injEq]; rfl) (by first | trivial | omega | simp | (simp; omega)) ?_
                  refine ok_ret ⟨.inr rfl, ?_⟩
                  -- ret3
                  simp [resAll, resL, resA, frozE]
                  have e2 : openOf (gc t i) o = 0 := by simp [openOf, c3]; omega
                  rw [← hi, e1, if_neg (by simp [c2]), if_pos e2]
              · try simp at c5
                all_goals
                  refine ok_skip ?_
                  repeat refine ok_seq ?_
                  refine ok_reg E [0, 5, 6] [] (by simp [w2, -Option.some.injEq, -Prod.mk.injEq]; rfl) (by first | trivial | omega | simp | (simp; omega)) ?_
                  -- end02
                  have e2 : openOf (gc t i) o = o - 1 := by simp [openOf, c3]
                  refine ⟨(i + 1, openOf (gc t i) o), ⟨by simp; omega, by simp only; omega, by simp only; omega, ?_⟩, by simp only; omega, by constructor <;> simp [EntF, EntH, EntB, Conv, scop, e2]⟩
                  simp only
                  rw [← hi, e1, if_neg (by simp [c2]), if_neg (by omega)]
  · try simp at c1
    all_goals
      skip
      refine ok_exit ?_
      repeat refine ok_seq ?_
      refine ok_reg E [4] [] (by simp [-Option.some.injEq, -Prod.mk.injEq]; rfl) (by first | trivial | omega | simp | (simp; omega)) ?_
      refine ok_ret ⟨.inr rfl, ?_⟩
      -- ret4
      simp [resAll, resL, resA, frozE]
      rw [← hi, List.drop_of_length_le (by omega)]; rfl

set_option maxHeartbeats 4000000 in
theorem rightT_ctr (t : List Cell) (hn : NmOk t) : Ctr Tryz.prog 53 [.d .term t] [] (.d .bool (rightT t)) [] := by
  refine ctr_pure E Tryz.func53 rfl Tryz.ntmps53 Tryz.results53 (Nat.le_of_ble_eq_true rfl) rfl ?_
  have k1 := endR_ctr t hn
  repeat refine ok_seq ?_
  refine ok_reg E [0] [] (by simp [-Option.some.injEq, -Prod.mk.injEq]; rfl) (by first | trivial | omega | simp | (simp; omega)) ?_
  repeat refine ok_seq ?_
  refine ok_regJ E [(2, .d .bool (rightT t))] [] [2] [.pure (.d .i (endR t 1 0))] ?_ ?_
  · skip
    by_cases q0 : 1 ≤ (t.length : Int)
    rotate_left
    · refine ⟨_, _, _, by simp [q0, rightT, -Option.some.injEq, -Prod.mk.injEq]; rfl, (by first | trivial | (refine k1 ?_; omega) | (constructor <;> first | trivial | (refine k1 ?_; omega) | omega)), by constructor <;> simp [EntF, EntH, EntB, Conv, scop, q0, rightT] <;> first | omega | (rw [Bool.eq_iff_iff]; simp; omega)⟩
    by_cases q1 : (t.length : Int) ≤ 200
    rotate_left
    · refine ⟨_, _, _, by simp [q0, q1, rightT, -Option.some.injEq, -Prod.mk.injEq]; rfl, (by first | trivial | (refine k1 ?_; omega) | (constructor <;> first | trivial | (refine k1 ?_; omega) | omega)), by constructor <;> simp [EntF, EntH, EntB, Conv, scop, q0, q1, rightT] <;> first | omega | (rw [Bool.eq_iff_iff]; simp; omega)⟩
    refine ⟨_, _, _, by simp [q0, q1, rightT, -Option.some.injEq, -Prod.mk.injEq]; rfl, (by first | trivial | (refine k1 ?_; omega) | (constructor <;> first | trivial | (refine k1 ?_; omega) | omega)), by constructor <;> simp [EntF, EntH, EntB, Conv, scop, q0, q1, rightT] <;> first | omega | (rw [Bool.eq_iff_iff]; simp; omega)⟩
  refine ok_ret ⟨.inr rfl, ?_⟩
  -- ret1
  simp [resAll, resL, resA, frozE]

set_option maxHeartbeats 4000000 in
theorem atomT_ctr (t : List Cell) (hn : NmOk t) : Ctr Tryz.prog 115 [.d .term t] [] (.d .bool (atomT t)) [] := by
  refine ctr_pure E Tryz.func115 rfl Tryz.ntmps115 Tryz.results115 (Nat.le_of_ble_eq_true rfl) rfl ?_
  have k1 := rightT_ctr t hn
  have k2 := rightT_len (t := t)
  repeat refine ok_seq ?_
  refine ok_reg E [0] [] (by simp [-Option.some.injEq, -Prod.mk.injEq]; rfl) (by first | trivial | omega | simp | (simp; omega)) ?_
  repeat refine ok_seq ?_
  refine ok_regJ E [(2, .d .bool (atomT t))] [] [2] [.pure (.d .bool (rightT t))] ?_ ?_
  · skip
    by_cases q0 : rightT t = true
    rotate_left
    · refine ⟨_, _, _, by simp [q0, atomT, -Option.some.injEq, -Prod.mk.injEq]; rfl, (by first | trivial | (simp_all; done) | (simp_all; omega)), by constructor <;> simp [EntF, EntH, EntB, Conv, scop, q0, atomT] <;> first | omega | (rw [Bool.eq_iff_iff]; simp; omega)⟩
    refine ⟨_, _, _, by simp [q0, atomT, -Option.some.injEq, -Prod.mk.injEq]; rfl, (by first | trivial | (simp_all; done) | (simp_all; omega)), by constructor <;> simp [EntF, EntH, EntB, Conv, scop, q0, atomT] <;> first | omega | (rw [Bool.eq_iff_iff]; simp; omega)⟩
  refine ok_ret ⟨.inr rfl, ?_⟩
  -- ret1
  simp [resAll, resL, resA, frozE]

set_option maxHeartbeats 4000000 in
theorem varsT_ctr (t : List Cell) (hl : t.length ≤ 1000) : Ctr Tryz.prog 180 [.d .term t] [] (.d .ints (varsT t)) [] := by
  refine ctr_pure E Tryz.func180 rfl Tryz.ntmps180 Tryz.results180 (Nat.le_of_ble_eq_true rfl) rfl ?_
  repeat refine ok_seq ?_
  refine ok_reg E [0] [] (by simp [-Option.some.injEq, -Prod.mk.injEq]; rfl) (by first | trivial | omega | simp | (simp; omega)) ?_
  repeat refine ok_seq ?_
  refine ok_reg E [0, 3] [] (by simp [-Option.some.injEq, -Prod.mk.injEq]; rfl) (by first | trivial | omega | simp | (simp; omega)) ?_
  repeat refine ok_seq ?_
  refine ok_reg E [0, 3, 4] [] (by simp [-Option.some.injEq, -Prod.mk.injEq]; rfl) (by first | trivial | omega | simp | (simp; omega)) ?_
  repeat refine ok_seq ?_
  refine ok_block ?_
  repeat refine ok_seq ?_
  refine ok_loop (σ := Nat) (fun i => [(0, .d .term t), (3, .orow 0), (4, .d .i (i : Int))]) (fun i => [.orow 3 .i (varsT (t.take i))]) (fun i => i ≤ t.length) (fun i => t.length - i) 0 (by simp) ?_ ?_
  · constructor <;> simp [EntF, EntH, EntB, Conv, scop, varsT]
  rintro i hi
  have k1 := isIn_ctr (varsT (t.take i)) (gc t i).n
  have k2 := varsT_len (t.take i)
  have k3 : (t.take i).length ≤ i := by simp; omega
  repeat refine ok_seq ?_
  refine ok_reg E [0, 3, 4, 9] [] (by simp [-Option.some.injEq, -Prod.mk.injEq]; rfl) (by first | trivial | omega | simp | (simp; omega)) ?_
  repeat refine ok_seq ?_
  refine ok_if rfl (fun c1 => ?_) (fun c1 => ?_)
  · try simp at c1
    all_goals
      have hlt : i < t.length := by omega
      refine ok_skip ?_
      repeat refine ok_seq ?_
      refine ok_block ?_
      repeat refine ok_seq ?_
      refine ok_regJ E [(27, .d .bool (decide ((gc t i).kind = 1 ∧ ¬ (gc t i).n ∈ varsT (t.take i))))] [0, 3, 4] [0, 3, 4, 27] [.pure (.d .bool (decide ((gc t i).n ∈ varsT (t.take i))))] ?_ ?_
      · skip
        by_cases q0 : (gc t i).kind = 1
        rotate_left
        · refine ⟨_, _, _, by simp [q0, -Option.some.injEq, -Prod.mk.injEq]; rfl, (by first | trivial | (simp_all; done) | (simp_all; omega)), by constructor <;> simp [EntF, EntH, EntB, Conv, scop, q0] <;> first | omega | (rw [Bool.eq_iff_iff]; simp; omega)⟩
        by_cases q1 : (gc t i).n ∈ varsT (t.take i) <;> (
        refine ⟨_, _, _, by simp [q0, q1, -Option.some.injEq, -Prod.mk.injEq]; rfl, (by first | trivial | (simp_all; done) | (simp_all; omega)), by constructor <;> simp [EntF, EntH, EntB, Conv, scop, q0, q1] <;> first | omega | (rw [Bool.eq_iff_iff]; simp; omega)⟩)
      repeat refine ok_seq ?_
      refine ok_if rfl (fun c2 => ?_) (fun c2 => ?_)
      · try simp at c2
        all_goals
          repeat refine ok_seq ?_
          refine ok_reg E [0, 3, 4] [] (by simp [-Option.some.injEq, -Prod.mk.injEq]; rfl) (by simp [big]; omega) ?_
          repeat refine ok_seq ?_
          refine ok_reg E [0, 3, 4] [] (by simp [-Option.some.injEq, -Prod.mk.injEq]; rfl) (by first | trivial | omega | simp | (simp; omega)) ?_
          -- end01
          have e2 : varsT (t.take (i + 1)) = varsT (t.take i) ++ [(gc t i).n] := by rw [varsT_step hlt, varsStep, if_pos c2]
          exact ⟨i + 1, by omega, by omega, by constructor <;> simp (disch := omega) [EntF, EntH, EntB, Conv, scop, wrap_i64, e2]⟩
      · try simp at c2
        all_goals
          refine ok_skip ?_
          repeat refine ok_seq ?_
          refine ok_reg E [0, 3, 4] [] (by simp [-Option.some.injEq, -Prod.mk.injEq]; rfl) (by first | trivial | omega | simp | (simp; omega)) ?_
          -- end02
          have e2 : varsT (t.take (i + 1)) = varsT (t.take i) := by rw [varsT_step hlt, varsStep, if_neg (fun h => h.2 (c2 h.1))]
          exact ⟨i + 1, by omega, by omega, by constructor <;> simp (disch := omega) [EntF, EntH, EntB, Conv, scop, wrap_i64, e2]⟩
  · try simp at c1
    all_goals
      skip
      refine ok_exit ?_
      repeat refine ok_seq ?_
      refine ok_reg E [2] [] (by simp [-Option.some.injEq, -Prod.mk.injEq]; rfl) (by first | trivial | omega | simp | (simp; omega)) ?_
      refine ok_ret ⟨.inr rfl, ?_⟩
      -- ret1
      simp [resAll, resL, resA, frozE]
      rw [List.take_of_length_le c1]

set_option maxHeartbeats 4000000 in
theorem groundT_ctr (t : List Cell) (hl : t.length ≤ 1000) : Ctr Tryz.prog 116 [.d .term t] [] (.d .bool (groundT t)) [] := by
  refine ctr_pure E Tryz.func116 rfl Tryz.ntmps116 Tryz.results116 (Nat.le_of_ble_eq_true rfl) rfl ?_
  repeat refine ok_seq ?_
  refine ok_reg E [0] [] (by simp [-Option.some.injEq, -Prod.mk.injEq]; rfl) (by first | trivial | omega | simp [varsT_ctr t hl] | (simp [varsT_ctr t hl]; omega)) ?_
  repeat refine ok_seq ?_
  refine ok_reg E [2] [.pure (.d .ints (varsT t))] (by simp [-Option.some.injEq, -Prod.mk.injEq]; rfl) (by first | trivial | omega | simp [varsT_ctr t hl] | (simp [varsT_ctr t hl]; omega)) ?_
  refine ok_ret ⟨.inr rfl, ?_⟩
  -- ret1
  simp [resAll, resL, resA, frozE]
  simp [groundT]

set_option maxHeartbeats 4000000 in
theorem greatP_ctr (g : Prg) : Ctr Tryz.prog 36 [pav g] [] (.d .bool (greatP g)) [] := by
  refine ctr_pure E Tryz.func36 rfl Tryz.ntmps36 Tryz.results36 (Nat.le_of_ble_eq_true rfl) rfl ?_
  repeat refine ok_seq ?_
  refine ok_reg E [1] [] (by simp [-Option.some.injEq, -Prod.mk.injEq]; rfl) (by first | trivial | omega | simp | (simp; omega)) ?_
  repeat refine ok_seq ?_
  refine ok_regJ E [(14, .d .bool (decide (¬ (g.atoms.length ≤ 80 ∧ g.rules.length ≤ 200))))] [1] [1, 14] [] ?_ ?_
  · skip
    by_cases q0 : 80 < (g.atoms.length : Int)
    · refine ⟨_, _, _, by simp [q0, -Option.some.injEq, -Prod.mk.injEq]; rfl, (by first | trivial | omega | simp | (simp; omega)), by constructor <;> simp [EntF, EntH, EntB, Conv, scop, q0] <;> first | omega | (rw [Bool.eq_iff_iff]; simp; omega)⟩
    by_cases q1 : 200 < (g.rules.length : Int) <;> (
    refine ⟨_, _, _, by simp [q0, q1, -Option.some.injEq, -Prod.mk.injEq]; rfl, (by first | trivial | omega | simp | (simp; omega)), by constructor <;> simp [EntF, EntH, EntB, Conv, scop, q0, q1] <;> first | omega | (rw [Bool.eq_iff_iff]; simp; omega)⟩)
  repeat refine ok_seq ?_
  refine ok_if rfl (fun c1 => ?_) (fun c1 => ?_)
  · try simp at c1
    all_goals
      repeat refine ok_seq ?_
      refine ok_reg E [2] [] (by simp [-Option.some.injEq, -Prod.mk.injEq]; rfl) (by first | trivial | omega | simp | (simp; omega)) ?_
      refine ok_ret ⟨.inr rfl, ?_⟩
      -- ret1
      simp [resAll, resL, resA, frozE]
      simp only [greatP, Bool.not_eq_true', decide_eq_false_iff_not]; intro h; have h1 := h.1; have h2 := h.2.1; omega
  · try simp at c1
    all_goals
      refine ok_skip ?_
      repeat refine ok_seq ?_
      refine ok_reg E [1, 3] [] (by simp [-Option.some.injEq, -Prod.mk.injEq]; rfl) (by first | trivial | omega | simp | (simp; omega)) ?_
      repeat refine ok_seq ?_
      refine ok_block ?_
      repeat refine ok_seq ?_
      refine ok_loop (σ := Nat) (fun i => [(1, .ptr 0 0), (3, .d .i (i : Int))]) (fun i => [.cells [.d .terms g.atoms, .d (.sl .rule) g.rules]]) (fun i => i ≤ g.atoms.length ∧ ∀ j : Nat, j < i → (gt g.atoms j).length ≤ 200) (fun i => g.atoms.length - i) 0 (by simp) ?_ ?_
      · constructor <;> simp [EntF, EntH, EntB, Conv, scop]
      rintro i ⟨hi1, hi⟩
      repeat refine ok_seq ?_
      refine ok_reg E [1, 3, 19] [] (by simp [-Option.some.injEq, -Prod.mk.injEq]; rfl) (by first | trivial | omega | simp | (simp; omega)) ?_
      repeat refine ok_seq ?_
      refine ok_if rfl (fun c2 => ?_) (fun c2 => ?_)
      · try simp at c2
        all_goals
          refine ok_skip ?_
          repeat refine ok_seq ?_
          refine ok_block ?_
          repeat refine ok_seq ?_
          refine ok_reg E [1, 3, 28] [] (by simp [-Option.some.injEq, -Prod.mk.injEq]; rfl) (by first | trivial | omega | simp | (simp; omega)) ?_
          repeat refine ok_seq ?_
          refine ok_if rfl (fun c3 => ?_) (fun c3 => ?_)
          · try simp at c3
            all_goals
              repeat refine ok_seq ?_
              refine ok_reg E [2] [] (by simp [-Option.some.injEq, -Prod.mk.injEq]; rfl) (by first | trivial | omega | simp | (simp; omega)) ?_
              refine ok_ret ⟨.inr rfl, ?_⟩
              -- ret2
              simp [resAll, resL, resA, frozE]
              simp only [greatP, Bool.not_eq_true', decide_eq_false_iff_not]; intro h; have h1 := h.2.2.1 i c2; omega
          · try simp at c3
            all_goals
              refine ok_skip ?_
              repeat refine ok_seq ?_
              refine ok_reg E [1, 3] [] (by simp [-Option.some.injEq, -Prod.mk.injEq]; rfl) (by first | trivial | omega | simp | (simp; omega)) ?_
              -- end01
              exact ⟨i + 1, ⟨by omega, fun j hj => by by_cases e : j = i; subst e; omega; exact hi j (by omega)⟩, by omega, by constructor <;> simp (disch := omega) [EntF, EntH, EntB, Conv, scop, wrap_i64]⟩
      · try simp at c2
        all_goals
          refine ok_exit ?_
          repeat refine ok_seq ?_
          refine ok_reg E [1, 4] [] (by simp [-Option.some.injEq, -Prod.mk.injEq]; rfl) (by first | trivial | omega | simp | (simp; omega)) ?_
          repeat refine ok_seq ?_
          refine ok_block ?_
          repeat refine ok_seq ?_
          refine ok_loop (σ := Nat) (fun i => [(1, .ptr 0 0), (4, .d .i (i : Int))]) (fun i => [.cells [.d .terms g.atoms, .d (.sl .rule) g.rules]]) (fun i => i ≤ g.rules.length ∧ ∀ j : Nat, j < i → (gr g.rules j).pos.length ≤ 80 ∧ (gr g.rules j).neg.length ≤ 80) (fun i => g.rules.length - i) 0 (by simp) ?_ ?_
          · constructor <;> simp [EntF, EntH, EntB, Conv, scop]
          rintro i ⟨hj1, hj⟩
          repeat refine ok_seq ?_
          refine ok_reg E [1, 4, 33] [] (by simp [-Option.some.injEq, -Prod.mk.injEq]; rfl) (by first | trivial | omega | simp | (simp; omega)) ?_
          repeat refine ok_seq ?_
          refine ok_if rfl (fun c4 => ?_) (fun c4 => ?_)
          · try simp at c4
            all_goals
              refine ok_skip ?_
              repeat refine ok_seq ?_
              refine ok_block ?_
              repeat refine ok_seq ?_
              refine ok_regJ E [(53, .d .bool (decide (¬ ((gr g.rules i).pos.length ≤ 80 ∧ (gr g.rules i).neg.length ≤ 80))))] [1, 4] [1, 4, 53] [] ?_ ?_
              · skip
                by_cases q0 : 80 < ((gr g.rules i).pos.length : Int)
                · refine ⟨_, _, _, by simp [q0, -Option.some.injEq, -Prod.mk.injEq]; rfl, (by first | trivial | omega | simp | (simp; omega)), by constructor <;> simp [EntF, EntH, EntB, Conv, scop, q0] <;> first | omega | (rw [Bool.eq_iff_iff]; simp; omega)⟩
                by_cases q1 : 80 < ((gr g.rules i).neg.length : Int) <;> (
                refine ⟨_, _, _, by simp [q0, q1, -Option.some.injEq, -Prod.mk.injEq]; rfl, (by first | trivial | omega | simp | (simp; omega)), by constructor <;> simp [EntF, EntH, EntB, Conv, scop, q0, q1] <;> first | omega | (rw [Bool.eq_iff_iff]; simp; omega)⟩)
              repeat refine ok_seq ?_
              refine ok_if rfl (fun c5 => ?_) (fun c5 => ?_)
              · try simp at c5
                all_goals
                  repeat refine ok_seq ?_
                  refine ok_reg E [2] [] (by simp [-Option.some.injEq, -Prod.mk.injEq]; rfl) (by first | trivial | omega | simp | (simp; omega)) ?_
                  refine ok_ret ⟨.inr rfl, ?_⟩
                  -- ret3
                  simp [resAll, resL, resA, frozE]
                  simp only [greatP, Bool.not_eq_true', decide_eq_false_iff_not]; intro h; have h1 := h.2.2.2 i c4; omega
              · try simp at c5
                all_goals
                  refine ok_skip ?_
                  repeat refine ok_seq ?_
                  refine ok_reg E [1, 4] [] (by simp [-Option.some.injEq, -Prod.mk.injEq]; rfl) (by first | trivial | omega | simp | (simp; omega)) ?_
                  -- end21
                  exact ⟨i + 1, ⟨by omega, fun j hk => by by_cases e : j = i; subst e; exact c5; exact hj j (by omega)⟩, by omega, by constructor <;> simp (disch := omega) [EntF, EntH, EntB, Conv, scop, wrap_i64]⟩
          · try simp at c4
            all_goals
              refine ok_exit ?_
              repeat refine ok_seq ?_
              refine ok_reg E [2] [] (by simp [-Option.some.injEq, -Prod.mk.injEq]; rfl) (by first | trivial | omega | simp | (simp; omega)) ?_
              refine ok_ret ⟨.inr rfl, ?_⟩
              -- ret4
              simp [resAll, resL, resA, frozE]
              simp only [greatP, Bool.not_eq_false', decide_eq_true_eq]; exact ⟨by omega, by omega, fun k hk => hi k (by omega), fun k hk => hj k (by omega)⟩

set_option maxHeartbeats 4000000 in
theorem ofR_ctr (g : Prg) (n : Int) (hr : g.rules.length ≤ 1000) : Ctr Tryz.prog 27 [pav g, .d .i n] [] (.d .ints (ofR g.rules n g.rules.length)) [] := by
  refine ctr_pure E Tryz.func27 rfl Tryz.ntmps27 Tryz.results27 (Nat.le_of_ble_eq_true rfl) rfl ?_
  repeat refine ok_seq ?_
  refine ok_reg E [1, 2] [] (by simp [-Option.some.injEq, -Prod.mk.injEq]; rfl) (by first | trivial | omega | simp | (simp; omega)) ?_
  repeat refine ok_seq ?_
  refine ok_reg E [1, 2, 5] [] (by simp [-Option.some.injEq, -Prod.mk.injEq]; rfl) (by first | trivial | omega | simp | (simp; omega)) ?_
  repeat refine ok_seq ?_
  refine ok_reg E [1, 5, 9, 10, 11] [] (by simp [-Option.some.injEq, -Prod.mk.injEq]; rfl) (by first | trivial | omega | simp | (simp; omega)) ?_
  repeat refine ok_seq ?_
  refine ok_block ?_
  repeat refine ok_seq ?_
  refine ok_own 5 3 .i rfl ?_
  refine ok_loop (σ := Nat) (fun i => [(1, .d .i n), (5, .orow 1), (9, .d (.sl .rule) g.rules), (10, .d .i (g.rules.length : Int)), (11, .d .i (i : Int))]) (fun i => [.dead, .orow 3 .i (ofR g.rules n i)]) (fun i => i ≤ g.rules.length) (fun i => g.rules.length - i) 0 (by simp) ?_ ?_
  · constructor <;> simp [EntF, EntH, EntB, Conv, scop, ofR]
  rintro i hi
  have k2 := ofR_len g.rules n i
  have e1 := ofR_step g.rules n i
  repeat refine ok_seq ?_
  refine ok_reg E [1, 5, 9, 10, 11, 12] [] (by simp [-Option.some.injEq, -Prod.mk.injEq]; rfl) (by first | trivial | omega | simp | (simp; omega)) ?_
  repeat refine ok_seq ?_
  refine ok_if rfl (fun c1 => ?_) (fun c1 => ?_)
  · try simp at c1
    all_goals
      refine ok_skip ?_
      repeat refine ok_seq ?_
      refine ok_block ?_
      repeat refine ok_seq ?_
      refine ok_reg E [1, 5, 6, 7, 9, 10, 11] [] (by simp [-Option.some.injEq, -Prod.mk.injEq]; rfl) (by first | trivial | omega | simp | (simp; omega)) ?_
      repeat refine ok_seq ?_
      refine ok_reg E [1, 5, 6, 9, 10, 11, 19] [] (by simp [-Option.some.injEq, -Prod.mk.injEq]; rfl) (by first | trivial | omega | simp | (simp; omega)) ?_
      repeat refine ok_seq ?_
      refine ok_if rfl (fun c2 => ?_) (fun c2 => ?_)
      · try simp at c2
        all_goals
          repeat refine ok_seq ?_
          refine ok_reg E [1, 5, 9, 10, 11] [] (by simp [-Option.some.injEq, -Prod.mk.injEq]; rfl) (by simp [big]; omega) ?_
          repeat refine ok_seq ?_
          refine ok_reg E [1, 5, 9, 10, 11] [] (by simp [-Option.some.injEq, -Prod.mk.injEq]; rfl) (by first | trivial | omega | simp | (simp; omega)) ?_
          -- end01
          rw [if_pos c2] at e1
          exact ⟨i + 1, by omega, by omega, by constructor <;> simp (disch := omega) [EntF, EntH, EntB, Conv, scop, wrap_i64, e1]⟩
      · try simp at c2
        all_goals
          refine ok_skip ?_
          repeat refine ok_seq ?_
          refine ok_reg E [1, 5, 9, 10, 11] [] (by simp [-Option.some.injEq, -Prod.mk.injEq]; rfl) (by first | trivial | omega | simp | (simp; omega)) ?_
          -- end02
          rw [if_neg c2, List.append_nil] at e1
          exact ⟨i + 1, by omega, by omega, by constructor <;> simp (disch := omega) [EntF, EntH, EntB, Conv, scop, wrap_i64, e1]⟩
  · try simp at c1
    all_goals
      refine ok_exit ?_
      repeat refine ok_seq ?_
      refine ok_reg E [4] [] (by simp [-Option.some.injEq, -Prod.mk.injEq]; rfl) (by first | trivial | omega | simp | (simp; omega)) ?_
      refine ok_ret ⟨.inr rfl, ?_⟩
      -- ret1
      simp [resAll, resL, resA, frozE]
      rw [show i = g.rules.length by omega]

end Go.Proofs.YtgapiecbinplfaaGreat
/- What the functions of packages term and ground compute. -/
namespace Go.Proofs.YtgapiecbinplfaaGreat
open Go.RowKit

def cmpS (a b : List UInt8) : Int := if Op.bytesLess a b = true then -1 else if (Op.bytesLess a b || decide (a = b)) = true then 0 else 1
def orI : List Int → Int
  | [] => 0
  | x :: r => if x ≠ 0 then x else orI r
def cmpC (x y : Cell) : Int := orI [cmpI x.kind y.kind, cmpI x.n y.n, cmpS x.name y.name]
/-- The order of terms that package term uses. -/
def cmpG : List Cell → List Cell → Int
  | x :: xs, y :: ys => if cmpC x y ≠ 0 then cmpC x y else cmpG xs ys
  | _ :: _, [] => 1
  | [], _ :: _ => -1
  | [], [] => 0
def bsN (l : List Term) (t : Term) (i j : Nat) : Nat :=
  if h : i < j then
    if cmpG (gt l (((i : Int) + j) / 2)) t < 0 then bsN l t ((i + j) / 2 + 1) j else bsN l t i ((i + j) / 2)
  else i
termination_by j - i
decreasing_by all_goals omega

def inI (n lo hi : Int) : Bool := decide (lo ≤ n ∧ n ≤ hi)
/-- The place of the first that is so; -1: there is none. -/
def idxP {α : Type} (p : α → Bool) : List α → Nat → Int
  | [], _ => -1
  | x :: xs, k => if p x = true then (k : Int) else idxP p xs (k + 1)
theorem idxP_any {α : Type} (p : α → Bool) : ∀ (l : List α) (k : Nat), (0 ≤ idxP p l k) ↔ l.any p = true
  | [], k => by simp [idxP]
  | x :: xs, k => by
    simp only [idxP, List.any_cons, Bool.or_eq_true]
    by_cases h : p x = true
    · rw [if_pos h]; simp [h]
    · rw [if_neg h, idxP_any p xs (k + 1)]; simp [h]
def isVar (c : Cell) : Bool := decide (c.kind = 1)
def groundG (t : List Cell) : Bool := !t.any isVar
/-- Do things rise, none twice? -/
def risesP {α : Type} (cmp : α → α → Int) (get : Int → α) (n : Nat) : Prop := ∀ i : Nat, i < n → 0 < i → cmp (get ((i : Int) - 1)) (get i) < 0
instance {α : Type} (cmp : α → α → Int) (get : Int → α) (n : Nat) : Decidable (risesP cmp get n) := by unfold risesP; infer_instance
def cmpIs : List Int → List Int → Int
  | x :: xs, y :: ys => if cmpI x y ≠ 0 then cmpI x y else cmpIs xs ys
  | _ :: _, [] => 1
  | [], _ :: _ => -1
  | [], [] => 0
def gOrder (a b : Rule) : Int := orI [cmpI a.head b.head, cmpIs a.pos b.pos, cmpIs a.neg b.neg]
def outN (g : Prg) (n : Int) : Bool := decide (n < 0 ∨ (g.atoms.length : Int) ≤ n)

/-- The loop of package term's search for a term's end. -/
def loopG (v : Nat → Nat) : Nat → Nat → Nat
  | 0, x => x
  | k + 1, x => if v x = 0 then 0 else loopG v k (v x)
/-- The place behind the term that begins at a place; 0: there is none. -/
def visG (t : List Cell) : Nat → Nat → Nat
  | 0, _ => 0
  | f + 1, k => if k < t.length ∧ cellOk (gc t k) = true then (if (gc t k).kind = 3 then loopG (visG t f) (gc t k).n.toNat (k + 1) else k + 1) else 0
theorem visG_gt (t : List Cell) : ∀ (f k : Nat), visG t f k ≠ 0 → k < visG t f k ∧ visG t f k ≤ t.length := by
  intro f
  induction f with
  | zero => intro k h; exact absurd rfl h
  | succ f ih =>
    have hl : ∀ (n x : Nat), loopG (visG t f) n x ≠ 0 → x ≤ t.length → x ≤ loopG (visG t f) n x ∧ loopG (visG t f) n x ≤ t.length := by
      intro n
      induction n with
      | zero => intro x _ hx; exact ⟨Nat.le_refl _, hx⟩
      | succ n ihn =>
        intro x h hx
        simp only [loopG] at h ⊢
        split
        · rename_i h0; rw [if_pos h0] at h; exact absurd rfl h
        · rename_i h0
          rw [if_neg h0] at h
          obtain ⟨h1, h2⟩ := ih x h0
          obtain ⟨h3, h4⟩ := ihn _ h h2
          exact ⟨by omega, h4⟩
    intro k h
    simp only [visG] at h ⊢
    split
    · rename_i hc
      rw [if_pos hc] at h
      split
      · rename_i h3
        rw [if_pos h3] at h
        obtain ⟨h5, h6⟩ := hl _ _ h (by omega)
        exact ⟨by omega, h6⟩
      · exact ⟨by omega, by omega⟩
    · rename_i hc
      rw [if_neg hc] at h; exact absurd rfl h
def rightG (t : List Cell) : Bool := decide (1 ≤ t.length ∧ t.length ≤ 200) && decide (visG t t.length 0 = t.length)

end Go.Proofs.YtgapiecbinplfaaGreat
