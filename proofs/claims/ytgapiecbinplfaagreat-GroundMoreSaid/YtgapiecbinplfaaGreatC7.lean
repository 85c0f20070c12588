/- Own framework, walks and plain laws behind the laws of this seat, part C7: lemmas, no statement of the seat. -/
import Derived.Test.YtgapiecbinplfaaGreatC6
set_option linter.all false
/- Walks: package term's order. Printed by walk.py from annotations. -/
namespace Go.Proofs.YtgapiecbinplfaaGreat
open Go.RowKit


set_option maxRecDepth 8000 in
set_option maxHeartbeats 4000000 in
theorem isNaNs_ctr (s : List UInt8) : Ctr Tryz.prog 208 [.d .str s] [] (.d .bool false) [] := by
  refine ctr_pure E Tryz.func208 rfl Tryz.ntmps208 Tryz.results208 (Nat.le_of_ble_eq_true rfl) rfl ?_
  repeat refine ok_seq ?_
  refine ok_reg E [0] [] (by simp [-Option.some.injEq, -Prod.mk.injEq]; rfl) (by first | trivial | omega | simp | (simp; omega)) ?_
  repeat refine ok_seq ?_
  refine ok_reg E [2] [] (by simp [-Option.some.injEq, -Prod.mk.injEq]; rfl) (by first | trivial | omega | simp | (simp; omega)) ?_
  refine ok_ret ⟨.inr rfl, ?_⟩
  -- ret1
  simp [resAll, resL, resA, frozE]

set_option maxRecDepth 8000 in
set_option maxHeartbeats 4000000 in
theorem cmpS_ctr (x y : List UInt8) : Ctr Tryz.prog 156 [.d .str x, .d .str y] [] (.d .i (cmpS x y)) [] := by
  refine ctr_pure E Tryz.func156 rfl Tryz.ntmps156 Tryz.results156 (Nat.le_of_ble_eq_true rfl) rfl ?_
  repeat refine ok_seq ?_
  refine ok_reg E [0, 1] [] (by simp [-Option.some.injEq, -Prod.mk.injEq]; rfl) (by first | trivial | omega | simp [isNaNs_ctr] | (simp [isNaNs_ctr]; omega)) ?_
  repeat refine ok_seq ?_
  refine ok_reg E [0, 1, 5] [.pure (.d .bool false)] (by simp [-Option.some.injEq, -Prod.mk.injEq]; rfl) (by first | trivial | omega | simp [isNaNs_ctr] | (simp [isNaNs_ctr]; omega)) ?_
  repeat refine ok_seq ?_
  refine ok_reg E [0, 1, 5, 6] [.pure (.d .bool false)] (by simp [-Option.some.injEq, -Prod.mk.injEq]; rfl) (by first | trivial | omega | simp [isNaNs_ctr] | (simp [isNaNs_ctr]; omega)) ?_
  repeat refine ok_seq ?_
  refine ok_reg E [0, 1, 6, 11] [] (by simp [-Option.some.injEq, -Prod.mk.injEq]; rfl) (by first | trivial | omega | simp [isNaNs_ctr] | (simp [isNaNs_ctr]; omega)) ?_
  repeat refine ok_seq ?_
  refine ok_if rfl (fun c1 => ?_) (fun c1 => ?_)
  · try simp at c1
    all_goals
      repeat refine ok_seq ?_
      refine ok_reg E [12] [] (by simp [-Option.some.injEq, -Prod.mk.injEq]; rfl) (by first | trivial | omega | simp [isNaNs_ctr] | (simp [isNaNs_ctr]; omega)) ?_
      repeat refine ok_seq ?_
      refine ok_if rfl (fun c2 => ?_) (fun c2 => ?_)
      · try simp at c2
        all_goals
          repeat refine ok_seq ?_
          refine ok_reg E [4] [] (by simp [-Option.some.injEq, -Prod.mk.injEq]; rfl) (by first | trivial | omega | simp [isNaNs_ctr] | (simp [isNaNs_ctr]; omega)) ?_
          refine ok_ret ⟨.inr rfl, ?_⟩
          -- ret1
          simp [resAll, resL, resA, frozE]
          simp_all [cmpS]
      · try simp at c2
        all_goals
          refine ok_skip ?_
          repeat refine ok_seq ?_
          refine ok_reg E [4] [] (by simp [-Option.some.injEq, -Prod.mk.injEq]; rfl) (by first | trivial | omega | simp [isNaNs_ctr] | (simp [isNaNs_ctr]; omega)) ?_
          refine ok_ret ⟨.inr rfl, ?_⟩
          -- ret2
          simp [resAll, resL, resA, frozE]
          simp_all [cmpS]
  · try simp at c1
    all_goals
      refine ok_skip ?_
      repeat refine ok_seq ?_
      refine ok_reg E [0, 1, 13] [] (by simp [-Option.some.injEq, -Prod.mk.injEq]; rfl) (by first | trivial | omega | simp [isNaNs_ctr] | (simp [isNaNs_ctr]; omega)) ?_
      repeat refine ok_seq ?_
      refine ok_if rfl (fun c3 => ?_) (fun c3 => ?_)
      · try simp at c3
        all_goals
          repeat refine ok_seq ?_
          refine ok_reg E [4] [] (by simp [-Option.some.injEq, -Prod.mk.injEq]; rfl) (by first | trivial | omega | simp [isNaNs_ctr] | (simp [isNaNs_ctr]; omega)) ?_
          refine ok_ret ⟨.inr rfl, ?_⟩
          -- ret3
          simp [resAll, resL, resA, frozE]
          simp_all [cmpS]
      · try simp at c3
        all_goals
          refine ok_skip ?_
          repeat refine ok_seq ?_
          refine ok_reg E [0, 1, 16] [] (by simp [-Option.some.injEq, -Prod.mk.injEq]; rfl) (by first | trivial | omega | simp [isNaNs_ctr] | (simp [isNaNs_ctr]; omega)) ?_
          repeat refine ok_seq ?_
          refine ok_if rfl (fun c4 => ?_) (fun c4 => ?_)
          · try simp at c4
            all_goals
              repeat refine ok_seq ?_
              refine ok_reg E [4] [] (by simp [-Option.some.injEq, -Prod.mk.injEq]; rfl) (by first | trivial | omega | simp [isNaNs_ctr] | (simp [isNaNs_ctr]; omega)) ?_
              refine ok_ret ⟨.inr rfl, ?_⟩
              -- ret4
              simp [resAll, resL, resA, frozE]
              simp_all [cmpS]
          · try simp at c4
            all_goals
              refine ok_skip ?_
              repeat refine ok_seq ?_
              refine ok_reg E [19] [] (by simp [-Option.some.injEq, -Prod.mk.injEq]; rfl) (by first | trivial | omega | simp [isNaNs_ctr] | (simp [isNaNs_ctr]; omega)) ?_
              repeat refine ok_seq ?_
              refine ok_if rfl (fun c5 => ?_) (fun c5 => ?_)
              · try simp at c5
                all_goals
                  repeat refine ok_seq ?_
                  refine ok_reg E [4] [] (by simp [-Option.some.injEq, -Prod.mk.injEq]; rfl) (by first | trivial | omega | simp [isNaNs_ctr] | (simp [isNaNs_ctr]; omega)) ?_
                  refine ok_ret ⟨.inr rfl, ?_⟩
                  -- ret5
                  simp [resAll, resL, resA, frozE]
                  simp_all [cmpS]
              · try simp at c5
                all_goals
                  refine ok_skip ?_
                  repeat refine ok_seq ?_
                  refine ok_reg E [4] [] (by simp [-Option.some.injEq, -Prod.mk.injEq]; rfl) (by first | trivial | omega | simp [isNaNs_ctr] | (simp [isNaNs_ctr]; omega)) ?_
                  refine ok_ret ⟨.inr rfl, ?_⟩
                  -- ret6
                  simp [resAll, resL, resA, frozE]
                  simp_all [cmpS]

set_option maxRecDepth 8000 in
set_option maxHeartbeats 4000000 in
theorem orI_ctr (l : List Int) : Ctr Tryz.prog 155 [.d .ints l] [] (.d .i (orI l)) [] := by
  refine ctr_pure E Tryz.func155 rfl Tryz.ntmps155 Tryz.results155 (Nat.le_of_ble_eq_true rfl) rfl ?_
  repeat refine ok_seq ?_
  refine ok_reg E [0] [] (by simp [-Option.some.injEq, -Prod.mk.injEq]; rfl) (by first | trivial | omega | simp | (simp; omega)) ?_
  repeat refine ok_seq ?_
  refine ok_reg E [0, 3] [] (by simp [-Option.some.injEq, -Prod.mk.injEq]; rfl) (by first | trivial | omega | simp | (simp; omega)) ?_
  repeat refine ok_seq ?_
  refine ok_reg E [3, 6, 7, 8] [] (by simp [-Option.some.injEq, -Prod.mk.injEq]; rfl) (by first | trivial | omega | simp | (simp; omega)) ?_
  repeat refine ok_seq ?_
  refine ok_block ?_
  repeat refine ok_seq ?_
  refine ok_lenN 6 rfl fun ha => ?_
  refine ok_loop (σ := Nat) (fun i => [(3, .d .i 0), (6, .d .ints l), (7, .d .i (l.length : Int)), (8, .d .i (i : Int))]) (fun i => []) (fun i => i ≤ l.length ∧ orI (l.drop i) = orI l) (fun i => l.length - i) 0 (by simp) ?_ ?_
  · constructor <;> simp [EntF, EntH, EntB, Conv, scop]
  rintro i ⟨hi1, hi⟩
  repeat refine ok_seq ?_
  refine ok_reg E [3, 6, 7, 8, 9] [] (by simp [-Option.some.injEq, -Prod.mk.injEq]; rfl) (by first | trivial | omega | simp | (simp; omega)) ?_
  repeat refine ok_seq ?_
  refine ok_if rfl (fun c1 => ?_) (fun c1 => ?_)
  · try simp at c1
    all_goals
      refine ok_skip ?_
      repeat refine ok_seq ?_
      refine ok_block ?_
      repeat refine ok_seq ?_
      refine ok_reg E [3, 5, 6, 7, 8] [] (by simp [-Option.some.injEq, -Prod.mk.injEq]; rfl) (by first | trivial | omega | simp | (simp; omega)) ?_
      repeat refine ok_seq ?_
      refine ok_reg E [3, 5, 6, 7, 8, 14] [] (by simp [-Option.some.injEq, -Prod.mk.injEq]; rfl) (by first | trivial | omega | simp | (simp; omega)) ?_
      repeat refine ok_seq ?_
      refine ok_if rfl (fun c2 => ?_) (fun c2 => ?_)
      · try simp at c2
        all_goals
          repeat refine ok_seq ?_
          refine ok_reg E [2] [] (by simp [-Option.some.injEq, -Prod.mk.injEq]; rfl) (by first | trivial | omega | simp | (simp; omega)) ?_
          refine ok_ret ⟨.inr rfl, ?_⟩
          -- ret1
          simp [resAll, resL, resA, frozE]
          rw [gi_lt (by omega)] at c2 ⊢; rw [← hi, List.drop_eq_getElem_cons (by omega), orI, if_pos c2]
      · try simp at c2
        all_goals
          refine ok_skip ?_
          repeat refine ok_seq ?_
          refine ok_reg E [3, 6, 7, 8] [] (by simp [-Option.some.injEq, -Prod.mk.injEq]; rfl) (by first | trivial | omega | simp | (simp; omega)) ?_
          -- end01
          rw [gi_lt (by omega)] at c2
          exact ⟨i + 1, ⟨by omega, by rw [← hi, List.drop_eq_getElem_cons (i := i) (by omega), orI, if_neg (by simp [c2])]⟩, by omega, by constructor <;> simp (disch := omega) [EntF, EntH, EntB, Conv, scop, wrap_i64]⟩
  · try simp at c1
    all_goals
      refine ok_exit ?_
      repeat refine ok_seq ?_
      refine ok_reg E [2] [] (by simp [-Option.some.injEq, -Prod.mk.injEq]; rfl) (by first | trivial | omega | simp | (simp; omega)) ?_
      refine ok_ret ⟨.inr rfl, ?_⟩
      -- ret2
      simp [resAll, resL, resA, frozE]
      rw [← hi, List.drop_of_length_le (by omega)]; rfl

set_option maxRecDepth 8000 in
set_option maxHeartbeats 4000000 in
theorem cmpC_ctr (x y : Cell) : Ctr Tryz.prog 154 [avOf .cell x, avOf .cell y] [] (.d .i (cmpC x y)) [] := by
  refine ctr_pure E Tryz.func154 rfl Tryz.ntmps154 Tryz.results154 (Nat.le_of_ble_eq_true rfl) rfl ?_
  have k1 := orI_ctr [cmpI x.kind y.kind, cmpI x.n y.n, cmpS x.name y.name]
  repeat refine ok_seq ?_
  refine ok_reg E [2, 3] [] (by simp [-Option.some.injEq, -Prod.mk.injEq]; rfl) (by first | trivial | omega | simp | (simp; omega)) ?_
  repeat refine ok_seq ?_
  refine ok_dr E rfl [4] 18 [.pure (.d .i (cmpI x.kind y.kind)), .pure (.d .i (cmpI x.n y.n)), .pure (.d .i (cmpS x.name y.name)), .pure (.d .i (cmpC x y))] (by decide) (by simp [nodupF]) (by simp [-Option.some.injEq, -Prod.mk.injEq]; rfl) (by simp [cmpI_ctr, cmpS_ctr]; exact k1) ?_
  refine ok_ret ⟨.inr rfl, ?_⟩
  -- ret1
  simp [resAll, resL, resA, frozE]

set_option maxRecDepth 8000 in
set_option maxHeartbeats 4000000 in
theorem cmpG0_ctr (a b : List Cell) : Ctr Tryz.prog 153 [.d .term a, .d .term b, .fn 154 []] [] (.d .i (cmpG a b)) [] := by
  refine ctr_pure E Tryz.func153 rfl Tryz.ntmps153 Tryz.results153 (Nat.le_of_ble_eq_true rfl) rfl ?_
  repeat refine ok_seq ?_
  refine ok_reg E [0, 1, 2] [] (by simp [-Option.some.injEq, -Prod.mk.injEq]; rfl) (by first | trivial | omega | simp [cmpC_ctr] | (simp [cmpC_ctr]; omega)) ?_
  repeat refine ok_seq ?_
  refine ok_reg E [0, 1, 2, 11, 12, 13] [] (by simp [-Option.some.injEq, -Prod.mk.injEq]; rfl) (by first | trivial | omega | simp [cmpC_ctr] | (simp [cmpC_ctr]; omega)) ?_
  repeat refine ok_seq ?_
  refine ok_block ?_
  repeat refine ok_seq ?_
  refine ok_lenN 0 rfl fun ha => ?_
  refine ok_lenN 1 rfl fun hb => ?_
  refine ok_loop (σ := Nat) (fun i => [(0, .d .term a), (1, .d .term b), (2, .fn 154 []), (11, .d .term a), (12, .d .i (a.length : Int)), (13, .d .i (i : Int))]) (fun i => []) (fun i => i ≤ a.length ∧ i ≤ b.length ∧ cmpG (a.drop i) (b.drop i) = cmpG a b) (fun i => a.length - i) 0 (by simp) ?_ ?_
  · constructor <;> simp [EntF, EntH, EntB, Conv, scop]
  rintro i ⟨hi1, hi2, hi⟩
  repeat refine ok_seq ?_
  refine ok_reg E [0, 1, 2, 11, 12, 13, 14] [] (by simp [-Option.some.injEq, -Prod.mk.injEq]; rfl) (by first | trivial | omega | simp [cmpC_ctr] | (simp [cmpC_ctr]; omega)) ?_
  repeat refine ok_seq ?_
  refine ok_if rfl (fun c1 => ?_) (fun c1 => ?_)
  · try simp at c1
    all_goals
      refine ok_skip ?_
      repeat refine ok_seq ?_
      refine ok_block ?_
      repeat refine ok_seq ?_
      refine ok_reg E [0, 1, 2, 7, 8, 11, 12, 13] [] (by simp [-Option.some.injEq, -Prod.mk.injEq]; rfl) (by first | trivial | omega | simp [cmpC_ctr] | (simp [cmpC_ctr]; omega)) ?_
      repeat refine ok_seq ?_
      refine ok_reg E [0, 1, 2, 7, 8, 11, 12, 13, 21] [] (by simp [-Option.some.injEq, -Prod.mk.injEq]; rfl) (by first | trivial | omega | simp [cmpC_ctr] | (simp [cmpC_ctr]; omega)) ?_
      repeat refine ok_seq ?_
      refine ok_if rfl (fun c2 => ?_) (fun c2 => ?_)
      · try simp at c2
        all_goals
          repeat refine ok_seq ?_
          refine ok_reg E [6] [] (by simp [-Option.some.injEq, -Prod.mk.injEq]; rfl) (by first | trivial | omega | simp [cmpC_ctr] | (simp [cmpC_ctr]; omega)) ?_
          refine ok_ret ⟨.inr rfl, ?_⟩
          -- ret1
          simp [resAll, resL, resA, frozE]
          rw [← hi, List.drop_eq_getElem_cons c1, List.drop_of_length_le c2]; rfl
      · try simp at c2
        all_goals
          refine ok_skip ?_
          repeat refine ok_seq ?_
          refine ok_reg E [0, 1, 2, 8, 9, 11, 12, 13] [] (by simp [-Option.some.injEq, -Prod.mk.injEq]; rfl) (by first | trivial | omega | simp [cmpC_ctr] | (simp [cmpC_ctr]; omega)) ?_
          repeat refine ok_seq ?_
          refine ok_reg E [0, 1, 2, 10, 11, 12, 13] [.pure (.d .i (cmpC (gc a i) (gc b i)))] (by simp [-Option.some.injEq, -Prod.mk.injEq]; rfl) (by first | trivial | exact ⟨cmpC_ctr _ _, trivial⟩ | simp [cmpC_ctr _ _] | (have := cmpC_ctr (gc a i) (gc b i); simp at this; simp [this])) ?_
          repeat refine ok_seq ?_
          refine ok_reg E [0, 1, 2, 10, 11, 12, 13, 31] [] (by simp [-Option.some.injEq, -Prod.mk.injEq]; rfl) (by first | trivial | omega | simp [cmpC_ctr] | (simp [cmpC_ctr]; omega)) ?_
          repeat refine ok_seq ?_
          refine ok_if rfl (fun c3 => ?_) (fun c3 => ?_)
          · try simp at c3
            all_goals
              repeat refine ok_seq ?_
              refine ok_reg E [6] [] (by simp [-Option.some.injEq, -Prod.mk.injEq]; rfl) (by first | trivial | omega | simp [cmpC_ctr] | (simp [cmpC_ctr]; omega)) ?_
              refine ok_ret ⟨.inr rfl, ?_⟩
              -- ret2
              simp [resAll, resL, resA, frozE]
              rw [← hi, List.drop_eq_getElem_cons c1, List.drop_eq_getElem_cons c2, cmpG, ← gc_lt c1, ← gc_lt c2, if_pos c3]
          · try simp at c3
            all_goals
              refine ok_skip ?_
              repeat refine ok_seq ?_
              refine ok_reg E [0, 1, 2, 11, 12, 13] [] (by simp [-Option.some.injEq, -Prod.mk.injEq]; rfl) (by first | trivial | omega | simp [cmpC_ctr] | (simp [cmpC_ctr]; omega)) ?_
              -- end01
              exact ⟨i + 1, ⟨by omega, by omega, by rw [← hi, List.drop_eq_getElem_cons c1, List.drop_eq_getElem_cons c2, cmpG, ← gc_lt c1, ← gc_lt c2, if_neg (by simp [c3])]⟩, by omega, by constructor <;> simp (disch := omega) [EntF, EntH, EntB, Conv, scop, wrap_i64]⟩
  · try simp at c1
    all_goals
      refine ok_exit ?_
      repeat refine ok_seq ?_
      refine ok_reg E [38] [] (by simp [-Option.some.injEq, -Prod.mk.injEq]; rfl) (by first | trivial | omega | simp [cmpC_ctr] | (simp [cmpC_ctr]; omega)) ?_
      repeat refine ok_seq ?_
      refine ok_if rfl (fun c4 => ?_) (fun c4 => ?_)
      · try simp at c4
        all_goals
          repeat refine ok_seq ?_
          refine ok_reg E [6] [] (by simp [-Option.some.injEq, -Prod.mk.injEq]; rfl) (by first | trivial | omega | simp [cmpC_ctr] | (simp [cmpC_ctr]; omega)) ?_
          refine ok_ret ⟨.inr rfl, ?_⟩
          -- ret3
          simp [resAll, resL, resA, frozE]
          rw [← hi, List.drop_of_length_le c1, List.drop_eq_getElem_cons (l := b) (i := i) (by omega)]; rfl
      · try simp at c4
        all_goals
          refine ok_skip ?_
          repeat refine ok_seq ?_
          refine ok_reg E [6] [] (by simp [-Option.some.injEq, -Prod.mk.injEq]; rfl) (by first | trivial | omega | simp [cmpC_ctr] | (simp [cmpC_ctr]; omega)) ?_
          refine ok_ret ⟨.inr rfl, ?_⟩
          -- ret4
          simp [resAll, resL, resA, frozE]
          rw [← hi, List.drop_of_length_le c1, List.drop_of_length_le (by omega)]; rfl

set_option maxRecDepth 8000 in
set_option maxHeartbeats 4000000 in
theorem cmpG_ctr (a b : List Cell) : Ctr Tryz.prog 87 [.d .term a, .d .term b] [] (.d .i (cmpG a b)) [] := by
  refine ctr_pure E Tryz.func87 rfl Tryz.ntmps87 Tryz.results87 (Nat.le_of_ble_eq_true rfl) rfl ?_
  repeat refine ok_seq ?_
  refine ok_reg E [0, 1] [] (by simp [-Option.some.injEq, -Prod.mk.injEq]; rfl) (by first | trivial | omega | simp [cmpG0_ctr] | (simp [cmpG0_ctr]; omega)) ?_
  repeat refine ok_seq ?_
  refine ok_reg E [4] [.pure (.d .i (cmpG a b))] (by simp [-Option.some.injEq, -Prod.mk.injEq]; rfl) (by first | trivial | omega | simp [cmpG0_ctr] | (simp [cmpG0_ctr]; omega)) ?_
  refine ok_ret ⟨.inr rfl, ?_⟩
  -- ret1
  simp [resAll, resL, resA, frozE]

set_option maxRecDepth 8000 in
set_option maxHeartbeats 4000000 in
theorem equal_ctr (a b : List Cell) : Ctr Tryz.prog 166 [.d .term a, .d .term b] [] (.d .bool (decide (a = b))) [] := by
  refine ctr_pure E Tryz.func166 rfl Tryz.ntmps166 Tryz.results166 (Nat.le_of_ble_eq_true rfl) rfl ?_
  repeat refine ok_seq ?_
  refine ok_reg E [0, 1] [] (by simp [cell_ext, -Option.some.injEq, -Prod.mk.injEq]; rfl) (by first | trivial | omega | simp | (simp; omega)) ?_
  repeat refine ok_seq ?_
  refine ok_reg E [0, 1, 10] [] (by simp [cell_ext, -Option.some.injEq, -Prod.mk.injEq]; rfl) (by first | trivial | omega | simp | (simp; omega)) ?_
  repeat refine ok_seq ?_
  refine ok_if rfl (fun c1 => ?_) (fun c1 => ?_)
  · try simp at c1
    all_goals
      repeat refine ok_seq ?_
      refine ok_reg E [4] [] (by simp [cell_ext, -Option.some.injEq, -Prod.mk.injEq]; rfl) (by first | trivial | omega | simp | (simp; omega)) ?_
      refine ok_ret ⟨.inr rfl, ?_⟩
      -- ret1
      simp [resAll, resL, resA, frozE]
      intro e; simp [e] at c1
  · try simp at c1
    all_goals
      refine ok_skip ?_
      repeat refine ok_seq ?_
      refine ok_reg E [0, 1, 12, 13] [] (by simp [cell_ext, -Option.some.injEq, -Prod.mk.injEq]; rfl) (by first | trivial | omega | simp | (simp; omega)) ?_
      repeat refine ok_seq ?_
      refine ok_block ?_
      repeat refine ok_seq ?_
      refine ok_lenN 0 rfl fun ha => ?_
      refine ok_loop (σ := Nat) (fun i => [(0, .d .term a), (1, .d .term b), (12, .d .i (a.length : Int)), (13, .d .i (i : Int))]) (fun i => []) (fun i => i ≤ a.length ∧ a.take i = b.take i) (fun i => a.length - i) 0 (by simp) ?_ ?_
      · constructor <;> simp [EntF, EntH, EntB, Conv, scop]
      rintro i ⟨hi1, hi⟩
      repeat refine ok_seq ?_
      refine ok_reg E [0, 1, 12, 13, 14] [] (by simp [cell_ext, -Option.some.injEq, -Prod.mk.injEq]; rfl) (by first | trivial | omega | simp | (simp; omega)) ?_
      repeat refine ok_seq ?_
      refine ok_if rfl (fun c2 => ?_) (fun c2 => ?_)
      · try simp at c2
        all_goals
          refine ok_skip ?_
          repeat refine ok_seq ?_
          refine ok_block ?_
          repeat refine ok_seq ?_
          refine ok_reg E [0, 1, 5, 12, 13] [] (by simp [cell_ext, -Option.some.injEq, -Prod.mk.injEq]; rfl) (by first | trivial | omega | simp | (simp; omega)) ?_
          repeat refine ok_seq ?_
          refine ok_dr E rfl [0, 1, 12, 13, 24] 9 [] (by decide) (by simp [nodupF]) (by simp [cell_ext, -Option.some.injEq, -Prod.mk.injEq]; rfl) (by first | trivial | omega | simp | (simp; omega)) ?_
          repeat refine ok_seq ?_
          refine ok_if rfl (fun c3 => ?_) (fun c3 => ?_)
          · try simp at c3
            all_goals
              repeat refine ok_seq ?_
              refine ok_reg E [4] [] (by simp [cell_ext, -Option.some.injEq, -Prod.mk.injEq]; rfl) (by first | trivial | omega | simp | (simp; omega)) ?_
              refine ok_ret ⟨.inr rfl, ?_⟩
              -- ret2
              simp (disch := omega) only [gc_lt] at c3
              simp [resAll, resL, resA, frozE]
              intro e; simp [e] at c3
          · try simp at c3
            all_goals
              refine ok_skip ?_
              repeat refine ok_seq ?_
              refine ok_reg E [0, 1, 12, 13] [] (by simp [cell_ext, -Option.some.injEq, -Prod.mk.injEq]; rfl) (by first | trivial | omega | simp | (simp; omega)) ?_
              -- end01
              simp (disch := omega) only [gc_lt] at c3
              refine ⟨i + 1, ⟨by omega, ?_⟩, by omega, by constructor <;> simp (disch := omega) [EntF, EntH, EntB, Conv, scop, wrap_i64]⟩
              exact take_ne (by omega) (by omega) hi c3
      · try simp at c2
        all_goals
          refine ok_exit ?_
          repeat refine ok_seq ?_
          refine ok_reg E [4] [] (by simp [cell_ext, -Option.some.injEq, -Prod.mk.injEq]; rfl) (by first | trivial | omega | simp | (simp; omega)) ?_
          refine ok_ret ⟨.inr rfl, ?_⟩
          -- ret3
          simp [resAll, resL, resA, frozE]
          exact take_end (by omega) (by omega) hi

set_option maxRecDepth 8000 in
set_option maxHeartbeats 4000000 in
theorem termSame_ctr (a b : List Cell) : Ctr Tryz.prog 102 [.d .term a, .d .term b] [] (.d .bool (decide (a = b))) [] := by
  refine ctr_pure E Tryz.func102 rfl Tryz.ntmps102 Tryz.results102 (Nat.le_of_ble_eq_true rfl) rfl ?_
  repeat refine ok_seq ?_
  refine ok_reg E [0, 1] [] (by simp [-Option.some.injEq, -Prod.mk.injEq]; rfl) (by first | trivial | omega | simp [equal_ctr] | (simp [equal_ctr]; omega)) ?_
  repeat refine ok_seq ?_
  refine ok_reg E [4] [.pure (.d .bool (decide (a = b)))] (by simp [-Option.some.injEq, -Prod.mk.injEq]; rfl) (by first | trivial | omega | simp [equal_ctr] | (simp [equal_ctr]; omega)) ?_
  refine ok_ret ⟨.inr rfl, ?_⟩
  -- ret1
  simp [resAll, resL, resA, frozE]

end Go.Proofs.YtgapiecbinplfaaGreat
/- The rule for functions that take boxes: closures, and those that are handed closures. -/
namespace Go.Proofs.YtgapiecbinplfaaGreat
open Go.RowKit

variable {P : Program}

theorem ctr_full (E : TEnv P) {f : FuncId} {fn : Func} {c : Code} {n : Nat} {rs : Array ResultVar} (hf : P.funcs[f]? = some fn) (hb : fn.body = some c) {args : List AV} {Hin Hout : List Box} {r : AV} (hN : fn.ntmps = n) (hrs : fn.results = rs) (hargs : args.length ≤ n)
    (m : Nat) (hm : Hin.length = m) (hml : Hout.length = m) (hin : ∀ x ∈ Hin, x.live = true ∧ x.isO = false) (hout : ∀ x ∈ Hout, x.scop m = true ∧ x.live = true) (hsc : scop m r = true)
    (h : Ok P m n c (fun e ρ H => (e = .normal ∨ e = .ret) ∧ resAll E.td m H ρ rs.toList = some r ∧ endH m H m H = Hout ∧ m ≤ H.length) (frame0 0 args) Hin) : Ctr P f args Hin r Hout := by
  subst hm
  refine ctr_of E hf hb hN hargs (fun x hx => (hin x hx).2) hout hml (fun x hx => (hin x hx).1) ?_
  rw [hrs]
  exact ok_mono h fun e ρ H hq => ⟨hq.1, hq.2.1, hq.2.2.1, hq.2.2.2, hsc⟩

attribute [simp] endH frozE resAll resL resA Call.operands fillA capsOf putH

def TakesL (H : List Box) (σ0 : List Nat) : List Nat → List Box → Prop
  | s :: σ, x :: xs => H[s]? = some (x.ren σ0) ∧ x.live = true ∧ x.scop σ0.length = true ∧ TakesL H σ0 σ xs
  | [], [] => True
  | _, _ => False
theorem TakesL.len {H : List Box} {σ0 : List Nat} : ∀ {σ : List Nat} {Hin : List Box}, TakesL H σ0 σ Hin → σ.length = Hin.length
  | [], [], _ => rfl
  | s :: σ, x :: xs, h => by simp [TakesL.len h.2.2.2]
  | [], _ :: _, h => h.elim
  | _ :: _, [], h => h.elim
theorem TakesL.get {H : List Box} {σ0 : List Nat} : ∀ {σ : List Nat} {Hin : List Box}, TakesL H σ0 σ Hin → ∀ (i s : Nat) (x : Box), σ[i]? = some s → Hin[i]? = some x → H[s]? = some (x.ren σ0) ∧ x.live = true ∧ x.scop σ0.length = true
  | s :: σ, x :: xs, h, 0, s', x', h1, h2 => by
    simp at h1 h2; subst h1; subst h2; exact ⟨h.1, h.2.1, h.2.2.1⟩
  | s :: σ, x :: xs, h, i + 1, s', x', h1, h2 => TakesL.get h.2.2.2 i s' x' (by simpa using h1) (by simpa using h2)
  | [], [], h, i, s', x', h1, h2 => by simp at h1
theorem Takes.of {H : List Box} {σ : List Nat} {Hin : List Box} (hn : σ.Nodup) (h : TakesL H σ σ Hin) : Takes H σ Hin := ⟨h.len, hn, h.get⟩

attribute [simp] TakesL

end Go.Proofs.YtgapiecbinplfaaGreat
/- Walks: small parts of packages term and ground. Printed by walk.py from annotations. -/
namespace Go.Proofs.YtgapiecbinplfaaGreat
open Go.RowKit


set_option maxRecDepth 8000 in
set_option maxHeartbeats 4000000 in
theorem inI_ctr (n lo hi : Int) : Ctr Tryz.prog 148 [.d .i n, .d .i lo, .d .i hi] [] (.d .bool (inI n lo hi)) [] := by
  refine ctr_pure E Tryz.func148 rfl Tryz.ntmps148 Tryz.results148 (Nat.le_of_ble_eq_true rfl) rfl ?_
  repeat refine ok_seq ?_
  refine ok_reg E [0, 1, 2] [] (by simp [-Option.some.injEq, -Prod.mk.injEq]; rfl) (by first | trivial | omega | simp | (simp; omega)) ?_
  repeat refine ok_seq ?_
  refine ok_regJ E [(6, .d .bool (inI n lo hi))] [] [6] [] ?_ ?_
  · skip
    by_cases q0 : lo ≤ n
    rotate_left
    · refine ⟨_, _, _, by simp [q0, inI, -Option.some.injEq, -Prod.mk.injEq]; rfl, (by first | trivial | omega | simp | (simp; omega)), by constructor <;> simp [EntF, EntH, EntB, Conv, scop, q0, inI] <;> first | omega | (rw [Bool.eq_iff_iff]; simp; omega)⟩
    refine ⟨_, _, _, by simp [q0, inI, -Option.some.injEq, -Prod.mk.injEq]; rfl, (by first | trivial | omega | simp | (simp; omega)), by constructor <;> simp [EntF, EntH, EntB, Conv, scop, q0, inI] <;> first | omega | (rw [Bool.eq_iff_iff]; simp; omega)⟩
  refine ok_ret ⟨.inr rfl, ?_⟩
  -- ret1
  simp [resAll, resL, resA, frozE]

set_option maxRecDepth 8000 in
set_option maxHeartbeats 4000000 in
theorem isVar_ctr (c : Cell) : Ctr Tryz.prog 151 [avOf .cell c] [] (.d .bool (isVar c)) [] := by
  refine ctr_pure E Tryz.func151 rfl Tryz.ntmps151 Tryz.results151 (Nat.le_of_ble_eq_true rfl) rfl ?_
  repeat refine ok_seq ?_
  refine ok_reg E [1] [] (by simp [-Option.some.injEq, -Prod.mk.injEq]; rfl) (by first | trivial | omega | simp | (simp; omega)) ?_
  repeat refine ok_seq ?_
  refine ok_reg E [2] [] (by simp [-Option.some.injEq, -Prod.mk.injEq]; rfl) (by first | trivial | omega | simp | (simp; omega)) ?_
  refine ok_ret ⟨.inr rfl, ?_⟩
  -- ret1
  simp [resAll, resL, resA, frozE]
  simp [isVar]

set_option maxRecDepth 8000 in
set_option maxHeartbeats 4000000 in
theorem idxVar_ctr (l : List Cell)  : Ctr Tryz.prog 207 [.d (.sl .cell) l, .fn 151 []] [] (.d .i (idxP isVar l 0)) [] := by
  refine ctr_pure E Tryz.func207 rfl Tryz.ntmps207 Tryz.results207 (Nat.le_of_ble_eq_true rfl) rfl ?_
  repeat refine ok_seq ?_
  refine ok_reg E [0, 1] [] (by simp [-Option.some.injEq, -Prod.mk.injEq]; rfl) (by first | trivial | omega | simp | (simp; omega)) ?_
  repeat refine ok_seq ?_
  refine ok_reg E [0, 1, 7, 8] [] (by simp [-Option.some.injEq, -Prod.mk.injEq]; rfl) (by first | trivial | omega | simp | (simp; omega)) ?_
  repeat refine ok_seq ?_
  refine ok_block ?_
  repeat refine ok_seq ?_
  refine ok_lenN 0 rfl fun ha => ?_
  refine ok_loop (σ := Nat) (fun i => [(0, .d (.sl .cell) l), (1, .fn 151 []), (7, .d .i (l.length : Int)), (8, .d .i (i : Int))]) (fun i => []) (fun i => i ≤ l.length ∧ idxP isVar (l.drop i) i = idxP isVar l 0) (fun i => l.length - i) 0 (by simp) ?_ ?_
  · constructor <;> simp [EntF, EntH, EntB, Conv, scop]
  rintro i ⟨hi1, hi⟩
  repeat refine ok_seq ?_
  refine ok_reg E [0, 1, 7, 8, 9] [] (by simp [-Option.some.injEq, -Prod.mk.injEq]; rfl) (by first | trivial | omega | simp | (simp; omega)) ?_
  repeat refine ok_seq ?_
  refine ok_if rfl (fun c1 => ?_) (fun c1 => ?_)
  · try simp at c1
    all_goals
      refine ok_skip ?_
      repeat refine ok_seq ?_
      refine ok_block ?_
      repeat refine ok_seq ?_
      refine ok_reg E [0, 1, 5, 7, 8] [] (by simp [-Option.some.injEq, -Prod.mk.injEq]; rfl) (by first | trivial | omega | simp | (simp; omega)) ?_
      repeat refine ok_seq ?_
      refine ok_reg E [0, 1, 5, 7, 8, 16] [.pure (.d .bool (isVar (gc l i)))] (by simp [-Option.some.injEq, -Prod.mk.injEq]; rfl) (by first | (simp; done) | (have k1 := isVar_ctr (gc l i); (try simp at k1); simp [k1, Takes]; try omega)) ?_
      repeat refine ok_seq ?_
      refine ok_if rfl (fun c2 => ?_) (fun c2 => ?_)
      · try simp at c2
        all_goals
          repeat refine ok_seq ?_
          refine ok_reg E [4] [] (by simp [-Option.some.injEq, -Prod.mk.injEq]; rfl) (by first | trivial | omega | simp | (simp; omega)) ?_
          refine ok_ret ⟨.inr rfl, ?_⟩
          -- ret1
          simp [resAll, resL, resA, frozE]
          rw [← hi, List.drop_eq_getElem_cons c1, idxP, ← gc_lt c1, if_pos c2]
      · try simp at c2
        all_goals
          refine ok_skip ?_
          repeat refine ok_seq ?_
          refine ok_reg E [0, 1, 7, 8] [] (by simp [-Option.some.injEq, -Prod.mk.injEq]; rfl) (by first | trivial | omega | simp | (simp; omega)) ?_
          -- end01
          exact ⟨i + 1, ⟨by omega, by rw [← hi, List.drop_eq_getElem_cons c1, idxP, ← gc_lt c1, if_neg (by simp [c2])]⟩, by omega, by constructor <;> simp (disch := omega) [EntF, EntH, EntB, Conv, scop, wrap_i64]⟩
  · try simp at c1
    all_goals
      refine ok_exit ?_
      repeat refine ok_seq ?_
      refine ok_reg E [4] [] (by simp [-Option.some.injEq, -Prod.mk.injEq]; rfl) (by first | trivial | omega | simp | (simp; omega)) ?_
      refine ok_ret ⟨.inr rfl, ?_⟩
      -- ret2
      simp [resAll, resL, resA, frozE]
      rw [← hi, List.drop_of_length_le (by omega)]; rfl

set_option maxRecDepth 8000 in
set_option maxHeartbeats 4000000 in
theorem anyVar_ctr (l : List Cell)  : Ctr Tryz.prog 150 [.d (.sl .cell) l, .fn 151 []] [] (.d .bool (l.any isVar)) [] := by
  refine ctr_pure E Tryz.func150 rfl Tryz.ntmps150 Tryz.results150 (Nat.le_of_ble_eq_true rfl) rfl ?_
  repeat refine ok_seq ?_
  refine ok_reg E [0, 1] [] (by simp [-Option.some.injEq, -Prod.mk.injEq]; rfl) (by first | trivial | omega | simp | (simp; omega)) ?_
  repeat refine ok_seq ?_
  refine ok_reg E [4] [.pure (.d .i (idxP isVar l 0))] (by simp [-Option.some.injEq, -Prod.mk.injEq]; rfl) (by (have k1 := idxVar_ctr l; (try simp at k1); simp [k1, Takes]; try omega)) ?_
  refine ok_ret ⟨.inr rfl, ?_⟩
  -- ret1
  simp [resAll, resL, resA, frozE]
  first | done | (have := idxP_any isVar l 0; rw [Bool.eq_iff_iff]; simpa using this)

set_option maxRecDepth 8000 in
set_option maxHeartbeats 4000000 in
theorem groundG_ctr (t : List Cell) : Ctr Tryz.prog 84 [.d .term t] [] (.d .bool (groundG t)) [] := by
  refine ctr_pure E Tryz.func84 rfl Tryz.ntmps84 Tryz.results84 (Nat.le_of_ble_eq_true rfl) rfl ?_
  repeat refine ok_seq ?_
  refine ok_reg E [0] [] (by simp [-Option.some.injEq, -Prod.mk.injEq]; rfl) (by first | trivial | omega | simp | (simp; omega)) ?_
  repeat refine ok_seq ?_
  refine ok_reg E [2] [.pure (.d .bool (t.any isVar))] (by simp [-Option.some.injEq, -Prod.mk.injEq]; rfl) (by (have k1 := anyVar_ctr t; (try simp at k1); simp [k1])) ?_
  refine ok_ret ⟨.inr rfl, ?_⟩
  -- ret1
  simp [resAll, resL, resA, frozE]
  simp [groundG]

set_option maxRecDepth 8000 in
set_option maxHeartbeats 4000000 in
theorem risesT_ctr (l : List Term) : Ctr Tryz.prog 86 [.d (.sl (.sl .cell)) l, .fn 87 []] [] (.d .bool (decide (risesP cmpG (gt l) l.length))) [] := by
  refine ctr_pure E Tryz.func86 rfl Tryz.ntmps86 Tryz.results86 (Nat.le_of_ble_eq_true rfl) rfl ?_
  repeat refine ok_seq ?_
  refine ok_reg E [0, 1] [] (by simp [-Option.some.injEq, -Prod.mk.injEq]; rfl) (by first | trivial | omega | simp | (simp; omega)) ?_
  repeat refine ok_seq ?_
  refine ok_reg E [0, 1, 5] [] (by simp [-Option.some.injEq, -Prod.mk.injEq]; rfl) (by first | trivial | omega | simp | (simp; omega)) ?_
  repeat refine ok_seq ?_
  refine ok_block ?_
  repeat refine ok_seq ?_
  refine ok_lenN 0 rfl fun ha => ?_
  refine ok_loop (σ := Nat) (fun i => [(0, .d (.sl (.sl .cell)) l), (1, .fn 87 []), (5, .d .i (i : Int))]) (fun i => []) (fun i => 1 ≤ i ∧ ∀ j : Nat, j < i → j < l.length → 0 < j → cmpG (gt l ((j : Int) - 1)) (gt l j) < 0) (fun i => l.length - i) 1 ⟨by omega, fun j h _ h2 => by omega⟩ ?_ ?_
  · constructor <;> simp [EntF, EntH, EntB, Conv, scop]
  rintro i ⟨hi1, hi⟩
  repeat refine ok_seq ?_
  refine ok_reg E [0, 1, 5, 9] [] (by simp [-Option.some.injEq, -Prod.mk.injEq]; rfl) (by first | trivial | omega | simp | (simp; omega)) ?_
  repeat refine ok_seq ?_
  refine ok_if rfl (fun c1 => ?_) (fun c1 => ?_)
  · try simp at c1
    all_goals
      have hw : IntKind.i64.wrap ((i : Int) - 1) = (i : Int) - 1 := wrap_i64 (by omega) (by omega)
      refine ok_skip ?_
      repeat refine ok_seq ?_
      refine ok_block ?_
      repeat refine ok_seq ?_
      refine ok_dr E rfl [0, 1, 5, 23] 12 [.pure (.d .i (cmpG (gt l ((i : Int) - 1)) (gt l i)))] (by decide) (by simp [nodupF]) (by simp [hw, -Option.some.injEq, -Prod.mk.injEq]; rfl) (by (have k1 := cmpG_ctr (gt l ((i : Int) - 1)) (gt l i); (try simp at k1); simp [k1]; try omega)) ?_
      repeat refine ok_seq ?_
      refine ok_if rfl (fun c2 => ?_) (fun c2 => ?_)
      · try simp at c2
        all_goals
          repeat refine ok_seq ?_
          refine ok_reg E [4] [] (by simp [-Option.some.injEq, -Prod.mk.injEq]; rfl) (by first | trivial | omega | simp | (simp; omega)) ?_
          refine ok_ret ⟨.inr rfl, ?_⟩
          -- ret1
          simp [resAll, resL, resA, frozE]
          intro h; have := h i (by omega) (by omega); omega
      · try simp at c2
        all_goals
          refine ok_skip ?_
          repeat refine ok_seq ?_
          refine ok_reg E [0, 1, 5] [] (by simp [-Option.some.injEq, -Prod.mk.injEq]; rfl) (by first | trivial | omega | simp | (simp; omega)) ?_
          -- end01
          exact ⟨i + 1, ⟨by omega, fun j h1 h2 h3 => by by_cases e : j = i; subst e; exact c2; exact hi j (by omega) h2 h3⟩, by omega, by constructor <;> simp (disch := omega) [EntF, EntH, EntB, Conv, scop, wrap_i64]⟩
  · try simp at c1
    all_goals
      skip
      refine ok_exit ?_
      repeat refine ok_seq ?_
      refine ok_reg E [4] [] (by simp [-Option.some.injEq, -Prod.mk.injEq]; rfl) (by first | trivial | omega | simp | (simp; omega)) ?_
      refine ok_ret ⟨.inr rfl, ?_⟩
      -- ret2
      simp [resAll, resL, resA, frozE]
      intro j h1 h2; exact hi j (by omega) h1 h2

set_option maxRecDepth 8000 in
set_option maxHeartbeats 4000000 in
theorem cmpIs_ctr (a b : List Int) : Ctr Tryz.prog 157 [.d .ints a, .d .ints b] [] (.d .i (cmpIs a b)) [] := by
  refine ctr_pure E Tryz.func157 rfl Tryz.ntmps157 Tryz.results157 (Nat.le_of_ble_eq_true rfl) rfl ?_
  repeat refine ok_seq ?_
  refine ok_reg E [0, 1] [] (by simp [-Option.some.injEq, -Prod.mk.injEq]; rfl) (by first | trivial | omega | simp | (simp; omega)) ?_
  repeat refine ok_seq ?_
  refine ok_reg E [0, 1, 9, 10, 11] [] (by simp [-Option.some.injEq, -Prod.mk.injEq]; rfl) (by first | trivial | omega | simp | (simp; omega)) ?_
  repeat refine ok_seq ?_
  refine ok_block ?_
  repeat refine ok_seq ?_
  refine ok_lenN 0 rfl fun ha => ?_
  refine ok_lenN 1 rfl fun hb => ?_
  refine ok_loop (σ := Nat) (fun i => [(0, .d .ints a), (1, .d .ints b), (9, .d .ints a), (10, .d .i (a.length : Int)), (11, .d .i (i : Int))]) (fun i => []) (fun i => i ≤ a.length ∧ i ≤ b.length ∧ cmpIs (a.drop i) (b.drop i) = cmpIs a b) (fun i => a.length - i) 0 (by simp) ?_ ?_
  · constructor <;> simp [EntF, EntH, EntB, Conv, scop]
  rintro i ⟨hi1, hi2, hi⟩
  repeat refine ok_seq ?_
  refine ok_reg E [0, 1, 9, 10, 11, 12] [] (by simp [-Option.some.injEq, -Prod.mk.injEq]; rfl) (by first | trivial | omega | simp | (simp; omega)) ?_
  repeat refine ok_seq ?_
  refine ok_if rfl (fun c1 => ?_) (fun c1 => ?_)
  · try simp at c1
    all_goals
      refine ok_skip ?_
      repeat refine ok_seq ?_
      refine ok_block ?_
      repeat refine ok_seq ?_
      refine ok_reg E [0, 1, 5, 6, 9, 10, 11] [] (by simp [-Option.some.injEq, -Prod.mk.injEq]; rfl) (by first | trivial | omega | simp | (simp; omega)) ?_
      repeat refine ok_seq ?_
      refine ok_reg E [0, 1, 5, 6, 9, 10, 11, 19] [] (by simp [-Option.some.injEq, -Prod.mk.injEq]; rfl) (by first | trivial | omega | simp | (simp; omega)) ?_
      repeat refine ok_seq ?_
      refine ok_if rfl (fun c2 => ?_) (fun c2 => ?_)
      · try simp at c2
        all_goals
          repeat refine ok_seq ?_
          refine ok_reg E [4] [] (by simp [-Option.some.injEq, -Prod.mk.injEq]; rfl) (by first | trivial | omega | simp | (simp; omega)) ?_
          refine ok_ret ⟨.inr rfl, ?_⟩
          -- ret1
          simp [resAll, resL, resA, frozE]
          rw [← hi, List.drop_eq_getElem_cons c1, List.drop_of_length_le c2]; rfl
      · try simp at c2
        all_goals
          refine ok_skip ?_
          repeat refine ok_seq ?_
          refine ok_reg E [0, 1, 6, 7, 9, 10, 11] [] (by simp [-Option.some.injEq, -Prod.mk.injEq]; rfl) (by first | trivial | omega | simp | (simp; omega)) ?_
          repeat refine ok_seq ?_
          refine ok_reg E [0, 1, 8, 9, 10, 11] [.pure (.d .i (cmpI (gi a i) (gi b i)))] (by simp [-Option.some.injEq, -Prod.mk.injEq]; rfl) (by (have k1 := cmpI_ctr (gi a i) (gi b i); simp [k1])) ?_
          repeat refine ok_seq ?_
          refine ok_reg E [0, 1, 8, 9, 10, 11, 28] [] (by simp [-Option.some.injEq, -Prod.mk.injEq]; rfl) (by first | trivial | omega | simp | (simp; omega)) ?_
          repeat refine ok_seq ?_
          refine ok_if rfl (fun c3 => ?_) (fun c3 => ?_)
          · try simp at c3
            all_goals
              repeat refine ok_seq ?_
              refine ok_reg E [4] [] (by simp [-Option.some.injEq, -Prod.mk.injEq]; rfl) (by first | trivial | omega | simp | (simp; omega)) ?_
              refine ok_ret ⟨.inr rfl, ?_⟩
              -- ret2
              simp [resAll, resL, resA, frozE]
              rw [← hi, List.drop_eq_getElem_cons c1, List.drop_eq_getElem_cons c2, cmpIs, ← gi_lt c1, ← gi_lt c2, if_pos c3]
          · try simp at c3
            all_goals
              refine ok_skip ?_
              repeat refine ok_seq ?_
              refine ok_reg E [0, 1, 9, 10, 11] [] (by simp [-Option.some.injEq, -Prod.mk.injEq]; rfl) (by first | trivial | omega | simp | (simp; omega)) ?_
              -- end01
              exact ⟨i + 1, ⟨by omega, by omega, by rw [← hi, List.drop_eq_getElem_cons c1, List.drop_eq_getElem_cons c2, cmpIs, ← gi_lt c1, ← gi_lt c2, if_neg (by simp [c3])]⟩, by omega, by constructor <;> simp (disch := omega) [EntF, EntH, EntB, Conv, scop, wrap_i64]⟩
  · try simp at c1
    all_goals
      refine ok_exit ?_
      repeat refine ok_seq ?_
      refine ok_reg E [35] [] (by simp [-Option.some.injEq, -Prod.mk.injEq]; rfl) (by first | trivial | omega | simp | (simp; omega)) ?_
      repeat refine ok_seq ?_
      refine ok_if rfl (fun c4 => ?_) (fun c4 => ?_)
      · try simp at c4
        all_goals
          repeat refine ok_seq ?_
          refine ok_reg E [4] [] (by simp [-Option.some.injEq, -Prod.mk.injEq]; rfl) (by first | trivial | omega | simp | (simp; omega)) ?_
          refine ok_ret ⟨.inr rfl, ?_⟩
          -- ret3
          simp [resAll, resL, resA, frozE]
          rw [← hi, List.drop_of_length_le c1, List.drop_eq_getElem_cons (l := b) (i := i) (by omega)]; rfl
      · try simp at c4
        all_goals
          refine ok_skip ?_
          repeat refine ok_seq ?_
          refine ok_reg E [4] [] (by simp [-Option.some.injEq, -Prod.mk.injEq]; rfl) (by first | trivial | omega | simp | (simp; omega)) ?_
          refine ok_ret ⟨.inr rfl, ?_⟩
          -- ret4
          simp [resAll, resL, resA, frozE]
          rw [← hi, List.drop_of_length_le c1, List.drop_of_length_le (by omega)]; rfl

set_option maxRecDepth 8000 in
set_option maxHeartbeats 4000000 in
theorem gOrder_ctr (a b : Rule) : Ctr Tryz.prog 89 [avOf .rule a, avOf .rule b] [] (.d .i (gOrder a b)) [] := by
  refine ctr_pure E Tryz.func89 rfl Tryz.ntmps89 Tryz.results89 (Nat.le_of_ble_eq_true rfl) rfl ?_
  have k1 := orI_ctr [cmpI a.head b.head, cmpIs a.pos b.pos, cmpIs a.neg b.neg]
  repeat refine ok_seq ?_
  refine ok_reg E [2, 3] [] (by simp [-Option.some.injEq, -Prod.mk.injEq]; rfl) (by first | trivial | omega | simp | (simp; omega)) ?_
  repeat refine ok_seq ?_
  refine ok_dr E rfl [4] 18 [.pure (.d .i (cmpI a.head b.head)), .pure (.d .i (cmpIs a.pos b.pos)), .pure (.d .i (cmpIs a.neg b.neg)), .pure (.d .i (gOrder a b))] (by decide) (by simp [nodupF]) (by simp [-Option.some.injEq, -Prod.mk.injEq]; rfl) (by simp [cmpI_ctr, cmpIs_ctr]; exact k1) ?_
  refine ok_ret ⟨.inr rfl, ?_⟩
  -- ret1
  simp [resAll, resL, resA, frozE]

set_option maxRecDepth 8000 in
set_option maxHeartbeats 4000000 in
theorem risesR_ctr (l : List Rule) : Ctr Tryz.prog 88 [.d (.sl .rule) l, .fn 89 []] [] (.d .bool (decide (risesP gOrder (gr l) l.length))) [] := by
  refine ctr_pure E Tryz.func88 rfl Tryz.ntmps88 Tryz.results88 (Nat.le_of_ble_eq_true rfl) rfl ?_
  repeat refine ok_seq ?_
  refine ok_reg E [0, 1] [] (by simp [-Option.some.injEq, -Prod.mk.injEq]; rfl) (by first | trivial | omega | simp | (simp; omega)) ?_
  repeat refine ok_seq ?_
  refine ok_reg E [0, 1, 5] [] (by simp [-Option.some.injEq, -Prod.mk.injEq]; rfl) (by first | trivial | omega | simp | (simp; omega)) ?_
  repeat refine ok_seq ?_
  refine ok_block ?_
  repeat refine ok_seq ?_
  refine ok_lenN 0 rfl fun ha => ?_
  refine ok_loop (σ := Nat) (fun i => [(0, .d (.sl .rule) l), (1, .fn 89 []), (5, .d .i (i : Int))]) (fun i => []) (fun i => 1 ≤ i ∧ ∀ j : Nat, j < i → j < l.length → 0 < j → gOrder (gr l ((j : Int) - 1)) (gr l j) < 0) (fun i => l.length - i) 1 ⟨by omega, fun j h _ h2 => by omega⟩ ?_ ?_
  · constructor <;> simp [EntF, EntH, EntB, Conv, scop]
  rintro i ⟨hi1, hi⟩
  repeat refine ok_seq ?_
  refine ok_reg E [0, 1, 5, 9] [] (by simp [-Option.some.injEq, -Prod.mk.injEq]; rfl) (by first | trivial | omega | simp | (simp; omega)) ?_
  repeat refine ok_seq ?_
  refine ok_if rfl (fun c1 => ?_) (fun c1 => ?_)
  · try simp at c1
    all_goals
      have hw : IntKind.i64.wrap ((i : Int) - 1) = (i : Int) - 1 := wrap_i64 (by omega) (by omega)
      refine ok_skip ?_
      repeat refine ok_seq ?_
      refine ok_block ?_
      repeat refine ok_seq ?_
      refine ok_dr E rfl [0, 1, 5, 23] 12 [.pure (.d .i (gOrder (gr l ((i : Int) - 1)) (gr l i)))] (by decide) (by simp [nodupF]) (by simp [hw, -Option.some.injEq, -Prod.mk.injEq]; rfl) (by (have k1 := gOrder_ctr (gr l ((i : Int) - 1)) (gr l i); (try simp at k1); simp [k1]; try omega)) ?_
      repeat refine ok_seq ?_
      refine ok_if rfl (fun c2 => ?_) (fun c2 => ?_)
      · try simp at c2
        all_goals
          repeat refine ok_seq ?_
          refine ok_reg E [4] [] (by simp [-Option.some.injEq, -Prod.mk.injEq]; rfl) (by first | trivial | omega | simp | (simp; omega)) ?_
          refine ok_ret ⟨.inr rfl, ?_⟩
          -- ret1
          simp [resAll, resL, resA, frozE]
          intro h; have := h i (by omega) (by omega); omega
      · try simp at c2
        all_goals
          refine ok_skip ?_
          repeat refine ok_seq ?_
          refine ok_reg E [0, 1, 5] [] (by simp [-Option.some.injEq, -Prod.mk.injEq]; rfl) (by first | trivial | omega | simp | (simp; omega)) ?_
          -- end01
          exact ⟨i + 1, ⟨by omega, fun j h1 h2 h3 => by by_cases e : j = i; subst e; exact c2; exact hi j (by omega) h2 h3⟩, by omega, by constructor <;> simp (disch := omega) [EntF, EntH, EntB, Conv, scop, wrap_i64]⟩
  · try simp at c1
    all_goals
      skip
      refine ok_exit ?_
      repeat refine ok_seq ?_
      refine ok_reg E [4] [] (by simp [-Option.some.injEq, -Prod.mk.injEq]; rfl) (by first | trivial | omega | simp | (simp; omega)) ?_
      refine ok_ret ⟨.inr rfl, ?_⟩
      -- ret2
      simp [resAll, resL, resA, frozE]
      intro j h1 h2; exact hi j (by omega) h1 h2

set_option maxRecDepth 8000 in
set_option maxHeartbeats 4000000 in
theorem risesI_ctr (l : List Int) : Ctr Tryz.prog 93 [.d (.sl .i) l, .fn 94 []] [] (.d .bool (decide (risesP cmpI (gi l) l.length))) [] := by
  refine ctr_pure E Tryz.func93 rfl Tryz.ntmps93 Tryz.results93 (Nat.le_of_ble_eq_true rfl) rfl ?_
  repeat refine ok_seq ?_
  refine ok_reg E [0, 1] [] (by simp [-Option.some.injEq, -Prod.mk.injEq]; rfl) (by first | trivial | omega | simp | (simp; omega)) ?_
  repeat refine ok_seq ?_
  refine ok_reg E [0, 1, 5] [] (by simp [-Option.some.injEq, -Prod.mk.injEq]; rfl) (by first | trivial | omega | simp | (simp; omega)) ?_
  repeat refine ok_seq ?_
  refine ok_block ?_
  repeat refine ok_seq ?_
  refine ok_lenN 0 rfl fun ha => ?_
  refine ok_loop (σ := Nat) (fun i => [(0, .d (.sl .i) l), (1, .fn 94 []), (5, .d .i (i : Int))]) (fun i => []) (fun i => 1 ≤ i ∧ ∀ j : Nat, j < i → j < l.length → 0 < j → cmpI (gi l ((j : Int) - 1)) (gi l j) < 0) (fun i => l.length - i) 1 ⟨by omega, fun j h _ h2 => by omega⟩ ?_ ?_
  · constructor <;> simp [EntF, EntH, EntB, Conv, scop]
  rintro i ⟨hi1, hi⟩
  repeat refine ok_seq ?_
  refine ok_reg E [0, 1, 5, 9] [] (by simp [-Option.some.injEq, -Prod.mk.injEq]; rfl) (by first | trivial | omega | simp | (simp; omega)) ?_
  repeat refine ok_seq ?_
  refine ok_if rfl (fun c1 => ?_) (fun c1 => ?_)
  · try simp at c1
    all_goals
      have hw : IntKind.i64.wrap ((i : Int) - 1) = (i : Int) - 1 := wrap_i64 (by omega) (by omega)
      refine ok_skip ?_
      repeat refine ok_seq ?_
      refine ok_block ?_
      repeat refine ok_seq ?_
      refine ok_dr E rfl [0, 1, 5, 23] 12 [.pure (.d .i (cmpI (gi l ((i : Int) - 1)) (gi l i)))] (by decide) (by simp [nodupF]) (by simp [hw, -Option.some.injEq, -Prod.mk.injEq]; rfl) (by (have k1 := cmpI_ctr (gi l ((i : Int) - 1)) (gi l i); (try simp at k1); simp [k1]; try omega)) ?_
      repeat refine ok_seq ?_
      refine ok_if rfl (fun c2 => ?_) (fun c2 => ?_)
      · try simp at c2
        all_goals
          repeat refine ok_seq ?_
          refine ok_reg E [4] [] (by simp [-Option.some.injEq, -Prod.mk.injEq]; rfl) (by first | trivial | omega | simp | (simp; omega)) ?_
          refine ok_ret ⟨.inr rfl, ?_⟩
          -- ret1
          simp [resAll, resL, resA, frozE]
          intro h; have := h i (by omega) (by omega); omega
      · try simp at c2
        all_goals
          refine ok_skip ?_
          repeat refine ok_seq ?_
          refine ok_reg E [0, 1, 5] [] (by simp [-Option.some.injEq, -Prod.mk.injEq]; rfl) (by first | trivial | omega | simp | (simp; omega)) ?_
          -- end01
          exact ⟨i + 1, ⟨by omega, fun j h1 h2 h3 => by by_cases e : j = i; subst e; exact c2; exact hi j (by omega) h2 h3⟩, by omega, by constructor <;> simp (disch := omega) [EntF, EntH, EntB, Conv, scop, wrap_i64]⟩
  · try simp at c1
    all_goals
      skip
      refine ok_exit ?_
      repeat refine ok_seq ?_
      refine ok_reg E [4] [] (by simp [-Option.some.injEq, -Prod.mk.injEq]; rfl) (by first | trivial | omega | simp | (simp; omega)) ?_
      refine ok_ret ⟨.inr rfl, ?_⟩
      -- ret2
      simp [resAll, resL, resA, frozE]
      intro j h1 h2; exact hi j (by omega) h1 h2

set_option maxRecDepth 8000 in
set_option maxHeartbeats 4000000 in
theorem outN_ctr (g : Prg) (n : Int) : Ctr Tryz.prog 90 [.d .i n, .ptr 0 0] [.cells [.d .terms g.atoms, .d (.sl .rule) g.rules]] (.d .bool (outN g n)) [.cells [.d .terms g.atoms, .d (.sl .rule) g.rules]] := by
  refine ctr_full E Tryz.func90 rfl Tryz.ntmps90 Tryz.results90 (Nat.le_of_ble_eq_true rfl) 1 rfl rfl (by simp) (by simp) rfl ?_
  repeat refine ok_seq ?_
  refine ok_reg E [0, 1] [] (by simp [-Option.some.injEq, -Prod.mk.injEq]; rfl) (by first | trivial | omega | simp | (simp; omega)) ?_
  repeat refine ok_seq ?_
  refine ok_regJ E [(3, .d .bool (outN g n))] [] [3] [] ?_ ?_
  · skip
    by_cases q0 : n < 0
    · refine ⟨_, _, _, by simp [q0, outN, -Option.some.injEq, -Prod.mk.injEq]; rfl, (by first | trivial | omega | simp | (simp; omega)), by constructor <;> simp [EntF, EntH, EntB, Conv, scop, q0, outN] <;> first | omega | (rw [Bool.eq_iff_iff]; simp; omega)⟩
    refine ⟨_, _, _, by simp [q0, outN, -Option.some.injEq, -Prod.mk.injEq]; rfl, (by first | trivial | omega | simp | (simp; omega)), by constructor <;> simp [EntF, EntH, EntB, Conv, scop, q0, outN] <;> first | omega | (rw [Bool.eq_iff_iff]; simp; omega)⟩
  refine ok_ret ⟨.inr rfl, ?_⟩
  -- ret1
  simp

end Go.Proofs.YtgapiecbinplfaaGreat
/- Runes of a name: what they tell of its bytes; where package term finds a term's end. -/
namespace Go.Proofs.YtgapiecbinplfaaGreat
open Go.RowKit

def oddR (r : Int) : Bool := decide (r < 32 ∨ 126 < r ∨ r = 39)

theorem decode_low {s : ByteArray} {i : Nat} (h : (s.get! i).toNat < 128) : Utf8.decode s i = ((s.get! i).toNat, 1) := by
  unfold Utf8.decode; simp only [Nat.add_zero]; rw [if_pos h]
theorem decode_high {s : ByteArray} {i : Nat} (h : ¬ (s.get! i).toNat < 128) : 128 ≤ (Utf8.decode s i).1 := by
  unfold Utf8.decode; simp only [Nat.add_zero]; rw [if_neg h]
  repeat' split
  all_goals first | (simp [Utf8.runeError]; done) | (simp only; omega) | (rename_i hh; simp at hh; simp only; omega)
theorem okB_low {b : UInt8} (h : b.toNat < 128) : oddR (Int.ofNat b.toNat) = !okB b := by
  rw [Bool.eq_iff_iff]; simp [oddR, okB]; omega
theorem okB_high {b : UInt8} (h : ¬ b.toNat < 128) : okB b = false := by
  simp [okB]; omega

theorem rns_any (l : List UInt8) : ∀ (b i : Nat), l.length ≤ b + i → (rns ⟨l.toArray⟩ b i).any oddR = !(l.drop i).all okB
  | 0, i, h => by rw [List.drop_of_length_le (by omega)]; rfl
  | b + 1, i, h => by
    unfold rns
    have hs : (ByteArray.mk l.toArray).size = l.length := by simp [ByteArray.size]
    rw [hs]
    by_cases hi : i < l.length
    · rw [if_pos hi, List.drop_eq_getElem_cons hi, List.any_cons, List.all_cons, Bool.not_and]
      have hg : (ByteArray.mk l.toArray).get! i = l[i] := by
        simp [ByteArray.get!, hi]
      by_cases hb : (l[i]).toNat < 128
      · rw [decode_low (by rw [hg]; exact hb), hg, okB_low hb, rns_any l b (i + 1) (by omega)]
      · have h1 : oddR (Int.ofNat (Utf8.decode ⟨l.toArray⟩ i).1) = true := by
          have := decode_high (s := ⟨l.toArray⟩) (i := i) (by rw [hg]; exact hb)
          simp [oddR]; omega
        rw [h1, okB_high hb]; simp
    · rw [if_neg hi, List.drop_of_length_le (by omega)]; rfl
theorem runes_any (l : List UInt8) : (runes l).any oddR = !l.all okB := by
  have := rns_any l l.length 0 (by omega)
  simpa [runes] using this

def oddT (t : List Cell) : Bool := !(rightG t && (decide ((gc t 0).kind = 3) && groundG t))
def bsF (l : List Term) (t : Term) : Bool := decide (bsN l t 0 l.length < l.length ∧ cmpG (gt l (bsN l t 0 l.length : Nat)) t = 0)
theorem half_ok {i j : Nat} (h : i + j ≤ 9223372036854775807) : (IntKind.wrap .i64 (Int.fdiv (IntKind.wrap .u64 (IntKind.wrap .i64 ((i : Int) + j))) 2)) = ((i + j) / 2 : Nat) := by
  rw [wrap_i64 (n := (i : Int) + j) (by omega) (by omega), IntWalk.u64_in _ ⟨by omega, by omega⟩]
  have : Int.fdiv ((i : Int) + j) 2 = ((i + j) / 2 : Nat) := by
    rw [Int.fdiv_eq_ediv_of_nonneg _ (by omega)]; omega
  rw [this, wrap_i64 (by omega) (by omega)]
def findG (l : List Term) (t : Term) : Int := if bsF l t = true ∧ gt l (bsN l t 0 l.length : Nat) = t then (bsN l t 0 l.length : Nat) else -1

end Go.Proofs.YtgapiecbinplfaaGreat
/- Walks: package term: right. Printed by walk.py from annotations. -/
namespace Go.Proofs.YtgapiecbinplfaaGreat
open Go.RowKit


set_option maxRecDepth 8000 in
set_option maxHeartbeats 4000000 in
theorem oddR_ctr (r : Int) : Ctr Tryz.prog 239 [.d (.int .i32) r] [] (.d .bool (oddR r)) [] := by
  refine ctr_pure E Tryz.func239 rfl Tryz.ntmps239 Tryz.results239 (Nat.le_of_ble_eq_true rfl) rfl ?_
  repeat refine ok_seq ?_
  refine ok_reg E [0] [] (by simp [-Option.some.injEq, -Prod.mk.injEq]; rfl) (by first | trivial | omega | simp | (simp; omega)) ?_
  repeat refine ok_seq ?_
  refine ok_regJ E [(2, .d .bool (oddR r))] [] [2] [] ?_ ?_
  · skip
    by_cases q0 : r < 32
    · refine ⟨_, _, _, by simp [q0, oddR, -Option.some.injEq, -Prod.mk.injEq]; rfl, (by first | trivial | omega | simp | (simp; omega)), by constructor <;> simp [EntF, EntH, EntB, Conv, scop, q0, oddR] <;> first | omega | (rw [Bool.eq_iff_iff]; simp; omega)⟩
    by_cases q1 : 126 < r
    · refine ⟨_, _, _, by simp [q0, q1, oddR, -Option.some.injEq, -Prod.mk.injEq]; rfl, (by first | trivial | omega | simp | (simp; omega)), by constructor <;> simp [EntF, EntH, EntB, Conv, scop, q0, q1, oddR] <;> first | omega | (rw [Bool.eq_iff_iff]; simp; omega)⟩
    refine ⟨_, _, _, by simp [q0, q1, oddR, -Option.some.injEq, -Prod.mk.injEq]; rfl, (by first | trivial | omega | simp | (simp; omega)), by constructor <;> simp [EntF, EntH, EntB, Conv, scop, q0, q1, oddR] <;> first | omega | (rw [Bool.eq_iff_iff]; simp; omega)⟩
  refine ok_ret ⟨.inr rfl, ?_⟩
  -- ret1
  simp [resAll, resL, resA, frozE]

set_option maxRecDepth 8000 in
set_option maxHeartbeats 4000000 in
theorem idxOdd_ctr (l : List Int)  : Ctr Tryz.prog 279 [.d (.sl (.int .i32)) l, .fn 239 []] [] (.d .i (idxP oddR l 0)) [] := by
  refine ctr_pure E Tryz.func279 rfl Tryz.ntmps279 Tryz.results279 (Nat.le_of_ble_eq_true rfl) rfl ?_
  repeat refine ok_seq ?_
  refine ok_reg E [0, 1] [] (by simp [-Option.some.injEq, -Prod.mk.injEq]; rfl) (by first | trivial | omega | simp | (simp; omega)) ?_
  repeat refine ok_seq ?_
  refine ok_reg E [0, 1, 7, 8] [] (by simp [-Option.some.injEq, -Prod.mk.injEq]; rfl) (by first | trivial | omega | simp | (simp; omega)) ?_
  repeat refine ok_seq ?_
  refine ok_block ?_
  repeat refine ok_seq ?_
  refine ok_lenN 0 rfl fun ha => ?_
  refine ok_loop (σ := Nat) (fun i => [(0, .d (.sl (.int .i32)) l), (1, .fn 239 []), (7, .d .i (l.length : Int)), (8, .d .i (i : Int))]) (fun i => []) (fun i => i ≤ l.length ∧ idxP oddR (l.drop i) i = idxP oddR l 0) (fun i => l.length - i) 0 (by simp) ?_ ?_
  · constructor <;> simp [EntF, EntH, EntB, Conv, scop]
  rintro i ⟨hi1, hi⟩
  repeat refine ok_seq ?_
  refine ok_reg E [0, 1, 7, 8, 9] [] (by simp [-Option.some.injEq, -Prod.mk.injEq]; rfl) (by first | trivial | omega | simp | (simp; omega)) ?_
  repeat refine ok_seq ?_
  refine ok_if rfl (fun c1 => ?_) (fun c1 => ?_)
  · try simp at c1
    all_goals
      refine ok_skip ?_
      repeat refine ok_seq ?_
      refine ok_block ?_
      repeat refine ok_seq ?_
      refine ok_reg E [0, 1, 5, 7, 8] [] (by simp [-Option.some.injEq, -Prod.mk.injEq]; rfl) (by first | trivial | omega | simp | (simp; omega)) ?_
      repeat refine ok_seq ?_
      refine ok_reg E [0, 1, 5, 7, 8, 16] [.pure (.d .bool (oddR (gi l i)))] (by simp [-Option.some.injEq, -Prod.mk.injEq]; rfl) (by first | (simp; done) | (have k1 := oddR_ctr (gi l i); (try simp at k1); simp [k1, Takes]; try omega)) ?_
      repeat refine ok_seq ?_
      refine ok_if rfl (fun c2 => ?_) (fun c2 => ?_)
      · try simp at c2
        all_goals
          repeat refine ok_seq ?_
          refine ok_reg E [4] [] (by simp [-Option.some.injEq, -Prod.mk.injEq]; rfl) (by first | trivial | omega | simp | (simp; omega)) ?_
          refine ok_ret ⟨.inr rfl, ?_⟩
          -- ret1
          simp [resAll, resL, resA, frozE]
          rw [← hi, List.drop_eq_getElem_cons c1, idxP, ← gi_lt c1, if_pos c2]
      · try simp at c2
        all_goals
          refine ok_skip ?_
          repeat refine ok_seq ?_
          refine ok_reg E [0, 1, 7, 8] [] (by simp [-Option.some.injEq, -Prod.mk.injEq]; rfl) (by first | trivial | omega | simp | (simp; omega)) ?_
          -- end01
          exact ⟨i + 1, ⟨by omega, by rw [← hi, List.drop_eq_getElem_cons c1, idxP, ← gi_lt c1, if_neg (by simp [c2])]⟩, by omega, by constructor <;> simp (disch := omega) [EntF, EntH, EntB, Conv, scop, wrap_i64]⟩
  · try simp at c1
    all_goals
      refine ok_exit ?_
      repeat refine ok_seq ?_
      refine ok_reg E [4] [] (by simp [-Option.some.injEq, -Prod.mk.injEq]; rfl) (by first | trivial | omega | simp | (simp; omega)) ?_
      refine ok_ret ⟨.inr rfl, ?_⟩
      -- ret2
      simp [resAll, resL, resA, frozE]
      rw [← hi, List.drop_of_length_le (by omega)]; rfl

set_option maxRecDepth 8000 in
set_option maxHeartbeats 4000000 in
theorem anyOdd_ctr (l : List Int)  : Ctr Tryz.prog 240 [.d (.sl (.int .i32)) l, .fn 239 []] [] (.d .bool (l.any oddR)) [] := by
  refine ctr_pure E Tryz.func240 rfl Tryz.ntmps240 Tryz.results240 (Nat.le_of_ble_eq_true rfl) rfl ?_
  repeat refine ok_seq ?_
  refine ok_reg E [0, 1] [] (by simp [-Option.some.injEq, -Prod.mk.injEq]; rfl) (by first | trivial | omega | simp | (simp; omega)) ?_
  repeat refine ok_seq ?_
  refine ok_reg E [4] [.pure (.d .i (idxP oddR l 0))] (by simp [-Option.some.injEq, -Prod.mk.injEq]; rfl) (by (have k1 := idxOdd_ctr l; (try simp at k1); simp [k1, Takes]; try omega)) ?_
  refine ok_ret ⟨.inr rfl, ?_⟩
  -- ret1
  simp [resAll, resL, resA, frozE]
  first | done | (have := idxP_any oddR l 0; rw [Bool.eq_iff_iff]; simpa using this)

set_option maxRecDepth 8000 in
set_option maxHeartbeats 4000000 in
theorem cellG_ctr (c : Cell) : Ctr Tryz.prog 206 [avOf .cell c] [] (.d .bool (cellOk c)) [] := by
  refine ctr_pure E Tryz.func206 rfl Tryz.ntmps206 Tryz.results206 (Nat.le_of_ble_eq_true rfl) rfl ?_
  have k1 := inI_ctr c.n 0 999
  have k2 := inI_ctr c.n (-2147483647) 2147483647
  have k3 := inI_ctr c.n 0 6
  have k4 := inI_ctr c.name.length 1 12
  have k5 := anyOdd_ctr (runes c.name)
  have k6 : inI c.name.length 1 12 = true → c.name.length ≤ big := by intro h; simp [inI] at h; simp [big]; omega
  repeat refine ok_seq ?_
  refine ok_reg E [1] [] (by simp [-Option.some.injEq, -Prod.mk.injEq]; rfl) (by first | trivial | omega | simp | (simp; omega)) ?_
  repeat refine ok_seq ?_
  refine ok_reg E [1, 5] [] (by simp [-Option.some.injEq, -Prod.mk.injEq]; rfl) (by first | trivial | omega | simp | (simp; omega)) ?_
  repeat refine ok_seq ?_
  refine ok_block ?_
  repeat refine ok_seq ?_
  refine ok_reg E [1, 5, 6] [] (by simp [-Option.some.injEq, -Prod.mk.injEq]; rfl) (by first | trivial | omega | simp | (simp; omega)) ?_
  repeat refine ok_seq ?_
  refine ok_if rfl (fun c1 => ?_) (fun c1 => ?_)
  · try simp at c1
    all_goals
      repeat refine ok_seq ?_
      refine ok_regJ E [(2, .d .bool (decide (c.name = []) && inI c.n 0 999))] [] [2] [.pure (.d .bool (inI c.n 0 999))] ?_ ?_
      · skip
        by_cases q0 : c.name = []
        rotate_left
        · refine ⟨_, _, _, by simp [q0, c1, -Option.some.injEq, -Prod.mk.injEq]; rfl, (by first | trivial | (simp_all; done) | (simp_all; omega)), by constructor <;> simp [EntF, EntH, EntB, Conv, scop, q0, c1] <;> first | omega | (rw [Bool.eq_iff_iff]; simp; omega)⟩
        refine ⟨_, _, _, by simp [q0, c1, -Option.some.injEq, -Prod.mk.injEq]; rfl, (by first | trivial | (simp_all; done) | (simp_all; omega)), by constructor <;> simp [EntF, EntH, EntB, Conv, scop, q0, c1] <;> first | omega | (rw [Bool.eq_iff_iff]; simp; omega)⟩
      refine ok_ret ⟨.inr rfl, ?_⟩
      -- ret1
      simp [resAll, resL, resA, frozE]
      simp [cellOk, inI, c1]
  · try simp at c1
    all_goals
      repeat refine ok_seq ?_
      refine ok_reg E [1, 5, 18] [] (by simp [-Option.some.injEq, -Prod.mk.injEq]; rfl) (by first | trivial | omega | simp | (simp; omega)) ?_
      repeat refine ok_seq ?_
      refine ok_if rfl (fun c2 => ?_) (fun c2 => ?_)
      · try simp at c2
        all_goals
          repeat refine ok_seq ?_
          refine ok_regJ E [(2, .d .bool (decide (c.name = []) && inI c.n (-2147483647) 2147483647))] [] [2] [.pure (.d .bool (inI c.n (-2147483647) 2147483647))] ?_ ?_
          · skip
            by_cases q0 : c.name = []
            rotate_left
            · refine ⟨_, _, _, by simp [q0, c2, -Option.some.injEq, -Prod.mk.injEq]; rfl, (by first | trivial | (simp_all; done) | (simp_all; omega)), by constructor <;> simp [EntF, EntH, EntB, Conv, scop, q0, c2] <;> first | omega | (rw [Bool.eq_iff_iff]; simp; omega)⟩
            refine ⟨_, _, _, by simp [q0, c2, -Option.some.injEq, -Prod.mk.injEq]; rfl, (by first | trivial | (simp_all; done) | (simp_all; omega)), by constructor <;> simp [EntF, EntH, EntB, Conv, scop, q0, c2] <;> first | omega | (rw [Bool.eq_iff_iff]; simp; omega)⟩
          refine ok_ret ⟨.inr rfl, ?_⟩
          -- ret2
          simp [resAll, resL, resA, frozE]
          simp [cellOk, inI, c2]
      · try simp at c2
        all_goals
          repeat refine ok_seq ?_
          refine ok_reg E [1, 30] [] (by simp [-Option.some.injEq, -Prod.mk.injEq]; rfl) (by first | trivial | omega | simp | (simp; omega)) ?_
          repeat refine ok_seq ?_
          refine ok_if rfl (fun c3 => ?_) (fun c3 => ?_)
          · try simp at c3
            all_goals
              repeat refine ok_seq ?_
              refine ok_reg E [1, 3] [] (by simp [-Option.some.injEq, -Prod.mk.injEq]; rfl) (by first | trivial | omega | simp | (simp; omega)) ?_
              repeat refine ok_seq ?_
              refine ok_regJ E [(2, .d .bool (inI c.n 0 6 && (inI c.name.length 1 12 && !(runes c.name).any oddR)))] [] [2] [.pure (.d .bool (inI c.n 0 6)), .pure (.d .bool (inI c.name.length 1 12)), .pure (.d .bool ((runes c.name).any oddR))] ?_ ?_
              · skip
                by_cases q0 : inI c.n 0 6 = true
                rotate_left
                · refine ⟨_, _, _, by simp [q0, -Option.some.injEq, -Prod.mk.injEq]; rfl, (by first | trivial | (simp_all; done) | (simp_all; omega)), by constructor <;> simp [EntF, EntH, EntB, Conv, scop, q0] <;> first | omega | (rw [Bool.eq_iff_iff]; simp; omega)⟩
                by_cases q1 : inI c.name.length 1 12 = true
                rotate_left
                · refine ⟨_, _, _, by simp [q0, q1, -Option.some.injEq, -Prod.mk.injEq]; rfl, (by first | trivial | (simp_all; done) | (simp_all; omega)), by constructor <;> simp [EntF, EntH, EntB, Conv, scop, q0, q1] <;> first | omega | (rw [Bool.eq_iff_iff]; simp; omega)⟩
                refine ⟨_, _, _, by simp [q0, q1, -Option.some.injEq, -Prod.mk.injEq]; rfl, (by first | trivial | (simp_all; done) | (simp_all; omega)), by constructor <;> simp [EntF, EntH, EntB, Conv, scop, q0, q1] <;> first | omega | (rw [Bool.eq_iff_iff]; simp; omega)⟩
              refine ok_ret ⟨.inr rfl, ?_⟩
              -- ret3
              simp [resAll, resL, resA, frozE]
              rw [runes_any]; simp only [cellOk, nameOk, inI, c3, Bool.not_not]; rw [Bool.eq_iff_iff]; simp; constructor
              · intro h; exact ⟨⟨⟨by omega, by omega⟩, h.2.2⟩, h.1⟩
              · intro h; exact ⟨h.2, ⟨by omega, by omega⟩, h.1.2⟩
          · try simp at c3
            all_goals
              refine ok_skip ?_
              repeat refine ok_seq ?_
              refine ok_reg E [2] [] (by simp [-Option.some.injEq, -Prod.mk.injEq]; rfl) (by first | trivial | omega | simp | (simp; omega)) ?_
              refine ok_ret ⟨.inr rfl, ?_⟩
              -- ret4
              simp [resAll, resL, resA, frozE]
              simp [cellOk, *]

set_option maxRecDepth 8000 in
set_option maxHeartbeats 4000000 in
theorem visG_step_ctr (t : List Cell) (hl : t.length ≤ 1000) (f k : Nat) (hk : t.length ≤ k + (f + 1)) (hk2 : k ≤ t.length) (ih : k < t.length → ∀ k2 : Nat, t.length ≤ k2 + f → k2 ≤ t.length → Ctr Tryz.prog 205 [.d .i (k2 : Int), .ptr 0 0, .ptr 1 0] [.cells [.d .term t], .cells [.fn 205 [(0, 0), (1, 0)]]] (.d .i (visG t f k2 : Nat)) [.cells [.d .term t], .cells [.fn 205 [(0, 0), (1, 0)]]]) : Ctr Tryz.prog 205 [.d .i (k : Int), .ptr 0 0, .ptr 1 0] [.cells [.d .term t], .cells [.fn 205 [(0, 0), (1, 0)]]] (.d .i (visG t (f + 1) k : Nat)) [.cells [.d .term t], .cells [.fn 205 [(0, 0), (1, 0)]]] := by
  refine ctr_full E Tryz.func205 rfl Tryz.ntmps205 Tryz.results205 (Nat.le_of_ble_eq_true rfl) 2 rfl rfl (by simp) (by simp) rfl ?_
  have k1 := cellG_ctr (gc t k)
  have w1 := wrap_i64 (n := (k : Int) + 1) (by omega) (by omega)
  repeat refine ok_seq ?_
  refine ok_reg E [0, 1, 2] [] (by simp [-Option.some.injEq, -Prod.mk.injEq]; rfl) (by first | trivial | omega | simp | (simp; omega)) ?_
  repeat refine ok_seq ?_
  refine ok_regJ E [(17, .d .bool (decide (¬ (k < t.length ∧ cellOk (gc t k) = true))))] [0, 1, 2] [0, 1, 2, 17] [.pure (.d .bool (cellOk (gc t k)))] ?_ ?_
  · skip
    by_cases q0 : t.length ≤ k
    · refine ⟨_, _, _, by simp [q0, -Option.some.injEq, -Prod.mk.injEq]; rfl, (by first | trivial | (simp_all; done) | (simp_all; omega)), by constructor <;> simp [EntF, EntH, EntB, Conv, scop, q0] <;> first | omega | (rw [Bool.eq_iff_iff]; simp; omega)⟩
    by_cases q1 : cellOk (gc t k) = true <;> (
    refine ⟨_, _, _, by simp [q0, q1, -Option.some.injEq, -Prod.mk.injEq]; rfl, (by first | trivial | (simp_all; done) | (simp_all; omega)), by constructor <;> simp [EntF, EntH, EntB, Conv, scop, q0, q1] <;> first | omega | (rw [Bool.eq_iff_iff]; simp; omega)⟩)
  repeat refine ok_seq ?_
  refine ok_if rfl (fun c1 => ?_) (fun c1 => ?_)
  · try simp at c1
    all_goals
      skip
      repeat refine ok_seq ?_
      refine ok_reg E [4] [] (by simp [-Option.some.injEq, -Prod.mk.injEq]; rfl) (by first | trivial | omega | simp | (simp; omega)) ?_
      refine ok_ret ⟨.inr rfl, ?_⟩
      -- ret1
      have e : visG t (f + 1) k = 0 := by
        rw [visG, if_neg]
        intro h; rcases c1 with c | c
        · omega
        · rw [h.2] at c; cases c
      simp [e]
  · try simp at c1
    all_goals
      have k2 := fun h => cellOk_n (c := gc t k) c1.2 h
      refine ok_skip ?_
      repeat refine ok_seq ?_
      refine ok_reg E [0, 1, 2, 5] [] (by simp [w1, -Option.some.injEq, -Prod.mk.injEq]; rfl) (by first | trivial | omega | simp | (simp; omega)) ?_
      repeat refine ok_seq ?_
      refine ok_reg E [0, 1, 2, 5, 25] [] (by simp [-Option.some.injEq, -Prod.mk.injEq]; rfl) (by first | trivial | omega | simp | (simp; omega)) ?_
      repeat refine ok_seq ?_
      refine ok_if rfl (fun c2 => ?_) (fun c2 => ?_)
      · try simp at c2
        all_goals
          repeat refine ok_seq ?_
          refine ok_reg E [4] [] (by simp [-Option.some.injEq, -Prod.mk.injEq]; rfl) (by first | trivial | omega | simp | (simp; omega)) ?_
          refine ok_ret ⟨.inr rfl, ?_⟩
          -- ret2
          have e : visG t (f + 1) k = k + 1 := by rw [visG, if_pos c1, if_neg c2]
          simp [e]
      · try simp at c2
        all_goals
          refine ok_skip ?_
          repeat refine ok_seq ?_
          refine ok_reg E [2, 5, 31, 32] [] (by simp [-Option.some.injEq, -Prod.mk.injEq]; rfl) (by first | trivial | omega | simp | (simp; omega)) ?_
          repeat refine ok_seq ?_
          refine ok_block ?_
          repeat refine ok_seq ?_
          have k3 := k2 c2
          refine ok_loop (σ := (Nat × Nat)) (fun s => [(2, .ptr 1 0), (5, .d .i (s.2 : Int)), (31, .d .i (gc t k).n), (32, .d .i (s.1 : Int))]) (fun s => [.cells [.d .term t], .cells [.fn 205 [(0, 0), (1, 0)]]]) (fun s => (s.1 : Int) ≤ (gc t k).n ∧ k + 1 ≤ s.2 ∧ s.2 ≤ t.length ∧ loopG (visG t f) ((gc t k).n.toNat - s.1) s.2 = loopG (visG t f) (gc t k).n.toNat (k + 1)) (fun s => (gc t k).n.toNat - s.1) (0, k + 1) (by simp; omega) ?_ ?_
          · constructor <;> simp [EntF, EntH, EntB, Conv, scop]
          rintro ⟨i, x⟩ ⟨hi1, hx1, hx2, hi⟩
          simp only at hi1 hx1 hx2 hi ⊢
          repeat refine ok_seq ?_
          refine ok_reg E [2, 5, 31, 32, 33] [] (by simp [-Option.some.injEq, -Prod.mk.injEq]; rfl) (by first | trivial | omega | simp | (simp; omega)) ?_
          repeat refine ok_seq ?_
          refine ok_if rfl (fun c3 => ?_) (fun c3 => ?_)
          · try simp at c3
            all_goals
              refine ok_skip ?_
              repeat refine ok_seq ?_
              refine ok_block ?_
              repeat refine ok_seq ?_
              refine ok_reg E [2, 5, 31, 32] [.full [0, 1] [.d .i (x : Int), .ptr 0 0, .ptr 1 0] [.cells [.d .term t], .cells [.fn 205 [(0, 0), (1, 0)]]] (.d .i (visG t f x : Nat)) [.cells [.d .term t], .cells [.fn 205 [(0, 0), (1, 0)]]]] (by simp [-Option.some.injEq, -Prod.mk.injEq]; rfl) (by exact ⟨ih c1.1 x (by omega) (by omega), Takes.of (by decide) (by simp)⟩) ?_
              repeat refine ok_seq ?_
              refine ok_reg E [2, 5, 31, 32, 38] [] (by simp [-Option.some.injEq, -Prod.mk.injEq]; rfl) (by first | trivial | omega | simp | (simp; omega)) ?_
              repeat refine ok_seq ?_
              refine ok_if rfl (fun c4 => ?_) (fun c4 => ?_)
              · try simp at c4
                all_goals
                  repeat refine ok_seq ?_
                  refine ok_reg E [4] [] (by simp [-Option.some.injEq, -Prod.mk.injEq]; rfl) (by first | trivial | omega | simp | (simp; omega)) ?_
                  refine ok_ret ⟨.inr rfl, ?_⟩
                  -- ret3
                  have e : visG t (f + 1) k = 0 := by rw [visG, if_pos c1, if_pos c2, ← hi, show (gc t k).n.toNat - i = (gc t k).n.toNat - i - 1 + 1 by omega, loopG, if_pos c4]
                  simp [e]
              · try simp at c4
                all_goals
                  refine ok_skip ?_
                  repeat refine ok_seq ?_
                  refine ok_reg E [2, 5, 31, 32] [] (by simp [-Option.some.injEq, -Prod.mk.injEq]; rfl) (by first | trivial | omega | simp | (simp; omega)) ?_
                  -- end01
                  obtain ⟨h1, h2⟩ := visG_gt t f x c4
                  refine ⟨(i + 1, visG t f x), ⟨by simp; omega, by simp only; omega, h2, ?_⟩, by simp only; omega, by constructor <;> simp (disch := omega) [EntF, EntH, EntB, Conv, scop, wrap_i64]⟩
                  simp only
                  rw [← hi, show (gc t k).n.toNat - i = (gc t k).n.toNat - (i + 1) + 1 by omega, loopG, if_neg c4]
          · try simp at c3
            all_goals
              refine ok_exit ?_
              repeat refine ok_seq ?_
              refine ok_reg E [4] [] (by simp [-Option.some.injEq, -Prod.mk.injEq]; rfl) (by first | trivial | omega | simp | (simp; omega)) ?_
              refine ok_ret ⟨.inr rfl, ?_⟩
              -- ret4
              have e : visG t (f + 1) k = x := by rw [visG, if_pos c1, if_pos c2, ← hi, show (gc t k).n.toNat - i = 0 by omega, loopG]
              simp [e]

end Go.Proofs.YtgapiecbinplfaaGreat
