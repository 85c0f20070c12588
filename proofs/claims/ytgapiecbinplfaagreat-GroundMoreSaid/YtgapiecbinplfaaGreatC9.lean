/- Own framework, walks and plain laws behind the laws of this seat, part C9: lemmas, no statement of the seat. -/
import Derived.Test.YtgapiecbinplfaaGreatC8
import Derived.Shelf.SlSortCmp.NoneTotal
import Derived.Shelf.SlicesE.Clone
import Derived.KernelRfl
set_option linter.all false
/- Walks: package ground: right. Printed by walk.py from annotations. -/
namespace Go.Proofs.YtgapiecbinplfaaGreat
open Go.RowKit


set_option maxRecDepth 8000 in
set_option maxHeartbeats 4000000 in
theorem idxOut_ctr (l : List Int) (g : Prg) : Ctr Tryz.prog 158 [.d (.sl .i) l, .fn 90 [(0, 0)]] [.cells [.d .terms g.atoms, .d (.sl .rule) g.rules]] (.d .i (idxP (outN g) l 0)) [.cells [.d .terms g.atoms, .d (.sl .rule) g.rules]] := by
  refine ctr_full E Tryz.func158 rfl Tryz.ntmps158 Tryz.results158 (Nat.le_of_ble_eq_true rfl) 1 rfl rfl (by simp) (by simp) rfl ?_
  repeat refine ok_seq ?_
  refine ok_reg E [0, 1] [] (by simp [-Option.some.injEq, -Prod.mk.injEq]; rfl) (by first | trivial | omega | simp | (simp; omega)) ?_
  repeat refine ok_seq ?_
  refine ok_reg E [0, 1, 7, 8] [] (by simp [-Option.some.injEq, -Prod.mk.injEq]; rfl) (by first | trivial | omega | simp | (simp; omega)) ?_
  repeat refine ok_seq ?_
  refine ok_block ?_
  repeat refine ok_seq ?_
  refine ok_lenN 0 rfl fun ha => ?_
  refine ok_loop (σ := Nat) (fun i => [(0, .d (.sl .i) l), (1, .fn 90 [(0, 0)]), (7, .d .i (l.length : Int)), (8, .d .i (i : Int))]) (fun i => [.cells [.d .terms g.atoms, .d (.sl .rule) g.rules]]) (fun i => i ≤ l.length ∧ idxP (outN g) (l.drop i) i = idxP (outN g) l 0) (fun i => l.length - i) 0 (by simp) ?_ ?_
  · constructor <;> simp [EntF, EntH, EntB, Conv, scop]
  rintro i ⟨hi1, hi⟩
  repeat refine ok_seq ?_
  refine ok_reg E [0, 1, 7, 8, 9] [] (by simp [-Option.some.injEq, -Prod.mk.injEq]; rfl) (by first | trivial | omega | simp | (simp; omega)) ?_
  repeat refine ok_seq ?_
  refine ok_if rfl (fun c1 => ?_) (fun c1 => ?_)
  · try simp at c1
    all_goals
      refine ok_skip ?_
      repeat refine ok_seq ?_
      refine ok_block ?_
      repeat refine ok_seq ?_
      refine ok_reg E [0, 1, 5, 7, 8] [] (by simp [-Option.some.injEq, -Prod.mk.injEq]; rfl) (by first | trivial | omega | simp | (simp; omega)) ?_
      repeat refine ok_seq ?_
      refine ok_reg E [0, 1, 5, 7, 8, 16] [.full (List.range 1) [.d .i (gi l i), .ptr 0 0] [.cells [.d .terms g.atoms, .d (.sl .rule) g.rules]] (.d .bool ((outN g) (gi l i))) [.cells [.d .terms g.atoms, .d (.sl .rule) g.rules]]] (by simp [-Option.some.injEq, -Prod.mk.injEq]; rfl) (by first | (simp; done) | (have k1 := outN_ctr g (gi l i); (try simp at k1); simp [k1]; (try (repeat' apply And.intro)) <;> first | omega | exact Takes.of (by decide) (by simp))) ?_
      repeat refine ok_seq ?_
      refine ok_if rfl (fun c2 => ?_) (fun c2 => ?_)
      · try simp at c2
        all_goals
          repeat refine ok_seq ?_
          refine ok_reg E [4] [] (by simp [-Option.some.injEq, -Prod.mk.injEq]; rfl) (by first | trivial | omega | simp | (simp; omega)) ?_
          refine ok_ret ⟨.inr rfl, ?_⟩
          -- ret1
          simp [resAll, resL, resA, frozE]
          rw [← hi, List.drop_eq_getElem_cons c1, idxP, ← gi_lt c1, if_pos c2]
      · try simp at c2
        all_goals
          refine ok_skip ?_
          repeat refine ok_seq ?_
          refine ok_reg E [0, 1, 7, 8] [] (by simp [-Option.some.injEq, -Prod.mk.injEq]; rfl) (by first | trivial | omega | simp | (simp; omega)) ?_
          -- end01
          exact ⟨i + 1, ⟨by omega, by rw [← hi, List.drop_eq_getElem_cons c1, idxP, ← gi_lt c1, if_neg (by simp [c2])]⟩, by omega, by constructor <;> simp (disch := omega) [EntF, EntH, EntB, Conv, scop, wrap_i64]⟩
  · try simp at c1
    all_goals
      refine ok_exit ?_
      repeat refine ok_seq ?_
      refine ok_reg E [4] [] (by simp [-Option.some.injEq, -Prod.mk.injEq]; rfl) (by first | trivial | omega | simp | (simp; omega)) ?_
      refine ok_ret ⟨.inr rfl, ?_⟩
      -- ret2
      simp [resAll, resL, resA, frozE]
      rw [← hi, List.drop_of_length_le (by omega)]; rfl

set_option maxRecDepth 8000 in
set_option maxHeartbeats 4000000 in
theorem anyOut_ctr (l : List Int) (g : Prg) : Ctr Tryz.prog 92 [.d (.sl .i) l, .fn 90 [(0, 0)]] [.cells [.d .terms g.atoms, .d (.sl .rule) g.rules]] (.d .bool (l.any (outN g))) [.cells [.d .terms g.atoms, .d (.sl .rule) g.rules]] := by
  refine ctr_full E Tryz.func92 rfl Tryz.ntmps92 Tryz.results92 (Nat.le_of_ble_eq_true rfl) 1 rfl rfl (by simp) (by simp) rfl ?_
  repeat refine ok_seq ?_
  refine ok_reg E [0, 1] [] (by simp [-Option.some.injEq, -Prod.mk.injEq]; rfl) (by first | trivial | omega | simp | (simp; omega)) ?_
  repeat refine ok_seq ?_
  refine ok_reg E [4] [.full (List.range 1) [.d (.sl .i) l, .fn 90 [(0, 0)]] [.cells [.d .terms g.atoms, .d (.sl .rule) g.rules]] (.d .i (idxP (outN g) l 0)) [.cells [.d .terms g.atoms, .d (.sl .rule) g.rules]]] (by simp [-Option.some.injEq, -Prod.mk.injEq]; rfl) (by (have k1 := idxOut_ctr l g; (try simp at k1); simp [k1]; (try (repeat' apply And.intro)) <;> first | omega | exact Takes.of (by decide) (by simp))) ?_
  refine ok_ret ⟨.inr rfl, ?_⟩
  -- ret1
  simp [resAll, resL, resA, frozE]
  first | done | (have := idxP_any (outN g) l 0; rw [Bool.eq_iff_iff]; simpa using this)

set_option maxRecDepth 8000 in
set_option maxHeartbeats 4000000 in
theorem wrongN_ctr (g : Prg) (l : List Int) : Ctr Tryz.prog 91 [.d .ints l, .ptr 0 0] [.cells [.fn 90 [(1, 0)]], .cells [.d .terms g.atoms, .d (.sl .rule) g.rules]] (.d .bool (wrongN g l)) [.cells [.fn 90 [(1, 0)]], .cells [.d .terms g.atoms, .d (.sl .rule) g.rules]] := by
  refine ctr_full E Tryz.func91 rfl Tryz.ntmps91 Tryz.results91 (Nat.le_of_ble_eq_true rfl) 2 rfl rfl (by simp) (by simp) rfl ?_
  have k1 := anyOut_ctr l g
  have k2 := risesI_ctr l
  repeat refine ok_seq ?_
  refine ok_reg E [0, 1] [] (by simp [-Option.some.injEq, -Prod.mk.injEq]; rfl) (by first | trivial | omega | simp | (simp; omega)) ?_
  repeat refine ok_seq ?_
  refine ok_regJ E [(3, .d .bool (wrongN g l))] [] [3] [.full [1] [.d .ints l, .fn 90 [(0, 0)]] [.cells [.d .terms g.atoms, .d (.sl .rule) g.rules]] (.d .bool (l.any (outN g))) [.cells [.d .terms g.atoms, .d (.sl .rule) g.rules]], .pure (.d .bool (decide (risesP cmpI (gi l) l.length)))] ?_ ?_
  · skip
    by_cases q0 : l.any (outN g) = true
    · refine ⟨_, _, _, by simp [q0, wrongN, Takes, -Option.some.injEq, -Prod.mk.injEq]; rfl, (by first | trivial | ((simp_all; try (repeat' apply And.intro)) <;> first | done | omega | exact Takes.of (by decide) (by simp))), by constructor <;> simp [EntF, EntH, EntB, Conv, scop, q0, wrongN, Takes] <;> first | omega | (rw [Bool.eq_iff_iff]; simp; omega)⟩
    refine ⟨_, _, _, by simp [q0, wrongN, Takes, -Option.some.injEq, -Prod.mk.injEq]; rfl, (by first | trivial | ((simp_all; try (repeat' apply And.intro)) <;> first | done | omega | exact Takes.of (by decide) (by simp))), by constructor <;> simp [EntF, EntH, EntB, Conv, scop, q0, wrongN, Takes] <;> first | omega | (rw [Bool.eq_iff_iff]; simp; omega)⟩
  refine ok_ret ⟨.inr rfl, ?_⟩
  -- ret1
  simp

set_option maxRecDepth 8000 in
set_option maxHeartbeats 4000000 in
theorem oddRule_ctr (g : Prg) (r : Rule) : Ctr Tryz.prog 96 [avOf .rule r, .ptr 0 0, .ptr 1 0] [.cells [.fn 90 [(2, 0)]], .cells [.fn 91 [(0, 0)]], .cells [.d .terms g.atoms, .d (.sl .rule) g.rules]] (.d .bool (oddRule g r)) [.cells [.fn 90 [(2, 0)]], .cells [.fn 91 [(0, 0)]], .cells [.d .terms g.atoms, .d (.sl .rule) g.rules]] := by
  refine ctr_full E Tryz.func96 rfl Tryz.ntmps96 Tryz.results96 (Nat.le_of_ble_eq_true rfl) 3 rfl rfl (by simp) (by simp) rfl ?_
  have k1 := outN_ctr g r.head
  have k2 := wrongN_ctr g r.pos
  have k3 := wrongN_ctr g r.neg
  repeat refine ok_seq ?_
  refine ok_reg E [1, 2, 3] [] (by simp [-Option.some.injEq, -Prod.mk.injEq]; rfl) (by first | trivial | omega | simp | (simp; omega)) ?_
  repeat refine ok_seq ?_
  refine ok_regJ E [(4, .d .bool (oddRule g r))] [] [4] [.full [2] [.d .i r.head, .ptr 0 0] [.cells [.d .terms g.atoms, .d (.sl .rule) g.rules]] (.d .bool (outN g r.head)) [.cells [.d .terms g.atoms, .d (.sl .rule) g.rules]], .full [0, 2] [.d .ints r.pos, .ptr 0 0] [.cells [.fn 90 [(1, 0)]], .cells [.d .terms g.atoms, .d (.sl .rule) g.rules]] (.d .bool (wrongN g r.pos)) [.cells [.fn 90 [(1, 0)]], .cells [.d .terms g.atoms, .d (.sl .rule) g.rules]], .full [0, 2] [.d .ints r.neg, .ptr 0 0] [.cells [.fn 90 [(1, 0)]], .cells [.d .terms g.atoms, .d (.sl .rule) g.rules]] (.d .bool (wrongN g r.neg)) [.cells [.fn 90 [(1, 0)]], .cells [.d .terms g.atoms, .d (.sl .rule) g.rules]]] ?_ ?_
  · skip
    by_cases q0 : outN g r.head = true
    · refine ⟨_, _, _, by simp [q0, oddRule, Takes, -Option.some.injEq, -Prod.mk.injEq]; rfl, (by first | trivial | ((simp_all; try (repeat' apply And.intro)) <;> first | done | omega | exact Takes.of (by decide) (by simp))), by constructor <;> simp [EntF, EntH, EntB, Conv, scop, q0, oddRule, Takes] <;> first | omega | (rw [Bool.eq_iff_iff]; simp; omega)⟩
    by_cases q1 : wrongN g r.pos = true
    · refine ⟨_, _, _, by simp [q0, q1, oddRule, Takes, -Option.some.injEq, -Prod.mk.injEq]; rfl, (by first | trivial | ((simp_all; try (repeat' apply And.intro)) <;> first | done | omega | exact Takes.of (by decide) (by simp))), by constructor <;> simp [EntF, EntH, EntB, Conv, scop, q0, q1, oddRule, Takes] <;> first | omega | (rw [Bool.eq_iff_iff]; simp; omega)⟩
    refine ⟨_, _, _, by simp [q0, q1, oddRule, Takes, -Option.some.injEq, -Prod.mk.injEq]; rfl, (by first | trivial | ((simp_all; try (repeat' apply And.intro)) <;> first | done | omega | exact Takes.of (by decide) (by simp))), by constructor <;> simp [EntF, EntH, EntB, Conv, scop, q0, q1, oddRule, Takes] <;> first | omega | (rw [Bool.eq_iff_iff]; simp; omega)⟩
  refine ok_ret ⟨.inr rfl, ?_⟩
  -- ret1
  simp

set_option maxRecDepth 8000 in
set_option maxHeartbeats 4000000 in
theorem idxRule_ctr (l : List Rule) (g : Prg) : Ctr Tryz.prog 160 [.d (.sl .rule) l, .fn 96 [(0, 0), (1, 0)]] [.cells [.fn 90 [(2, 0)]], .cells [.fn 91 [(0, 0)]], .cells [.d .terms g.atoms, .d (.sl .rule) g.rules]] (.d .i (idxP (oddRule g) l 0)) [.cells [.fn 90 [(2, 0)]], .cells [.fn 91 [(0, 0)]], .cells [.d .terms g.atoms, .d (.sl .rule) g.rules]] := by
  refine ctr_full E Tryz.func160 rfl Tryz.ntmps160 Tryz.results160 (Nat.le_of_ble_eq_true rfl) 3 rfl rfl (by simp) (by simp) rfl ?_
  repeat refine ok_seq ?_
  refine ok_reg E [0, 1] [] (by simp [-Option.some.injEq, -Prod.mk.injEq]; rfl) (by first | trivial | omega | simp | (simp; omega)) ?_
  repeat refine ok_seq ?_
  refine ok_reg E [0, 1, 7, 8] [] (by simp [-Option.some.injEq, -Prod.mk.injEq]; rfl) (by first | trivial | omega | simp | (simp; omega)) ?_
  repeat refine ok_seq ?_
  refine ok_block ?_
  repeat refine ok_seq ?_
  refine ok_lenN 0 rfl fun ha => ?_
  refine ok_loop (σ := Nat) (fun i => [(0, .d (.sl .rule) l), (1, .fn 96 [(0, 0), (1, 0)]), (7, .d .i (l.length : Int)), (8, .d .i (i : Int))]) (fun i => [.cells [.fn 90 [(2, 0)]], .cells [.fn 91 [(0, 0)]], .cells [.d .terms g.atoms, .d (.sl .rule) g.rules]]) (fun i => i ≤ l.length ∧ idxP (oddRule g) (l.drop i) i = idxP (oddRule g) l 0) (fun i => l.length - i) 0 (by simp) ?_ ?_
  · constructor <;> simp [EntF, EntH, EntB, Conv, scop]
  rintro i ⟨hi1, hi⟩
  repeat refine ok_seq ?_
  refine ok_reg E [0, 1, 7, 8, 9] [] (by simp [-Option.some.injEq, -Prod.mk.injEq]; rfl) (by first | trivial | omega | simp | (simp; omega)) ?_
  repeat refine ok_seq ?_
  refine ok_if rfl (fun c1 => ?_) (fun c1 => ?_)
  · try simp at c1
    all_goals
      refine ok_skip ?_
      repeat refine ok_seq ?_
      refine ok_block ?_
      repeat refine ok_seq ?_
      refine ok_reg E [0, 1, 5, 7, 8] [] (by simp [-Option.some.injEq, -Prod.mk.injEq]; rfl) (by first | trivial | omega | simp | (simp; omega)) ?_
      repeat refine ok_seq ?_
      refine ok_reg E [0, 1, 5, 7, 8, 16] [.full (List.range 3) [avOf .rule (gr l i), .ptr 0 0, .ptr 1 0] [.cells [.fn 90 [(2, 0)]], .cells [.fn 91 [(0, 0)]], .cells [.d .terms g.atoms, .d (.sl .rule) g.rules]] (.d .bool ((oddRule g) (gr l i))) [.cells [.fn 90 [(2, 0)]], .cells [.fn 91 [(0, 0)]], .cells [.d .terms g.atoms, .d (.sl .rule) g.rules]]] (by simp [-Option.some.injEq, -Prod.mk.injEq]; rfl) (by first | (simp; done) | (have k1 := oddRule_ctr g (gr l i); (try simp at k1); simp [k1]; (try (repeat' apply And.intro)) <;> first | omega | exact Takes.of (by decide) (by simp))) ?_
      repeat refine ok_seq ?_
      refine ok_if rfl (fun c2 => ?_) (fun c2 => ?_)
      · try simp at c2
        all_goals
          repeat refine ok_seq ?_
          refine ok_reg E [4] [] (by simp [-Option.some.injEq, -Prod.mk.injEq]; rfl) (by first | trivial | omega | simp | (simp; omega)) ?_
          refine ok_ret ⟨.inr rfl, ?_⟩
          -- ret1
          simp [resAll, resL, resA, frozE]
          rw [← hi, List.drop_eq_getElem_cons c1, idxP, ← gr_lt c1, if_pos c2]
      · try simp at c2
        all_goals
          refine ok_skip ?_
          repeat refine ok_seq ?_
          refine ok_reg E [0, 1, 7, 8] [] (by simp [-Option.some.injEq, -Prod.mk.injEq]; rfl) (by first | trivial | omega | simp | (simp; omega)) ?_
          -- end01
          exact ⟨i + 1, ⟨by omega, by rw [← hi, List.drop_eq_getElem_cons c1, idxP, ← gr_lt c1, if_neg (by simp [c2])]⟩, by omega, by constructor <;> simp (disch := omega) [EntF, EntH, EntB, Conv, scop, wrap_i64]⟩
  · try simp at c1
    all_goals
      refine ok_exit ?_
      repeat refine ok_seq ?_
      refine ok_reg E [4] [] (by simp [-Option.some.injEq, -Prod.mk.injEq]; rfl) (by first | trivial | omega | simp | (simp; omega)) ?_
      refine ok_ret ⟨.inr rfl, ?_⟩
      -- ret2
      simp [resAll, resL, resA, frozE]
      rw [← hi, List.drop_of_length_le (by omega)]; rfl

set_option maxRecDepth 8000 in
set_option maxHeartbeats 4000000 in
theorem anyRule_ctr (l : List Rule) (g : Prg) : Ctr Tryz.prog 95 [.d (.sl .rule) l, .fn 96 [(0, 0), (1, 0)]] [.cells [.fn 90 [(2, 0)]], .cells [.fn 91 [(0, 0)]], .cells [.d .terms g.atoms, .d (.sl .rule) g.rules]] (.d .bool (l.any (oddRule g))) [.cells [.fn 90 [(2, 0)]], .cells [.fn 91 [(0, 0)]], .cells [.d .terms g.atoms, .d (.sl .rule) g.rules]] := by
  refine ctr_full E Tryz.func95 rfl Tryz.ntmps95 Tryz.results95 (Nat.le_of_ble_eq_true rfl) 3 rfl rfl (by simp) (by simp) rfl ?_
  repeat refine ok_seq ?_
  refine ok_reg E [0, 1] [] (by simp [-Option.some.injEq, -Prod.mk.injEq]; rfl) (by first | trivial | omega | simp | (simp; omega)) ?_
  repeat refine ok_seq ?_
  refine ok_reg E [4] [.full (List.range 3) [.d (.sl .rule) l, .fn 96 [(0, 0), (1, 0)]] [.cells [.fn 90 [(2, 0)]], .cells [.fn 91 [(0, 0)]], .cells [.d .terms g.atoms, .d (.sl .rule) g.rules]] (.d .i (idxP (oddRule g) l 0)) [.cells [.fn 90 [(2, 0)]], .cells [.fn 91 [(0, 0)]], .cells [.d .terms g.atoms, .d (.sl .rule) g.rules]]] (by simp [-Option.some.injEq, -Prod.mk.injEq]; rfl) (by (have k1 := idxRule_ctr l g; (try simp at k1); simp [k1]; (try (repeat' apply And.intro)) <;> first | omega | exact Takes.of (by decide) (by simp))) ?_
  refine ok_ret ⟨.inr rfl, ?_⟩
  -- ret1
  simp [resAll, resL, resA, frozE]
  first | done | (have := idxP_any (oddRule g) l 0; rw [Bool.eq_iff_iff]; simpa using this)

set_option maxRecDepth 8000 in
set_option maxHeartbeats 4000000 in
theorem rightGP_ctr (g : Prg) : Ctr Tryz.prog 28 [pav g] [] (.d .bool (rightGP g)) [] := by
  refine ctr_pure E Tryz.func28 rfl Tryz.ntmps28 Tryz.results28 (Nat.le_of_ble_eq_true rfl) rfl ?_
  have k1 := anyT_ctr g.atoms
  have k2 := risesT_ctr g.atoms
  have k3 := risesR_ctr g.rules
  have k4 := anyRule_ctr g.rules g
  repeat refine ok_seq ?_
  refine ok_reg E [1] [] (by simp [-Option.some.injEq, -Prod.mk.injEq]; rfl) (by first | trivial | omega | simp | (simp; omega)) ?_
  repeat refine ok_seq ?_
  refine ok_reg E [1, 3] [] (by simp [-Option.some.injEq, -Prod.mk.injEq]; rfl) (by first | trivial | omega | simp | (simp; omega)) ?_
  repeat refine ok_seq ?_
  refine ok_regJ E [(21, .d .bool (badGP g))] [1] [1, 21] [.pure (.d .bool (g.atoms.any oddT)), .pure (.d .bool (decide (risesP cmpG (gt g.atoms) g.atoms.length))), .pure (.d .bool (decide (risesP gOrder (gr g.rules) g.rules.length)))] ?_ ?_
  · skip
    by_cases q0 : g.atoms.any oddT = true
    · refine ⟨_, _, _, by simp [q0, badGP, -Option.some.injEq, -Prod.mk.injEq]; rfl, (by first | trivial | ((simp_all; try (repeat' apply And.intro)) <;> first | done | omega | exact Takes.of (by decide) (by simp))), by constructor <;> simp [EntF, EntH, EntB, Conv, scop, q0, badGP] <;> first | omega | (rw [Bool.eq_iff_iff]; simp; omega)⟩
    by_cases q1 : risesP cmpG (gt g.atoms) g.atoms.length
    rotate_left
    · refine ⟨_, _, _, by simp [q0, q1, badGP, -Option.some.injEq, -Prod.mk.injEq]; rfl, (by first | trivial | ((simp_all; try (repeat' apply And.intro)) <;> first | done | omega | exact Takes.of (by decide) (by simp))), by constructor <;> simp [EntF, EntH, EntB, Conv, scop, q0, q1, badGP] <;> first | omega | (rw [Bool.eq_iff_iff]; simp; omega)⟩
    refine ⟨_, _, _, by simp [q0, q1, badGP, -Option.some.injEq, -Prod.mk.injEq]; rfl, (by first | trivial | ((simp_all; try (repeat' apply And.intro)) <;> first | done | omega | exact Takes.of (by decide) (by simp))), by constructor <;> simp [EntF, EntH, EntB, Conv, scop, q0, q1, badGP] <;> first | omega | (rw [Bool.eq_iff_iff]; simp; omega)⟩
  repeat refine ok_seq ?_
  refine ok_if rfl (fun c1 => ?_) (fun c1 => ?_)
  · try simp at c1
    all_goals
      repeat refine ok_seq ?_
      refine ok_reg E [2] [] (by simp [-Option.some.injEq, -Prod.mk.injEq]; rfl) (by first | trivial | omega | simp | (simp; omega)) ?_
      refine ok_ret ⟨.inr rfl, ?_⟩
      -- ret1
      simp [resAll, resL, resA, frozE]
      simp [rightGP, c1]
  · try simp at c1
    all_goals
      refine ok_skip ?_
      repeat refine ok_seq ?_
      refine ok_reg E [1, 4] [] (by simp [-Option.some.injEq, -Prod.mk.injEq]; rfl) (by first | trivial | omega | simp | (simp; omega)) ?_
      repeat refine ok_seq ?_
      refine ok_reg E [1, 4, 5] [] (by simp [-Option.some.injEq, -Prod.mk.injEq]; rfl) (by first | trivial | omega | simp | (simp; omega)) ?_
      repeat refine ok_seq ?_
      refine ok_reg E [2] [.full [1, 2, 0] [.d (.sl .rule) g.rules, .fn 96 [(0, 0), (1, 0)]] [.cells [.fn 90 [(2, 0)]], .cells [.fn 91 [(0, 0)]], .cells [.d .terms g.atoms, .d (.sl .rule) g.rules]] (.d .bool (g.rules.any (oddRule g))) [.cells [.fn 90 [(2, 0)]], .cells [.fn 91 [(0, 0)]], .cells [.d .terms g.atoms, .d (.sl .rule) g.rules]]] (by simp [-Option.some.injEq, -Prod.mk.injEq]; rfl) (by first | trivial | ((simp_all; try (repeat' apply And.intro)) <;> first | done | omega | exact Takes.of (by decide) (by simp))) ?_
      refine ok_ret ⟨.inr rfl, ?_⟩
      -- ret2
      simp [resAll, resL, resA, frozE]
      simp [rightGP, c1]

end Go.Proofs.YtgapiecbinplfaaGreat
/- Sorted rows: plain laws that the sort's contract needs. -/
namespace Go.Proofs.YtgapiecbinplfaaGreat
open Go.RowKit

section
variable {α : Type} {p : α → Prop} {cmp : α → α → Int}

def ins (cmp : α → α → Int) (x : α) : List α → List α
  | [] => [x]
  | y :: ys => if cmp y x < 0 then y :: ins cmp x ys else x :: y :: ys
def srt (cmp : α → α → Int) (l : List α) : List α := l.foldr (ins cmp) []
/-- No later one is less. -/
def Srt (cmp : α → α → Int) (l : List α) : Prop := l.Pairwise fun a b => ¬ cmp b a < 0

theorem ins_perm (x : α) : ∀ l : List α, (ins cmp x l).Perm (x :: l)
  | [] => List.Perm.refl _
  | y :: ys => by
    simp only [ins]
    split
    · exact ((ins_perm x ys).cons y).trans (List.Perm.swap x y ys)
    · exact List.Perm.refl _
theorem srt_perm : ∀ l : List α, (srt cmp l).Perm l
  | [] => List.Perm.refl _
  | x :: l => (ins_perm x _).trans ((srt_perm l).cons x)
theorem srt_len (l : List α) : (srt cmp l).length = l.length := (srt_perm l).length_eq
theorem srt_mem {l : List α} {x : α} : x ∈ srt cmp l ↔ x ∈ l := (srt_perm l).mem_iff

theorem OrdOn.le (h : OrdOn p cmp) {a b c : α} (ha : p a) (hb : p b) (hc : p c) (h1 : ¬ cmp b a < 0) (h2 : ¬ cmp c b < 0) : ¬ cmp c a < 0 := by
  intro h3
  have a1 := h.anti a b ha hb
  have a2 := h.anti b a hb ha
  have a3 := h.anti b c hb hc
  have a4 := h.anti c b hc hb
  by_cases e1 : cmp a b = 0
  · have := h.eq a b ha hb e1; subst this; exact h2 h3
  · have h4 : cmp a b < 0 := by omega
    have := h.trans c a b hc ha hb h3 h4
    exact h2 this
theorem ins_srt (h : OrdOn p cmp) {x : α} (hx : p x) : ∀ {l : List α}, (∀ y ∈ l, p y) → Srt cmp l → Srt cmp (ins cmp x l)
  | [], _, _ => by simp [ins, Srt]
  | y :: ys, hl, hs => by
    have hy := hl y (by simp)
    have hs2 := List.pairwise_cons.1 hs
    have hl' : ∀ z ∈ ys, p z := fun z hz => hl z (by simp [hz])
    simp only [ins]
    split
    · rename_i h1
      refine List.pairwise_cons.2 ⟨fun z hz => ?_, ins_srt h hx hl' hs2.2⟩
      rcases List.mem_cons.1 ((ins_perm x ys).mem_iff.1 hz) with rfl | hz
      · have := (h.anti y z hy hx).1 h1; omega
      · exact hs2.1 z hz
    · rename_i h1
      refine List.pairwise_cons.2 ⟨fun z hz => ?_, hs⟩
      rcases List.mem_cons.1 hz with rfl | hz
      · exact h1
      · exact h.le hx hy (hl' z hz) h1 (hs2.1 z hz)
theorem srt_srt (h : OrdOn p cmp) : ∀ {l : List α}, (∀ y ∈ l, p y) → Srt cmp (srt cmp l)
  | [], _ => by simp [srt, Srt]
  | x :: l, hl => ins_srt h (hl x (by simp)) (fun y hy => hl y (by simp [srt_mem.1 hy])) (srt_srt h fun y hy => hl y (by simp [hy]))

/-- There is one sorted row of the same things. -/
theorem srt_unique (h : OrdOn p cmp) : ∀ {l m : List α}, (∀ y ∈ l, p y) → l.Perm m → Srt cmp l → Srt cmp m → l = m
  | [], m, _, hp, _, _ => (List.nil_perm.1 hp).symm
  | a :: l, [], _, hp, _, _ => by have := hp.length_eq; simp at this
  | a :: l, b :: m, hl, hp, h1, h2 => by
    have ha := hl a (by simp)
    have hb : p b := hl b (hp.mem_iff.2 (by simp))
    have g1 := List.pairwise_cons.1 h1
    have g2 := List.pairwise_cons.1 h2
    have e : a = b := by
      rcases List.mem_cons.1 (hp.mem_iff.1 (List.mem_cons_self (a := a) (l := l))) with e | e
      · exact e
      · rcases List.mem_cons.1 (hp.mem_iff.2 (List.mem_cons_self (a := b) (l := m))) with e' | e'
        · exact e'.symm
        · have x1 := g2.1 a e
          have x2 := g1.1 b e'
          have a1 := h.anti a b ha hb
          have a2 := h.anti b a hb ha
          exact h.eq a b ha hb (by omega)
    subst e
    rw [srt_unique h (fun y hy => hl y (by simp [hy])) (List.Perm.cons_inv hp) g1.2 g2.2]

/-- A row without what is like the one ahead of it. -/
def cmpct (eq : α → α → Bool) : α → List α → List α
  | _, [] => []
  | x, y :: ys => if eq y x = true then cmpct eq y ys else y :: cmpct eq y ys
def compactBy (eq : α → α → Bool) : List α → List α
  | [] => []
  | x :: xs => x :: cmpct eq x xs
def eqOf (cmp : α → α → Int) (a b : α) : Bool := decide (cmp a b = 0)
theorem cmpct_len (eq : α → α → Bool) : ∀ (xs : List α) (x : α), (cmpct eq x xs).length ≤ xs.length
  | [], _ => Nat.le_refl _
  | y :: ys, x => by simp only [cmpct]; split <;> have := cmpct_len eq ys y <;> simp <;> omega
theorem compactBy_len (eq : α → α → Bool) (l : List α) : (compactBy eq l).length ≤ l.length := by
  cases l with
  | nil => exact Nat.le_refl _
  | cons x xs => have := cmpct_len eq xs x; simp [compactBy]; omega
theorem cmpct_snoc (eq : α → α → Bool) (z : α) : ∀ (xs : List α) (x : α), cmpct eq x (xs ++ [z]) = cmpct eq x xs ++ (if eq z ((x :: xs).getLast (by simp)) = true then [] else [z])
  | [], x => by
    by_cases h : eq z x = true <;> simp [cmpct, h]
  | y :: ys, x => by
    have ih := cmpct_snoc eq z ys y
    simp only [List.cons_append, cmpct, ih]
    have e : (x :: y :: ys).getLast (by simp) = (y :: ys).getLast (by simp) := List.getLast_cons (by simp)
    rw [e]
    split <;> simp
/-- One more behind. -/
theorem compactBy_step (eq : α → α → Bool) {l : List α} {i : Nat} (h0 : 0 < i) (hi : i < l.length) : compactBy eq (l.take (i + 1)) = compactBy eq (l.take i) ++ (if eq l[i] l[i - 1] = true then [] else [l[i]]) := by
  cases l with
  | nil => simp at hi
  | cons x xs =>
    obtain ⟨j, rfl⟩ : ∃ j, i = j + 1 := ⟨i - 1, by omega⟩
    have hj : j < xs.length := by simpa using hi
    rw [List.take_succ_cons, List.take_succ_cons, compactBy, compactBy, List.take_succ_eq_append_getElem hj, cmpct_snoc]
    have e : (x :: xs.take j).getLast (by simp) = (x :: xs)[j + 1 - 1]'(by simp; omega) := by
      rw [List.getLast_eq_getElem]
      simp only [List.length_cons, List.length_take, Nat.add_sub_cancel]
      have : min j xs.length = j := by omega
      simp only [this]
      cases j with
      | zero => simp
      | succ j => simp
    rw [e]; simp

theorem cmpct_ris (h : OrdOn p cmp) : ∀ {xs : List α} {x : α}, p x → (∀ y ∈ xs, p y) → Srt cmp (x :: xs) → Ris cmp (x :: cmpct (eqOf cmp) x xs) ∧ ∀ y, y ∈ x :: cmpct (eqOf cmp) x xs ↔ y ∈ x :: xs
  | [], x, _, _, _ => by simp [cmpct, Ris]
  | y :: ys, x, hx, hl, hs => by
    have hy := hl y (by simp)
    have hs2 := List.pairwise_cons.1 hs
    have hl' : ∀ z ∈ ys, p z := fun z hz => hl z (by simp [hz])
    obtain ⟨i1, i2⟩ := cmpct_ris h hy hl' hs2.2
    have hxy := hs2.1 y (by simp)
    simp only [cmpct]
    split
    · rename_i he
      simp only [eqOf, decide_eq_true_eq] at he
      have e := h.eq y x hy hx he
      subst e
      exact ⟨i1, fun z => by rw [i2]; simp⟩
    · rename_i he
      simp only [eqOf, decide_eq_true_eq] at he
      have a1 := h.anti x y hx hy
      have hlt : cmp x y < 0 := by omega
      refine ⟨List.pairwise_cons.2 ⟨fun z hz => ?_, i1⟩, fun z => ?_⟩
      · rcases List.mem_cons.1 ((i2 z).1 hz) with rfl | hz'
        · exact hlt
        · have hz0 := hl' z hz'
          have := (List.pairwise_cons.1 hs2.2).1 z hz'
          by_cases e : cmp y z = 0
          · rw [← h.eq y z hy hz0 e]; exact hlt
          · have a2 := h.anti y z hy hz0
            have a3 := h.anti z y hz0 hy
            exact h.trans x y z hx hy hz0 hlt (by omega)
      · have h1 := i2 z
        rw [List.mem_cons, h1]; simp only [List.mem_cons]
/-- Sorted, and each once: the set. -/
theorem compact_set (h : OrdOn p cmp) {l : List α} (hl : ∀ x ∈ l, p x) : compactBy (eqOf cmp) (srt cmp l) = setBy cmp l := by
  have hs := srt_srt h hl
  have hp : ∀ x ∈ srt cmp l, p x := fun x hx => hl x (srt_mem.1 hx)
  refine setBy_eq h hl ?_ fun x => ?_
  · cases e : srt cmp l with
    | nil => simp [compactBy, Ris]
    | cons a r => rw [e] at hs hp; exact (cmpct_ris h (hp a (by simp)) (fun y hy => hp y (by simp [hy])) hs).1
  · rw [← srt_mem (cmp := cmp) (l := l)]
    cases e : srt cmp l with
    | nil => simp [compactBy]
    | cons a r => rw [e] at hs hp; exact (cmpct_ris h (hp a (by simp)) (fun y hy => hp y (by simp [hy])) hs).2 x
end
end Go.Proofs.YtgapiecbinplfaaGreat
/- slices.SortFunc and slices.Clone, by the library's contracts, as contracts over boxes. -/
namespace Go.Proofs.YtgapiecbinplfaaGreat
open Go.RowKit Go.Shelf Go.Lib Go.Sort
variable {P : Program}

section
variable {fz fz' : Fz} {w w' : World}

theorem no_own (k : Nat) : ¬ OwnOf [] k := fun ⟨i, g, h1, _⟩ => by simp at h1

/-- Where no box came in, the world has only grown. -/
theorem Anc.grown {S : Start} (h : Anc S fz' w') (hS : S.own = OwnOf []) : ∃ q os, w' = grow (S.w.drewN q) os := by
  refine ⟨w'.drawn - S.w.drawn, w'.heap.extract S.w.heap.size w'.heap.size, ?_⟩
  have hh : w'.heap = S.w.heap ++ w'.heap.extract S.w.heap.size w'.heap.size := by
    apply Array.ext_getElem?
    intro k
    by_cases hk : k < S.w.heap.size
    · rw [Array.getElem?_append_left hk]
      exact h.block k hk (by rw [hS]; exact no_own k)
    · rw [Array.getElem?_append_right (by omega), Array.getElem?_extract]
      split
      · congr 1; omega
      · rw [Array.getElem?_eq_none (by omega)]
  have h1 := h.os; have h2 := h.tape; have h3 := h.output; have h4 := h.drawn
  have hd : w'.drawn = S.w.drawn + (w'.drawn - S.w.drawn) := by omega
  obtain ⟨heap, tape, drawn, os, output⟩ := w'
  simp only at h1 h2 h3 h4 hh hd
  subst h1; subst h2; subst h3
  simp only [grow, World.drewN, World.mk.injEq, true_and, and_true]
  exact ⟨hh, hd⟩
end

/-- A datum of one cell, with how it lies. -/
structure Packed (fz : Fz) (w : World) (τ : Ty) (p : τ.den → Prop) where
  v : Value
  x : τ.den
  hr : ElR fz w τ x [v]
  hp : p x
theorem pack1 {fz : Fz} {w : World} {τ : Ty} {p : τ.den → Prop} (hτ : τ.agg = false) : ∀ {xs : List τ.den} {vs : List Value}, ElsR fz w τ xs vs → (∀ x ∈ xs, p x) → ∃ l : List (Packed fz w τ p), l.map (·.v) = vs ∧ l.map (·.x) = xs
  | [], vs, h, _ => by cases h; exact ⟨[], rfl, rfl⟩
  | x :: xs, vs, ⟨cs, r, h1, h2, h3⟩, hp => by
    obtain ⟨l, e1, e2⟩ := pack1 hτ h3 (fun y hy => hp y (by simp [hy]))
    have hl := h2.length
    rw [Ty.agg_size hτ] at hl
    match cs, hl with
    | [c], _ => exact ⟨⟨c, x, h2, hp x (by simp)⟩ :: l, by rw [List.map_cons, e1, h1]; rfl, by rw [List.map_cons, e2]⟩
theorem unpack1 {fz : Fz} {w w' : World} {fz' : Fz} {τ : Ty} {p : τ.den → Prop} (hl : Later fz w fz' w') : ∀ l : List (Packed fz w τ p), ElsR fz' w' τ (l.map (·.x)) (l.map (·.v))
  | [] => rfl
  | c :: l => ⟨[c.v], _, rfl, ElR.mono hl _ _ _ c.hr, unpack1 hl l⟩

theorem swo_of {α β : Type} {p : β → Prop} {cmp : β → β → Int} (h : OrdOn p cmp) (f : α → β) (hf : ∀ a, p (f a)) : SWO (ltOf fun x y => cmp (f x) (f y)) where
  irrefl x := by simp [ltOf, h.refl _ (hf x)]
  trans x y z h1 h2 := by simp only [ltOf, decide_eq_true_eq] at *; exact h.trans _ _ _ (hf x) (hf y) (hf z) h1 h2
  ntrans x y z h1 h2 := by simp only [ltOf, decide_eq_false_iff_not] at *; exact h.le (hf z) (hf y) (hf x) h2 h1

theorem sorted_list {α β : Type} [Inhabited α] {p : β → Prop} {cmp : β → β → Int} (h : OrdOn p cmp) (f : α → β) (hf : ∀ a, p (f a)) {l : List α} {d' : Array α} (hp : PermIn 0 l.toArray.size l.toArray d') (hs : SortedIn (ltOf fun x y => cmp (f x) (f y)) 0 l.toArray.size d') :
    d'.toList.map f = srt cmp (l.map f) := by
  have hsz : d'.size = l.length := by simpa using hp.1
  have hperm : d'.toList.Perm l := by
    have := hp.2.2
    simp [← hsz] at this
    rwa [List.take_of_length_le (by omega)] at this
  have hp1 : (d'.toList.map f).Perm (l.map f) := hperm.map f
  refine srt_unique h (fun y hy => ?_) (hp1.trans (srt_perm _).symm) ?_ (srt_srt h fun y hy => ?_)
  · obtain ⟨a, _, rfl⟩ := List.mem_map.1 hy; exact hf a
  · refine List.pairwise_iff_getElem.2 fun i j hi hj hij => ?_
    have hi' : i < d'.size := by simpa using hi
    have hj' : j < d'.size := by simpa using hj
    have := hs i j (by omega) hij (by simp; omega)
    simp only [ltOf, decide_eq_false_iff_not, getElem!_pos d' i hi', getElem!_pos d' j hj'] at this
    simpa using this
  · obtain ⟨a, _, rfl⟩ := List.mem_map.1 hy; exact hf a

/-! ### slices.Clone -/
theorem wpList_append_run {w w' : World} {v' : Value} {ops : Array Oper} {rest : List Oper} {o : Oper} {a : Act} {Q : Exit → Act → World → Prop} (hgd : o.guard = none) (s x : Operand) (t : TypeId)
    (ho : o.op = .call { callee := .builtin .append, args := #[s, x], argTypes := #[t, t] }) (v xv : Value) (hs : a.eval s = v) (hx : a.eval x = xv)
    (hr : (Builtin.append_ #[t, t] o.type #[v, xv]).run P w = .ok v' w') (h : wpList P ops Q rest (a.put o.dst v') w') : wpList P ops Q (o :: rest) a w := by
  refine wpList_plain hgd fun K hK => ?_
  refine wp_value (v := v') (w' := w') ?_ (hK _ _ h)
  simp [execOp, ho, resolve, invoke, builtin, hs, hx, hr]

variable {ρ : Ren}
set_option maxHeartbeats 2000000 in
set_option maxRecDepth 100000 in
theorem clone_raw (L : SlLaysE0.n41 P ρ) (ad : Addr) (n c : Nat) (w : World) (k : Nat) (z23 : ∀ w, (Go.sizeOf (ρ.t 23)).run P w = .ok k w) (v' : Value) (w' : World)
    (happ : (Builtin.append_ #[ρ.t 22, ρ.t 22] (ρ.t 22) #[.slice (some ⟨w.heap.size, 0, none⟩) 0 0, .slice (some ad) n c]).run P (w.alloc (.cells #[] (ρ.t 23))) = .ok v' w') :
    Calls P (ρ.f 41) #[.slice (some ad) n c] w fun e w1 => e = .returned v' ∧ w1 = w' := by
  have mixed := L.mixed; have t4 := L.t4; have a4 := L.a4; have z4 := L.z4; have v4 := L.v4; have t22 := L.t22; have a22 := L.a22; have z22 := L.z22; have v22 := L.v22
  have q22 : ∀ (w : World) (a : Option Addr) (n c n' c' : Nat), (binOp .eql (ρ.t 22) (.slice a n c) (.slice none n' c')).run P w = .ok (.bool a.isNone) w := fun w a n c n' c' => Lib.run_eql_slice_nil w _ _ a n c n' c' L.t22
  have u22 : ∀ w, Sem.run P (underlying (ρ.t 22)) w = .ok (TypeDesc.slice (ρ.t 23)) w := run_underlying t22
  have A : Aside ((Builtin.append_ #[ρ.t 22, ρ.t 22] (ρ.t 22) #[.slice (some ⟨w.heap.size, 0, none⟩) 0 0, .slice (some ad) n c]).run P (w.alloc (.cells #[] (ρ.t 23))) = .ok v' w') := happ
  clear happ
  obtain ⟨_, _, FG⟩ := L.f41
  go_enter FG, SlBodyN.n41_ntmps ρ
  go_wp2_with (at_builtin; refine wpList_append_run rfl _ _ (ρ.t 22) rfl _ _ rfl rfl A.out ?_)
  go_ret
  exact ⟨rfl, rfl⟩

theorem clone_own (L : SlLaysE0.n41 P ρ) {τ : Ty} (heo : ElOk P (ρ.t 22) (ρ.t 23) τ) {xs : List τ.den} (hne : xs ≠ []) (hbig : xs.length ≤ big) : CtrO P (ρ.f 41) [.d (.sl τ) xs] (.mrow (ρ.t 23) τ xs) := by
  intro fz w vs hfz hr
  simp only [RdL, RdA] at hr
  obtain ⟨v, r, rfl, hr, rfl⟩ := hr
  have hr := elR_sl.1 hr
  obtain ⟨ad, c, rfl, hlc, hcm, hel⟩ := id hr
  obtain ⟨b, o, rfl, _⟩ := hel hne
  obtain ⟨ti, z, hi1, hi2, hi3, hi4, hi5, hi6⟩ := heo.info
  have hl1 : Later fz w fz (w.alloc (.cells #[] (ρ.t 23))) := fun b k hf => ⟨hf, World.cell?_of_block (w := w) (Below.heap_alloc w _ b (hfz b k hf))⟩
  have hr1 := hr.mono hl1 (fun x cs h => ElR.mono hl1 _ _ _ h)
  have hown : (w.alloc (.cells #[] (ρ.t 23))).ownsRow 0 (ρ.t 23) τ.size (.slice (some ⟨w.heap.size, 0, none⟩) 0 0) 0 [] := World.ownsRow_made w #[] 0 (Nat.zero_le _) (Nat.zero_le _) (by simp)
  obtain ⟨v', w', news, h4, h5, h6, h7⟩ := append_run heo rfl hown hr1 (by omega) (ρ.t 22)
  have hpos : 0 < xs.length := List.length_pos_iff.2 hne
  have hfacts : w'.os = w.os ∧ w'.tape = w.tape ∧ w'.output = w.output ∧ w.drawn ≤ w'.drawn ∧ w.heap.size ≤ w'.heap.size ∧ (∀ k, k < w.heap.size → w'.heap[k]? = w.heap[k]?) ∧ ∀ g, blkOf v' = some g → w.heap.size ≤ g := by
    rcases h7 with ⟨_, _, h8⟩ | ⟨ob, rfl, hb⟩ | ⟨blk, cs, hb0, hb, rfl, _⟩
    · exact absurd h8 hne
    · refine ⟨rfl, rfl, rfl, Nat.le_succ _, by simp; omega, fun k hk => ?_, fun g hg => by rw [hb] at hg; cases hg; simp⟩
      have a1 := Below.heap_alloc (w.alloc (.cells #[] (ρ.t 23))).drew ob k (by simp; omega)
      have a2 := Below.heap_alloc w (.cells #[] (ρ.t 23)) k hk
      exact a1.trans a2
    · cases hb0
      refine ⟨rfl, rfl, rfl, Nat.le_refl _, by simp, fun k hk => ?_, fun g hg => by rw [hb] at hg; cases hg; exact Nat.le_refl _⟩
      rw [setRow_other _ _ k cs (Nat.ne_of_lt hk)]
      exact Below.heap_alloc w _ k hk
  obtain ⟨f1, f2, f3, f4, f5, f6, f7⟩ := hfacts
  have hl2 : Later fz w fz w' := fun b k hf => ⟨hf, World.cell?_of_block (w := w) (f6 b (hfz b k hf))⟩
  have hl3 : Later fz (w.alloc (.cells #[] (ρ.t 23))) fz w' := fun b k hf => ⟨hf, (hl2 b k hf).2.trans (hl1 b k hf).2.symm⟩
  have h5' := ElsR.mono hl3 _ _ h5
  refine (clone_raw L ⟨b, o, none⟩ xs.length c w τ.size (fun w => by simp [sizeOf, typeInfo, hi1, hi3]) v' w' h4).mono ?_
  rintro e w2 ⟨rfl, rfl⟩
  refine ⟨v', fz, rfl, ?_, ?_, f7, ⟨f1, f2, f3, f4, f5, fun k hk _ => f6 k hk, hl2, fun b o h => .inl h⟩, fun b k hf => Nat.lt_of_lt_of_le (hfz b k hf) f5⟩
  · rcases h6.2 with ⟨rfl, _⟩ | ⟨g, cap, cur, rfl, _⟩ <;> rfl
  · rcases h6.2 with ⟨_, h0⟩ | ⟨g, cap, cur, rfl, _, hg, hc, hm, hs, ht⟩
    · omega
    · refine ⟨g, cap, cur, by rw [Nat.zero_add], by omega, hm, hg, ⟨cur.toList.drop ((0 + xs.length) * τ.size), news, ?_, h5'⟩, fun o hf => ?_⟩
      · rw [show news = [] ++ news from rfl, ← ht, List.take_append_drop]
      · have := hfz g o hf
        have := f7 g rfl
        omega

theorem clone0 (L : SlLaysE0.n41 P ρ) {τ : Ty} (heo : ElOk P (ρ.t 22) (ρ.t 23) τ) : Ctr P (ρ.f 41) [.d (.sl τ) []] [] (.d (.sl τ) []) [] := by
  intro fz β w vs hb hfz hr
  simp only [RdL, RdA] at hr
  obtain ⟨v, r, rfl, hr, rfl⟩ := hr
  have hr := elR_sl.1 hr
  obtain ⟨ad, c, rfl, hlc, hcm, _⟩ := id hr
  cases ad with
  | none =>
    refine (AnyE.slices_Clone_nil L 0 c w).mono ?_
    rintro e w' ⟨rfl, rfl⟩
    exact ⟨_, fz, rfl, by simp only [RdA]; exact ⟨_, rfl, none, 0, rfl, Nat.le_refl _, by simp [maxLen], fun h => absurd rfl h⟩, hb, ⟨rfl, rfl, rfl, Nat.le_refl _, Nat.le_refl _, fun _ _ _ => rfl, Later.refl _ _, fun b o h => .inl h⟩, hfz⟩
  | some ad =>
    obtain ⟨ti, z, hi1, hi2, hi3, hi4, hi5, hi6⟩ := heo.info
    have hl1 : Later fz w fz (w.alloc (.cells #[] (ρ.t 23))) := fun b k hf => ⟨hf, World.cell?_of_block (w := w) (Below.heap_alloc w _ b (hfz b k hf))⟩
    have hr1 := hr.mono hl1 (fun x cs h => ElR.mono hl1 _ _ _ h)
    have hown : (w.alloc (.cells #[] (ρ.t 23))).ownsRow 0 (ρ.t 23) τ.size (.slice (some ⟨w.heap.size, 0, none⟩) 0 0) 0 [] := World.ownsRow_made w #[] 0 (Nat.zero_le _) (Nat.zero_le _) (by simp)
    obtain ⟨v', w', news, h4, h5, h6, h7⟩ := append_run heo rfl hown hr1 (by simp) (ρ.t 22)
    have hfacts : w'.os = w.os ∧ w'.tape = w.tape ∧ w'.output = w.output ∧ w.drawn ≤ w'.drawn ∧ w.heap.size ≤ w'.heap.size ∧ (∀ k, k < w.heap.size → w'.heap[k]? = w.heap[k]?) := by
      rcases h7 with ⟨rfl, _, _⟩ | ⟨ob, rfl, hb⟩ | ⟨blk, cs, hb0, hb, rfl, _⟩
      · exact ⟨rfl, rfl, rfl, Nat.le_refl _, by simp, fun k hk => Below.heap_alloc w _ k hk⟩
      · refine ⟨rfl, rfl, rfl, Nat.le_succ _, by simp; omega, fun k hk => ?_⟩
        have a1 := Below.heap_alloc (w.alloc (.cells #[] (ρ.t 23))).drew ob k (by simp; omega)
        have a2 := Below.heap_alloc w (.cells #[] (ρ.t 23)) k hk
        exact a1.trans a2
      · cases hb0
        refine ⟨rfl, rfl, rfl, Nat.le_refl _, by simp, fun k hk => ?_⟩
        rw [setRow_other _ _ k cs (Nat.ne_of_lt hk)]
        exact Below.heap_alloc w _ k hk
    obtain ⟨f1, f2, f3, f4, f5, f6⟩ := hfacts
    have hl2 : Later fz w fz w' := fun b k hf => ⟨hf, World.cell?_of_block (w := w) (f6 b (hfz b k hf))⟩
    refine (clone_raw L ad 0 c w τ.size (fun w => by simp [sizeOf, typeInfo, hi1, hi3]) v' w' h4).mono ?_
    rintro e w2 ⟨rfl, rfl⟩
    have hβ : β = [] := List.length_eq_zero_iff.1 hb.len
    subst hβ
    refine ⟨v', fz, rfl, ?_, ⟨rfl, by simp, by simp, by simp⟩, ⟨f1, f2, f3, f4, f5, fun k hk _ => f6 k hk, hl2, fun b o h => .inl h⟩, fun b k hf => Nat.lt_of_lt_of_le (hfz b k hf) f5⟩
    simp only [RdA]
    rcases h6.2 with ⟨rfl, _⟩ | ⟨g, cap, cur, rfl, _, hg, hc, hm, hs, ht⟩
    · exact ⟨_, rfl, none, 0, rfl, Nat.le_refl _, by simp [maxLen], fun h => absurd rfl h⟩
    · exact ⟨_, rfl, _, cap, rfl, by simp, hm, fun h => absurd rfl h⟩

/-! ### slices.SortFunc -/
theorem sortW {α : Type} [Inhabited α] (enc : α → Value) {w : World} {blk : Nat} {vals : Array Value} {e : TypeId} (h : w.heap[blk]? = some (.cells vals e (0, 0))) (m : Nat) (d : Array α) (os : Array Obj) (hd : d.size ≤ vals.size) :
    (∃ vals' : Array Value, (sortWorld enc w blk 0 m d os).heap[blk]? = some (.cells vals' e (0, 0)) ∧ vals'.toList = d.toList.map enc ++ vals.toList.drop d.size) ∧
    (∀ k, k < w.heap.size → k ≠ blk → (sortWorld enc w blk 0 m d os).heap[k]? = w.heap[k]?) ∧ w.heap.size ≤ (sortWorld enc w blk 0 m d os).heap.size := by
  have hb := (Array.getElem?_eq_some_iff.1 h).1
  have hsz : (putRow enc (Sort.ahead w m) blk 0 d).heap.size = w.heap.size := by simp [putRow, mapBlock, Sort.ahead]
  have hk : ∀ k, k < w.heap.size → (sortWorld enc w blk 0 m d os).heap[k]? = (putRow enc (Sort.ahead w m) blk 0 d).heap[k]? := fun k hk => by
    simp only [sortWorld, grow]
    rw [Array.getElem?_append_left (by rw [hsz]; exact hk)]
  refine ⟨⟨Sort.putCells enc 0 d vals, ?_, ?_⟩, fun k hk' hne => ?_, ?_⟩
  · rw [hk blk hb]
    simp [putRow, mapBlock, Sort.ahead, Array.getElem?_modify, h, onCells]
  · apply List.ext_getElem?
    intro k
    simp only [Sort.putCells, Array.toList_mapIdx, List.getElem?_mapIdx, Nat.zero_le, true_and, Nat.zero_add, Nat.sub_zero]
    by_cases hkd : k < d.size
    · rw [List.getElem?_append_left (by simpa using hkd), List.getElem?_map]
      have hkv : k < vals.size := by omega
      simp [hkd, hkv]
    · rw [List.getElem?_append_right (by simpa using hkd), List.getElem?_drop]
      simp only [List.length_map, Array.length_toList, hkd, if_false]
      rw [show d.size + (k - d.size) = k by omega]
      cases vals.toList[k]? <;> rfl
  · rw [hk k hk']
    simp [putRow, mapBlock, Sort.ahead, Array.getElem?_modify, Ne.symm hne]
  · simp only [sortWorld, grow, Array.size_append, hsz]; omega

end Go.Proofs.YtgapiecbinplfaaGreat
/- slices.SortFunc over a row that is written: the contract. -/
namespace Go.Proofs.YtgapiecbinplfaaGreat
open Go.RowKit Go.Shelf Go.Lib Go.Sort
variable {P : Program} {ρ : Ren}

theorem sort1_ctr (L : SlLaysF.n6 P ρ) {τ : Ty} (hτ : τ.agg = false) {e : TypeId} {p : τ.den → Prop} {cmp : τ.den → τ.den → Int} (hO : OrdOn p cmp) (g : Nat) (eg : ∀ args w, (callFunc g args).run P w = .ok (.enter g args) w)
    (hcl : ∀ x y, p x → p y → Ctr P g [.d τ x, .d τ y] [] (.d .i (cmp x y)) []) {xs : List τ.den} (hp : ∀ x ∈ xs, p x) (hne : xs ≠ []) (hbig : xs.length ≤ big) :
    Ctr P (ρ.f 6) [.mrow 0, .fn g []] [.mrow e τ xs] (.tup []) [.mrow e τ (srt cmp xs)] := by
  intro fz β w vs hb hfz hr
  simp only [RdL, RdA, CapsR] at hr
  obtain ⟨v0, r0, rfl, h0, v1, r1, rfl, ⟨cv, rfl, rfl⟩, rfl⟩ := hr
  obtain ⟨blk, c, vals, rfl, hl1, hl2, hheap, ⟨rest, front, hv, hels⟩, hz⟩ := hb.ok 0 v0 _ h0 rfl
  have hblk := (Array.getElem?_eq_some_iff.1 hheap).1
  obtain ⟨l, e1, e2⟩ := pack1 hτ hels hp
  have hll : l.length = xs.length := by rw [← e2, List.length_map]
  have hpos : 0 < xs.length := List.length_pos_iff.2 hne
  have hl0 : l ≠ [] := fun h => by rw [h] at hll; simp at hll; omega
  haveI : Inhabited (Packed fz w τ p) := ⟨l.head hl0⟩
  have hfl : front.length = xs.length := by rw [← e1, List.length_map, hll]
  have hvs : xs.length ≤ vals.size := by rw [← Array.length_toList, hv, List.length_append]; omega
  have h1 : OneCell (fun c : Packed fz w τ p => c.v) := fun c => ElR.ones c.hr _ (by simp)
  have hsz : l.toArray.size = xs.length := by simpa using hll
  have hH : Holds (fun c : Packed fz w τ p => c.v) w blk 0 l.toArray := fun j hj => by
    have hj' : j < l.length := by simpa using hj
    refine ⟨?_, ?_⟩
    · rw [cell_of_row w blk _ vals e (0, 0) hheap, getElem!_pos _ j hj]
      have : vals.toList[0 + j]? = some (l[j]).v := by
        rw [hv, List.getElem?_append_left (by omega), ← e1, List.getElem?_map, Nat.zero_add]; simp [hj']
      simpa using this
    · simp [World.frozen?, hheap]
  have hsame : ∀ (m : Nat) (os : Array Obj) (dk : Array (Packed fz w τ p)), dk.size = l.toArray.size → Later fz w fz (sortWorld (fun c : Packed fz w τ p => c.v) w blk 0 m dk os) := fun m os dk hdk b k hf =>
    ⟨hf, World.cell?_of_block (w := w) ((sortW (fun c : Packed fz w τ p => c.v) hheap m dk os (by omega)).2.1 b (hfz b k hf) (fun h => hz k (by rw [← h]; exact hf)))⟩
  have hcmp : CmpLays1 P g #[] (fun c : Packed fz w τ p => c.v) (fun a b => cmp a.x b.x) blk 0 l.toArray.size w := fun m os dk hdk x y => by
    have hW := sortW (fun c : Packed fz w τ p => c.v) hheap m dk os (by omega)
    have hfW : FzOk fz (sortWorld (fun c : Packed fz w τ p => c.v) w blk 0 m dk os) := fun b o h => Nat.lt_of_lt_of_le (hfz b o h) hW.2.2
    have hx := ElR.mono (hsame m os dk hdk) _ _ _ x.hr
    have hy := ElR.mono (hsame m os dk hdk) _ _ _ y.hr
    have key := (hcl x.x y.x x.hp y.hp fz [] _ [x.v, y.v] ⟨rfl, by simp, by simp, by simp⟩ hfW (by simp only [RdL, RdA]; exact ⟨_, _, rfl, hx, _, _, rfl, hy, rfl⟩)).mono (R' := fun e w' => e = .returned (.int .i64 (cmp x.x y.x)) ∧ ∃ q os', w' = grow ((sortWorld (fun c : Packed fz w τ p => c.v) w blk 0 m dk os).drewN q) os') (by
      rintro e' w' ⟨v, fz', rfl, hv, _, ha, _⟩
      simp only [RdA, ElR, List.cons.injEq, and_true] at hv
      subst hv
      exact ⟨rfl, ha.grown rfl⟩)
    simpa using key
  have hcon := Any.slices_SortFunc L (fun c : Packed fz w τ p => c.v) h1 (fun a b => cmp a.x b.x) (swo_of hO (fun c : Packed fz w τ p => c.x) (fun c => c.hp)) g #[] blk 0 c l.toArray w eg hcmp hH hblk (by rw [hsz]; simp only [big] at hbig; omega)
  rw [hsz] at hcon
  refine hcon.mono ?_
  rintro e' w' ⟨rfl, d', n, os, hperm, hsorted, rfl⟩
  have hd' : d'.size = l.toArray.size := by rw [hsz]; have := hperm.1; rw [hsz] at this; exact this
  have hL := hsame n os d' hd'
  obtain ⟨⟨vals', hv1, hv2⟩, hoth, hsz2⟩ := sortW (fun c : Packed fz w τ p => c.v) hheap n d' os (by omega)
  have hx' := sorted_list hO (fun c : Packed fz w τ p => c.x) (fun c => c.hp) (l := l) (by rw [hsz]; exact hperm) (by rw [hsz]; exact hsorted)
  rw [e2] at hx'
  refine ⟨.tuple #[], fz, rfl, by simp only [RdA, RdL]; exact ⟨[], rfl, rfl⟩, ⟨hb.len, hb.one, fun i g' x hg hx => ?_, fun i j gi gj xi xj hij hgi hgj hxi hxj li lj => ?_⟩, ⟨rfl, rfl, rfl, Nat.le_add_right _ _, hsz2, fun k hk hno => ?_, hL, fun b o h => .inl h⟩, fun b o h => Nat.lt_of_lt_of_le (hfz b o h) hsz2⟩
  · cases i with
    | zero =>
      simp at hx; subst hx
      rw [h0] at hg; cases hg
      exact ⟨blk, c, vals', by rw [srt_len], by rw [srt_len]; exact hl1, hl2, hv1, ⟨vals.toList.drop d'.size, d'.toList.map (fun c => c.v), hv2, by rw [← hx']; exact unpack1 hL _⟩, hz⟩
    | succ i => simp at hx
  · have h1 := (List.getElem?_eq_some_iff.1 hxi).1
    have h2 := (List.getElem?_eq_some_iff.1 hxj).1
    simp at h1 h2; omega
  · exact hoth k hk (fun h => hno ⟨0, _, h0, by rw [h]; rfl⟩)

end Go.Proofs.YtgapiecbinplfaaGreat
/- slices.SortFunc over a row of structs that is written: the contract. -/
namespace Go.Proofs.YtgapiecbinplfaaGreat
open Go.RowKit Go.Shelf Go.Lib Go.Sort
variable {P : Program} {ρ : Ren}

theorem flat_get {α : Type} [Inhabited α] (enc : α → List Value) (k : Nat) (hk0 : 0 < k) (hk : ∀ x, (enc x).length = k) : ∀ (l : List α) (t : Nat), t < l.length * k → (l.map enc).flatten[t]? = some ((enc l[t / k]!)[t % k]!)
  | [], t, h => by simp at h
  | x :: l, t, h => by
    rw [List.map_cons, List.flatten_cons]
    by_cases ht : t < k
    · rw [List.getElem?_append_left (by rw [hk]; exact ht), Nat.div_eq_of_lt ht, Nat.mod_eq_of_lt ht]
      have : t < (enc x).length := by rw [hk]; exact ht
      simp [this]
    · rw [List.getElem?_append_right (by rw [hk]; omega), hk, flat_get enc k hk0 hk l (t - k) (by rw [List.length_cons, Nat.add_mul] at h; omega)]
      have e1 : t / k = (t - k) / k + 1 := by rw [Nat.div_eq_sub_div hk0 (by omega)]
      have e2 : t % k = (t - k) % k := Nat.mod_eq_sub_mod (by omega)
      rw [e1, e2]; simp
theorem flat_toList {α : Type} [Inhabited α] (enc : α → List Value) (k : Nat) (hk0 : 0 < k) (hk : ∀ x, (enc x).length = k) (d : Array α) : (flatK enc k d).toList = (d.toList.map enc).flatten := by
  obtain ⟨l⟩ := d
  have hlen : (l.map enc).flatten.length = l.length * k := by
    induction l with
    | nil => simp
    | cons x l ih => rw [List.map_cons, List.flatten_cons, List.length_append, hk, ih, List.length_cons, Nat.add_mul]; omega
  apply List.ext_getElem?
  intro t
  by_cases ht : t < l.length * k
  · rw [flat_get enc k hk0 hk l t ht]
    simp [flatK, ht]
  · rw [List.getElem?_eq_none (by simp [flatK]; omega), List.getElem?_eq_none (by rw [hlen]; omega)]

structure PackedK (fz : Fz) (w : World) (τ : Ty) (p : τ.den → Prop) where
  vs : List Value
  x : τ.den
  hr : ElR fz w τ x vs
  hp : p x
theorem packK {fz : Fz} {w : World} {τ : Ty} {p : τ.den → Prop} : ∀ {xs : List τ.den} {vs : List Value}, ElsR fz w τ xs vs → (∀ x ∈ xs, p x) → ∃ l : List (PackedK fz w τ p), (l.map (·.vs)).flatten = vs ∧ l.map (·.x) = xs
  | [], vs, h, _ => by cases h; exact ⟨[], rfl, rfl⟩
  | x :: xs, vs, ⟨cs, r, h1, h2, h3⟩, hp => by
    obtain ⟨l, e1, e2⟩ := packK h3 (fun y hy => hp y (by simp [hy]))
    exact ⟨⟨cs, x, h2, hp x (by simp)⟩ :: l, by rw [List.map_cons, List.flatten_cons, e1, h1], by rw [List.map_cons, e2]⟩
theorem unpackK {fz : Fz} {w w' : World} {fz' : Fz} {τ : Ty} {p : τ.den → Prop} (hl : Later fz w fz' w') : ∀ l : List (PackedK fz w τ p), ElsR fz' w' τ (l.map (·.x)) ((l.map (·.vs)).flatten)
  | [] => rfl
  | c :: l => ⟨c.vs, _, by rw [List.map_cons, List.flatten_cons], ElR.mono hl _ _ _ c.hr, unpackK hl l⟩

theorem sortK_ctr (L : SlLaysF0.n6 P ρ) {τ : Ty} (hτ : τ.agg = true) (aE : ∀ w, (isAgg (ρ.t 24)).run P w = .ok true w) (zE : ∀ w, (Go.sizeOf (ρ.t 24)).run P w = .ok τ.size w) {e : TypeId} {p : τ.den → Prop} {cmp : τ.den → τ.den → Int} (hO : OrdOn p cmp) (g : Nat) (eg : ∀ args w, (callFunc g args).run P w = .ok (.enter g args) w)
    (hcl : ∀ x y, p x → p y → Ctr P g [avOf τ x, avOf τ y] [] (.d .i (cmp x y)) []) {xs : List τ.den} (hp : ∀ x ∈ xs, p x) (hne : xs ≠ []) (hbig : xs.length ≤ big) :
    Ctr P (ρ.f 6) [.mrow 0, .fn g []] [.mrow e τ xs] (.tup []) [.mrow e τ (srt cmp xs)] := by
  intro fz β w vs hb hfz hr
  simp only [RdL, RdA, CapsR] at hr
  obtain ⟨v0, r0, rfl, h0, v1, r1, rfl, ⟨cv, rfl, rfl⟩, rfl⟩ := hr
  obtain ⟨blk, c, vals, rfl, hl1, hl2, hheap, ⟨rest, front, hv, hels⟩, hz⟩ := hb.ok 0 v0 _ h0 rfl
  have hblk := (Array.getElem?_eq_some_iff.1 hheap).1
  obtain ⟨l, e1, e2⟩ := packK hels hp
  have hll : l.length = xs.length := by rw [← e2, List.length_map]
  have hpos : 0 < xs.length := List.length_pos_iff.2 hne
  have hl0 : l ≠ [] := fun h => by rw [h] at hll; simp at hll; omega
  haveI : Inhabited (PackedK fz w τ p) := ⟨l.head hl0⟩
  have hk : ∀ c : PackedK fz w τ p, c.vs.length = τ.size := fun c => c.hr.length
  have hk0 : 0 < τ.size := by cases τ <;> simp [Ty.size]
  have hfl : front.length = xs.length * τ.size := hels.length
  have hvs : xs.length * τ.size ≤ vals.size := by rw [← Array.length_toList, hv, List.length_append]; omega
  have h1 : ∀ c : PackedK fz w τ p, ∀ v ∈ c.vs, v.oneCell' = true := fun c => ElR.ones c.hr
  have hsz : l.toArray.size = xs.length := by simpa using hll
  have hflat : (flatK (fun c : PackedK fz w τ p => c.vs) τ.size l.toArray).toList = front := by rw [flat_toList _ _ hk0 hk, ← e1]
  have hfs : ∀ dk : Array (PackedK fz w τ p), dk.size = l.toArray.size → (flatK (fun c : PackedK fz w τ p => c.vs) τ.size dk).size ≤ vals.size := fun dk h => by rw [size_flatK, h, hsz]; exact hvs
  have hH : HoldsK (fun c : PackedK fz w τ p => c.vs) τ.size w blk 0 l.toArray := fun j hj => by
    have hj' : j < front.length := by rw [← hflat, Array.length_toList]; exact hj
    refine ⟨?_, ?_⟩
    · rw [cell_of_row w blk _ vals e (0, 0) hheap, getElem!_pos _ j hj]
      have : vals.toList[0 + j]? = some ((flatK (fun c : PackedK fz w τ p => c.vs) τ.size l.toArray)[j]) := by
        rw [hv, List.getElem?_append_left (by omega), ← hflat, Nat.zero_add]; simp [hj]
      simpa using this
    · simp [World.frozen?, hheap]
  have hsame : ∀ (m : Nat) (os : Array Obj) (dk : Array (PackedK fz w τ p)), dk.size = l.toArray.size → Later fz w fz (sortWorldK (fun c : PackedK fz w τ p => c.vs) τ.size w blk 0 m dk os) := fun m os dk hdk b k hf =>
    ⟨hf, World.cell?_of_block (w := w) ((sortW id hheap m (flatK (fun c : PackedK fz w τ p => c.vs) τ.size dk) os (hfs dk hdk)).2.1 b (hfz b k hf) (fun h => hz k (by rw [← h]; exact hf)))⟩
  have hcmp : CmpLays P g #[] (fun c : PackedK fz w τ p => c.vs) τ.size (fun a b => cmp a.x b.x) blk 0 l.toArray.size w := fun m os dk hdk x y => by
    have hW := sortW id hheap m (flatK (fun c : PackedK fz w τ p => c.vs) τ.size dk) os (hfs dk hdk)
    have hfW : FzOk fz (sortWorldK (fun c : PackedK fz w τ p => c.vs) τ.size w blk 0 m dk os) := fun b o h => Nat.lt_of_lt_of_le (hfz b o h) hW.2.2
    have hx := RdA_avOf (β := []) (ElR.mono (hsame m os dk hdk) _ _ _ x.hr)
    have hy := RdA_avOf (β := []) (ElR.mono (hsame m os dk hdk) _ _ _ y.hr)
    rw [if_pos hτ] at hx hy
    have key := (hcl x.x y.x x.hp y.hp fz [] _ [.agg x.vs.toArray, .agg y.vs.toArray] ⟨rfl, by simp, by simp, by simp⟩ hfW (by simp only [RdL]; exact ⟨_, _, rfl, hx, _, _, rfl, hy, rfl⟩)).mono (R' := fun e w' => e = .returned (.int .i64 (cmp x.x y.x)) ∧ ∃ q os', w' = grow ((sortWorldK (fun c : PackedK fz w τ p => c.vs) τ.size w blk 0 m dk os).drewN q) os') (by
      rintro e' w' ⟨v, fz', rfl, hv, _, ha, _⟩
      simp only [RdA, ElR, List.cons.injEq, and_true] at hv
      subst hv
      exact ⟨rfl, ha.grown rfl⟩)
    simpa using key
  have hcon := AnyQ.slices_SortFunc L τ.size aE zE (fun c : PackedK fz w τ p => c.vs) hk h1 (fun a b => cmp a.x b.x) (swo_of hO (fun c : PackedK fz w τ p => c.x) (fun c => c.hp)) g #[] blk 0 c l.toArray w eg hcmp hH hblk (by rw [hsz]; simp only [big] at hbig; omega)
  rw [hsz] at hcon
  refine hcon.mono ?_
  rintro e' w' ⟨rfl, d', n, os, hperm, hsorted, rfl⟩
  have hd' : d'.size = l.toArray.size := by rw [hsz]; have := hperm.1; rw [hsz] at this; exact this
  have hL := hsame n os d' hd'
  obtain ⟨⟨vals', hv1, hv2⟩, hoth, hsz2⟩ := sortW id hheap n (flatK (fun c : PackedK fz w τ p => c.vs) τ.size d') os (hfs d' hd')
  rw [List.map_id, flat_toList _ _ hk0 hk] at hv2
  have hx' := sorted_list hO (fun c : PackedK fz w τ p => c.x) (fun c => c.hp) (l := l) (by rw [hsz]; exact hperm) (by rw [hsz]; exact hsorted)
  rw [e2] at hx'
  refine ⟨.tuple #[], fz, rfl, by simp only [RdA, RdL]; exact ⟨[], rfl, rfl⟩, ⟨hb.len, hb.one, fun i g' x hg hx => ?_, fun i j gi gj xi xj hij hgi hgj hxi hxj li lj => ?_⟩, ⟨rfl, rfl, rfl, Nat.le_add_right _ _, hsz2, fun k hk hno => ?_, hL, fun b o h => .inl h⟩, fun b o h => Nat.lt_of_lt_of_le (hfz b o h) hsz2⟩
  · cases i with
    | zero =>
      simp at hx; subst hx
      rw [h0] at hg; cases hg
      exact ⟨blk, c, vals', by rw [srt_len], by rw [srt_len]; exact hl1, hl2, hv1, ⟨_, _, hv2, by rw [← hx']; exact unpackK hL _⟩, hz⟩
    | succ i => simp at hx
  · have h1 := (List.getElem?_eq_some_iff.1 hxi).1
    have h2 := (List.getElem?_eq_some_iff.1 hxj).1
    simp at h1 h2; omega
  · exact hoth k hk (fun h => hno ⟨0, _, h0, by rw [h]; rfl⟩)

/-- Nothing to sort. -/
theorem sort0_ctr (L : SlLaysF0.n6 P ρ) {τ : Ty} (g : Nat) : Ctr P (ρ.f 6) [.d (.sl τ) [], .fn g []] [] (.tup []) [] := by
  intro fz β w vs hb hfz hr
  simp only [RdL, RdA, CapsR] at hr
  obtain ⟨v0, r0, rfl, h0, v1, r1, rfl, ⟨cv, rfl, rfl⟩, rfl⟩ := hr
  obtain ⟨ad, c, rfl, _⟩ := elR_sl.1 h0
  refine (AnyF.slices_SortFunc_none L ad c _ w).mono ?_
  rintro e' w' ⟨rfl, rfl⟩
  exact ⟨.tuple #[], fz, rfl, by simp only [RdA, RdL]; exact ⟨[], rfl, rfl⟩, hb, ⟨rfl, rfl, rfl, Nat.le_refl _, Nat.le_refl _, fun _ _ _ => rfl, Later.refl _ _, fun b o h => .inl h⟩, hfz⟩

end Go.Proofs.YtgapiecbinplfaaGreat
/- slices.Clone and slices.SortFunc laid at this program: the tables of numbers, printed by program; and their contracts. -/
namespace Go.Proofs.YtgapiecbinplfaaGreat
open Go.RowKit Go.Shelf Go.Lib Go.Sort
def Tryz.cloneT_ren : Go.Shelf.Ren := ⟨fun | 41 => 168 | n => n, fun | 22 => 22 | 23 => 36 | 4 => 4 | n => n, fun | n => n⟩
theorem Tryz.cloneT : Go.Proofs.SlLaysE0.n41 Tryz.prog Tryz.cloneT_ren := {
  mixed := by kernel_rfl
  f41 := ⟨Tryz.f168.name, by decide, Tryz.func168.trans (congrArg some (by kernel_rfl))⟩
  t4 := Tryz.underlying4
  a4 := Tryz.isAgg4
  z4 := Tryz.sizeOf4
  v4 := Tryz.zeroValue4
  t22 := Tryz.underlying22
  a22 := Tryz.isAgg22
  z22 := Tryz.sizeOf22
  v22 := Tryz.zeroValue22 }
def Tryz.cloneI_ren : Go.Shelf.Ren := ⟨fun | 41 => 172 | n => n, fun | 22 => 30 | 23 => 3 | 4 => 4 | n => n, fun | n => n⟩
theorem Tryz.cloneI : Go.Proofs.SlLaysE0.n41 Tryz.prog Tryz.cloneI_ren := {
  mixed := by kernel_rfl
  f41 := ⟨Tryz.f172.name, by decide, Tryz.func172.trans (congrArg some (by kernel_rfl))⟩
  t4 := Tryz.underlying4
  a4 := Tryz.isAgg4
  z4 := Tryz.sizeOf4
  v4 := Tryz.zeroValue4
  t22 := Tryz.underlying30
  a22 := Tryz.isAgg30
  z22 := Tryz.sizeOf30
  v22 := Tryz.zeroValue30 }
def Tryz.cloneR_ren : Go.Shelf.Ren := ⟨fun | 41 => 175 | n => n, fun | 22 => 23 | 23 => 55 | 4 => 4 | n => n, fun | n => n⟩
theorem Tryz.cloneR : Go.Proofs.SlLaysE0.n41 Tryz.prog Tryz.cloneR_ren := {
  mixed := by kernel_rfl
  f41 := ⟨Tryz.f175.name, by decide, Tryz.func175.trans (congrArg some (by kernel_rfl))⟩
  t4 := Tryz.underlying4
  a4 := Tryz.isAgg4
  z4 := Tryz.sizeOf4
  v4 := Tryz.zeroValue4
  t22 := Tryz.underlying23
  a22 := Tryz.isAgg23
  z22 := Tryz.sizeOf23
  v22 := Tryz.zeroValue23 }
def Tryz.sortT_ren : Go.Shelf.Ren := ⟨fun | 6 => 169 | 15 => 191 | 14 => 211 | 28 => 225 | 29 => 226 | 20 => 242 | 21 => 243 | 22 => 244 | 23 => 245 | 24 => 246 | 25 => 247 | 26 => 248 | 27 => 249 | 46 => 280 | 47 => 260 | 48 => 261 | 49 => 281 | 50 => 282 | 57 => 292 | n => n, fun | 22 => 22 | 24 => 36 | 25 => 81 | 3 => 3 | 39 => 166 | 0 => 0 | 53 => 210 | 55 => 212 | 4 => 4 | 46 => 204 | 45 => 203 | 50 => 112 | 5 => 5 | 9 => 9 | 66 => 246 | 70 => 250 | 76 => 268 | 77 => 269 | n => n, fun | n => n⟩
theorem Tryz.sortT : Go.Proofs.SlLaysF.n6 Tryz.prog Tryz.sortT_ren := {
  mixed := by kernel_rfl
  f6 := ⟨Tryz.f169.name, by decide, Tryz.func169.trans (congrArg some (by kernel_rfl))⟩
  f14 := ⟨Tryz.f211.name, by decide, Tryz.func211.trans (congrArg some (by kernel_rfl))⟩
  f15 := Tryz.func191.trans (congrArg some (by kernel_rfl))
  f20 := ⟨Tryz.f242.name, by decide, Tryz.func242.trans (congrArg some (by kernel_rfl))⟩
  f21 := ⟨Tryz.f243.name, by decide, Tryz.func243.trans (congrArg some (by kernel_rfl))⟩
  f22 := ⟨Tryz.f244.name, by decide, Tryz.func244.trans (congrArg some (by kernel_rfl))⟩
  f23 := ⟨Tryz.f245.name, by decide, Tryz.func245.trans (congrArg some (by kernel_rfl))⟩
  f24 := ⟨Tryz.f246.name, by decide, Tryz.func246.trans (congrArg some (by kernel_rfl))⟩
  f25 := ⟨Tryz.f247.name, by decide, Tryz.func247.trans (congrArg some (by kernel_rfl))⟩
  f26 := ⟨Tryz.f248.name, by decide, Tryz.func248.trans (congrArg some (by kernel_rfl))⟩
  f27 := ⟨Tryz.f249.name, by decide, Tryz.func249.trans (congrArg some (by kernel_rfl))⟩
  f28 := Tryz.func225.trans (congrArg some (by kernel_rfl))
  f29 := Tryz.func226.trans (congrArg some (by kernel_rfl))
  f46 := ⟨Tryz.f280.name, by decide, Tryz.func280.trans (congrArg some (by kernel_rfl))⟩
  f47 := Tryz.func260.trans (congrArg some (by kernel_rfl))
  f48 := Tryz.func261.trans (congrArg some (by kernel_rfl))
  f49 := ⟨Tryz.f281.name, by decide, Tryz.func281.trans (congrArg some (by kernel_rfl))⟩
  f50 := ⟨Tryz.f282.name, by decide, Tryz.func282.trans (congrArg some (by kernel_rfl))⟩
  f57 := ⟨Tryz.f292.name, by decide, Tryz.func292.trans (congrArg some (by kernel_rfl))⟩
  t0 := Tryz.underlying0
  a0 := Tryz.isAgg0
  z0 := Tryz.sizeOf0
  v0 := Tryz.zeroValue0
  t3 := Tryz.underlying3
  a3 := Tryz.isAgg3
  z3 := Tryz.sizeOf3
  v3 := Tryz.zeroValue3
  t4 := Tryz.underlying4
  a4 := Tryz.isAgg4
  z4 := Tryz.sizeOf4
  v4 := Tryz.zeroValue4
  t5 := Tryz.underlying5
  a5 := Tryz.isAgg5
  z5 := Tryz.sizeOf5
  v5 := Tryz.zeroValue5
  t9 := Tryz.underlying9
  a9 := Tryz.isAgg9
  z9 := Tryz.sizeOf9
  v9 := Tryz.zeroValue9
  t22 := Tryz.underlying22
  a22 := Tryz.isAgg22
  z22 := Tryz.sizeOf22
  v22 := Tryz.zeroValue22
  a24 := Tryz.isAgg36
  z24 := Tryz.sizeOf36
  t25 := Tryz.underlying81
  a25 := Tryz.isAgg81
  z25 := Tryz.sizeOf81
  v25 := Tryz.zeroValue81
  t39 := Tryz.underlying166
  a39 := Tryz.isAgg166
  z39 := Tryz.sizeOf166
  v39 := Tryz.zeroValue166
  t45 := Tryz.underlying203
  a45 := Tryz.isAgg203
  z45 := Tryz.sizeOf203
  v45 := Tryz.zeroValue203
  t46 := Tryz.underlying204
  a46 := Tryz.isAgg204
  z46 := Tryz.sizeOf204
  v46 := Tryz.zeroValue204
  t50 := Tryz.underlying112
  a50 := Tryz.isAgg112
  z50 := Tryz.sizeOf112
  v50 := Tryz.zeroValue112
  t53 := Tryz.underlying210
  a53 := Tryz.isAgg210
  z53 := Tryz.sizeOf210
  v53 := Tryz.zeroValue210
  t55 := Tryz.underlying212
  a55 := Tryz.isAgg212
  z55 := Tryz.sizeOf212
  v55 := Tryz.zeroValue212
  t66 := Tryz.underlying246
  a66 := Tryz.isAgg246
  z66 := Tryz.sizeOf246
  v66 := Tryz.zeroValue246
  t70 := Tryz.underlying250
  a70 := Tryz.isAgg250
  z70 := Tryz.sizeOf250
  v70 := Tryz.zeroValue250
  t76 := Tryz.underlying268
  a76 := Tryz.isAgg268
  z76 := Tryz.sizeOf268
  v76 := Tryz.zeroValue268
  t77 := Tryz.underlying269
  a77 := Tryz.isAgg269
  z77 := Tryz.sizeOf269
  v77 := Tryz.zeroValue269 }
def Tryz.sortI_ren : Go.Shelf.Ren := ⟨fun | 6 => 130 | 15 => 191 | 14 => 190 | 28 => 225 | 29 => 226 | 20 => 217 | 21 => 218 | 22 => 219 | 23 => 220 | 24 => 221 | 25 => 222 | 26 => 223 | 27 => 224 | 46 => 259 | 47 => 260 | 48 => 261 | 49 => 262 | 50 => 263 | 57 => 286 | n => n, fun | 22 => 30 | 24 => 3 | 25 => 105 | 3 => 3 | 39 => 166 | 0 => 0 | 53 => 210 | 55 => 212 | 4 => 4 | 46 => 204 | 45 => 203 | 50 => 112 | 5 => 5 | 9 => 9 | 66 => 246 | 70 => 250 | 76 => 268 | 77 => 269 | n => n, fun | n => n⟩
theorem Tryz.sortI : Go.Proofs.SlLaysF.n6 Tryz.prog Tryz.sortI_ren := {
  mixed := by kernel_rfl
  f6 := ⟨Tryz.f130.name, by decide, Tryz.func130.trans (congrArg some (by kernel_rfl))⟩
  f14 := ⟨Tryz.f190.name, by decide, Tryz.func190.trans (congrArg some (by kernel_rfl))⟩
  f15 := Tryz.func191.trans (congrArg some (by kernel_rfl))
  f20 := ⟨Tryz.f217.name, by decide, Tryz.func217.trans (congrArg some (by kernel_rfl))⟩
  f21 := ⟨Tryz.f218.name, by decide, Tryz.func218.trans (congrArg some (by kernel_rfl))⟩
  f22 := ⟨Tryz.f219.name, by decide, Tryz.func219.trans (congrArg some (by kernel_rfl))⟩
  f23 := ⟨Tryz.f220.name, by decide, Tryz.func220.trans (congrArg some (by kernel_rfl))⟩
  f24 := ⟨Tryz.f221.name, by decide, Tryz.func221.trans (congrArg some (by kernel_rfl))⟩
  f25 := ⟨Tryz.f222.name, by decide, Tryz.func222.trans (congrArg some (by kernel_rfl))⟩
  f26 := ⟨Tryz.f223.name, by decide, Tryz.func223.trans (congrArg some (by kernel_rfl))⟩
  f27 := ⟨Tryz.f224.name, by decide, Tryz.func224.trans (congrArg some (by kernel_rfl))⟩
  f28 := Tryz.func225.trans (congrArg some (by kernel_rfl))
  f29 := Tryz.func226.trans (congrArg some (by kernel_rfl))
  f46 := ⟨Tryz.f259.name, by decide, Tryz.func259.trans (congrArg some (by kernel_rfl))⟩
  f47 := Tryz.func260.trans (congrArg some (by kernel_rfl))
  f48 := Tryz.func261.trans (congrArg some (by kernel_rfl))
  f49 := ⟨Tryz.f262.name, by decide, Tryz.func262.trans (congrArg some (by kernel_rfl))⟩
  f50 := ⟨Tryz.f263.name, by decide, Tryz.func263.trans (congrArg some (by kernel_rfl))⟩
  f57 := ⟨Tryz.f286.name, by decide, Tryz.func286.trans (congrArg some (by kernel_rfl))⟩
  t0 := Tryz.underlying0
  a0 := Tryz.isAgg0
  z0 := Tryz.sizeOf0
  v0 := Tryz.zeroValue0
  t3 := Tryz.underlying3
  a3 := Tryz.isAgg3
  z3 := Tryz.sizeOf3
  v3 := Tryz.zeroValue3
  t4 := Tryz.underlying4
  a4 := Tryz.isAgg4
  z4 := Tryz.sizeOf4
  v4 := Tryz.zeroValue4
  t5 := Tryz.underlying5
  a5 := Tryz.isAgg5
  z5 := Tryz.sizeOf5
  v5 := Tryz.zeroValue5
  t9 := Tryz.underlying9
  a9 := Tryz.isAgg9
  z9 := Tryz.sizeOf9
  v9 := Tryz.zeroValue9
  t22 := Tryz.underlying30
  a22 := Tryz.isAgg30
  z22 := Tryz.sizeOf30
  v22 := Tryz.zeroValue30
  a24 := Tryz.isAgg3
  z24 := Tryz.sizeOf3
  t25 := Tryz.underlying105
  a25 := Tryz.isAgg105
  z25 := Tryz.sizeOf105
  v25 := Tryz.zeroValue105
  t39 := Tryz.underlying166
  a39 := Tryz.isAgg166
  z39 := Tryz.sizeOf166
  v39 := Tryz.zeroValue166
  t45 := Tryz.underlying203
  a45 := Tryz.isAgg203
  z45 := Tryz.sizeOf203
  v45 := Tryz.zeroValue203
  t46 := Tryz.underlying204
  a46 := Tryz.isAgg204
  z46 := Tryz.sizeOf204
  v46 := Tryz.zeroValue204
  t50 := Tryz.underlying112
  a50 := Tryz.isAgg112
  z50 := Tryz.sizeOf112
  v50 := Tryz.zeroValue112
  t53 := Tryz.underlying210
  a53 := Tryz.isAgg210
  z53 := Tryz.sizeOf210
  v53 := Tryz.zeroValue210
  t55 := Tryz.underlying212
  a55 := Tryz.isAgg212
  z55 := Tryz.sizeOf212
  v55 := Tryz.zeroValue212
  t66 := Tryz.underlying246
  a66 := Tryz.isAgg246
  z66 := Tryz.sizeOf246
  v66 := Tryz.zeroValue246
  t70 := Tryz.underlying250
  a70 := Tryz.isAgg250
  z70 := Tryz.sizeOf250
  v70 := Tryz.zeroValue250
  t76 := Tryz.underlying268
  a76 := Tryz.isAgg268
  z76 := Tryz.sizeOf268
  v76 := Tryz.zeroValue268
  t77 := Tryz.underlying269
  a77 := Tryz.isAgg269
  z77 := Tryz.sizeOf269
  v77 := Tryz.zeroValue269 }
def Tryz.sortR_ren : Go.Shelf.Ren := ⟨fun | 6 => 176 | 15 => 191 | 14 => 212 | 28 => 225 | 29 => 226 | 20 => 250 | 21 => 251 | 22 => 252 | 23 => 253 | 24 => 254 | 25 => 255 | 26 => 256 | 27 => 257 | 46 => 283 | 47 => 260 | 48 => 261 | 49 => 284 | 50 => 285 | 57 => 293 | n => n, fun | 22 => 23 | 24 => 55 | 25 => 101 | 3 => 3 | 39 => 166 | 0 => 0 | 53 => 210 | 55 => 212 | 4 => 4 | 46 => 204 | 45 => 203 | 50 => 112 | 5 => 5 | 9 => 9 | 66 => 246 | 70 => 250 | 76 => 268 | 77 => 269 | n => n, fun | n => n⟩
theorem Tryz.sortR : Go.Proofs.SlLaysF0.n6 Tryz.prog Tryz.sortR_ren := {
  mixed := by kernel_rfl
  f6 := ⟨Tryz.f176.name, by decide, Tryz.func176.trans (congrArg some (by kernel_rfl))⟩
  f14 := ⟨Tryz.f212.name, by decide, Tryz.func212.trans (congrArg some (by kernel_rfl))⟩
  f15 := Tryz.func191.trans (congrArg some (by kernel_rfl))
  f20 := ⟨Tryz.f250.name, by decide, Tryz.func250.trans (congrArg some (by kernel_rfl))⟩
  f21 := ⟨Tryz.f251.name, by decide, Tryz.func251.trans (congrArg some (by kernel_rfl))⟩
  f22 := ⟨Tryz.f252.name, by decide, Tryz.func252.trans (congrArg some (by kernel_rfl))⟩
  f23 := ⟨Tryz.f253.name, by decide, Tryz.func253.trans (congrArg some (by kernel_rfl))⟩
  f24 := ⟨Tryz.f254.name, by decide, Tryz.func254.trans (congrArg some (by kernel_rfl))⟩
  f25 := ⟨Tryz.f255.name, by decide, Tryz.func255.trans (congrArg some (by kernel_rfl))⟩
  f26 := ⟨Tryz.f256.name, by decide, Tryz.func256.trans (congrArg some (by kernel_rfl))⟩
  f27 := ⟨Tryz.f257.name, by decide, Tryz.func257.trans (congrArg some (by kernel_rfl))⟩
  f28 := Tryz.func225.trans (congrArg some (by kernel_rfl))
  f29 := Tryz.func226.trans (congrArg some (by kernel_rfl))
  f46 := ⟨Tryz.f283.name, by decide, Tryz.func283.trans (congrArg some (by kernel_rfl))⟩
  f47 := Tryz.func260.trans (congrArg some (by kernel_rfl))
  f48 := Tryz.func261.trans (congrArg some (by kernel_rfl))
  f49 := ⟨Tryz.f284.name, by decide, Tryz.func284.trans (congrArg some (by kernel_rfl))⟩
  f50 := ⟨Tryz.f285.name, by decide, Tryz.func285.trans (congrArg some (by kernel_rfl))⟩
  f57 := ⟨Tryz.f293.name, by decide, Tryz.func293.trans (congrArg some (by kernel_rfl))⟩
  t0 := Tryz.underlying0
  a0 := Tryz.isAgg0
  z0 := Tryz.sizeOf0
  v0 := Tryz.zeroValue0
  t3 := Tryz.underlying3
  a3 := Tryz.isAgg3
  z3 := Tryz.sizeOf3
  v3 := Tryz.zeroValue3
  t4 := Tryz.underlying4
  a4 := Tryz.isAgg4
  z4 := Tryz.sizeOf4
  v4 := Tryz.zeroValue4
  t5 := Tryz.underlying5
  a5 := Tryz.isAgg5
  z5 := Tryz.sizeOf5
  v5 := Tryz.zeroValue5
  t9 := Tryz.underlying9
  a9 := Tryz.isAgg9
  z9 := Tryz.sizeOf9
  v9 := Tryz.zeroValue9
  t22 := Tryz.underlying23
  a22 := Tryz.isAgg23
  z22 := Tryz.sizeOf23
  v22 := Tryz.zeroValue23
  t25 := Tryz.underlying101
  a25 := Tryz.isAgg101
  z25 := Tryz.sizeOf101
  v25 := Tryz.zeroValue101
  t39 := Tryz.underlying166
  a39 := Tryz.isAgg166
  z39 := Tryz.sizeOf166
  v39 := Tryz.zeroValue166
  t45 := Tryz.underlying203
  a45 := Tryz.isAgg203
  z45 := Tryz.sizeOf203
  v45 := Tryz.zeroValue203
  t46 := Tryz.underlying204
  a46 := Tryz.isAgg204
  z46 := Tryz.sizeOf204
  v46 := Tryz.zeroValue204
  t50 := Tryz.underlying112
  a50 := Tryz.isAgg112
  z50 := Tryz.sizeOf112
  v50 := Tryz.zeroValue112
  t53 := Tryz.underlying210
  a53 := Tryz.isAgg210
  z53 := Tryz.sizeOf210
  v53 := Tryz.zeroValue210
  t55 := Tryz.underlying212
  a55 := Tryz.isAgg212
  z55 := Tryz.sizeOf212
  v55 := Tryz.zeroValue212
  t66 := Tryz.underlying246
  a66 := Tryz.isAgg246
  z66 := Tryz.sizeOf246
  v66 := Tryz.zeroValue246
  t70 := Tryz.underlying250
  a70 := Tryz.isAgg250
  z70 := Tryz.sizeOf250
  v70 := Tryz.zeroValue250
  t76 := Tryz.underlying268
  a76 := Tryz.isAgg268
  z76 := Tryz.sizeOf268
  v76 := Tryz.zeroValue268
  t77 := Tryz.underlying269
  a77 := Tryz.isAgg269
  z77 := Tryz.sizeOf269
  v77 := Tryz.zeroValue269 }
theorem cloneT_own {xs : List Term} (hne : xs ≠ []) (hbig : xs.length ≤ big) : CtrO Tryz.prog 168 [.d .terms xs] (.mrow 36 .term xs) := clone_own Tryz.cloneT (elT_ok 22 36 .term rfl) hne hbig
theorem cloneI_own {xs : List Int} (hne : xs ≠ []) (hbig : xs.length ≤ big) : CtrO Tryz.prog 172 [.d .ints xs] (.mrow 3 .i xs) := clone_own (τ := .i) Tryz.cloneI (elT_ok 30 3 .i rfl) hne hbig
theorem cloneR_own {xs : List Rule} (hne : xs ≠ []) (hbig : xs.length ≤ big) : CtrO Tryz.prog 175 [.d (.sl .rule) xs] (.mrow 55 .rule xs) := clone_own (τ := .rule) Tryz.cloneR (elT_ok 23 55 .rule rfl) hne hbig
theorem cloneT0_ctr : Ctr Tryz.prog 168 [.d .terms []] [] (.d .terms []) [] := clone0 (τ := .term) Tryz.cloneT (elT_ok 22 36 .term rfl)
theorem cloneI0_ctr : Ctr Tryz.prog 172 [.d .ints []] [] (.d .ints []) [] := clone0 (τ := .i) Tryz.cloneI (elT_ok 30 3 .i rfl)
theorem cloneR0_ctr : Ctr Tryz.prog 175 [.d (.sl .rule) []] [] (.d (.sl .rule) []) [] := clone0 (τ := .rule) Tryz.cloneR (elT_ok 23 55 .rule rfl)
theorem enters {f : FuncId} (h : fnT f = true) : ∀ args w, (callFunc f args).run Tryz.prog w = .ok (.enter f args) w := E.fnok f h
theorem sortT_ctr {xs : List Term} (hne : xs ≠ []) (hbig : xs.length ≤ big) : Ctr Tryz.prog 169 [.mrow 0, .fn 87 []] [.mrow 36 .term xs] (.tup []) [.mrow 36 .term (srt cmpG xs)] :=
  sort1_ctr (τ := .term) Tryz.sortT rfl cmpG_ord 87 (enters rfl) (fun x y _ _ => cmpG_ctr x y) (fun _ _ => trivial) hne hbig
theorem sortI_ctr {xs : List Int} (hne : xs ≠ []) (hbig : xs.length ≤ big) : Ctr Tryz.prog 130 [.mrow 0, .fn 94 []] [.mrow 3 .i xs] (.tup []) [.mrow 3 .i (srt cmpI xs)] :=
  sort1_ctr (τ := .i) Tryz.sortI rfl cmpI_ord 94 (enters rfl) (fun x y _ _ => cmpI_ctr x y) (fun _ _ => trivial) hne hbig
theorem sortR_ctr {xs : List Rule} (hne : xs ≠ []) (hbig : xs.length ≤ big) : Ctr Tryz.prog 176 [.mrow 0, .fn 89 []] [.mrow 55 .rule xs] (.tup []) [.mrow 55 .rule (srt gOrder xs)] :=
  sortK_ctr (τ := .rule) Tryz.sortR rfl Tryz.isAgg55 Tryz.sizeOf55 gOrder_ord 89 (enters rfl) (fun x y _ _ => gOrder_ctr x y) (fun _ _ => trivial) hne hbig
theorem sortT0_ctr : Ctr Tryz.prog 169 [.d .terms [], .fn 87 []] [] (.tup []) [] := sort0_ctr (ρ := Tryz.sortT_ren) (τ := .term) { Tryz.sortT with } 87
theorem sortI0_ctr : Ctr Tryz.prog 130 [.d .ints [], .fn 94 []] [] (.tup []) [] := sort0_ctr (ρ := Tryz.sortI_ren) (τ := .i) { Tryz.sortI with } 94
theorem sortR0_ctr : Ctr Tryz.prog 176 [.d (.sl .rule) [], .fn 89 []] [] (.tup []) [] := sort0_ctr (τ := .rule) Tryz.sortR 89
end Go.Proofs.YtgapiecbinplfaaGreat
/- A nil slice in a variable's cell, taken as a row of one's own. -/
namespace Go.Proofs.YtgapiecbinplfaaGreat
open Go.RowKit

variable {P : Program} {m0 N : Nat} {ρ ρ' : Fr} {H H' : List Box} {Q : Exit → Fr → List Box → Prop}

theorem RdL.put {fz : Fz} {β : List Value} {w : World} : ∀ {cs : List AV} {vs : List Value} (o : Nat) (x : AV), RdL fz β w cs vs → (∀ v, vs[o]? = some v → RdA fz β w x v) → RdL fz β w (cs.set o x) vs
  | [], vs, o, x, h, _ => by simpa using h
  | c :: cs, vs, 0, x, h, hx => by
    simp only [RdL] at h
    obtain ⟨v, r, rfl, h2, h3⟩ := h
    simp only [List.set_cons_zero, RdL]
    exact ⟨v, r, rfl, hx v (by simp), h3⟩
  | c :: cs, vs, o + 1, x, h, hx => by
    simp only [RdL] at h
    obtain ⟨v, r, rfl, h2, h3⟩ := h
    simp only [List.set_cons_succ, RdL]
    exact ⟨v, r, rfl, h2, RdL.put o x h3 (fun v hv => hx v (by simpa using hv))⟩

theorem ok_ownC {c : Code} (b o : Nat) (e : TypeId) (τ : Ty) {cs : List AV} (hb : H[b]? = some (.cells cs)) (ho : cs[o]? = some .nilsl)
    (h : Ok P m0 N c Q ρ (H.set b (.cells (cs.set o (.orow H.length))) ++ [.orow e τ []])) : Ok P m0 N c Q ρ H := by
  intro S fz β w a hr
  have hn := hr.addNil e τ
  have hlen := hr.bx.len
  have hbl := (List.getElem?_eq_some_iff.1 hb).1
  have key : ∀ (i : Nat) (y : Box), (H.set b (.cells (cs.set o (.orow H.length))) ++ [Box.orow e τ []])[i]? = some y → ((H ++ [Box.orow e τ []])[i]? = some y) ∨ (i = b ∧ y = .cells (cs.set o (.orow H.length)) ∧ (H ++ [Box.orow e τ []])[i]? = some (.cells cs)) := by
    intro i y hy
    by_cases hi : i < H.length
    · rw [List.getElem?_append_left (by simpa using hi), List.getElem?_set] at hy
      split at hy
      · rename_i hbi
        subst hbi
        cases hy
        exact .inr ⟨rfl, rfl, by rw [List.getElem?_append_left hi]; exact hb⟩
      · exact .inl (by rw [List.getElem?_append_left hi]; exact hy)
    · rw [List.getElem?_append_right (by simpa using hi)] at hy
      exact .inl (by rw [List.getElem?_append_right (by omega)]; simpa using hy)
  have live : ∀ (i : Nat) (y : Box), (H.set b (.cells (cs.set o (.orow H.length))) ++ [Box.orow e τ []])[i]? = some y → y.live = true → ∃ z : Box, (H ++ [Box.orow e τ []])[i]? = some z ∧ z.live = true := by
    intro i y hy hl
    rcases key i y hy with h1 | ⟨_, rfl, h2⟩
    · exact ⟨y, h1, hl⟩
    · exact ⟨_, h2, rfl⟩
  refine h S fz _ w a ⟨hn.fr, ⟨by simpa using hn.bx.len, hn.bx.one, fun i g y hg hy => ?_, fun i j gi gj xi xj hij hgi hgj hxi hxj li lj => ?_⟩, fun i g y hg hy hl k hk => ?_, hn.anc, hn.fzok, ⟨hn.pre.len, by simpa using hn.pre.le, hn.pre.same, fun i y hi hy => ?_⟩⟩
  · rcases key i y hy with h1 | ⟨rfl, rfl, h2⟩
    · exact hn.bx.ok i g y hg h1
    · obtain ⟨blk, vs, e', hg2, hh, hrl, hz⟩ := hn.bx.ok i g _ hg h2
      refine ⟨blk, vs, e', hg2, hh, hrl.put o _ fun v hv => ?_, hz⟩
      obtain ⟨u, hu1, hu2⟩ := hrl.get o .nilsl ho
      rw [hv] at hu1; cases hu1
      simp only [RdA] at hu2 ⊢
      rw [hu2, ← hlen]; simp
  · obtain ⟨yi, a1, a2⟩ := live i xi hxi li
    obtain ⟨yj, b1, b2⟩ := live j xj hxj lj
    exact hn.bx.apart i j gi gj yi yj hij hgi hgj a1 b1 a2 b2
  · obtain ⟨z, a1, a2⟩ := live i y hy hl
    exact hn.mine i g z hg a1 a2 k hk
  · rcases key i y hy with h1 | ⟨rfl, rfl, h2⟩
    · exact hn.pre.noO i y hi h1
    · rfl

end Go.Proofs.YtgapiecbinplfaaGreat
