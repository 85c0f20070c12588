/- Own framework, walks and plain laws behind the laws of this seat, part C8: lemmas, no statement of the seat. -/
import Derived.Test.YtgapiecbinplfaaGreatC7
set_option linter.all false
/- Walks: package term: right; places. Printed by walk.py from annotations. -/
namespace Go.Proofs.YtgapiecbinplfaaGreat
open Go.RowKit


theorem visG_ctr (t : List Cell) (hl : t.length ≤ 1000) : ∀ (f k : Nat), t.length ≤ k + f → k ≤ t.length → Ctr Tryz.prog 205 [.d .i (k : Int), .ptr 0 0, .ptr 1 0] [.cells [.d .term t], .cells [.fn 205 [(0, 0), (1, 0)]]] (.d .i (visG t f k : Nat)) [.cells [.d .term t], .cells [.fn 205 [(0, 0), (1, 0)]]]
  | 0, k, h, h2 => by
    have := visG_step_ctr t hl 0 k (by omega) h2 (fun h3 => by omega)
    have e : visG t (0 + 1) k = visG t 0 k := by
      simp only [visG]; rw [if_neg (by omega)]
    rwa [e] at this
  | f + 1, k, h, h2 => visG_step_ctr t hl f k h h2 (fun _ k2 h3 h4 => visG_ctr t hl f k2 h3 h4)

set_option maxRecDepth 8000 in
set_option maxHeartbeats 4000000 in
theorem endG_ctr (t : List Cell) (hl : t.length ≤ 1000) : Ctr Tryz.prog 149 [.d .term t, .d .i 0] [] (.d .i (visG t t.length 0 : Nat)) [] := by
  refine ctr_pure E Tryz.func149 rfl Tryz.ntmps149 Tryz.results149 (Nat.le_of_ble_eq_true rfl) rfl ?_
  repeat refine ok_seq ?_
  refine ok_reg E [1, 2] [] (by simp [-Option.some.injEq, -Prod.mk.injEq]; rfl) (by first | trivial | omega | simp | (simp; omega)) ?_
  repeat refine ok_seq ?_
  refine ok_reg E [1, 2, 5] [] (by simp [-Option.some.injEq, -Prod.mk.injEq]; rfl) (by first | trivial | omega | simp | (simp; omega)) ?_
  repeat refine ok_seq ?_
  refine ok_reg E [1, 5] [] (by simp [-Option.some.injEq, -Prod.mk.injEq]; rfl) (by first | trivial | omega | simp | (simp; omega)) ?_
  repeat refine ok_seq ?_
  refine ok_reg E [4] [.full [0, 1] [.d .i ((0 : Nat) : Int), .ptr 0 0, .ptr 1 0] [.cells [.d .term t], .cells [.fn 205 [(0, 0), (1, 0)]]] (.d .i (visG t t.length 0 : Nat)) [.cells [.d .term t], .cells [.fn 205 [(0, 0), (1, 0)]]]] (by simp [-Option.some.injEq, -Prod.mk.injEq]; rfl) (by exact ⟨visG_ctr t hl t.length 0 (by omega) (by omega), Takes.of (by decide) (by simp)⟩) ?_
  refine ok_ret ⟨.inr rfl, ?_⟩
  -- ret1
  simp [resAll, resL, resA, frozE]

set_option maxRecDepth 8000 in
set_option maxHeartbeats 4000000 in
theorem rightG_ctr (t : List Cell) : Ctr Tryz.prog 83 [.d .term t] [] (.d .bool (rightG t)) [] := by
  refine ctr_pure E Tryz.func83 rfl Tryz.ntmps83 Tryz.results83 (Nat.le_of_ble_eq_true rfl) rfl ?_
  have k1 := inI_ctr t.length 1 200
  have k2 : inI t.length 1 200 = true → Ctr Tryz.prog 149 [.d .term t, .d .i 0] [] (.d .i (visG t t.length 0 : Nat)) [] := fun h => endG_ctr t (by simp [inI] at h; omega)
  repeat refine ok_seq ?_
  refine ok_reg E [0] [] (by simp [-Option.some.injEq, -Prod.mk.injEq]; rfl) (by first | trivial | omega | simp | (simp; omega)) ?_
  repeat refine ok_seq ?_
  refine ok_regJ E [(2, .d .bool (inI t.length 1 200 && decide ((visG t t.length 0 : Int) = t.length)))] [] [2] [.pure (.d .bool (inI t.length 1 200)), .pure (.d .i (visG t t.length 0 : Nat))] ?_ ?_
  · skip
    by_cases q0 : inI t.length 1 200 = true
    rotate_left
    · refine ⟨_, _, _, by simp [q0, -Option.some.injEq, -Prod.mk.injEq]; rfl, (by first | trivial | (simp_all; done) | (simp_all; omega)), by constructor <;> simp [EntF, EntH, EntB, Conv, scop, q0] <;> first | omega | (rw [Bool.eq_iff_iff]; simp; omega)⟩
    refine ⟨_, _, _, by simp [q0, -Option.some.injEq, -Prod.mk.injEq]; rfl, (by first | trivial | (simp_all; done) | (simp_all; omega)), by constructor <;> simp [EntF, EntH, EntB, Conv, scop, q0] <;> first | omega | (rw [Bool.eq_iff_iff]; simp; omega)⟩
  refine ok_ret ⟨.inr rfl, ?_⟩
  -- ret1
  simp [resAll, resL, resA, frozE]
  rw [Bool.eq_iff_iff]; simp [rightG, inI]; omega

set_option maxRecDepth 8000 in
set_option maxHeartbeats 4000000 in
theorem oddT_ctr (t : List Cell) : Ctr Tryz.prog 82 [.d .term t] [] (.d .bool (oddT t)) [] := by
  refine ctr_pure E Tryz.func82 rfl Tryz.ntmps82 Tryz.results82 (Nat.le_of_ble_eq_true rfl) rfl ?_
  have k1 := rightG_ctr t
  have k2 := groundG_ctr t
  have k3 : rightG t = true → 0 < t.length := fun h => by simp [rightG] at h; omega
  repeat refine ok_seq ?_
  refine ok_reg E [0] [] (by simp [-Option.some.injEq, -Prod.mk.injEq]; rfl) (by first | trivial | omega | simp | (simp; omega)) ?_
  repeat refine ok_seq ?_
  refine ok_regJ E [(2, .d .bool (oddT t))] [] [2] [.pure (.d .bool (rightG t)), .pure (.d .bool (groundG t))] ?_ ?_
  · skip
    by_cases q0 : rightG t = true
    rotate_left
    · refine ⟨_, _, _, by simp [q0, oddT, -Option.some.injEq, -Prod.mk.injEq]; rfl, (by first | trivial | (simp_all; done) | (simp_all; omega)), by constructor <;> simp [EntF, EntH, EntB, Conv, scop, q0, oddT] <;> first | omega | (rw [Bool.eq_iff_iff]; simp; omega)⟩
    by_cases q1 : (gc t 0).kind = 3
    rotate_left
    · refine ⟨_, _, _, by simp [q0, q1, oddT, -Option.some.injEq, -Prod.mk.injEq]; rfl, (by first | trivial | (simp_all; done) | (simp_all; omega)), by constructor <;> simp [EntF, EntH, EntB, Conv, scop, q0, q1, oddT] <;> first | omega | (rw [Bool.eq_iff_iff]; simp; omega)⟩
    refine ⟨_, _, _, by simp [q0, q1, oddT, -Option.some.injEq, -Prod.mk.injEq]; rfl, (by first | trivial | (simp_all; done) | (simp_all; omega)), by constructor <;> simp [EntF, EntH, EntB, Conv, scop, q0, q1, oddT] <;> first | omega | (rw [Bool.eq_iff_iff]; simp; omega)⟩
  refine ok_ret ⟨.inr rfl, ?_⟩
  -- ret1
  simp [resAll, resL, resA, frozE]

set_option maxRecDepth 8000 in
set_option maxHeartbeats 4000000 in
theorem idxT_ctr (l : List Term)  : Ctr Tryz.prog 152 [.d (.sl (.sl .cell)) l, .fn 82 []] [] (.d .i (idxP oddT l 0)) [] := by
  refine ctr_pure E Tryz.func152 rfl Tryz.ntmps152 Tryz.results152 (Nat.le_of_ble_eq_true rfl) rfl ?_
  repeat refine ok_seq ?_
  refine ok_reg E [0, 1] [] (by simp [-Option.some.injEq, -Prod.mk.injEq]; rfl) (by first | trivial | omega | simp | (simp; omega)) ?_
  repeat refine ok_seq ?_
  refine ok_reg E [0, 1, 7, 8] [] (by simp [-Option.some.injEq, -Prod.mk.injEq]; rfl) (by first | trivial | omega | simp | (simp; omega)) ?_
  repeat refine ok_seq ?_
  refine ok_block ?_
  repeat refine ok_seq ?_
  refine ok_lenN 0 rfl fun ha => ?_
  refine ok_loop (σ := Nat) (fun i => [(0, .d (.sl (.sl .cell)) l), (1, .fn 82 []), (7, .d .i (l.length : Int)), (8, .d .i (i : Int))]) (fun i => []) (fun i => i ≤ l.length ∧ idxP oddT (l.drop i) i = idxP oddT l 0) (fun i => l.length - i) 0 (by simp) ?_ ?_
  · constructor <;> simp [EntF, EntH, EntB, Conv, scop]
  rintro i ⟨hi1, hi⟩
  repeat refine ok_seq ?_
  refine ok_reg E [0, 1, 7, 8, 9] [] (by simp [-Option.some.injEq, -Prod.mk.injEq]; rfl) (by first | trivial | omega | simp | (simp; omega)) ?_
  repeat refine ok_seq ?_
  refine ok_if rfl (fun c1 => ?_) (fun c1 => ?_)
  · try simp at c1
    all_goals
      refine ok_skip ?_
      repeat refine ok_seq ?_
      refine ok_block ?_
      repeat refine ok_seq ?_
      refine ok_reg E [0, 1, 5, 7, 8] [] (by simp [-Option.some.injEq, -Prod.mk.injEq]; rfl) (by first | trivial | omega | simp | (simp; omega)) ?_
      repeat refine ok_seq ?_
      refine ok_reg E [0, 1, 5, 7, 8, 16] [.pure (.d .bool (oddT (gt l i)))] (by simp [-Option.some.injEq, -Prod.mk.injEq]; rfl) (by first | (simp; done) | (have k1 := oddT_ctr (gt l i); (try simp at k1); simp [k1, Takes]; try omega)) ?_
      repeat refine ok_seq ?_
      refine ok_if rfl (fun c2 => ?_) (fun c2 => ?_)
      · try simp at c2
        all_goals
          repeat refine ok_seq ?_
          refine ok_reg E [4] [] (by simp [-Option.some.injEq, -Prod.mk.injEq]; rfl) (by first | trivial | omega | simp | (simp; omega)) ?_
          refine ok_ret ⟨.inr rfl, ?_⟩
          -- ret1
          simp [resAll, resL, resA, frozE]
          rw [← hi, List.drop_eq_getElem_cons c1, idxP, ← gt_lt c1, if_pos c2]
      · try simp at c2
        all_goals
          refine ok_skip ?_
          repeat refine ok_seq ?_
          refine ok_reg E [0, 1, 7, 8] [] (by simp [-Option.some.injEq, -Prod.mk.injEq]; rfl) (by first | trivial | omega | simp | (simp; omega)) ?_
          -- end01
          exact ⟨i + 1, ⟨by omega, by rw [← hi, List.drop_eq_getElem_cons c1, idxP, ← gt_lt c1, if_neg (by simp [c2])]⟩, by omega, by constructor <;> simp (disch := omega) [EntF, EntH, EntB, Conv, scop, wrap_i64]⟩
  · try simp at c1
    all_goals
      refine ok_exit ?_
      repeat refine ok_seq ?_
      refine ok_reg E [4] [] (by simp [-Option.some.injEq, -Prod.mk.injEq]; rfl) (by first | trivial | omega | simp | (simp; omega)) ?_
      refine ok_ret ⟨.inr rfl, ?_⟩
      -- ret2
      simp [resAll, resL, resA, frozE]
      rw [← hi, List.drop_of_length_le (by omega)]; rfl

set_option maxRecDepth 8000 in
set_option maxHeartbeats 4000000 in
theorem anyT_ctr (l : List Term)  : Ctr Tryz.prog 85 [.d (.sl (.sl .cell)) l, .fn 82 []] [] (.d .bool (l.any oddT)) [] := by
  refine ctr_pure E Tryz.func85 rfl Tryz.ntmps85 Tryz.results85 (Nat.le_of_ble_eq_true rfl) rfl ?_
  repeat refine ok_seq ?_
  refine ok_reg E [0, 1] [] (by simp [-Option.some.injEq, -Prod.mk.injEq]; rfl) (by first | trivial | omega | simp | (simp; omega)) ?_
  repeat refine ok_seq ?_
  refine ok_reg E [4] [.pure (.d .i (idxP oddT l 0))] (by simp [-Option.some.injEq, -Prod.mk.injEq]; rfl) (by (have k1 := idxT_ctr l; (try simp at k1); simp [k1, Takes]; try omega)) ?_
  refine ok_ret ⟨.inr rfl, ?_⟩
  -- ret1
  simp [resAll, resL, resA, frozE]
  first | done | (have := idxP_any oddT l 0; rw [Bool.eq_iff_iff]; simpa using this)

set_option maxRecDepth 8000 in
set_option maxHeartbeats 4000000 in
theorem bs_ctr (l : List Term) (t : Term) (hl : l.length ≤ 1000000) : Ctr Tryz.prog 101 [.d .terms l, .d .term t, .fn 87 []] [] (.tup [.d .i (bsN l t 0 l.length : Nat), .d .bool (bsF l t)]) [] := by
  refine ctr_pure E Tryz.func101 rfl Tryz.ntmps101 Tryz.results101 (Nat.le_of_ble_eq_true rfl) rfl ?_
  repeat refine ok_seq ?_
  refine ok_reg E [0, 1, 2] [] (by simp [-Option.some.injEq, -Prod.mk.injEq]; rfl) (by first | trivial | omega | simp | (simp; omega)) ?_
  repeat refine ok_seq ?_
  refine ok_reg E [0, 1, 2, 8] [] (by simp [-Option.some.injEq, -Prod.mk.injEq]; rfl) (by first | trivial | omega | simp | (simp; omega)) ?_
  repeat refine ok_seq ?_
  refine ok_reg E [0, 1, 2, 8, 9, 10] [] (by simp [-Option.some.injEq, -Prod.mk.injEq]; rfl) (by first | trivial | omega | simp | (simp; omega)) ?_
  repeat refine ok_seq ?_
  refine ok_block ?_
  repeat refine ok_seq ?_
  refine ok_loop (σ := (Nat × Nat)) (fun s => [(0, .d .terms l), (1, .d .term t), (2, .fn 87 []), (8, .d .i (l.length : Int)), (9, .d .i (s.1 : Int)), (10, .d .i (s.2 : Int))]) (fun s => []) (fun s => s.1 ≤ s.2 ∧ s.2 ≤ l.length ∧ bsN l t s.1 s.2 = bsN l t 0 l.length) (fun s => s.2 - s.1) (0, l.length) (by simp) ?_ ?_
  · constructor <;> simp [EntF, EntH, EntB, Conv, scop]
  rintro ⟨i, j⟩ ⟨hi1, hi2, hi⟩
  simp only at hi1 hi2 hi ⊢
  have w1 : (IntKind.wrap .i64 (Int.fdiv (IntKind.wrap .u64 (IntKind.wrap .i64 ((i : Int) + j))) 2)) = ((i + j) / 2 : Nat) := half_ok (by omega)
  have w2 := wrap_i64 (n := ((i : Int) + j) / 2 + 1) (by omega) (by omega)
  repeat refine ok_seq ?_
  refine ok_reg E [0, 1, 2, 8, 9, 10, 17] [] (by simp [-Option.some.injEq, -Prod.mk.injEq]; rfl) (by first | trivial | omega | simp | (simp; omega)) ?_
  repeat refine ok_seq ?_
  refine ok_if rfl (fun c1 => ?_) (fun c1 => ?_)
  · try simp at c1
    all_goals
      skip
      refine ok_skip ?_
      repeat refine ok_seq ?_
      refine ok_block ?_
      repeat refine ok_seq ?_
      refine ok_reg E [0, 1, 2, 8, 9, 10, 11] [] (by simp [w1, -Option.some.injEq, -Prod.mk.injEq]; rfl) (by trivial) ?_
      repeat refine ok_seq ?_
      refine ok_reg E [0, 1, 2, 8, 9, 10, 11, 31] [.pure (.d .i (cmpG (gt l (((i : Int) + j) / 2)) t))] (by simp [-Option.some.injEq, -Prod.mk.injEq]; rfl) (by simp [cmpG_ctr]; try omega) ?_
      repeat refine ok_seq ?_
      refine ok_if rfl (fun c2 => ?_) (fun c2 => ?_)
      · try simp at c2
        all_goals
          repeat refine ok_seq ?_
          refine ok_reg E [0, 1, 2, 8, 9, 10] [] (by simp [w2, -Option.some.injEq, -Prod.mk.injEq]; rfl) (by first | trivial | omega | simp | (simp; omega)) ?_
          -- end01
          have e1 : bsN l t i j = bsN l t ((i + j) / 2 + 1) j := by rw [bsN, dif_pos c1, if_pos c2]
          exact ⟨((i + j) / 2 + 1, j), ⟨by simp only; omega, hi2, by simp only; rw [← hi, e1]⟩, by simp only; omega, by constructor <;> simp (disch := omega) [EntF, EntH, EntB, Conv, scop, wrap_i64]⟩
      · try simp at c2
        all_goals
          repeat refine ok_seq ?_
          refine ok_reg E [0, 1, 2, 8, 9, 10] [] (by simp [-Option.some.injEq, -Prod.mk.injEq]; rfl) (by first | trivial | omega | simp | (simp; omega)) ?_
          -- end02
          have e1 : bsN l t i j = bsN l t i ((i + j) / 2) := by rw [bsN, dif_pos c1, if_neg (by omega)]
          exact ⟨(i, (i + j) / 2), ⟨by simp only; omega, by simp only; omega, by simp only; rw [← hi, e1]⟩, by simp only; omega, by constructor <;> simp (disch := omega) [EntF, EntH, EntB, Conv, scop, wrap_i64]⟩
  · try simp at c1
    all_goals
      have e1 : bsN l t i j = i := by rw [bsN, dif_neg (by omega)]
      have e2 : bsN l t 0 l.length = i := by rw [← hi, e1]
      refine ok_exit ?_
      repeat refine ok_seq ?_
      by_cases h : i < l.length
      · skip
        refine ok_reg E [6, 7] [.pure (.d .i (cmpG (gt l i) t))] (by simp [h, -Option.some.injEq, -Prod.mk.injEq]; rfl) (by first | trivial | (simp [cmpG_ctr]; try omega)) ?_
        refine ok_ret ⟨.inr rfl, ?_⟩
        -- ret1
        simp [resAll, resL, resA, frozE]
        simp [bsF, e2, h]
      · skip
        refine ok_reg E [6, 7] [.pure (.d .i (cmpG (gt l i) t))] (by simp [h, -Option.some.injEq, -Prod.mk.injEq]; rfl) (by first | trivial | (simp [cmpG_ctr]; try omega)) ?_
        refine ok_ret ⟨.inr rfl, ?_⟩
        -- ret2
        simp [resAll, resL, resA, frozE]
        simp [bsF, e2, h]

set_option maxRecDepth 8000 in
set_option maxHeartbeats 4000000 in
theorem findG_ctr (g : Prg) (t : Term) (hl : g.atoms.length ≤ 1000000) : Ctr Tryz.prog 32 [pav g, .d .term t] [] (.d .i (findG g.atoms t)) [] := by
  refine ctr_pure E Tryz.func32 rfl Tryz.ntmps32 Tryz.results32 (Nat.le_of_ble_eq_true rfl) rfl ?_
  simp only [pav]
  have k1 := bs_ctr g.atoms t hl
  have k2 : bsF g.atoms t = true → bsN g.atoms t 0 g.atoms.length < g.atoms.length := fun h => by simp [bsF] at h; exact h.1
  have k3 := termSame_ctr (gt g.atoms (bsN g.atoms t 0 g.atoms.length : Nat)) t
  repeat refine ok_seq ?_
  refine ok_reg E [1, 2] [] (by simp [-Option.some.injEq, -Prod.mk.injEq]; rfl) (by first | trivial | omega | simp | (simp; omega)) ?_
  repeat refine ok_seq ?_
  refine ok_reg E [1, 2, 5, 6] [.pure (.tup [.d .i (bsN g.atoms t 0 g.atoms.length : Nat), .d .bool (bsF g.atoms t)])] (by simp [-Option.some.injEq, -Prod.mk.injEq]; rfl) (by first | exact ⟨k1, trivial⟩ | (simp [k1])) ?_
  repeat refine ok_seq ?_
  refine ok_regJ E [(25, .d .bool (decide (¬ (bsF g.atoms t = true ∧ gt g.atoms (bsN g.atoms t 0 g.atoms.length : Nat) = t))))] [5] [5, 25] [.pure (.d .bool (decide (gt g.atoms (bsN g.atoms t 0 g.atoms.length : Nat) = t)))] ?_ ?_
  · skip
    by_cases q0 : bsF g.atoms t = true
    rotate_left
    · refine ⟨_, _, _, by simp [q0, -Option.some.injEq, -Prod.mk.injEq]; rfl, (by first | trivial | (simp_all; done) | (simp_all; omega)), by constructor <;> simp [EntF, EntH, EntB, Conv, scop, q0] <;> first | omega | (rw [Bool.eq_iff_iff]; simp; omega)⟩
    by_cases q1 : gt g.atoms (bsN g.atoms t 0 g.atoms.length : Nat) = t <;> (
    refine ⟨_, _, _, by simp [q0, q1, -Option.some.injEq, -Prod.mk.injEq]; rfl, (by first | trivial | (simp_all; done) | (simp_all; omega)), by constructor <;> simp [EntF, EntH, EntB, Conv, scop, q0, q1] <;> first | omega | (rw [Bool.eq_iff_iff]; simp; omega)⟩)
  repeat refine ok_seq ?_
  refine ok_if rfl (fun c1 => ?_) (fun c1 => ?_)
  · try simp at c1
    all_goals
      repeat refine ok_seq ?_
      refine ok_reg E [4] [] (by simp [-Option.some.injEq, -Prod.mk.injEq]; rfl) (by first | trivial | omega | simp | (simp; omega)) ?_
      refine ok_ret ⟨.inr rfl, ?_⟩
      -- ret1
      simp [resAll, resL, resA, frozE]
      rw [findG, if_neg]; intro h; simp_all
  · try simp at c1
    all_goals
      refine ok_skip ?_
      repeat refine ok_seq ?_
      refine ok_reg E [4] [] (by simp [-Option.some.injEq, -Prod.mk.injEq]; rfl) (by first | trivial | omega | simp | (simp; omega)) ?_
      refine ok_ret ⟨.inr rfl, ?_⟩
      -- ret2
      simp [resAll, resL, resA, frozE]
      rw [findG, if_pos c1]

end Go.Proofs.YtgapiecbinplfaaGreat
/- What the document's answer to layer 16 computes. -/
namespace Go.Proofs.YtgapiecbinplfaaGreat
open Go.RowKit

/-- Are two programs the same? -/
def SameP (a b : Prg) : Prop := a.rules.length = b.rules.length ∧ a.atoms = b.atoms ∧ ∀ i : Nat, i < a.rules.length → rOrder (gr a.rules i) (gr b.rules i) = 0
instance : DecidableEq Term := inferInstanceAs (DecidableEq (List Cell))
instance (a b : Prg) : Decidable (SameP a b) := by unfold SameP; infer_instance
def findR (l : List Term) (t : Term) : Int := idxP (fun x => decide (x = t)) l 0

/-- A row with one more, in its place, once. -/
def putBy {α : Type} (cmp : α → α → Int) : List α → α → List α
  | [], n => [n]
  | x :: xs, n => if cmp x n < 0 then x :: putBy cmp xs n else if cmp x n = 0 then x :: xs else n :: x :: xs
theorem putBy_at {α : Type} (cmp : α → α → Int) (n : α) : ∀ (l : List α) (k : Nat), k ≤ l.length → (∀ j (h : j < l.length), j < k → cmp l[j] n < 0) → putBy cmp l n = l.take k ++ putBy cmp (l.drop k) n
  | l, 0, _, _ => by simp
  | [], k + 1, h, _ => by simp at h
  | x :: xs, k + 1, h, hj => by
    have h0 := hj 0 (by simp) (by omega)
    simp only [List.getElem_cons_zero] at h0
    rw [putBy, if_pos h0, putBy_at cmp n xs k (by simpa using h) (fun j h1 h2 => by have := hj (j + 1) (by simpa using h1) (by omega); simpa using this)]
    simp
def subI (a b : Int) : Int := a - b

end Go.Proofs.YtgapiecbinplfaaGreat
/- More of what the document's answer to layer 16 computes. -/
namespace Go.Proofs.YtgapiecbinplfaaGreat
open Go.RowKit

def nameT (s : List UInt8) : Term := [⟨3, s, 0⟩]
def placeI (l : List Int) (n : Int) : Int := idxP (fun x => decide (x = n)) l 0
def anewR (l set : List Int) : List Int := l.map (placeI set)
def placesR (ts : List Term) (l : List Term) : List Int := l.foldl (fun s t => putBy subI s (findR ts t)) []
theorem putBy_len {α : Type} (cmp : α → α → Int) (n : α) : ∀ l : List α, (putBy cmp l n).length ≤ l.length + 1
  | [] => by simp [putBy]
  | x :: xs => by
    unfold putBy; split
    · have := putBy_len cmp n xs; simp; omega
    · split <;> simp
theorem placesR_step (ts : List Term) {l : List Term} {i : Nat} (h : i < l.length) : placesR ts (l.take (i + 1)) = putBy subI (placesR ts (l.take i)) (findR ts (gt l i)) := by
  rw [List.take_succ_eq_append_getElem h, placesR, List.foldl_append, gt_lt h]; rfl
theorem placesR_len (ts : List Term) : ∀ (l : List Term) (a : List Int), (l.foldl (fun s t => putBy subI s (findR ts t)) a).length ≤ a.length + l.length
  | [], a => by simp
  | t :: l, a => by
    have := placesR_len ts l (putBy subI a (findR ts t))
    have h2 := putBy_len subI (findR ts t) a
    simp only [List.foldl_cons, List.length_cons]; omega

end Go.Proofs.YtgapiecbinplfaaGreat
/- The program of instances, as the document says. -/
namespace Go.Proofs.YtgapiecbinplfaaGreat
open Go.RowKit

def putAll (s : List Term) (l : List Term) : List Term := l.foldl (putBy cmpT) s
def atomsStep (s : List Term) (x : Inst) : List Term := putAll (putAll (putBy cmpT s x.head) x.pos) x.neg
def atomsR (l : List Inst) : List Term := l.foldl atomsStep []
def ruleOf (ts : List Term) (x : Inst) : Rule := ⟨findR ts x.head, placesR ts x.pos, placesR ts x.neg⟩
def rulesR (ts : List Term) (l : List Inst) : List Rule := l.foldl (fun s x => putBy rOrder s (ruleOf ts x)) []
def fromR (l : List Inst) : Prg := ⟨atomsR l, rulesR (atomsR l) l⟩

theorem putAll_len : ∀ (l s : List Term), (putAll s l).length ≤ s.length + l.length
  | [], s => by simp [putAll]
  | t :: l, s => by
    have h := putAll_len l (putBy cmpT s t)
    have h2 := putBy_len cmpT t s
    simp only [putAll, List.foldl_cons, List.length_cons] at h ⊢; omega
theorem putAll_step {s l : List Term} {i : Nat} (h : i < l.length) : putAll s (l.take (i + 1)) = putBy cmpT (putAll s (l.take i)) (gt l i) := by
  rw [List.take_succ_eq_append_getElem h, putAll, List.foldl_append, gt_lt h]; rfl
theorem atomsR_step {l : List Inst} {i : Nat} (h : i < l.length) : atomsR (l.take (i + 1)) = atomsStep (atomsR (l.take i)) (gin l i) := by
  rw [List.take_succ_eq_append_getElem h, atomsR, List.foldl_append, gin_lt h]; rfl
theorem rulesR_step {ts : List Term} {l : List Inst} {i : Nat} (h : i < l.length) : rulesR ts (l.take (i + 1)) = putBy rOrder (rulesR ts (l.take i)) (ruleOf ts (gin l i)) := by
  rw [List.take_succ_eq_append_getElem h, rulesR, List.foldl_append, gin_lt h]; rfl

/-- Instances of moderate size. -/
def InstsOk (l : List Inst) : Prop := l.length ≤ 200 ∧ ∀ i : Nat, i < l.length → (gin l i).pos.length ≤ 200 ∧ (gin l i).neg.length ≤ 200
theorem atomsR_len {l : List Inst} (h : InstsOk l) : ∀ i, i ≤ l.length → (atomsR (l.take i)).length ≤ 401 * i
  | 0, _ => by simp [atomsR]
  | i + 1, hi => by
    have ih := atomsR_len h i (by omega)
    rw [atomsR_step (by omega), atomsStep]
    have h1 := putBy_len cmpT (gin l i).head (atomsR (l.take i))
    have h2 := putAll_len (gin l i).pos (putBy cmpT (atomsR (l.take i)) (gin l i).head)
    have h3 := putAll_len (gin l i).neg (putAll (putBy cmpT (atomsR (l.take i)) (gin l i).head) (gin l i).pos)
    have h4 := h.2 i (by omega)
    omega
theorem rulesR_len (ts : List Term) (l : List Inst) : ∀ i, i ≤ l.length → (rulesR ts (l.take i)).length ≤ i
  | 0, _ => by simp [rulesR]
  | i + 1, hi => by
    have ih := rulesR_len ts l i (by omega)
    rw [rulesR_step (by omega)]
    have h1 := putBy_len rOrder (ruleOf ts (gin l i)) (rulesR ts (l.take i))
    omega

end Go.Proofs.YtgapiecbinplfaaGreat
/- Orders, and rows that rise: plain laws. -/
namespace Go.Proofs.YtgapiecbinplfaaGreat
open Go.RowKit

/-- Each thing is less than all that stand behind it. -/
def Ris {α : Type} (cmp : α → α → Int) (l : List α) : Prop := l.Pairwise fun a b => cmp a b < 0

/-- An order of those that are so. -/
structure OrdOn {α : Type} (p : α → Prop) (cmp : α → α → Int) : Prop where
  eq : ∀ a b, p a → p b → cmp a b = 0 → a = b
  refl : ∀ a, p a → cmp a a = 0
  anti : ∀ a b, p a → p b → (cmp a b < 0 ↔ 0 < cmp b a)
  trans : ∀ a b c, p a → p b → p c → cmp a b < 0 → cmp b c < 0 → cmp a c < 0

def SignEq (x y : Int) : Prop := (x < 0 ↔ y < 0) ∧ (x = 0 ↔ y = 0)
theorem SignEq.rfl (x : Int) : SignEq x x := ⟨Iff.rfl, Iff.rfl⟩
theorem SignEq.pos {x y : Int} (h : SignEq x y) : 0 < x ↔ 0 < y := by have h1 := h.1; have h2 := h.2; omega

section
variable {α : Type} {p q : α → Prop} {cmp c2 : α → α → Int}

theorem OrdOn.sub (h : OrdOn p cmp) (hq : ∀ a, q a → p a) : OrdOn q cmp :=
  ⟨fun a b x y => h.eq a b (hq a x) (hq b y), fun a x => h.refl a (hq a x), fun a b x y => h.anti a b (hq a x) (hq b y), fun a b c x y z => h.trans a b c (hq a x) (hq b y) (hq c z)⟩
theorem OrdOn.sign (h : OrdOn p cmp) (hs : ∀ a b, p a → p b → SignEq (c2 a b) (cmp a b)) : OrdOn p c2 :=
  ⟨fun a b x y e => h.eq a b x y ((hs a b x y).2.1 e), fun a x => (hs a a x x).2.2 (h.refl a x),
   fun a b x y => by rw [(hs a b x y).1, (hs b a y x).pos]; exact h.anti a b x y,
   fun a b c x y z h1 h2 => (hs a c x z).1.2 (h.trans a b c x y z ((hs a b x y).1.1 h1) ((hs b c y z).1.1 h2))⟩

theorem OrdOn.ne (h : OrdOn p cmp) {a b : α} (ha : p a) (hl : cmp a b < 0) : a ≠ b := by
  rintro rfl; have := h.refl a ha; omega

theorem putBy_congr {n : α} : ∀ {l : List α}, (∀ x ∈ l, SignEq (cmp x n) (c2 x n)) → putBy cmp l n = putBy c2 l n
  | [], _ => rfl
  | x :: xs, h => by
    have h0 := h x (by simp)
    have ih := putBy_congr (n := n) (l := xs) (fun y hy => h y (by simp [hy]))
    simp only [putBy, ih]
    by_cases h1 : cmp x n < 0
    · rw [if_pos h1, if_pos (h0.1.1 h1)]
    · rw [if_neg h1, if_neg (fun e => h1 (h0.1.2 e))]
      by_cases h2 : cmp x n = 0
      · rw [if_pos h2, if_pos (h0.2.1 h2)]
      · rw [if_neg h2, if_neg (fun e => h2 (h0.2.2 e))]

theorem mem_putBy (h : OrdOn p cmp) {n : α} (hn : p n) : ∀ {l : List α}, (∀ x ∈ l, p x) → ∀ y, y ∈ putBy cmp l n ↔ y ∈ l ∨ y = n
  | [], _, y => by simp [putBy]
  | x :: xs, hl, y => by
    have ih := mem_putBy h hn (l := xs) (fun z hz => hl z (by simp [hz])) y
    simp only [putBy]
    split
    · simp only [List.mem_cons, ih]; constructor
      · rintro (e | e | e); exact .inl (.inl e); exact .inl (.inr e); exact .inr e
      · rintro ((e | e) | e); exact .inl e; exact .inr (.inl e); exact .inr (.inr e)
    · split
      · rename_i h1 h2
        have e := h.eq x n (hl x (by simp)) hn h2
        subst e
        constructor
        · exact .inl
        · rintro (e | rfl); exact e; exact List.mem_cons_self
      · simp only [List.mem_cons]; constructor
        · rintro (e | e | e); exact .inr e; exact .inl (.inl e); exact .inl (.inr e)
        · rintro ((e | e) | e); exact .inr (.inl e); exact .inr (.inr e); exact .inl e

theorem ris_putBy (h : OrdOn p cmp) {n : α} (hn : p n) : ∀ {l : List α}, (∀ x ∈ l, p x) → Ris cmp l → Ris cmp (putBy cmp l n)
  | [], _, _ => by simp [putBy, Ris]
  | x :: xs, hl, hr => by
    have hx := hl x (by simp)
    have hl' : ∀ z ∈ xs, p z := fun z hz => hl z (by simp [hz])
    have hr2 := List.pairwise_cons.1 hr
    simp only [putBy]
    split
    · rename_i h1
      refine List.pairwise_cons.2 ⟨fun y hy => ?_, ris_putBy h hn hl' hr2.2⟩
      rcases (mem_putBy h hn hl' y).1 hy with h3 | rfl
      · exact hr2.1 y h3
      · exact h1
    · split
      · exact hr
      · rename_i h1 h2
        have h3 : cmp n x < 0 := (h.anti n x hn hx).2 (by omega)
        refine List.pairwise_cons.2 ⟨fun y hy => ?_, hr⟩
        rcases List.mem_cons.1 hy with rfl | hy
        · exact h3
        · exact h.trans n x y hn hx (hl' y hy) h3 (hr2.1 y hy)

theorem all_putBy (h : OrdOn p cmp) {n : α} (hn : p n) {l : List α} (hl : ∀ x ∈ l, p x) : ∀ x ∈ putBy cmp l n, p x := fun x hx => by
  rcases (mem_putBy h hn hl x).1 hx with h1 | rfl
  · exact hl x h1
  · exact hn

/-- Rows that rise and hold the same are the same. -/
theorem ris_ext (h : OrdOn p cmp) : ∀ {l m : List α}, (∀ x ∈ l, p x) → (∀ x ∈ m, p x) → Ris cmp l → Ris cmp m → (∀ x, x ∈ l ↔ x ∈ m) → l = m
  | [], [], _, _, _, _, _ => rfl
  | [], b :: m, _, _, _, _, hm => by have := (hm b).2 (by simp); simp at this
  | a :: l, [], _, _, _, _, hm => by have := (hm a).1 (by simp); simp at this
  | a :: l, b :: m, hl, hk, hr, hs, hm => by
    have hr2 := List.pairwise_cons.1 hr
    have hs2 := List.pairwise_cons.1 hs
    have ha := hl a (by simp)
    have hb := hk b (by simp)
    have e : a = b := by
      rcases List.mem_cons.1 ((hm a).1 (by simp)) with e | e
      · exact e
      · rcases List.mem_cons.1 ((hm b).2 (by simp)) with e' | e'
        · exact e'.symm
        · have h1 := hs2.1 a e
          have h2 := hr2.1 b e'
          have := (h.anti a b ha hb).1 h2
          omega
    subst e
    congr 1
    refine ris_ext h (fun x hx => hl x (by simp [hx])) (fun x hx => hk x (by simp [hx])) hr2.2 hs2.2 fun x => ⟨fun hx => ?_, fun hx => ?_⟩
    · rcases List.mem_cons.1 ((hm x).1 (by simp [hx])) with rfl | e
      · exact absurd rfl (h.ne ha (hr2.1 x hx))
      · exact e
    · rcases List.mem_cons.1 ((hm x).2 (by simp [hx])) with rfl | e
      · exact absurd rfl (h.ne ha (hs2.1 x hx))
      · exact e

theorem foldl_put (h : OrdOn p cmp) : ∀ {l s : List α}, (∀ x ∈ l, p x) → (∀ x ∈ s, p x) → Ris cmp s →
    Ris cmp (l.foldl (putBy cmp) s) ∧ (∀ x, x ∈ l.foldl (putBy cmp) s ↔ x ∈ s ∨ x ∈ l) ∧ ∀ x ∈ l.foldl (putBy cmp) s, p x
  | [], s, _, hs, hr => ⟨hr, fun x => by simp, hs⟩
  | a :: l, s, hl, hs, hr => by
    have ha := hl a (by simp)
    obtain ⟨h1, h2, h3⟩ := foldl_put h (l := l) (s := putBy cmp s a) (fun x hx => hl x (by simp [hx])) (all_putBy h ha hs) (ris_putBy h ha hs hr)
    refine ⟨h1, fun x => ?_, h3⟩
    rw [List.foldl_cons, h2, mem_putBy h ha hs, List.mem_cons]
    constructor
    · rintro ((e | e) | e); exact .inl e; exact .inr (.inl e); exact .inr (.inr e)
    · rintro (e | e | e); exact .inl (.inl e); exact .inl (.inr e); exact .inr e

/-- A row's things, rising, each once. -/
def setBy (cmp : α → α → Int) (l : List α) : List α := l.foldl (putBy cmp) []
theorem setBy_ris (h : OrdOn p cmp) {l : List α} (hl : ∀ x ∈ l, p x) : Ris cmp (setBy cmp l) ∧ (∀ x, x ∈ setBy cmp l ↔ x ∈ l) ∧ ∀ x ∈ setBy cmp l, p x := by
  obtain ⟨h1, h2, h3⟩ := foldl_put h (s := []) hl (by simp) (by simp [Ris])
  exact ⟨h1, fun x => by rw [setBy, h2]; simp, h3⟩
theorem setBy_eq (h : OrdOn p cmp) {l m : List α} (hl : ∀ x ∈ l, p x) (hm : Ris cmp m) (hi : ∀ x, x ∈ m ↔ x ∈ l) : m = setBy cmp l := by
  obtain ⟨h1, h2, h3⟩ := setBy_ris h hl
  exact ris_ext h (fun x hx => hl x ((hi x).1 hx)) h3 hm h1 fun x => by rw [hi, h2]
theorem foldl_putBy_congr (h : OrdOn p cmp) (hs : ∀ a b, p a → p b → SignEq (cmp a b) (c2 a b)) : ∀ {l s : List α}, (∀ x ∈ l, p x) → (∀ x ∈ s, p x) → l.foldl (putBy cmp) s = l.foldl (putBy c2) s
  | [], _, _, _ => rfl
  | a :: l, s, hl, hp => by
    have ha := hl a (by simp)
    rw [List.foldl_cons, List.foldl_cons, ← putBy_congr (fun x hx => hs x a (hp x hx) ha), foldl_putBy_congr h hs (fun x hx => hl x (by simp [hx])) (all_putBy h ha hp)]

theorem Ris.lt {l : List α} (hr : Ris cmp l) : ∀ (i j : Nat) (hi : i < l.length) (hj : j < l.length), i < j → cmp l[i] l[j] < 0 := fun i j hi hj hij => List.pairwise_iff_getElem.1 hr i j hi hj hij
/-- Neighbours tell it. -/
theorem ris_near (h : OrdOn p cmp) : ∀ {l : List α}, (∀ x ∈ l, p x) → (∀ i (h : i + 1 < l.length), cmp l[i] l[i + 1] < 0) → Ris cmp l
  | [], _, _ => by simp [Ris]
  | [a], _, _ => by simp [Ris]
  | a :: b :: l, hl, hn => by
    have ih := ris_near h (l := b :: l) (fun x hx => hl x (List.mem_cons_of_mem _ hx)) (fun i hi => by have := hn (i + 1) (by simpa using hi); simpa using this)
    have hab : cmp a b < 0 := by have := hn 0 (by simp); simpa using this
    refine List.pairwise_cons.2 ⟨fun y hy => ?_, ih⟩
    rcases List.mem_cons.1 hy with rfl | hy
    · exact hab
    · exact h.trans a b y (hl a (by simp)) (hl b (by simp)) (hl y (by simp [hy])) hab ((List.pairwise_cons.1 ih).1 y hy)

/-! ### the order of rows, by an order of what stands in them -/
def lexBy (cmp : α → α → Int) : List α → List α → Int
  | x :: xs, y :: ys => if cmp x y ≠ 0 then cmp x y else lexBy cmp xs ys
  | _ :: _, [] => 1
  | [], _ :: _ => -1
  | [], [] => 0
theorem lex_ord (h : OrdOn (fun _ => True) cmp) : OrdOn (fun _ => True) (lexBy cmp) := by
  have key : ∀ a b : List α, (lexBy cmp a b = 0 → a = b) ∧ lexBy cmp a a = 0 ∧ (lexBy cmp a b < 0 ↔ 0 < lexBy cmp b a) := by
    intro a
    induction a with
    | nil => intro b; cases b <;> simp [lexBy]
    | cons x xs ih =>
      intro b
      have r := h.refl x trivial
      cases b with
      | nil => exact ⟨by simp [lexBy], by simp [lexBy, r, (ih []).2.1], by simp [lexBy]⟩
      | cons y ys =>
        have a1 := h.anti x y trivial trivial
        have a2 := h.anti y x trivial trivial
        obtain ⟨i1, i2, i3⟩ := ih ys
        refine ⟨fun e => ?_, by simp [lexBy, r, i2], ?_⟩
        · simp only [lexBy] at e
          by_cases hc : cmp x y = 0
          · rw [if_neg (by simp [hc])] at e; rw [h.eq x y trivial trivial hc, i1 e]
          · rw [if_pos hc] at e; exact absurd e hc
        · simp only [lexBy]
          by_cases hc : cmp x y = 0
          · rw [if_neg (by simp [hc]), if_neg (by omega)]; exact i3
          · rw [if_pos hc, if_pos (by omega)]; exact a1
  refine ⟨fun a b _ _ => (key a b).1, fun a _ => (key a a).2.1, fun a b _ _ => (key a b).2.2, ?_⟩
  intro a
  induction a with
  | nil =>
    intro b c _ _ _ h1 h2
    cases b with
    | nil => simp [lexBy] at h1
    | cons y ys => cases c with
      | nil => simp [lexBy] at h2
      | cons z zs => simp [lexBy]
  | cons x xs ih =>
    intro b c _ _ _ h1 h2
    cases b with
    | nil => simp [lexBy] at h1
    | cons y ys => cases c with
      | nil => simp [lexBy] at h2
      | cons z zs =>
        simp only [lexBy] at h1 h2 ⊢
        by_cases c1 : cmp x y = 0
        · rw [if_neg (by simp [c1])] at h1
          have e := h.eq x y trivial trivial c1
          subst e
          by_cases c2 : cmp x z = 0
          · rw [if_neg (by simp [c2])] at h2 ⊢; exact ih ys zs trivial trivial trivial h1 h2
          · rw [if_pos c2] at h2 ⊢; exact h2
        · rw [if_pos c1] at h1
          by_cases c2 : cmp y z = 0
          · rw [if_neg (by simp [c2])] at h2
            have e := h.eq y z trivial trivial c2
            subst e
            rw [if_pos c1]; exact h1
          · rw [if_pos c2] at h2
            have := h.trans x y z trivial trivial trivial h1 h2
            rw [if_pos (by omega)]; exact this
end

theorem subI_ord : OrdOn (fun _ => True) subI := ⟨fun a b _ _ h => by simp only [subI] at h; omega, fun a _ => by simp [subI], fun a b _ _ => by simp only [subI]; omega, fun a b c _ _ _ h1 h2 => by simp only [subI] at *; omega⟩
theorem cmpI_lt {a b : Int} : cmpI a b < 0 ↔ a < b := by
  unfold cmpI; split
  · simp; omega
  · split <;> simp <;> omega
theorem cmpI_eq {a b : Int} : cmpI a b = 0 ↔ a = b := by
  unfold cmpI; split
  · simp; omega
  · split <;> simp <;> omega
theorem cmpI_sub (a b : Int) : SignEq (cmpI a b) (subI a b) := ⟨by rw [cmpI_lt]; simp only [subI]; omega, by rw [cmpI_eq]; simp only [subI]; omega⟩
theorem cmpI_ord : OrdOn (fun _ => True) cmpI := subI_ord.sign fun a b _ _ => cmpI_sub a b
theorem cmpIs_lex : ∀ a b : List Int, cmpIs a b = lexBy cmpI a b
  | x :: xs, y :: ys => by simp only [cmpIs, lexBy, cmpIs_lex xs ys]
  | _ :: _, [] => rfl
  | [], _ :: _ => rfl
  | [], [] => rfl
theorem cmpIs_ord : OrdOn (fun _ => True) cmpIs := by
  rw [show cmpIs = lexBy cmpI from funext fun a => funext fun b => cmpIs_lex a b]; exact lex_ord cmpI_ord

/-! ### names, cells, terms -/
def cmpB (a b : UInt8) : Int := subI a.toNat b.toNat
theorem cmpB_ord : OrdOn (fun _ => True) cmpB :=
  ⟨fun a b _ _ h => by simp only [cmpB, subI] at h; exact UInt8.toNat_inj.1 (by omega), fun a _ => by simp [cmpB, subI], fun a b _ _ => by simp only [cmpB, subI]; omega, fun a b c _ _ _ h1 h2 => by simp only [cmpB, subI] at *; omega⟩
theorem bytesLess_lex : ∀ a b : List UInt8, (Op.bytesLess a b = true ↔ lexBy cmpB a b < 0)
  | [], [] => by simp [Op.bytesLess, lexBy]
  | [], _ :: _ => by simp [Op.bytesLess, lexBy]
  | _ :: _, [] => by simp [Op.bytesLess, lexBy]
  | x :: xs, y :: ys => by
    have ih := bytesLess_lex xs ys
    simp only [Op.bytesLess, lexBy, Bool.or_eq_true, Bool.and_eq_true, decide_eq_true_eq, beq_iff_eq, ih, UInt8.lt_iff_toNat_lt]
    by_cases hc : cmpB x y = 0
    · have e := cmpB_ord.eq x y trivial trivial hc
      subst e
      rw [if_neg (by simp [hc])]; simp
    · rw [if_pos hc]
      have hne : x ≠ y := fun e => hc (by subst e; exact cmpB_ord.refl x trivial)
      simp only [hne, false_and, or_false, cmpB, subI]; omega
theorem cmpS_lex (a b : List UInt8) : SignEq (cmpS a b) (lexBy cmpB a b) := by
  have h := lex_ord cmpB_ord
  have h1 := bytesLess_lex a b
  unfold cmpS
  by_cases c : Op.bytesLess a b = true
  · rw [if_pos c]; have := h1.1 c; exact ⟨by omega, by omega⟩
  · rw [if_neg c]
    have h2 : ¬ lexBy cmpB a b < 0 := fun e => c (h1.2 e)
    by_cases e : a = b
    · have := h.refl a trivial
      subst e; rw [if_pos (by simp)]; exact ⟨by omega, by omega⟩
    · rw [if_neg (by simp [c, e])]
      have : lexBy cmpB a b ≠ 0 := fun z => e (h.eq a b trivial trivial z)
      exact ⟨by omega, by omega⟩
theorem cmpS_ord : OrdOn (fun _ => True) cmpS := (lex_ord cmpB_ord).sign fun a b _ _ => cmpS_lex a b
theorem cmpS_lt {a b : List UInt8} : cmpS a b < 0 ↔ Op.bytesLess a b = true := by rw [(cmpS_lex a b).1, bytesLess_lex]

theorem cmpC_lt {a b : Cell} : cmpC a b < 0 ↔ a.kind < b.kind ∨ a.kind = b.kind ∧ (a.n < b.n ∨ a.n = b.n ∧ cmpS a.name b.name < 0) := by
  have h1 := cmpI_lt (a := a.kind) (b := b.kind)
  have h2 := cmpI_eq (a := a.kind) (b := b.kind)
  have h3 := cmpI_lt (a := a.n) (b := b.n)
  have h4 := cmpI_eq (a := a.n) (b := b.n)
  simp only [cmpC, orI]
  by_cases c1 : cmpI a.kind b.kind = 0
  · rw [if_neg (by simp [c1])]
    by_cases c2 : cmpI a.n b.n = 0
    · rw [if_neg (by simp [c2])]
      by_cases c3 : cmpS a.name b.name = 0
      · rw [if_neg (by simp [c3])]; omega
      · rw [if_pos c3]; omega
    · rw [if_pos c2]; omega
  · rw [if_pos c1]; omega
theorem cmpC_eq {a b : Cell} : cmpC a b = 0 ↔ a = b := by
  have h2 := cmpI_eq (a := a.kind) (b := b.kind)
  have h4 := cmpI_eq (a := a.n) (b := b.n)
  rw [← cell_ext]
  simp only [cmpC, orI]
  by_cases c1 : cmpI a.kind b.kind = 0
  · rw [if_neg (by simp [c1])]
    by_cases c2 : cmpI a.n b.n = 0
    · rw [if_neg (by simp [c2])]
      by_cases c3 : cmpS a.name b.name = 0
      · rw [if_neg (by simp [c3])]
        exact ⟨fun _ => ⟨h2.1 c1, cmpS_ord.eq _ _ trivial trivial c3, h4.1 c2⟩, fun _ => rfl⟩
      · rw [if_pos c3]
        exact ⟨fun e => absurd e c3, fun e => absurd (by rw [e.2.1]; exact cmpS_ord.refl _ trivial) c3⟩
    · rw [if_pos c2]; exact ⟨fun e => absurd e c2, fun e => absurd (h4.2 e.2.2) c2⟩
  · rw [if_pos c1]; exact ⟨fun e => absurd e c1, fun e => absurd (h2.2 e.1) c1⟩
theorem cmpS_tri (a b : List UInt8) : cmpS a b < 0 ∨ a = b ∨ cmpS b a < 0 := by
  have h1 := cmpS_ord.anti b a trivial trivial
  have h2 := cmpS_ord.eq a b trivial trivial
  by_cases c : cmpS a b = 0
  · exact .inr (.inl (h2 c))
  · omega
theorem cmpC_tri (a b : Cell) : cmpC a b < 0 ∨ a = b ∨ cmpC b a < 0 := by
  rw [cmpC_lt, cmpC_lt, ← cell_ext]
  rcases cmpS_tri a.name b.name with h | h | h
  · omega
  · rw [h]; have := cmpS_ord.refl b.name trivial
    have h5 : (b.name = b.name) = True := by simp
    simp only [h5, true_and]; omega
  · omega
theorem cmpC_trans {a b c : Cell} (h1 : cmpC a b < 0) (h2 : cmpC b c < 0) : cmpC a c < 0 := by
  rw [cmpC_lt] at *
  have := cmpS_ord.trans a.name b.name c.name trivial trivial trivial
  omega
theorem cmpC_ord : OrdOn (fun _ => True) cmpC := by
  have hr : ∀ a, cmpC a a = 0 := fun a => cmpC_eq.2 rfl
  refine ⟨fun a b _ _ h => cmpC_eq.1 h, fun a _ => hr a, fun a b _ _ => ?_, fun a b c _ _ _ => cmpC_trans⟩
  constructor
  · intro h
    by_cases h0 : cmpC b a = 0
    · have e := cmpC_eq.1 h0; subst e; omega
    · by_cases h1 : cmpC b a < 0
      · have := cmpC_trans h h1; have := hr a; omega
      · omega
  · intro h
    rcases cmpC_tri a b with h1 | h1 | h1
    · exact h1
    · subst h1; have := hr a; omega
    · omega
theorem cmpG_lex : ∀ a b : List Cell, cmpG a b = lexBy cmpC a b
  | x :: xs, y :: ys => by simp only [cmpG, lexBy, cmpG_lex xs ys]
  | _ :: _, [] => rfl
  | [], _ :: _ => rfl
  | [], [] => rfl
theorem cmpG_ord : OrdOn (fun _ => True) cmpG := by
  rw [show cmpG = lexBy cmpC from funext fun a => funext fun b => cmpG_lex a b]; exact lex_ord cmpC_ord

theorem cellLess_iff {a b : Cell} : cellLess a b = true ↔ cmpC a b < 0 := by
  rw [cmpC_lt, cmpS_lt]
  simp only [cellLess, Bool.or_eq_true, Bool.and_eq_true, decide_eq_true_eq]

/-- Where neither row begins the other one, the document's order is package term's. -/
theorem cmpT_sign : ∀ a b : List Cell, (a <+: b → a = b) → (b <+: a → a = b) → SignEq (cmpT a b) (cmpG a b)
  | [], [], _, _ => by simp [cmpT, cmpG, SignEq]
  | [], y :: ys, h, _ => by have := h (List.nil_prefix); simp at this
  | x :: xs, [], _, h => by have := h (List.nil_prefix); simp at this
  | x :: xs, y :: ys, h1, h2 => by
    simp only [cmpT, cmpG]
    by_cases e : x = y
    · subst e
      rw [if_pos rfl, if_neg (by simp [cmpC_eq.2])]
      refine cmpT_sign xs ys (fun h => ?_) (fun h => ?_)
      · have := h1 ((List.prefix_cons_inj x).2 h); simpa using this
      · have := h2 ((List.prefix_cons_inj x).2 h); simpa using this
    · have hne : cmpC x y ≠ 0 := fun z => e (cmpC_eq.1 z)
      rw [if_neg e, if_pos hne]
      have h3 := cellLess_iff (a := x) (b := y)
      by_cases c : cellLess x y = true
      · rw [if_pos c]; have := h3.1 c; exact ⟨by omega, by omega⟩
      · rw [if_neg c]
        have : ¬ cmpC x y < 0 := fun z => c (h3.2 z)
        exact ⟨by omega, by omega⟩

theorem endR_more (c : List Cell) : ∀ (a : List Cell) (o : Int) (k : Nat), endR a o k ≠ -1 → endR (a ++ c) o k = endR a o k
  | [], o, k, h => absurd rfl h
  | x :: xs, o, k, h => by
    simp only [endR, List.cons_append] at h ⊢
    split
    · rfl
    · rename_i h1
      rw [if_neg h1] at h
      split
      · rfl
      · rename_i h2
        rw [if_neg h2] at h
        exact endR_more c xs _ _ h
/-- No term begins another one. -/
theorem right_prefix {a b : List Cell} (ha : rightT a = true) (hb : rightT b = true) (h : a <+: b) : a = b := by
  obtain ⟨c, rfl⟩ := h
  simp only [rightT, Bool.and_eq_true, decide_eq_true_eq] at ha hb
  have := endR_more c a 1 0 (by rw [ha.2]; omega)
  rw [this, ha.2, List.length_append] at hb
  have h0 : c.length = 0 := by omega
  rw [List.length_eq_zero_iff.1 h0, List.append_nil]
def RT (t : Term) : Prop := rightT t = true
theorem cmpTG {a b : Term} (ha : RT a) (hb : RT b) : SignEq (cmpT a b) (cmpG a b) := cmpT_sign a b (right_prefix ha hb) (fun h => (right_prefix hb ha h).symm)
theorem cmpT_ord : OrdOn RT cmpT := (cmpG_ord.sub (fun _ _ => trivial)).sign fun _ _ ha hb => cmpTG ha hb

/-! ### rules -/
theorem gOrder_lt {a b : Rule} : gOrder a b < 0 ↔ a.head < b.head ∨ a.head = b.head ∧ (cmpIs a.pos b.pos < 0 ∨ a.pos = b.pos ∧ cmpIs a.neg b.neg < 0) := by
  have h1 := cmpI_lt (a := a.head) (b := b.head)
  have h2 := cmpI_eq (a := a.head) (b := b.head)
  have h3 : cmpIs a.pos b.pos = 0 ↔ a.pos = b.pos := ⟨cmpIs_ord.eq _ _ trivial trivial, fun e => by rw [e]; exact cmpIs_ord.refl _ trivial⟩
  simp only [gOrder, orI]
  by_cases c1 : cmpI a.head b.head = 0
  · rw [if_neg (by simp [c1])]
    by_cases c2 : cmpIs a.pos b.pos = 0
    · rw [if_neg (by simp [c2])]
      by_cases c3 : cmpIs a.neg b.neg = 0
      · rw [if_neg (by simp [c3])]; have hr := cmpIs_ord.refl b.pos trivial; simp [h2.1 c1, h3.1 c2, c3, hr]
      · rw [if_pos c3]; have hr := cmpIs_ord.refl b.pos trivial; simp [h2.1 c1, h3.1 c2, hr]
    · have hne : a.pos ≠ b.pos := fun e => c2 (h3.2 e)
      rw [if_pos c2]; simp [h2.1 c1, hne]
  · rw [if_pos c1]; omega
theorem gOrder_eq {a b : Rule} : gOrder a b = 0 ↔ a = b := by
  have h2 := cmpI_eq (a := a.head) (b := b.head)
  have h3 : cmpIs a.pos b.pos = 0 ↔ a.pos = b.pos := ⟨cmpIs_ord.eq _ _ trivial trivial, fun e => by rw [e]; exact cmpIs_ord.refl _ trivial⟩
  have h4 : cmpIs a.neg b.neg = 0 ↔ a.neg = b.neg := ⟨cmpIs_ord.eq _ _ trivial trivial, fun e => by rw [e]; exact cmpIs_ord.refl _ trivial⟩
  have h5 : a = b ↔ a.head = b.head ∧ a.pos = b.pos ∧ a.neg = b.neg := by cases a; cases b; simp
  rw [h5]
  simp only [gOrder, orI]
  by_cases c1 : cmpI a.head b.head = 0
  · rw [if_neg (by simp [c1])]
    by_cases c2 : cmpIs a.pos b.pos = 0
    · rw [if_neg (by simp [c2])]
      by_cases c3 : cmpIs a.neg b.neg = 0
      · rw [if_neg (by simp [c3])]; exact ⟨fun _ => ⟨h2.1 c1, h3.1 c2, h4.1 c3⟩, fun _ => rfl⟩
      · rw [if_pos c3]; exact ⟨fun e => absurd e c3, fun e => absurd (h4.2 e.2.2) c3⟩
    · rw [if_pos c2]; exact ⟨fun e => absurd e c2, fun e => absurd (h3.2 e.2.1) c2⟩
  · rw [if_pos c1]; exact ⟨fun e => absurd e c1, fun e => absurd (h2.2 e.1) c1⟩
theorem gOrder_trans {a b c : Rule} (h1 : gOrder a b < 0) (h2 : gOrder b c < 0) : gOrder a c < 0 := by
  rw [gOrder_lt] at *
  have t1 := cmpIs_ord.trans a.pos b.pos c.pos trivial trivial trivial
  have t2 := cmpIs_ord.trans a.neg b.neg c.neg trivial trivial trivial
  rcases h1 with h1 | ⟨h1, h1'⟩
  · rcases h2 with h2 | ⟨h2, _⟩ <;> exact .inl (by omega)
  · rcases h2 with h2 | ⟨h2, h2'⟩
    · exact .inl (by omega)
    · refine .inr ⟨by omega, ?_⟩
      rcases h1' with p1 | ⟨p1, n1⟩ <;> rcases h2' with p2 | ⟨p2, n2⟩
      · exact .inl (t1 p1 p2)
      · exact .inl (by rw [← p2]; exact p1)
      · exact .inl (by rw [p1]; exact p2)
      · exact .inr ⟨p1.trans p2, t2 n1 n2⟩
theorem gOrder_tri (a b : Rule) : gOrder a b < 0 ∨ a = b ∨ gOrder b a < 0 := by
  have tri : ∀ x y : List Int, cmpIs x y < 0 ∨ x = y ∨ cmpIs y x < 0 := fun x y => by
    have h1 := cmpIs_ord.anti y x trivial trivial
    have h2 := cmpIs_ord.eq x y trivial trivial
    by_cases c : cmpIs x y = 0
    · exact .inr (.inl (h2 c))
    · omega
  rw [gOrder_lt, gOrder_lt]
  by_cases c1 : a.head < b.head
  · exact .inl (.inl c1)
  · by_cases c2 : b.head < a.head
    · exact .inr (.inr (.inl c2))
    · have e : a.head = b.head := by omega
      rcases tri a.pos b.pos with p | p | p
      · exact .inl (.inr ⟨e, .inl p⟩)
      · rcases tri a.neg b.neg with n | n | n
        · exact .inl (.inr ⟨e, .inr ⟨p, n⟩⟩)
        · exact .inr (.inl (by cases a; cases b; simp_all))
        · exact .inr (.inr (.inr ⟨e.symm, .inr ⟨p.symm, n⟩⟩))
      · exact .inr (.inr (.inr ⟨e.symm, .inl p⟩))
theorem gOrder_ord : OrdOn (fun _ => True) gOrder := by
  have hr : ∀ a, gOrder a a = 0 := fun a => gOrder_eq.2 rfl
  refine ⟨fun a b _ _ h => gOrder_eq.1 h, fun a _ => hr a, fun a b _ _ => ?_, fun a b c _ _ _ => gOrder_trans⟩
  constructor
  · intro h
    by_cases h0 : gOrder b a = 0
    · have e := gOrder_eq.1 h0; subst e; omega
    · by_cases h1 : gOrder b a < 0
      · have := gOrder_trans h h1; have := hr a; omega
      · omega
  · intro h
    rcases gOrder_tri a b with h1 | h1 | h1
    · exact h1
    · subst h1; have := hr a; omega
    · omega

/-- Numbers that do not overflow. -/
def SmI (n : Int) : Prop := -1099511627776 ≤ n ∧ n ≤ 1099511627776
def SmIs (l : List Int) : Prop := l.length ≤ 1099511627776 ∧ ∀ n ∈ l, SmI n
def SmR (r : Rule) : Prop := SmI r.head ∧ SmIs r.pos ∧ SmIs r.neg
theorem wrapSm {n : Int} (h1 : -9223372036854775808 ≤ n) (h2 : n ≤ 9223372036854775807) : IntKind.i64.wrap n = n := wrap_i64 h1 h2
theorem rRow_sign : ∀ a b : List Int, SmIs a → SmIs b → SignEq (rRow a b) (cmpIs a b)
  | [], [], _, _ => by simp only [rRow, cmpIs]; rw [wrapSm (by simp) (by simp)]; simp [SignEq]
  | [], y :: ys, _, hb => by
    have h := hb.1
    simp only [rRow, cmpIs]
    simp only [List.length_cons] at h
    have e : ((([] : List Int).length : Int) - ((y :: ys).length : Int)) = -((ys.length : Int) + 1) := by simp
    rw [e, wrapSm (by omega) (by omega)]
    exact ⟨by omega, by omega⟩
  | x :: xs, [], ha, _ => by
    have h := ha.1
    simp only [rRow, cmpIs]
    simp only [List.length_cons] at h
    have e : (((x :: xs).length : Int) - (([] : List Int).length : Int)) = (xs.length : Int) + 1 := by simp
    rw [e, wrapSm (by omega) (by omega)]
    exact ⟨by omega, by omega⟩
  | x :: xs, y :: ys, ha, hb => by
    have hx := ha.2 x (by simp)
    have hy := hb.2 y (by simp)
    have h1 := cmpI_lt (a := x) (b := y)
    have h2 := cmpI_eq (a := x) (b := y)
    have ih := rRow_sign xs ys ⟨by have := ha.1; simp at this; omega, fun n hn => ha.2 n (by simp [hn])⟩ ⟨by have := hb.1; simp at this; omega, fun n hn => hb.2 n (by simp [hn])⟩
    simp only [rRow, cmpIs]
    simp only [SmI] at hx hy
    by_cases e : x = y
    · rw [if_pos e, if_neg (by simp [h2.2 e])]; exact ih
    · rw [if_neg e, if_pos (fun z => e (h2.1 z)), wrapSm (by omega) (by omega)]
      exact ⟨by omega, by omega⟩
theorem rOrder_sign {a b : Rule} (ha : SmR a) (hb : SmR b) : SignEq (rOrder a b) (gOrder a b) := by
  have h1 := cmpI_lt (a := a.head) (b := b.head)
  have h2 := cmpI_eq (a := a.head) (b := b.head)
  have hp := rRow_sign a.pos b.pos ha.2.1 hb.2.1
  have hn := rRow_sign a.neg b.neg ha.2.2 hb.2.2
  have i1 := ha.1
  have i2 := hb.1
  simp only [SmI] at i1 i2
  simp only [rOrder, gOrder, orI]
  by_cases c1 : a.head = b.head
  · rw [if_neg (show ¬ (a.head ≠ b.head) from fun h => h c1), if_neg (show ¬ (cmpI a.head b.head ≠ 0) from fun h => h (h2.2 c1))]
    by_cases c2 : rRow a.pos b.pos = 0
    · rw [if_neg (show ¬ (rRow a.pos b.pos ≠ 0) from fun h => h c2), if_neg (show ¬ (cmpIs a.pos b.pos ≠ 0) from fun h => h (hp.2.1 c2))]
      by_cases c3 : cmpIs a.neg b.neg = 0
      · rw [if_neg (show ¬ (cmpIs a.neg b.neg ≠ 0) from fun h => h c3)]; have := hn.2.2 c3; rw [this]; exact SignEq.rfl 0
      · rw [if_pos c3]; exact hn
    · rw [if_pos c2, if_pos (show cmpIs a.pos b.pos ≠ 0 from fun z => c2 (hp.2.2 z))]; exact hp
  · rw [if_pos c1, if_pos (show cmpI a.head b.head ≠ 0 from fun z => c1 (h2.1 z)), wrapSm (by omega) (by omega)]
    exact ⟨by omega, by omega⟩
theorem rOrder_ord : OrdOn SmR rOrder := (gOrder_ord.sub (fun _ _ => trivial)).sign fun _ _ ha hb => rOrder_sign ha hb

end Go.Proofs.YtgapiecbinplfaaGreat
/- Where a thing stands; the program of instances: plain laws. -/
namespace Go.Proofs.YtgapiecbinplfaaGreat
open Go.RowKit

section
variable {α : Type}
theorem idxP_none {p : α → Bool} : ∀ {l : List α} {k : Nat}, (∀ x ∈ l, p x = false) → idxP p l k = -1
  | [], _, _ => rfl
  | x :: xs, k, h => by rw [idxP, if_neg (by simp [h x (by simp)])]; exact idxP_none fun y hy => h y (by simp [hy])
theorem idxP_some {p : α → Bool} : ∀ {l : List α} {k i : Nat} (hi : i < l.length), p l[i] = true → (∀ j (h : j < l.length), j < i → p l[j] = false) → idxP p l k = (k + i : Nat)
  | x :: xs, k, 0, _, h, _ => by rw [idxP, if_pos (by simpa using h)]; simp
  | x :: xs, k, i + 1, hi, h, hj => by
    have h0 := hj 0 (by simp) (by omega)
    simp only [List.getElem_cons_zero] at h0
    rw [idxP, if_neg (by simp [h0]), idxP_some (i := i) (by simpa using hi) (by simpa using h) (fun j h1 h2 => by have := hj (j + 1) (by simpa using h1) (by omega); simpa using this)]
    congr 1; omega
theorem idxP_lt {p : α → Bool} : ∀ (l : List α) (k : Nat), -1 ≤ idxP p l k ∧ idxP p l k < (k + l.length : Nat)
  | [], k => by simp [idxP]; omega
  | x :: xs, k => by
    have := idxP_lt (p := p) xs (k + 1)
    simp only [idxP, List.length_cons]; split
    · omega
    · omega
/-- Where it stands, it is so. -/
theorem idxP_get {p : α → Bool} : ∀ (l : List α) (k : Nat), 0 ≤ idxP p l k → ∃ (i : Nat) (h : i < l.length), idxP p l k = (k + i : Nat) ∧ p l[i] = true ∧ ∀ j (h : j < l.length), j < i → p l[j] = false
  | [], k, h => by simp [idxP] at h
  | x :: xs, k, h => by
    simp only [idxP] at h ⊢
    split
    · rename_i hp
      exact ⟨0, by simp, by simp, by simpa using hp, fun j _ hj => absurd hj (by omega)⟩
    · rename_i hp
      rw [if_neg hp] at h
      obtain ⟨i, h1, h2, h3, h4⟩ := idxP_get xs (k + 1) h
      refine ⟨i + 1, by simpa using h1, by rw [h2]; congr 1; omega, by simpa using h3, fun j hj hji => ?_⟩
      cases j with
      | zero => simpa using hp
      | succ j => simpa using h4 j (by simpa using hj) (by omega)

/-- In a row each of whose things stands once. -/
theorem idx_nodup [DecidableEq α] {l : List α} (hn : l.Nodup) {i : Nat} (hi : i < l.length) : idxP (fun x => decide (x = l[i])) l 0 = i := by
  rw [idxP_some (i := i) hi (by simp) (fun j hj hji => by
    simp only [decide_eq_false_iff_not]
    intro e
    exact (List.pairwise_iff_getElem.1 hn) j i hj hi hji e)]
  simp
end

theorem Ris.nodup {α : Type} {p : α → Prop} {cmp : α → α → Int} (h : OrdOn p cmp) {l : List α} (hl : ∀ x ∈ l, p x) (hr : Ris cmp l) : l.Nodup :=
  List.Pairwise.imp_of_mem (fun {a b} ha _ hab => h.ne (hl a ha) hab) hr

theorem findR_lt (l : List Term) (t : Term) : -1 ≤ findR l t ∧ findR l t < l.length := by
  have := idxP_lt (p := fun x => decide (x = t)) l 0
  simp only [findR]; omega
theorem findR_mem {l : List Term} {t : Term} : 0 ≤ findR l t ↔ t ∈ l := by
  rw [findR, idxP_any]; simp
theorem findR_none {l : List Term} {t : Term} (h : t ∉ l) : findR l t = -1 := by
  have := findR_lt l t
  have := findR_mem (l := l) (t := t)
  by_cases c : 0 ≤ findR l t
  · exact absurd (this.1 c) h
  · omega
theorem findR_get {l : List Term} {t : Term} (h : 0 ≤ findR l t) : gt l (findR l t) = t ∧ findR l t < l.length := by
  obtain ⟨i, h1, h2, h3, _⟩ := idxP_get l 0 h
  simp only [findR] at *
  rw [h2, Nat.zero_add, gt_lt h1]
  exact ⟨by simpa using h3, by omega⟩
theorem findR_at {l : List Term} (hn : l.Nodup) {i : Nat} (hi : i < l.length) : findR l l[i] = i := idx_nodup hn hi

theorem half_cast (i j : Nat) : ((i : Int) + j) / 2 = ((i + j) / 2 : Nat) := by omega

theorem bsN_spec (l : List Term) (t : Term) (hr : Ris cmpG l) : ∀ (d i j : Nat), j - i ≤ d → i ≤ j → j ≤ l.length → (∀ k (h : k < l.length), k < i → cmpG l[k] t < 0) → (∀ k (h : k < l.length), j ≤ k → ¬ cmpG l[k] t < 0) →
    bsN l t i j ≤ l.length ∧ (∀ k (h : k < l.length), k < bsN l t i j → cmpG l[k] t < 0) ∧ ∀ k (h : k < l.length), bsN l t i j ≤ k → ¬ cmpG l[k] t < 0
  | d, i, j, hd, hij, hj, h1, h2 => by
    rw [bsN]
    split
    · rename_i hlt
      rw [half_cast, gt_lt (l := l) (i := (i + j) / 2) (by omega)]
      cases d with
      | zero => omega
      | succ d =>
        split
        · rename_i hc
          refine bsN_spec l t hr d _ _ (by omega) (by omega) hj (fun k h hk => ?_) h2
          by_cases e : k = (i + j) / 2
          · subst e; exact hc
          · exact cmpG_ord.trans _ _ _ trivial trivial trivial (hr.lt k ((i + j) / 2) h (by omega) (by omega)) hc
        · rename_i hc
          refine bsN_spec l t hr d _ _ (by omega) (by omega) (by omega) h1 (fun k h hk hlt' => hc ?_)
          by_cases e : k = (i + j) / 2
          · subst e; exact hlt'
          · exact cmpG_ord.trans _ _ _ trivial trivial trivial (hr.lt ((i + j) / 2) k (by omega) h (by omega)) hlt'
    · exact ⟨by omega, fun k h hk => h1 k h hk, fun k h hk => h2 k h (by omega)⟩

/-- Among atoms that rise both searches find the same. -/
theorem find_eq {l : List Term} (hr : Ris cmpG l) (t : Term) : findG l t = findR l t := by
  obtain ⟨h1, h2, h3⟩ := bsN_spec l t hr l.length 0 l.length (by omega) (by omega) (by omega) (fun k _ h => absurd h (by omega)) (fun k h h' => absurd h (by omega))
  by_cases c : t ∈ l
  · obtain ⟨k, hk, rfl⟩ := List.getElem_of_mem c
    have e : bsN l l[k] 0 l.length = k := by
      by_cases a : k < bsN l l[k] 0 l.length
      · have := h2 k hk a; have := cmpG_ord.refl l[k] trivial; omega
      · by_cases b : bsN l l[k] 0 l.length < k
        · exact absurd (hr.lt _ _ (by omega) hk b) (h3 _ (by omega) (Nat.le_refl _))
        · omega
    rw [findR_at (hr.nodup cmpG_ord (fun _ _ => trivial)) hk, findG, e, if_pos ⟨by simp [bsF, e, hk, gt_lt hk, cmpG_ord.refl l[k] trivial], gt_lt hk⟩]
  · rw [findR_none c, findG, if_neg]
    rintro ⟨h4, h5⟩
    simp only [bsF, decide_eq_true_eq] at h4
    rw [gt_lt h4.1] at h5
    exact c (by rw [← h5]; exact List.getElem_mem _)

/-! ### the program of instances -/
def instAll (x : Inst) : List Term := x.head :: (x.pos ++ x.neg)
def allG (l : List Inst) : List Term := l.flatMap instAll
def placesG (ts l : List Term) : List Int := setBy cmpI (l.map (findG ts))
def ruleG (ts : List Term) (x : Inst) : Rule := ⟨findG ts x.head, placesG ts x.pos, placesG ts x.neg⟩
def fromG (l : List Inst) : Prg := ⟨setBy cmpG (allG l), setBy gOrder (l.map (ruleG (setBy cmpG (allG l))))⟩

theorem atomsR_all (l : List Inst) : atomsR l = (allG l).foldl (putBy cmpT) [] := by
  suffices h : ∀ s, l.foldl atomsStep s = (allG l).foldl (putBy cmpT) s from h []
  induction l with
  | nil => intro s; rfl
  | cons x l ih => intro s; rw [List.foldl_cons, ih]; simp [instAll, atomsStep, putAll, allG, List.foldl_append]
theorem placesR_set (ts l : List Term) : placesR ts l = (l.map (findR ts)).foldl (putBy subI) [] := by rw [List.foldl_map]; rfl
theorem rulesR_set (ts : List Term) (l : List Inst) : rulesR ts l = (l.map (ruleOf ts)).foldl (putBy rOrder) [] := by rw [List.foldl_map]; rfl

def InstsRt (l : List Inst) : Prop := ∀ x ∈ l, ∀ t ∈ instAll x, RT t
theorem allG_rt {l : List Inst} (h : InstsRt l) : ∀ t ∈ allG l, RT t := fun t ht => by
  obtain ⟨x, hx, htx⟩ := List.mem_flatMap.1 ht
  exact h x hx t htx
theorem atoms_eq {l : List Inst} (h : InstsRt l) : atomsR l = setBy cmpG (allG l) := by
  rw [atomsR_all, foldl_putBy_congr cmpT_ord (fun a b ha hb => cmpTG ha hb) (allG_rt h) (by simp)]; rfl
theorem setG_ris (l : List Term) : Ris cmpG (setBy cmpG l) ∧ (∀ x, x ∈ setBy cmpG l ↔ x ∈ l) := by
  obtain ⟨h1, h2, _⟩ := setBy_ris cmpG_ord (l := l) (fun _ _ => trivial)
  exact ⟨h1, h2⟩
theorem places_eq {ts : List Term} (hr : Ris cmpG ts) (l : List Term) : placesR ts l = placesG ts l := by
  rw [placesR_set, placesG, List.map_congr_left (fun t _ => find_eq hr t)]
  exact (foldl_putBy_congr cmpI_ord (fun a b _ _ => cmpI_sub a b) (fun _ _ => trivial) (by simp)).symm
theorem ruleOf_eq {ts : List Term} (hr : Ris cmpG ts) (x : Inst) : ruleOf ts x = ruleG ts x := by
  simp only [ruleOf, ruleG, find_eq hr, places_eq hr]
theorem placesR_all (ts l : List Term) : (∀ n ∈ placesR ts l, -1 ≤ n ∧ n < ts.length) ∧ Ris subI (placesR ts l) ∧ ∀ n, n ∈ placesR ts l ↔ ∃ t ∈ l, findR ts t = n := by
  rw [placesR_set]
  obtain ⟨h1, h2, _⟩ := foldl_put subI_ord (l := l.map (findR ts)) (s := []) (fun _ _ => trivial) (by simp) (by simp [Ris])
  have h3 : ∀ n, n ∈ (l.map (findR ts)).foldl (putBy subI) [] ↔ ∃ t ∈ l, findR ts t = n := fun n => by rw [h2]; simp
  refine ⟨fun n hn => ?_, h1, h3⟩
  obtain ⟨t, _, rfl⟩ := (h3 n).1 hn
  exact findR_lt ts t
theorem ruleOf_sm {ts : List Term} (hl : ts.length ≤ 1000000) {x : Inst} (hp : x.pos.length ≤ 1000000) (hn : x.neg.length ≤ 1000000) : SmR (ruleOf ts x) := by
  have h1 := findR_lt ts x.head
  have h2 := placesR_all ts x.pos
  have h3 := placesR_all ts x.neg
  have h4 := placesR_len ts x.pos []
  have h5 := placesR_len ts x.neg []
  refine ⟨?_, ⟨?_, fun n hm => ?_⟩, ⟨?_, fun n hm => ?_⟩⟩
  · simp only [ruleOf, SmI]; omega
  · simp only [ruleOf, placesR]; simp only [List.length_nil] at h4; omega
  · have := h2.1 n hm; simp only [SmI]; omega
  · simp only [ruleOf, placesR]; simp only [List.length_nil] at h5; omega
  · have := h3.1 n hm; simp only [SmI]; omega

/-- The two programs of instances are the same. -/
theorem from_eq {l : List Inst} (h : InstsRt l) (hk : InstsOk l) : fromG l = fromR l := by
  have ha := atoms_eq h
  have hr := (setG_ris (allG l)).1
  have hlen : (atomsR l).length ≤ 1000000 := by
    have := atomsR_len hk l.length (Nat.le_refl _)
    rw [List.take_length] at this
    have := hk.1
    omega
  have e : ∀ x, ruleOf (atomsR l) x = ruleG (setBy cmpG (allG l)) x := fun x => by rw [ha]; exact ruleOf_eq hr x
  simp only [fromG, fromR, ha]
  congr 1
  rw [rulesR_set, ← ha, List.map_congr_left (fun x _ => e x)]
  have hs : ∀ r ∈ l.map (ruleG (setBy cmpG (allG l))), SmR r := fun r hr => by
    obtain ⟨x, hx, rfl⟩ := List.mem_map.1 hr
    rw [← e]
    obtain ⟨i, hi, rfl⟩ := List.getElem_of_mem hx
    have := hk.2 i hi
    rw [gin_lt hi] at this
    exact ruleOf_sm hlen (by omega) (by omega)
  rw [← ha] at hs
  rw [setBy, ← ha]
  exact (foldl_putBy_congr rOrder_ord (fun a b x y => rOrder_sign x y) hs (by simp)).symm

theorem rRow_self : ∀ a : List Int, rRow a a = 0
  | [] => by simp only [rRow]; rw [wrapSm (by simp) (by simp)]; simp
  | x :: xs => by simp [rRow, rRow_self xs]
theorem rOrder_self (r : Rule) : rOrder r r = 0 := by simp [rOrder, rRow_self]
theorem sameP_self (g : Prg) : SameP g g := ⟨rfl, rfl, fun i _ => rOrder_self _⟩
end Go.Proofs.YtgapiecbinplfaaGreat
/- Whether a program is right: both tell the same. Plain laws. -/
namespace Go.Proofs.YtgapiecbinplfaaGreat
open Go.RowKit

theorem loopG_congr {v u : Nat → Nat} {b : Nat} (h : ∀ y, b ≤ y → v y = u y) (hg : ∀ y, v y ≠ 0 → y < v y) : ∀ (n x : Nat), b ≤ x → loopG v n x = loopG u n x
  | 0, _, _ => rfl
  | n + 1, x, hx => by
    simp only [loopG]
    rw [← h x hx]
    split
    · rfl
    · rename_i h0
      exact loopG_congr h hg n _ (by have := hg x h0; omega)
theorem visG_fuel (t : List Cell) : ∀ (f g k : Nat), t.length ≤ k + f → t.length ≤ k + g → visG t f k = visG t g k := by
  intro f
  induction f with
  | zero =>
    intro g k h1 h2
    cases g with
    | zero => rfl
    | succ g => simp only [visG]; rw [if_neg (by omega)]
  | succ f ih =>
    intro g k h1 h2
    cases g with
    | zero => simp only [visG]; rw [if_neg (by omega)]
    | succ g =>
      simp only [visG]
      split
      · split
        · exact loopG_congr (b := k + 1) (fun y hy => ih g y (by omega) (by omega)) (fun y hy => (visG_gt t f y hy).1) _ _ (Nat.le_refl _)
        · rfl
      · rfl
/-- The place behind the term at a place. -/
def vis (t : List Cell) (k : Nat) : Nat := visG t t.length k
theorem vis_eq (t : List Cell) (k : Nat) : vis t k = if k < t.length ∧ cellOk (gc t k) = true then (if (gc t k).kind = 3 then loopG (vis t) (gc t k).n.toNat (k + 1) else k + 1) else 0 := by
  have h : vis t k = visG t (t.length + 1) k := visG_fuel t _ _ k (by omega) (by omega)
  rw [h]; simp only [visG]; rfl
theorem loopG_add (v : Nat → Nat) : ∀ (m n x : Nat), loopG v (m + n) x = if loopG v m x = 0 ∧ 0 < m then 0 else loopG v n (loopG v m x)
  | 0, n, x => by simp [loopG]
  | m + 1, n, x => by
    rw [Nat.add_right_comm]
    simp only [loopG]
    split
    · simp
    · rename_i h0
      rw [loopG_add v m n (v x)]
      by_cases hm : 0 < m
      · simp [hm]
      · have : m = 0 := by omega
        subst this; simp [loopG, h0]
/-- A place; -1 for none. -/
def mns (x : Nat) : Int := if x = 0 then -1 else x
theorem mns_zero : mns 0 = -1 := rfl
theorem mns_pos {x : Nat} (h : x ≠ 0) : mns x = x := if_neg h
theorem loopG_succ (v : Nat → Nat) (o k : Nat) : loopG v (o + 1) k = if v k = 0 then 0 else loopG v o (v k) := rfl
theorem endR_vis (t : List Cell) : ∀ (d k o : Nat), t.length - k ≤ d → 1 ≤ o → endR (t.drop k) (o : Int) k = mns (loopG (vis t) o k)
  | d, k, o, hd, ho => by
    obtain ⟨o, rfl⟩ : ∃ m, o = m + 1 := ⟨o - 1, by omega⟩
    by_cases hk : k < t.length
    · cases d with
      | zero => omega
      | succ d =>
        rw [List.drop_eq_getElem_cons hk, endR, loopG_succ, vis_eq, gc_lt hk]
        by_cases hc : cellOk t[k] = true
        · have hcf : ¬ cellOk t[k] = false := by rw [hc]; simp
          rw [if_neg hcf]
          by_cases h3 : (t[k]).kind = 3
          · have hn := cellOk_n hc h3
            have e1 : openOf t[k] ((o + 1 : Nat) : Int) = (o + (t[k]).n.toNat : Nat) := by simp [openOf, h3]; omega
            simp only [hk, hc, h3, and_self, if_true, e1]
            by_cases hz : o + (t[k]).n.toNat = 0
            · have z1 : o = 0 := by omega
              have z2 : (t[k]).n.toNat = 0 := by omega
              rw [if_pos (by omega)]; simp [z1, z2, loopG, mns]
            · rw [if_neg (by omega), endR_vis t d (k + 1) _ (by omega) (by omega), Nat.add_comm o, loopG_add]
              by_cases z2 : (t[k]).n.toNat = 0
              · simp [z2, loopG]
              · by_cases z : loopG (vis t) (t[k]).n.toNat (k + 1) = 0
                · rw [if_pos ⟨z, by omega⟩, z]; simp
                · rw [if_neg (fun h => z h.1)]; simp [z]
          · have e1 : openOf t[k] ((o + 1 : Nat) : Int) = (o : Nat) := by simp [openOf, h3]
            simp only [hk, hc, h3, and_self, if_true, if_false, e1]
            by_cases hz : o = 0
            · subst hz; simp [loopG, mns]
            · rw [if_neg (by omega), endR_vis t d (k + 1) o (by omega) (by omega)]; simp
        · have hcf : cellOk t[k] = false := by simpa using hc
          rw [if_pos hcf]; simp [hcf, mns]
    · rw [List.drop_of_length_le (by omega), endR, loopG_succ, vis_eq]; simp [hk, mns]
theorem rightG_eq (t : List Cell) : rightG t = rightT t := by
  have h := endR_vis t t.length 0 1 (by omega) (by omega)
  have e0 : loopG (vis t) 1 0 = vis t 0 := by rw [loopG_succ]; by_cases z : vis t 0 = 0 <;> simp [z, loopG]
  rw [List.drop_zero, e0] at h
  have e : endR t 1 0 = mns (vis t 0) := h
  rw [Bool.eq_iff_iff]
  simp only [rightG, rightT, Bool.and_eq_true, decide_eq_true_eq, e]
  show (_ ∧ vis t 0 = _) ↔ _
  by_cases z : vis t 0 = 0
  · rw [z, mns_zero]; omega
  · rw [mns_pos z]; omega

theorem varsT_nil : ∀ (t : List Cell) (l : List Int), ((t.foldl varsStep l).length = 0 ↔ l.length = 0 ∧ t.any isVar = false)
  | [], l => by simp
  | c :: t, l => by
    rw [List.foldl_cons, varsT_nil t, List.any_cons]
    unfold varsStep
    by_cases h1 : c.kind = 1
    · by_cases h2 : c.n ∈ l
      · have : l.length ≠ 0 := by intro e; rw [List.length_eq_zero_iff.1 e] at h2; simp at h2
        rw [if_neg (by simp [h2])]; simp [isVar, h1]; intro e; simp [e] at this
      · rw [if_pos ⟨h1, h2⟩]; simp [isVar, h1]
    · rw [if_neg (by simp [h1])]; simp [isVar, h1]
theorem groundG_eq (t : List Cell) : groundG t = groundT t := by
  have := varsT_nil t []
  rw [Bool.eq_iff_iff]
  simp only [groundG, groundT, varsT, decide_eq_true_eq, this]
  simp
theorem oddT_eq (t : Term) : oddT t = !(atomT t && groundT t) := by
  simp only [oddT, atomT, rightG_eq, groundG_eq, Bool.and_assoc]

/-! ### rows of numbers -/
theorem rises_ris {α : Type} {p : α → Prop} {cmp : α → α → Int} (h : OrdOn p cmp) {get : Int → α} {l : List α} (hg : ∀ (i : Nat) (hi : i < l.length), get (i : Int) = l[i]) (hl : ∀ x ∈ l, p x) : risesP cmp get l.length ↔ Ris cmp l := by
  constructor
  · intro hr
    refine ris_near h hl fun i hi => ?_
    have := hr (i + 1) hi (by omega)
    rw [show (((i + 1 : Nat) : Int) - 1) = (i : Int) by omega, hg i (by omega), hg (i + 1) hi] at this
    exact this
  · intro hr i hi h0
    have := Ris.lt hr (i - 1) i (by omega) hi (by omega)
    rw [show ((i : Int) - 1) = ((i - 1 : Nat) : Int) by omega, hg (i - 1) (by omega), hg i hi]
    exact this

/-- A set of numbers below one. -/
theorem setOk_iff {l : List Int} {n : Int} : setOk l n = true ↔ (∀ x ∈ l, 0 ≤ x ∧ x < n) ∧ Ris subI l := by
  simp only [setOk, decide_eq_true_eq]
  constructor
  · intro h
    refine ⟨fun x hx => ?_, (rises_ris subI_ord (get := gi l) (fun i hi => gi_lt hi) (fun _ _ => trivial)).1 fun i hi h0 => ?_⟩
    · obtain ⟨i, hi, rfl⟩ := List.getElem_of_mem hx
      have := h i hi
      rw [gi_lt hi] at this
      exact ⟨this.1, this.2.1⟩
    · have := (h i hi).2.2 h0
      simp only [subI]; omega
  · rintro ⟨h1, h2⟩ i hi
    have h3 := h1 l[i] (List.getElem_mem hi)
    have h4 := (rises_ris subI_ord (get := gi l) (fun i hi => gi_lt hi) (fun _ _ => trivial)).2 h2 i hi
    simp only [subI] at h4
    rw [gi_lt hi] at h4 ⊢
    exact ⟨h3.1, h3.2, fun h0 => by have := h4 h0; omega⟩
theorem ris_sign {α : Type} {cmp c2 : α → α → Int} {l : List α} (hs : ∀ a ∈ l, ∀ b ∈ l, SignEq (cmp a b) (c2 a b)) : Ris cmp l ↔ Ris c2 l :=
  ⟨fun h => List.Pairwise.imp_of_mem (fun ha hb h => (hs _ ha _ hb).1.1 h) h, fun h => List.Pairwise.imp_of_mem (fun ha hb h => (hs _ ha _ hb).1.2 h) h⟩
theorem risI_iff (l : List Int) : risesP cmpI (gi l) l.length ↔ Ris subI l := by
  rw [rises_ris cmpI_ord (get := gi l) (fun i hi => gi_lt hi) (fun _ _ => trivial)]
  exact ris_sign fun a _ b _ => cmpI_sub a b

/-- Ground's own word on a rule's numbers. -/
def wrongN (g : Prg) (l : List Int) : Bool := l.any (outN g) || !decide (risesP cmpI (gi l) l.length)
def oddRule (g : Prg) (r : Rule) : Bool := outN g r.head || (wrongN g r.pos || wrongN g r.neg)
def badGP (g : Prg) : Bool := g.atoms.any oddT || (!decide (risesP cmpG (gt g.atoms) g.atoms.length) || !decide (risesP gOrder (gr g.rules) g.rules.length))
def rightGP (g : Prg) : Bool := !badGP g && !g.rules.any (oddRule g)

theorem wrongN_iff (g : Prg) (l : List Int) : wrongN g l = false ↔ setOk l g.atoms.length = true := by
  rw [setOk_iff, ← risI_iff]
  simp only [wrongN, Bool.or_eq_false_iff, Bool.not_eq_false', decide_eq_true_eq, List.any_eq_false, outN]
  exact and_congr_left' (forall_congr' fun x => forall_congr' fun _ => by omega)

/-- A right program, told by what stands in it. -/
structure RightP (g : Prg) : Prop where
  atom : ∀ t ∈ g.atoms, atomT t = true ∧ groundT t = true
  rise : Ris cmpG g.atoms
  head : ∀ r ∈ g.rules, 0 ≤ r.head ∧ r.head < g.atoms.length
  pos : ∀ r ∈ g.rules, setOk r.pos g.atoms.length = true
  neg : ∀ r ∈ g.rules, setOk r.neg g.atoms.length = true
  rules : Ris gOrder g.rules

theorem atomT_rt {t : Term} (h : atomT t = true) : RT t := by simp only [atomT, Bool.and_eq_true] at h; exact h.1
theorem setOk_sm {l : List Int} {n : Nat} (hn : n ≤ 1000000) (h : setOk l n = true) : SmIs l := by
  obtain ⟨h1, h2⟩ := setOk_iff.1 h
  have hlt : ∀ i (hi : i < l.length), (i : Int) ≤ l[i] := by
    intro i
    induction i with
    | zero => intro hi; exact (h1 _ (List.getElem_mem hi)).1
    | succ i ih =>
      intro hi
      have a := ih (by omega)
      have b := Ris.lt h2 i (i + 1) (by omega) hi (by omega)
      simp only [subI] at b
      omega
  refine ⟨?_, fun x hx => by have := h1 x hx; simp only [SmI]; omega⟩
  by_cases c : l.length = 0
  · omega
  · have a := hlt (l.length - 1) (by omega)
    have b := h1 _ (List.getElem_mem (l := l) (n := l.length - 1) (by omega))
    omega

theorem rightP_iff {g : Prg} (hn : g.atoms.length ≤ 1000000) : rightP g = true ↔ RightP g := by
  simp only [rightP, Bool.and_eq_true, decide_eq_true_eq]
  constructor
  · rintro ⟨h1, h2⟩
    have ha : ∀ t ∈ g.atoms, atomT t = true ∧ groundT t = true := fun t ht => by
      obtain ⟨i, hi, rfl⟩ := List.getElem_of_mem ht
      have := h1 i hi
      rw [gt_lt hi] at this
      exact ⟨this.1, this.2.1⟩
    have hb : ∀ r ∈ g.rules, 0 ≤ r.head ∧ r.head < g.atoms.length ∧ setOk r.pos g.atoms.length = true ∧ setOk r.neg g.atoms.length = true := fun r hr => by
      obtain ⟨i, hi, rfl⟩ := List.getElem_of_mem hr
      have := h2 i hi
      rw [gr_lt hi] at this
      exact ⟨this.1, this.2.1, this.2.2.1, this.2.2.2.1⟩
    have hs : ∀ r ∈ g.rules, SmR r := fun r hr => by
      have := hb r hr
      exact ⟨by simp only [SmI]; omega, setOk_sm hn this.2.2.1, setOk_sm hn this.2.2.2⟩
    refine ⟨ha, ?_, fun r hr => ⟨(hb r hr).1, (hb r hr).2.1⟩, fun r hr => (hb r hr).2.2.1, fun r hr => (hb r hr).2.2.2, ?_⟩
    · refine (ris_sign fun a ha' b hb' => cmpTG (atomT_rt (ha a ha').1) (atomT_rt (ha b hb').1)).1 ?_
      exact (rises_ris cmpT_ord (get := gt g.atoms) (fun i hi => gt_lt hi) fun t ht => atomT_rt (ha t ht).1).1 fun i hi h0 => (h1 i hi).2.2 h0
    · refine (ris_sign fun a ha' b hb' => rOrder_sign (hs a ha') (hs b hb')).1 ?_
      exact (rises_ris rOrder_ord (get := gr g.rules) (fun i hi => gr_lt hi) hs).1 fun i hi h0 => (h2 i hi).2.2.2.2 h0
  · rintro ⟨h1, h2, h3, h4, h5, h6⟩
    have hs : ∀ r ∈ g.rules, SmR r := fun r hr => by
      have := h3 r hr
      exact ⟨by simp only [SmI]; omega, setOk_sm hn (h4 r hr), setOk_sm hn (h5 r hr)⟩
    have r1 := (rises_ris cmpT_ord (get := gt g.atoms) (fun i hi => gt_lt hi) fun t ht => atomT_rt (h1 t ht).1).2 ((ris_sign fun a ha' b hb' => cmpTG (atomT_rt (h1 a ha').1) (atomT_rt (h1 b hb').1)).2 h2)
    have r2 := (rises_ris rOrder_ord (get := gr g.rules) (fun i hi => gr_lt hi) hs).2 ((ris_sign fun a ha' b hb' => rOrder_sign (hs a ha') (hs b hb')).2 h6)
    refine ⟨fun i hi => ?_, fun i hi => ?_⟩
    · have := h1 g.atoms[i] (List.getElem_mem hi)
      rw [← gt_lt hi] at this
      exact ⟨this.1, this.2, fun h0 => r1 i hi h0⟩
    · have m := List.getElem_mem (l := g.rules) (n := i) hi
      have a := h3 _ m
      have b := h4 _ m
      have c := h5 _ m
      rw [← gr_lt hi] at a b c
      exact ⟨a.1, a.2, b, c, fun h0 => r2 i hi h0⟩
theorem rightGP_iff {g : Prg} : rightGP g = true ↔ RightP g := by
  simp only [rightGP, badGP, Bool.and_eq_true, Bool.not_eq_true', Bool.or_eq_false_iff, Bool.not_eq_false', decide_eq_true_eq]
  rw [rises_ris cmpG_ord (get := gt g.atoms) (fun i hi => gt_lt hi) (fun _ _ => trivial), rises_ris gOrder_ord (get := gr g.rules) (fun i hi => gr_lt hi) (fun _ _ => trivial)]
  simp only [List.any_eq_false, oddRule, Bool.or_eq_true, not_or, Bool.not_eq_true, wrongN_iff]
  constructor
  · rintro ⟨⟨h1, h2, h3⟩, h4⟩
    refine ⟨fun t ht => by have := h1 t ht; rw [oddT_eq] at this; simpa using this, h2, fun r hr => ?_, fun r hr => (h4 r hr).2.1, fun r hr => (h4 r hr).2.2, h3⟩
    have := (h4 r hr).1
    simp only [outN, decide_eq_false_iff_not] at this
    omega
  · rintro ⟨h1, h2, h3, h4, h5, h6⟩
    refine ⟨⟨fun t ht => by rw [oddT_eq]; simpa using h1 t ht, h2, h6⟩, fun r hr => ⟨?_, h4 r hr, h5 r hr⟩⟩
    have := h3 r hr
    simp only [outN, decide_eq_false_iff_not]
    omega
theorem right_eq {g : Prg} (hn : g.atoms.length ≤ 1000000) : rightGP g = rightP g := by
  rw [Bool.eq_iff_iff, rightGP_iff, rightP_iff hn]
end Go.Proofs.YtgapiecbinplfaaGreat
