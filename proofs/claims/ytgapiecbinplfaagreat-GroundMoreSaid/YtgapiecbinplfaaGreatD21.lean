/- Own framework, walks and plain laws behind the laws of this seat, part D21: lemmas, no statement of the seat. -/
import Derived.Test.YtgapiecbinplfaaGreatD20
set_option linter.all false
/- Each atom of a right program has its rules, and no rule has none. -/
namespace Go.Proofs.YtgapiecbinplfaaGreat
open Go.RowKit

theorem ofR_ris (l : List Rule) (n : Int) (k : Nat) : Ris subI (ofR l n k) := by
  simp only [ofR, Ris, List.pairwise_map]
  exact (List.pairwise_lt_range.filter _).imp fun h => by simp only [subI]; omega
theorem ofR_in {l : List Rule} {n : Int} {k : Nat} (h : k < (ofR l n l.length).length) : 0 ≤ gi (ofR l n l.length) k ∧ gi (ofR l n l.length) k < l.length ∧ (gr l (gi (ofR l n l.length) k)).head = n := by
  have h1 : gi (ofR l n l.length) k ∈ ofR l n l.length := by rw [gi_lt h]; exact List.getElem_mem _
  obtain ⟨q, hq, e, h2⟩ := mem_ofR.1 h1
  rw [e, gr_lt hq]
  exact ⟨by omega, by omega, h2⟩
theorem ofR_up {l : List Rule} {n : Int} {k : Nat} (h : k < (ofR l n l.length).length) (h0 : 0 < k) : gi (ofR l n l.length) ((k : Int) - 1) < gi (ofR l n l.length) k := by
  have h1 := (ofR_ris l n l.length).lt (k - 1) k (by omega) h (by omega)
  simp only [subI] at h1
  rw [show (k : Int) - 1 = ((k - 1 : Nat) : Int) by omega, gi_lt h, gi_lt (by omega)]
  omega
theorem ofR_count (l : List Rule) (n : Int) : ∀ k, k ≤ l.length → (ofR l n k).length = (l.take k).countP fun r : Rule => decide (r.head = n)
  | 0, _ => by simp [ofR]
  | k + 1, h => by
    rw [ofR_step, List.length_append, ofR_count l n k (by omega), List.take_succ_eq_append_getElem (by omega), List.countP_append, gr_lt (by omega)]
    congr 1
    by_cases c : l[k].head = n <;> simp [c]
/-- The rules of the atoms below one. -/
def hc (l : List Rule) (i : Nat) : Nat := l.countP fun r : Rule => decide (r.head < (i : Int))
theorem hc_step : ∀ (l : List Rule) (i : Nat), hc l (i + 1) = hc l i + l.countP fun r : Rule => decide (r.head = (i : Int))
  | [], _ => rfl
  | r :: l, i => by
    have ih := hc_step l i
    simp only [hc, List.countP_cons] at ih ⊢
    rw [ih]
    simp only [decide_eq_true_eq]
    repeat' split
    all_goals omega
theorem hc_of (l : List Rule) (i : Nat) : hc l (i + 1) = hc l i + (ofR l i l.length).length := by
  rw [hc_step, ofR_count l i l.length (Nat.le_refl _), List.take_length]
theorem hc_le (l : List Rule) (i : Nat) : hc l i ≤ l.length := List.countP_le_length
theorem hc_zero {g : Prg} (hr : RightP g) : hc g.rules 0 = 0 := by
  simp only [hc, List.countP_eq_zero, decide_eq_true_eq]
  intro r h; have := (hr.head r h).1; omega
theorem hc_all {g : Prg} (hr : RightP g) : hc g.rules g.atoms.length = g.rules.length := by
  simp only [hc, List.countP_eq_length, decide_eq_true_eq]
  intro r h; exact (hr.head r h).2
theorem ofR_none {g : Prg} (hr : RightP g) {n : Int} (hn : ¬ InP g n) : ofR g.rules n g.rules.length = [] := by
  rw [List.eq_nil_iff_forall_not_mem]
  intro i hi
  obtain ⟨k, hk, _, e⟩ := mem_ofR.1 hi
  exact hn (e ▸ hr.head _ (List.getElem_mem hk))
theorem mem_take_step {l : List Term} {t : Term} {i : Nat} (h : i < l.length) : t ∈ l.take (i + 1) ↔ t ∈ l.take i ∨ gt l i = t := by
  rw [List.take_succ_eq_append_getElem h, List.mem_append, gt_lt h]; simp [eq_comm]
end Go.Proofs.YtgapiecbinplfaaGreat
/- Walks: layer 16's laws: GroundFinds. Printed by walk.py from annotations. -/
namespace Go.Proofs.YtgapiecbinplfaaGreat
open Go.RowKit


theorem find_ctr3 {g : Prg} {i : Nat} (h : greatP g = false) (hr : RightP g) (hi : i < g.atoms.length) : Ctr Tryz.prog 32 [pav g, .d .term (gt g.atoms i)] [] (.d .i (i : Int)) [] := by
  have h1 := small_of h
  have h2 := findG_ctr g (gt g.atoms i) (by have := h1.1; omega)
  rwa [find_place hr ⟨by omega, by omega⟩] at h2
theorem of_none {g : Prg} {n : Int} (h : greatP g = false) (hr : RightP g) (hn : ¬ InP g n) : Ctr Tryz.prog 27 [pav g, .d .i n] [] (.d .ints []) [] := by
  have h1 := small_of h
  have h2 := ofR_ctr g n (by have := h1.2.1; omega)
  rwa [ofR_none hr hn] at h2

set_option maxRecDepth 8000 in
set_option maxHeartbeats 4000000 in
theorem finds_ctr (g : Prg) (t : Term) (hg : ∀ t ∈ g.atoms, NmOk t) : Ctr Tryz.prog 9 [pav g, .d .term t] [] (.d .bool true) [] := by
  refine ctr_pure E Tryz.func9 rfl Tryz.ntmps9 Tryz.results9 (Nat.le_of_ble_eq_true rfl) rfl ?_
  simp only [pav]
  have k0 := greatP_ctr g
  have k1 := fun h => rightR_ctr2 (g := g) h hg
  repeat refine ok_seq ?_
  refine ok_reg E [1, 2] [] (by simp [-Option.some.injEq, -Prod.mk.injEq]; rfl) (by first | trivial | omega | simp | (simp; omega)) ?_
  repeat refine ok_seq ?_
  refine ok_reg E [1, 2, 5] [.pure (.d .bool true)] (by simp [-Option.some.injEq, -Prod.mk.injEq]; rfl) (by (have q100 := head16_ctr; (try simp at q100); simp [q100])) ?_
  repeat refine ok_seq ?_
  refine ok_regJ E [(23, .d .bool (decide (greatP g = true ∨ rightP g = false ∨ 200 < t.length)))] [1, 2, 5] [1, 2, 5, 23] [.pure (.d .bool (greatP g)), .pure (.d .bool (rightP g))] ?_ ?_
  · skip
    by_cases q0 : greatP g = true
    · refine ⟨_, _, _, by simp [q0, -Option.some.injEq, -Prod.mk.injEq]; rfl, (by first | (have q100 := k0; (try simp at q100); (try simp [q0] at q100); (try simp [q1] at q100); have q101 := k1 (by simpa using q0); (try simp at q101); (try simp [q0] at q101); (try simp [q1] at q101); simp [q100, q101]) | (have q100 := k0; (try simp at q100); (try simp [q0] at q100); (try simp [q1] at q100); simp [q100])), by constructor <;> simp [EntF, EntH, EntB, Conv, scop, q0] <;> first | omega | (rw [Bool.eq_iff_iff]; simp; omega)⟩
    by_cases q1 : rightP g = true
    rotate_left
    · refine ⟨_, _, _, by simp [q0, q1, -Option.some.injEq, -Prod.mk.injEq]; rfl, (by first | (have q100 := k0; (try simp at q100); (try simp [q0] at q100); (try simp [q1] at q100); have q101 := k1 (by simpa using q0); (try simp at q101); (try simp [q0] at q101); (try simp [q1] at q101); simp [q100, q101]) | (have q100 := k0; (try simp at q100); (try simp [q0] at q100); (try simp [q1] at q100); simp [q100])), by constructor <;> simp [EntF, EntH, EntB, Conv, scop, q0, q1] <;> first | omega | (rw [Bool.eq_iff_iff]; simp; omega)⟩
    refine ⟨_, _, _, by simp [q0, q1, -Option.some.injEq, -Prod.mk.injEq]; rfl, (by first | (have q100 := k0; (try simp at q100); (try simp [q0] at q100); (try simp [q1] at q100); have q101 := k1 (by simpa using q0); (try simp at q101); (try simp [q0] at q101); (try simp [q1] at q101); simp [q100, q101]) | (have q100 := k0; (try simp at q100); (try simp [q0] at q100); (try simp [q1] at q100); simp [q100])), by constructor <;> simp [EntF, EntH, EntB, Conv, scop, q0, q1] <;> first | omega | (rw [Bool.eq_iff_iff]; simp; omega)⟩
  repeat refine ok_seq ?_
  refine ok_if rfl (fun c1 => ?_) (fun c1 => ?_)
  · try simp at c1
    all_goals
      skip
      repeat refine ok_seq ?_
      refine ok_reg E [4] [] (by simp [-Option.some.injEq, -Prod.mk.injEq]; rfl) (by first | trivial | omega | simp | (simp; omega)) ?_
      refine ok_ret ⟨.inr rfl, ?_⟩
      -- ret1
      simp [resAll, resL, resA, frozE]
  · try simp at c1
    all_goals
      have hr := right_of c1.1 c1.2.1
      have hs := small_of c1.1
      have hs1 := hs.1
      have hs2 := hs.2.1
      refine ok_skip ?_
      repeat refine ok_seq ?_
      refine ok_reg E [1, 2, 5, 6] [] (by simp [-Option.some.injEq, -Prod.mk.injEq]; rfl) (by first | trivial | omega | simp | (simp; omega)) ?_
      repeat refine ok_seq ?_
      refine ok_reg E [1, 2, 5, 6, 7] [] (by simp [-Option.some.injEq, -Prod.mk.injEq]; rfl) (by first | trivial | omega | simp | (simp; omega)) ?_
      repeat refine ok_seq ?_
      refine ok_reg E [1, 2, 5, 6, 7, 8] [] (by simp [-Option.some.injEq, -Prod.mk.injEq]; rfl) (by first | trivial | omega | simp | (simp; omega)) ?_
      repeat refine ok_seq ?_
      refine ok_block ?_
      repeat refine ok_seq ?_
      refine ok_loop (σ := Nat) (fun i => [(1, .d .term t), (2, .ptr 0 0), (5, .d .bool true), (6, .d .i (hc g.rules i : Int)), (7, .d .bool (decide (t ∈ g.atoms.take i))), (8, .d .i (i : Int))]) (fun i => [.cells [.d .terms g.atoms, .d (.sl .rule) g.rules]]) (fun i => i ≤ g.atoms.length) (fun i => g.atoms.length - i) 0 (by simp) ?_ ?_
      · constructor <;> simp [EntF, EntH, EntB, Conv, ConvL, scop, scopL, hc_zero hr]
      rintro i hi
      repeat refine ok_seq ?_
      refine ok_reg E [1, 2, 5, 6, 7, 8, 29] [] (by simp [-Option.some.injEq, -Prod.mk.injEq]; rfl) (by first | trivial | omega | simp | (simp; omega)) ?_
      repeat refine ok_seq ?_
      refine ok_if rfl (fun c2 => ?_) (fun c2 => ?_)
      · try simp at c2
        all_goals
          have k2 := find_ctr3 c1.1 hr c2
          have k3 := same_ctr (gt g.atoms i) t
          have k4 := ofR_ctr g (i : Int) (by omega)
          have e1 := mem_take_step (t := t) c2
          have e2 := hc_of g.rules i
          have e3 := hc_le g.rules (i + 1)
          refine ok_skip ?_
          repeat refine ok_seq ?_
          refine ok_block ?_
          repeat refine ok_seq ?_
          refine ok_dr E rfl [1, 2, 5, 6, 7, 8, 40] 9 [.pure (.d .i (i : Int))] (by decide) (by simp [nodupF]) (by simp [-Option.some.injEq, -Prod.mk.injEq]; rfl) (by ((try simp at k2); simp [k2, c2])) ?_
          repeat refine ok_seq ?_
          refine ok_if rfl (fun c3 => ?_) (fun c3 => ?_)
          · exfalso; simp at c3
          · try simp at c3
            all_goals
              refine ok_skip ?_
              repeat refine ok_seq ?_
              refine ok_regJ E [(7, .d .bool (decide (t ∈ g.atoms.take (i + 1))))] [1, 2, 5, 6, 8] [1, 2, 5, 6, 7, 8] [.pure (.d .bool (decide (gt g.atoms i = t)))] ?_ ?_
              · skip
                by_cases q0 : t ∈ g.atoms.take i
                · refine ⟨_, _, _, by simp [q0, e1, -Option.some.injEq, -Prod.mk.injEq]; rfl, (by first | trivial | ((try simp at k3); simp [k3, c2]) | simp [c2]), by constructor <;> simp [EntF, EntH, EntB, Conv, scop, q0, e1] <;> first | omega | (rw [Bool.eq_iff_iff]; simp; omega)⟩
                refine ⟨_, _, _, by simp [q0, e1, -Option.some.injEq, -Prod.mk.injEq]; rfl, (by first | trivial | ((try simp at k3); simp [k3, c2]) | simp [c2]), by constructor <;> simp [EntF, EntH, EntB, Conv, scop, q0, e1] <;> first | omega | (rw [Bool.eq_iff_iff]; simp; omega)⟩
              repeat refine ok_seq ?_
              refine ok_reg E [1, 2, 5, 6, 7, 8, 9] [.pure (.d .ints (ofR g.rules i g.rules.length))] (by simp [-Option.some.injEq, -Prod.mk.injEq]; rfl) (by (have q100 := k4; (try simp at q100); simp [q100])) ?_
              repeat refine ok_seq ?_
              refine ok_reg E [1, 2, 5, 6, 7, 8, 9, 10] [] (by simp [-Option.some.injEq, -Prod.mk.injEq]; rfl) (by first | trivial | omega | simp | (simp; omega)) ?_
              repeat refine ok_seq ?_
              refine ok_block ?_
              repeat refine ok_seq ?_
              refine ok_loop (σ := Nat) (fun k => [(1, .d .term t), (2, .ptr 0 0), (5, .d .bool true), (6, .d .i (hc g.rules i : Int)), (7, .d .bool (decide (t ∈ g.atoms.take (i + 1)))), (8, .d .i (i : Int)), (9, .d .ints (ofR g.rules i g.rules.length)), (10, .d .i (k : Int))]) (fun k => [.cells [.d .terms g.atoms, .d (.sl .rule) g.rules]]) (fun k => k ≤ (ofR g.rules i g.rules.length).length) (fun k => (ofR g.rules i g.rules.length).length - k) 0 (by simp) ?_ ?_
              · constructor <;> simp [EntF, EntH, EntB, Conv, ConvL, scop, scopL]
              rintro k hk0
              repeat refine ok_seq ?_
              refine ok_reg E [1, 2, 5, 6, 7, 8, 9, 10, 57] [] (by simp [-Option.some.injEq, -Prod.mk.injEq]; rfl) (by first | trivial | omega | simp | (simp; omega)) ?_
              repeat refine ok_seq ?_
              refine ok_if rfl (fun c4 => ?_) (fun c4 => ?_)
              · try simp at c4
                all_goals
                  have f0 := ofR_in c4
                  have f8 := f0.1
                  have f9 := f0.2.1
                  have f1 : ¬ gi (ofR g.rules i g.rules.length) k < 0 := by omega
                  have f2 : ¬ (g.rules.length : Int) ≤ gi (ofR g.rules i g.rules.length) k := by omega
                  have f3 := f0.2.2
                  have f4 := ofR_up c4
                  have w1 : IntKind.i64.wrap ((k : Int) - 1) = (k : Int) - 1 := wrap_i64 (by omega) (by omega)
                  have f5 : ¬ (ofR g.rules i g.rules.length).length ≤ k := by omega
                  have f6 : max (gi (ofR g.rules i g.rules.length) k) 0 = gi (ofR g.rules i g.rules.length) k := by omega
                  have f7 : 0 < k → ¬ gi (ofR g.rules i g.rules.length) k ≤ gi (ofR g.rules i g.rules.length) (↑k - 1) := fun h => by have := f4 h; omega
                  refine ok_skip ?_
                  repeat refine ok_seq ?_
                  refine ok_block ?_
                  repeat refine ok_seq ?_
                  refine ok_drJ E rfl [(103, .d .bool false)] [1, 2, 5, 6, 7, 8, 9, 10] [1, 2, 5, 6, 7, 8, 9, 10, 103] 44 [] (by decide) (by simp [nodupF]) ?_ ?_
                  · skip
                    by_cases q0 : 0 < k
                    rotate_left
                    · refine ⟨_, _, _, by simp [q0, f1, f2, f3, f7, w1, f6, -Option.some.injEq, -Prod.mk.injEq]; rfl, (by first | trivial | omega | simp | (simp; omega)), by constructor <;> simp [EntF, EntH, EntB, Conv, scop, q0, f1, f2, f3, f7, w1, f6] <;> first | omega | (rw [Bool.eq_iff_iff]; simp; omega)⟩
                    refine ⟨_, _, _, by simp [q0, f1, f2, f3, f7, w1, f6, -Option.some.injEq, -Prod.mk.injEq]; rfl, (by first | trivial | omega | simp | (simp; omega)), by constructor <;> simp [EntF, EntH, EntB, Conv, scop, q0, f1, f2, f3, f7, w1, f6] <;> first | omega | (rw [Bool.eq_iff_iff]; simp; omega)⟩
                  repeat refine ok_seq ?_
                  refine ok_if rfl (fun c5 => ?_) (fun c5 => ?_)
                  · exfalso; simp at c5
                  · try simp at c5
                    all_goals
                      refine ok_skip ?_
                      repeat refine ok_seq ?_
                      refine ok_reg E [1, 2, 5, 6, 7, 8, 9, 10] [] (by simp [-Option.some.injEq, -Prod.mk.injEq]; rfl) (by first | trivial | omega | simp | (simp; omega)) ?_
                      -- end21
                      exact ⟨k + 1, by omega, by omega, by constructor <;> simp (disch := omega) [EntF, EntH, EntB, Conv, ConvL, scop, scopL, wrap_i64]⟩
              · try simp at c4
                all_goals
                  skip
                  refine ok_exit ?_
                  repeat refine ok_seq ?_
                  refine ok_reg E [1, 2, 5, 6, 7, 8] [] (by simp [-Option.some.injEq, -Prod.mk.injEq]; rfl) (by first | trivial | omega | simp | (simp; omega)) ?_
                  repeat refine ok_seq ?_
                  refine ok_reg E [1, 2, 5, 6, 7, 8] [] (by simp [-Option.some.injEq, -Prod.mk.injEq]; rfl) (by first | trivial | omega | simp | (simp; omega)) ?_
                  -- end01
                  exact ⟨i + 1, by omega, by omega, by constructor <;> simp (disch := omega) [EntF, EntH, EntB, Conv, ConvL, scop, scopL, wrap_i64, e2]⟩
      · try simp at c2
        all_goals
          have e6 : g.atoms.take i = g.atoms := List.take_of_length_le c2
          have e7 : hc g.rules i = g.rules.length := by rw [show i = g.atoms.length by omega]; exact hc_all hr
          have e8 := findR_mem (l := g.atoms) (t := t)
          have k5 := find_ctr2 t c1.1 hr
          have k6 := of_none (n := -1) c1.1 hr (fun h => by have := h.1; omega)
          have k7 := of_none (n := (g.atoms.length : Int)) c1.1 hr (fun h => by have := h.2; omega)
          refine ok_exit ?_
          repeat refine ok_seq ?_
          refine ok_reg E [4] [.pure (.d .i (findR g.atoms t)), .pure (.d .ints []), .pure (.d .ints [])] (by simp [e7, e6, e8, -Option.some.injEq, -Prod.mk.injEq]; rfl) (by ((try simp at k5 k6 k7); simp [k5, k6, k7])) ?_
          refine ok_ret ⟨.inr rfl, ?_⟩
          -- ret2
          simp [resAll, resL, resA, frozE]

end Go.Proofs.YtgapiecbinplfaaGreat
