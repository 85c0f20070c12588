/- Own framework, walks and plain laws behind the laws of this seat, part D25: lemmas, no statement of the seat. -/
import Derived.Test.YtgapiecbinplfaaGreatD24
set_option linter.all false
/- Walks: layer 16's laws: GroundMore. Printed by walk.py from annotations. -/
namespace Go.Proofs.YtgapiecbinplfaaGreat
open Go.RowKit


/-- Is a rule's instance one of the first ones of another program? -/
def isM (f g : Prg) (r : Rule) (k : Nat) : Bool := (g.rules.take k).any fun s => decide ((instR f r).head = (instR g s).head) && (decide ((instR f r).pos = (instR g s).pos) && decide ((instR f r).neg = (instR g s).neg))
theorem isM_zero (f g : Prg) (r : Rule) : isM f g r 0 = false := by simp [isM]
theorem isM_step {f g : Prg} {r : Rule} {k : Nat} (h : k < g.rules.length) : isM f g r (k + 1) = (isM f g r k || (decide ((instR f r).head = (instR g (gr g.rules k)).head) && (decide ((instR f r).pos = (instR g (gr g.rules k)).pos) && decide ((instR f r).neg = (instR g (gr g.rules k)).neg)))) := by
  simp only [isM]
  rw [List.take_succ_eq_append_getElem h, List.any_append, gr_lt h]
  simp
theorem isM_all {m n : List Inst} (h : ∀ x ∈ m, x ∈ n) {r : Rule} (hr : r ∈ (fromG m).rules) {k : Nat} (hk : (fromG n).rules.length ≤ k) : isM (fromG m) (fromG n) r k = true := by
  obtain ⟨s, hs, e⟩ := more_rule h hr
  simp only [isM, List.take_of_length_le hk, List.any_eq_true]
  exact ⟨s, hs, by rw [e]; simp⟩
theorem part_ok (l : List Inst) (k : Nat) : InstsOk ((madeR l).take k) := by
  refine ⟨Nat.le_trans (List.length_take_le' _ _) (by have := made_len l; omega), fun i hi => ?_⟩
  have hm : gin ((madeR l).take k) i ∈ (madeR l).take k := by rw [gin_lt hi]; exact List.getElem_mem _
  have := made_sh l _ (List.mem_of_mem_take hm)
  omega
theorem part_atoms (l : List Inst) (k : Nat) : (fromG ((madeR l).take k)).atoms.length ≤ 1000000 := by
  have h1 := setBy_len cmpG (allG ((madeR l).take k))
  have h2 := part_ok l k
  have h3 := allG_len h2 _ (Nat.le_refl _)
  rw [List.take_length] at h3
  have := h2.1
  simp only [fromG]
  omega
theorem part_nm {l : List Inst} (hl : ∀ x ∈ l, NmI x) (k : Nat) : ∀ t ∈ (fromG ((madeR l).take k)).atoms, NmOk t := by
  intro t ht
  obtain ⟨x, hx, ht⟩ := List.mem_flatMap.1 (((setG_ris (allG ((madeR l).take k))).2 t).1 ht)
  have h1 := hl x (List.mem_of_mem_take (List.mem_filter.1 (List.mem_of_mem_take hx)).1)
  simp only [instAll, List.mem_cons, List.mem_append] at ht
  rcases ht with rfl | ht | ht
  · exact h1.1
  · exact h1.2.1 _ ht
  · exact h1.2.2 _ ht
theorem part_right (l : List Inst) (k : Nat) : RightP (fromG ((madeR l).take k)) := from_right fun x hx => made_atoms l x (List.mem_of_mem_take hx)
theorem part_R {l : List Inst} (hl : ∀ x ∈ l, NmI x) (k : Nat) : Ctr Tryz.prog 40 [pav (fromG ((madeR l).take k))] [] (.d .bool true) [] :=
  rightR_ctr4 (part_right l k) (part_atoms l k) (by have := fromG_rules ((madeR l).take k); have := (part_ok l k).1; omega) (part_nm hl k)
theorem part_find (l : List Inst) (k : Nat) {i : Nat} (hi : i < (fromG ((madeR l).take k)).atoms.length) : ∃ p : Nat, Ctr Tryz.prog 32 [pav (fromG (madeR l)), .d .term (gt (fromG ((madeR l).take k)).atoms i)] [] (.d .i (p : Int)) [] := by
  have hg := part_atoms l (madeR l).length
  rw [List.take_length] at hg
  have h := findG_ctr (fromG (madeR l)) (gt (fromG ((madeR l).take k)).atoms i) hg
  have hm : gt (fromG ((madeR l).take k)).atoms i ∈ (fromG (madeR l)).atoms := more_atom (fun x hx => List.mem_of_mem_take hx) (gt_mem hi)
  have := find_in (made_right l).rise hm
  refine ⟨(findG (fromG (madeR l)).atoms (gt (fromG ((madeR l).take k)).atoms i)).toNat, ?_⟩
  rwa [show (((findG (fromG (madeR l)).atoms (gt (fromG ((madeR l).take k)).atoms i)).toNat : Nat) : Int) = findG (fromG (madeR l)).atoms (gt (fromG ((madeR l).take k)).atoms i) by omega]

set_option maxRecDepth 8000 in
set_option maxHeartbeats 4000000 in
theorem more_ctr (l : List Inst) (n : Int) (hl : ∀ x ∈ l, NmI x) (hn : 0 ≤ n ∧ n ≤ 255) : Ctr Tryz.prog 12 [.d (.sl .inst) l, .d (.int .u8) n] [] (.d .bool true) [] := by
  refine ctr_pure E Tryz.func12 rfl Tryz.ntmps12 Tryz.results12 (Nat.le_of_ble_eq_true rfl) rfl ?_
  have wn : IntKind.i64.wrap n = n := wrap_i64 (by omega) (by omega)
  have hml := made_len l
  have w0 : IntKind.i64.wrap (((madeR l).length : Int) + 1) = ((madeR l).length : Int) + 1 := wrap_i64 (by omega) (by omega)
  have h0 := tmod_in (m := (madeR l).length + 1) hn.1 (by omega)
  have e0 : (((madeR l).length + 1 : Nat) : Int) = ((madeR l).length : Int) + 1 := by omega
  rw [e0] at h0
  obtain ⟨k, hk⟩ : ∃ k : Nat, n.tmod (((madeR l).length : Int) + 1) = k := ⟨(n.tmod (((madeR l).length : Int) + 1)).toNat, by omega⟩
  have hkl : k ≤ (madeR l).length := by omega
  have k1 := made_ctr l hl
  have k2 := fromG_ctr _ (part_ok l k)
  have k3 := fromG_ctr _ (made_ok l)
  have k4 := rightG_ctr3 (part_right l k)
  have k5 := rightG_ctr3 (made_right l)
  have k6 := part_R hl k
  have k7 := part_R hl (madeR l).length
  rw [List.take_length] at k7
  have hfr := fromG_rules ((madeR l).take k)
  have hgr := fromG_rules (madeR l)
  have hfl := (part_ok l k).1
  have hfa := part_atoms l k
  have hga := part_atoms l (madeR l).length
  rw [List.take_length] at hga
  repeat refine ok_seq ?_
  refine ok_reg E [0, 1] [] (by simp [-Option.some.injEq, -Prod.mk.injEq]; rfl) (by first | trivial | omega | simp | (simp; omega)) ?_
  repeat refine ok_seq ?_
  refine ok_reg E [0, 1, 5] [.pure (.d .bool true)] (by simp [-Option.some.injEq, -Prod.mk.injEq]; rfl) (by (have q100 := head16_ctr; (try simp at q100); simp [q100])) ?_
  repeat refine ok_seq ?_
  refine ok_reg E [1, 5, 6] [.pure (.d (.sl .inst) (madeR l))] (by simp [-Option.some.injEq, -Prod.mk.injEq]; rfl) (by (have q100 := k1; (try simp at q100); simp [q100])) ?_
  repeat refine ok_seq ?_
  refine ok_reg E [5, 6, 7] [.pure (pav (fromG ((madeR l).take k)))] (by simp [wn, w0, hk, -Option.some.injEq, -Prod.mk.injEq]; rfl) (by ((try simp at k2); simp [hk, k2]; omega)) ?_
  repeat refine ok_seq ?_
  refine ok_reg E [5, 7, 8] [.pure (pav (fromG (madeR l)))] (by simp [-Option.some.injEq, -Prod.mk.injEq]; rfl) (by (have q100 := k3; (try simp at q100); simp [q100])) ?_
  repeat refine ok_seq ?_
  refine ok_reg E [5, 7, 8, 46] [.pure (.d .bool true), .pure (.d .bool true), .pure (.d .bool true), .pure (.d .bool true)] (by simp [-Option.some.injEq, -Prod.mk.injEq]; rfl) (by (have q100 := k4; (try simp at q100); have q101 := k5; (try simp at q101); have q102 := k6; (try simp at q102); have q103 := k7; (try simp at q103); simp [q100, q101, q102, q103])) ?_
  repeat refine ok_seq ?_
  refine ok_if rfl (fun c1 => ?_) (fun c1 => ?_)
  · exfalso; simp at c1
  · try simp at c1
    all_goals
      refine ok_skip ?_
      repeat refine ok_seq ?_
      refine ok_reg E [5, 7, 8, 9] [] (by simp [-Option.some.injEq, -Prod.mk.injEq]; rfl) (by first | trivial | omega | simp | (simp; omega)) ?_
      repeat refine ok_seq ?_
      refine ok_block ?_
      repeat refine ok_seq ?_
      refine ok_loop (σ := Nat) (fun i => [(5, .d .bool true), (7, .ptr 0 0), (8, .ptr 1 0), (9, .d .i (i : Int))]) (fun i => [.cells [.d .terms (fromG ((madeR l).take k)).atoms, .d (.sl .rule) (fromG ((madeR l).take k)).rules], .cells [.d .terms (fromG (madeR l)).atoms, .d (.sl .rule) (fromG (madeR l)).rules]]) (fun i => i ≤ (fromG ((madeR l).take k)).atoms.length) (fun i => (fromG ((madeR l).take k)).atoms.length - i) 0 (by simp) ?_ ?_
      · constructor <;> simp [EntF, EntH, EntB, Conv, scop]
      rintro i hi
      repeat refine ok_seq ?_
      refine ok_reg E [5, 7, 8, 9, 51] [] (by simp [-Option.some.injEq, -Prod.mk.injEq]; rfl) (by first | trivial | omega | simp | (simp; omega)) ?_
      repeat refine ok_seq ?_
      refine ok_if rfl (fun c2 => ?_) (fun c2 => ?_)
      · try simp at c2
        all_goals
          obtain ⟨p, k8⟩ := part_find l k c2
          refine ok_skip ?_
          repeat refine ok_seq ?_
          refine ok_block ?_
          repeat refine ok_seq ?_
          refine ok_dr E rfl [5, 7, 8, 9, 61] 8 [.pure (.d .i (p : Int))] (by decide) (by simp [nodupF]) (by simp [-Option.some.injEq, -Prod.mk.injEq]; rfl) (by ((try simp at k8); simp [k8, c2])) ?_
          repeat refine ok_seq ?_
          refine ok_if rfl (fun c3 => ?_) (fun c3 => ?_)
          · exfalso; simp at c3; omega
          · try simp at c3
            all_goals
              refine ok_skip ?_
              repeat refine ok_seq ?_
              refine ok_reg E [5, 7, 8, 9] [] (by simp [-Option.some.injEq, -Prod.mk.injEq]; rfl) (by first | trivial | omega | simp | (simp; omega)) ?_
              -- end01
              exact ⟨i + 1, by omega, by omega, by constructor <;> simp (disch := omega) [EntF, EntH, EntB, Conv, ConvL, scop, scopL, wrap_i64]⟩
      · try simp at c2
        all_goals
          skip
          refine ok_exit ?_
          repeat refine ok_seq ?_
          refine ok_reg E [5, 7, 8, 10] [] (by simp [-Option.some.injEq, -Prod.mk.injEq]; rfl) (by first | trivial | omega | simp | (simp; omega)) ?_
          repeat refine ok_seq ?_
          refine ok_block ?_
          repeat refine ok_seq ?_
          refine ok_loop (σ := Nat) (fun j => [(5, .d .bool true), (7, .ptr 0 0), (8, .ptr 1 0), (10, .d .i (j : Int))]) (fun j => [.cells [.d .terms (fromG ((madeR l).take k)).atoms, .d (.sl .rule) (fromG ((madeR l).take k)).rules], .cells [.d .terms (fromG (madeR l)).atoms, .d (.sl .rule) (fromG (madeR l)).rules]]) (fun j => j ≤ (fromG ((madeR l).take k)).rules.length) (fun j => (fromG ((madeR l).take k)).rules.length - j) 0 (by simp) ?_ ?_
          · constructor <;> simp [EntF, EntH, EntB, Conv, scop]
          rintro j hj
          repeat refine ok_seq ?_
          refine ok_reg E [5, 7, 8, 10, 66] [] (by simp [-Option.some.injEq, -Prod.mk.injEq]; rfl) (by first | trivial | omega | simp | (simp; omega)) ?_
          repeat refine ok_seq ?_
          refine ok_if rfl (fun c4 => ?_) (fun c4 => ?_)
          · try simp at c4
            all_goals
              have hm := gr_mem c4
              have k9 := inst_ctr2 (part_right l k) (by have := part_ok l k; have := allG_len this _ (Nat.le_refl _); have h5 := setBy_len cmpG (allG ((madeR l).take k)); rw [List.take_length] at *; simp only [fromG]; omega) hm
              refine ok_skip ?_
              repeat refine ok_seq ?_
              refine ok_block ?_
              repeat refine ok_seq ?_
              refine ok_drA E rfl [5, 7, 8, 10, 11] 8 7 [.pure (avOf .inst (instR (fromG ((madeR l).take k)) (gr (fromG ((madeR l).take k)).rules j)))] (by decide) (by decide) (by simp [nodupF]) (by simp [-Option.some.injEq, -Prod.mk.injEq]; rfl) (by ((try simp at k9); simp [k9, c4])) ?_
              repeat refine ok_seq ?_
              refine ok_reg E [5, 7, 8, 10, 11, 12] [] (by simp [-Option.some.injEq, -Prod.mk.injEq]; rfl) (by first | trivial | omega | simp | (simp; omega)) ?_
              repeat refine ok_seq ?_
              refine ok_reg E [5, 7, 8, 10, 11, 12, 13] [] (by simp [-Option.some.injEq, -Prod.mk.injEq]; rfl) (by first | trivial | omega | simp | (simp; omega)) ?_
              repeat refine ok_seq ?_
              refine ok_block ?_
              repeat refine ok_seq ?_
              refine ok_loop (σ := Nat) (fun o => [(5, .d .bool true), (7, .ptr 0 0), (8, .ptr 1 0), (10, .d .i (j : Int)), (11, .ptr 2 0), (12, .d .bool (isM (fromG ((madeR l).take k)) (fromG (madeR l)) (gr (fromG ((madeR l).take k)).rules j) o)), (13, .d .i (o : Int))]) (fun o => [.cells [.d .terms (fromG ((madeR l).take k)).atoms, .d (.sl .rule) (fromG ((madeR l).take k)).rules], .cells [.d .terms (fromG (madeR l)).atoms, .d (.sl .rule) (fromG (madeR l)).rules], .cells [.d .term (instR (fromG ((madeR l).take k)) (gr (fromG ((madeR l).take k)).rules j)).head, .d .terms (instR (fromG ((madeR l).take k)) (gr (fromG ((madeR l).take k)).rules j)).pos, .d .terms (instR (fromG ((madeR l).take k)) (gr (fromG ((madeR l).take k)).rules j)).neg]]) (fun o => o ≤ (fromG (madeR l)).rules.length) (fun o => (fromG (madeR l)).rules.length - o) 0 (by simp) ?_ ?_
              · constructor <;> simp [EntF, EntH, EntB, Conv, ConvL, scop, scopL, isM_zero]
              rintro o ho
              repeat refine ok_seq ?_
              refine ok_reg E [5, 7, 8, 10, 11, 12, 13, 80] [] (by simp [-Option.some.injEq, -Prod.mk.injEq]; rfl) (by first | trivial | omega | simp | (simp; omega)) ?_
              repeat refine ok_seq ?_
              refine ok_if rfl (fun c5 => ?_) (fun c5 => ?_)
              · try simp at c5
                all_goals
                  have hm2 := gr_mem c5
                  have k10 := inst_ctr2 (made_right l) (by have := made_ok l; have h4 := allG_len this _ (Nat.le_refl _); have h5 := setBy_len cmpG (allG (madeR l)); rw [List.take_length] at h4; simp only [fromG]; omega) hm2
                  have e1 := isM_step (f := (fromG ((madeR l).take k))) (r := (gr (fromG ((madeR l).take k)).rules j)) c5
                  have k11 := same_ctr (instR (fromG ((madeR l).take k)) (gr (fromG ((madeR l).take k)).rules j)).head (instR (fromG (madeR l)) (gr (fromG (madeR l)).rules o)).head
                  have k12 := sameAll_ctr (instR (fromG ((madeR l).take k)) (gr (fromG ((madeR l).take k)).rules j)).pos (instR (fromG (madeR l)) (gr (fromG (madeR l)).rules o)).pos
                  have k13 := sameAll_ctr (instR (fromG ((madeR l).take k)) (gr (fromG ((madeR l).take k)).rules j)).neg (instR (fromG (madeR l)) (gr (fromG (madeR l)).rules o)).neg
                  refine ok_skip ?_
                  repeat refine ok_seq ?_
                  refine ok_block ?_
                  repeat refine ok_seq ?_
                  refine ok_drA E rfl [5, 7, 8, 10, 11, 12, 13, 14] 8 7 [.pure (avOf .inst (instR (fromG (madeR l)) (gr (fromG (madeR l)).rules o)))] (by decide) (by decide) (by simp [nodupF]) (by simp [-Option.some.injEq, -Prod.mk.injEq]; rfl) (by ((try simp at k10); simp [k10, c5])) ?_
                  repeat refine ok_seq ?_
                  refine ok_regJ E [(12, .d .bool (isM (fromG ((madeR l).take k)) (fromG (madeR l)) (gr (fromG ((madeR l).take k)).rules j) (o + 1)))] [5, 7, 8, 10, 11, 13] [5, 7, 8, 10, 11, 12, 13] [.pure (.d .bool (decide ((instR (fromG ((madeR l).take k)) (gr (fromG ((madeR l).take k)).rules j)).head = (instR (fromG (madeR l)) (gr (fromG (madeR l)).rules o)).head))), .pure (.d .bool (decide ((instR (fromG ((madeR l).take k)) (gr (fromG ((madeR l).take k)).rules j)).pos = (instR (fromG (madeR l)) (gr (fromG (madeR l)).rules o)).pos))), .pure (.d .bool (decide ((instR (fromG ((madeR l).take k)) (gr (fromG ((madeR l).take k)).rules j)).neg = (instR (fromG (madeR l)) (gr (fromG (madeR l)).rules o)).neg)))] ?_ ?_
                  · skip
                    by_cases q0 : isM (fromG ((madeR l).take k)) (fromG (madeR l)) (gr (fromG ((madeR l).take k)).rules j) o = true
                    · refine ⟨_, _, _, by simp [q0, e1, -Option.some.injEq, -Prod.mk.injEq]; rfl, (by ((try simp at k11 k12 k13); (try simp [q0] at k11 k12 k13); (try simp [q1] at k11 k12 k13); (try simp [q2] at k11 k12 k13); simp [k11, k12, k13])), by constructor <;> simp [EntF, EntH, EntB, Conv, scop, q0, e1] <;> first | omega | (rw [Bool.eq_iff_iff]; simp; omega)⟩
                    by_cases q1 : (instR (fromG ((madeR l).take k)) (gr (fromG ((madeR l).take k)).rules j)).head = (instR (fromG (madeR l)) (gr (fromG (madeR l)).rules o)).head
                    rotate_left
                    · refine ⟨_, _, _, by simp [q0, q1, e1, -Option.some.injEq, -Prod.mk.injEq]; rfl, (by ((try simp at k11 k12 k13); (try simp [q0] at k11 k12 k13); (try simp [q1] at k11 k12 k13); (try simp [q2] at k11 k12 k13); simp [k11, k12, k13])), by constructor <;> simp [EntF, EntH, EntB, Conv, scop, q0, q1, e1] <;> first | omega | (rw [Bool.eq_iff_iff]; simp; omega)⟩
                    by_cases q2 : (instR (fromG ((madeR l).take k)) (gr (fromG ((madeR l).take k)).rules j)).pos = (instR (fromG (madeR l)) (gr (fromG (madeR l)).rules o)).pos
                    rotate_left
                    · refine ⟨_, _, _, by simp [q0, q1, q2, e1, -Option.some.injEq, -Prod.mk.injEq]; rfl, (by ((try simp at k11 k12 k13); (try simp [q0] at k11 k12 k13); (try simp [q1] at k11 k12 k13); (try simp [q2] at k11 k12 k13); simp [k11, k12, k13])), by constructor <;> simp [EntF, EntH, EntB, Conv, scop, q0, q1, q2, e1] <;> first | omega | (rw [Bool.eq_iff_iff]; simp; omega)⟩
                    refine ⟨_, _, _, by simp [q0, q1, q2, e1, -Option.some.injEq, -Prod.mk.injEq]; rfl, (by ((try simp at k11 k12 k13); (try simp [q0] at k11 k12 k13); (try simp [q1] at k11 k12 k13); (try simp [q2] at k11 k12 k13); simp [k11, k12, k13])), by constructor <;> simp [EntF, EntH, EntB, Conv, scop, q0, q1, q2, e1] <;> first | omega | (rw [Bool.eq_iff_iff]; simp; omega)⟩
                  repeat refine ok_seq ?_
                  refine ok_reg E [5, 7, 8, 10, 11, 12, 13] [] (by simp [-Option.some.injEq, -Prod.mk.injEq]; rfl) (by first | trivial | omega | simp | (simp; omega)) ?_
                  -- end41
                  exact ⟨o + 1, by omega, by omega, by constructor <;> simp (disch := omega) [EntF, EntH, EntB, Conv, ConvL, scop, scopL, wrap_i64]⟩
              · try simp at c5
                all_goals
                  have e2 := isM_all (m := (madeR l).take k) (n := (madeR l)) (fun x hx => List.mem_of_mem_take hx) hm c5
                  refine ok_exit ?_
                  repeat refine ok_seq ?_
                  refine ok_reg E [5, 7, 8, 10, 113] [] (by simp [-Option.some.injEq, -Prod.mk.injEq]; rfl) (by first | trivial | omega | simp | (simp; omega)) ?_
                  repeat refine ok_seq ?_
                  refine ok_if rfl (fun c6 => ?_) (fun c6 => ?_)
                  · exfalso; simp [e2] at c6
                  · try simp at c6
                    all_goals
                      refine ok_skip ?_
                      repeat refine ok_seq ?_
                      refine ok_reg E [5, 7, 8, 10] [] (by simp [-Option.some.injEq, -Prod.mk.injEq]; rfl) (by first | trivial | omega | simp | (simp; omega)) ?_
                      -- end21
                      exact ⟨j + 1, by omega, by omega, by constructor <;> simp (disch := omega) [EntF, EntH, EntB, Conv, ConvL, scop, scopL, wrap_i64]⟩
          · try simp at c4
            all_goals
              skip
              refine ok_exit ?_
              repeat refine ok_seq ?_
              refine ok_reg E [4] [] (by simp [-Option.some.injEq, -Prod.mk.injEq]; rfl) (by first | trivial | omega | simp | (simp; omega)) ?_
              refine ok_ret ⟨.inr rfl, ?_⟩
              -- ret1
              simp [resAll, resL, resA, frozE]

end Go.Proofs.YtgapiecbinplfaaGreat
