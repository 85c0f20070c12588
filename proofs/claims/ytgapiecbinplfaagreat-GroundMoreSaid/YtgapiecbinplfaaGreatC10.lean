/- Own framework, walks and plain laws behind the laws of this seat, part C10: lemmas, no statement of the seat. -/
import Derived.Test.YtgapiecbinplfaaGreatC9
import Derived.Shelf.Spec.SlicesGrow
import Derived.KernelRfl
set_option linter.all false
/- Walks: package ground: sets. Printed by walk.py from annotations. -/
namespace Go.Proofs.YtgapiecbinplfaaGreat
open Go.RowKit


theorem conv_msl {H : List Box} {b : Nat} {e : TypeId} {t : Ty} {xs : List t.den} {k n : Nat} (h : H[b]? = some (.mrow e t xs)) (hk : k = t.size) (hn : n = xs.length) : Conv H (.mrow b) (.msl b k 0 n) := by
  subst hk; subst hn; exact .inr (.inr (.inr ⟨b, e, t, xs, rfl, h, rfl⟩))
def cfOut (τ : Ty) (eq : τ.den → τ.den → Bool) (xs : List τ.den) : List τ.den := compactBy eq xs ++ List.replicate (xs.length - (compactBy eq xs).length) τ.dflt
theorem cfOut_same {τ : Ty} {eq : τ.den → τ.den → Bool} {xs : List τ.den} (h : compactBy eq xs = xs) : cfOut τ eq xs = xs := by simp [cfOut, h]
theorem compactBy_short {α : Type} (eq : α → α → Bool) {xs : List α} (h : xs.length < 2) : compactBy eq xs = xs := by
  cases xs with
  | nil => rfl
  | cons a r => cases r with
    | nil => rfl
    | cons b r => simp at h; omega
theorem drop_get {α : Type} {a b : List α} {m i : Nat} (h : a.drop m = b.drop m) (hm : m ≤ i) (ha : i < a.length) (hb : i < b.length) : a[i] = b[i] := by
  have h1 : (a.drop m)[i - m]? = (b.drop m)[i - m]? := by rw [h]
  simpa [show m + (i - m) = i by omega, ha, hb] using h1
theorem cf_step {τ : Ty} {eq : τ.den → τ.den → Bool} {xs ws : List τ.den} {k q j : Nat} (hk : 1 ≤ k) (hj : 1 ≤ j) (hkq : k ≤ q) (hq : q ≤ k + j - 1) (hl : ws.length = xs.length) (h : k + j < xs.length) (ht : ws.take q = compactBy eq (xs.take (k + j))) (hd : ws.drop (k + j - 1) = xs.drop (k + j - 1)) :
    (eq (ws[k + j]'(by omega)) (ws[k + j - 1]'(by omega)) = true → ws.take q = compactBy eq (xs.take (k + (j + 1))) ∧ ws.drop (k + (j + 1) - 1) = xs.drop (k + (j + 1) - 1)) ∧
    (eq (ws[k + j]'(by omega)) (ws[k + j - 1]'(by omega)) = false → (ws.set q (ws[k + j]'(by omega))).take (q + 1) = compactBy eq (xs.take (k + (j + 1))) ∧ (ws.set q (ws[k + j]'(by omega))).drop (k + (j + 1) - 1) = xs.drop (k + (j + 1) - 1)) := by
  have e1 := drop_get hd (i := k + j) (by omega) (by omega) h
  have e2 := drop_get hd (i := k + j - 1) (by omega) (by omega) (by omega)
  have e3 := compactBy_step eq (l := xs) (i := k + j) (by omega) h
  have e4 : ws.drop (k + j) = xs.drop (k + j) := by
    have := congrArg (List.drop 1) hd
    simpa [List.drop_drop, show k + j - 1 + 1 = k + j by omega] using this
  rw [show k + (j + 1) - 1 = k + j by omega, show k + (j + 1) = k + j + 1 by omega]
  refine ⟨fun h1 => ⟨?_, e4⟩, fun h1 => ⟨?_, ?_⟩⟩
  · rw [e1, e2] at h1
    rw [e3, if_pos h1, List.append_nil]; exact ht
  · have h1' := h1
    rw [e1, e2] at h1'
    rw [e3, if_neg (by rw [h1']; simp), ← ht, List.take_succ_eq_append_getElem (by simp; omega), List.getElem_set_self, List.take_set_of_le (Nat.le_refl _), e1]
  · rw [List.drop_set_of_lt (by omega), e4]
theorem clr_all (τ : Ty) (ws : List τ.den) (q n : Nat) (h : q + n = ws.length) : clr τ ws q n = ws.take q ++ List.replicate n τ.dflt := by
  simp [clr, h]

set_option maxRecDepth 8000 in
set_option maxHeartbeats 4000000 in
theorem eqT_ctr (a b : Term) : Ctr Tryz.prog 171 [.d .term (a), .d .term (b), .ptr 0 0] [.cells [.fn 87 []]] (.d .bool (eqOf cmpG a b)) [.cells [.fn 87 []]] := by
  refine ctr_full E Tryz.func171 rfl Tryz.ntmps171 Tryz.results171 (Nat.le_of_ble_eq_true rfl) 1 rfl rfl (by simp) (by simp) rfl ?_
  have k1 := cmpG_ctr a b
  try simp at k1
  repeat refine ok_seq ?_
  refine ok_reg E [0, 1, 2] [] (by simp [-Option.some.injEq, -Prod.mk.injEq]; rfl) (by first | trivial | omega | simp | (simp; omega)) ?_
  repeat refine ok_seq ?_
  refine ok_reg E [5] [.pure (.d .i (cmpG a b))] (by simp [-Option.some.injEq, -Prod.mk.injEq]; rfl) (by simp [k1]) ?_
  refine ok_ret ⟨.inr rfl, ?_⟩
  -- ret1
  simp [eqOf]

set_option maxRecDepth 8000 in
set_option maxHeartbeats 4000000 in
theorem cfT_ctr (xs : List Term) (hb : xs.length ≤ big) : Ctr Tryz.prog 170 [.mrow 0, .fn 171 [(1, 0)]] [.mrow 36 .term xs, .cells [.fn 87 []]] (.msl 0 1 0 (compactBy (eqOf cmpG) xs).length) [.mrow 36 .term (cfOut .term (eqOf cmpG) xs), .cells [.fn 87 []]] := by
  refine ctr_full E Tryz.func170 rfl Tryz.ntmps170 Tryz.results170 (Nat.le_of_ble_eq_true rfl) 2 rfl rfl (by simp) (by simp) rfl ?_
  simp only [big] at hb
  repeat refine ok_seq ?_
  refine ok_reg E [0, 1] [] (by simp [-Option.some.injEq, -Prod.mk.injEq]; rfl) (by first | trivial | omega | simp | (simp; omega)) ?_
  repeat refine ok_seq ?_
  refine ok_reg E [0, 1, 10] [] (by simp [-Option.some.injEq, -Prod.mk.injEq]; rfl) (by first | trivial | omega | simp | (simp; omega)) ?_
  repeat refine ok_seq ?_
  refine ok_if rfl (fun c1 => ?_) (fun c1 => ?_)
  · try simp at c1
    all_goals
      repeat refine ok_seq ?_
      refine ok_reg E [4] [] (by simp [-Option.some.injEq, -Prod.mk.injEq]; rfl) (by first | trivial | omega | simp | (simp; omega)) ?_
      refine ok_ent (ρ1 := [(4, .msl 0 1 0 xs.length)]) (H1 := [.mrow 36 .term xs, .cells [.fn 87 []]]) ⟨⟨⟨_, rfl, conv_msl rfl rfl rfl⟩, by simp [scop], trivial⟩, by simp [EntH, EntB, Box.scop]⟩ ?_
      refine ok_ret ⟨.inr rfl, ?_⟩
      -- ret1
      have e1 := compactBy_short (eqOf cmpG) (xs := xs) (by omega)
      have e2 := cfOut_same (τ := .term) e1
      simp [e1, e2]
  · try simp at c1
    all_goals
      refine ok_skip ?_
      repeat refine ok_seq ?_
      refine ok_reg E [0, 1, 5] [] (by simp [-Option.some.injEq, -Prod.mk.injEq]; rfl) (by first | trivial | omega | simp | (simp; omega)) ?_
      repeat refine ok_seq ?_
      refine ok_block ?_
      repeat refine ok_seq ?_
      refine ok_loop (σ := Nat) (fun k => [(0, .mrow 0), (1, .fn 171 [(1, 0)]), (5, .d .i (k : Int))]) (fun k => [.mrow 36 .term xs, .cells [.fn 87 []]]) (fun k => 1 ≤ k ∧ k ≤ xs.length ∧ compactBy (eqOf cmpG) (xs.take k) = xs.take k) (fun k => xs.length - k) 1 ⟨Nat.le_refl _, by omega, compactBy_short _ (by simp; omega)⟩ ?_ ?_
      · constructor <;> simp [EntF, EntH, EntB, Conv, scop]
      rintro k ⟨hk1, hk2, hk3⟩
      repeat refine ok_seq ?_
      refine ok_reg E [0, 1, 5, 15] [] (by simp [-Option.some.injEq, -Prod.mk.injEq]; rfl) (by first | trivial | omega | simp | (simp; omega)) ?_
      repeat refine ok_seq ?_
      refine ok_if rfl (fun c2 => ?_) (fun c2 => ?_)
      · try simp at c2
        all_goals
          have w0 : IntKind.i64.wrap ((k : Int) - 1) = ((k - 1 : Nat) : Int) := by rw [wrap_i64 (by omega) (by omega)]; omega
          refine ok_skip ?_
          repeat refine ok_seq ?_
          refine ok_block ?_
          repeat refine ok_seq ?_
          refine ok_dr E rfl [0, 1, 5, 28] 11 [.full [1] [.d .term (gt xs (k : Nat)), .d .term (gt xs (k - 1 : Nat)), .ptr 0 0] [.cells [.fn 87 []]] (.d .bool (eqOf cmpG (gt xs (k : Nat)) (gt xs (k - 1 : Nat)))) [.cells [.fn 87 []]]] (by decide) (by simp [nodupF]) (by simp [w0, -Option.some.injEq, -Prod.mk.injEq]; rfl) (by (have k1 := eqT_ctr (gt xs (k : Nat)) (gt xs (k - 1 : Nat)); (try simp at k1); simp [k1, w0]; (try (repeat' apply And.intro)) <;> first | omega | exact Takes.of (by decide) (by simp))) ?_
          repeat refine ok_seq ?_
          refine ok_if rfl (fun c3 => ?_) (fun c3 => ?_)
          · try simp at c3
            all_goals
              repeat refine ok_seq ?_
              refine ok_reg E [0, 1, 5, 6] [] (by simp [-Option.some.injEq, -Prod.mk.injEq]; rfl) (by first | trivial | omega | simp | (simp; omega)) ?_
              repeat refine ok_seq ?_
              refine ok_reg E [0, 1, 5, 6, 7] [] (by simp [-Option.some.injEq, -Prod.mk.injEq]; rfl) (by first | trivial | omega | simp | (simp; omega)) ?_
              repeat refine ok_seq ?_
              refine ok_block ?_
              repeat refine ok_seq ?_
              have hk4 : k - 1 < xs.length := by omega
              have hk5 : 1 ≤ xs.length - k := by omega
              have hk6 : k ≤ k + 1 - 1 := by omega
              have hk0 : 0 < k := by omega
              have c3b : eqOf cmpG xs[k] xs[k - 1] = true := by rw [← gt_lt c2, ← gt_lt hk4]; exact c3
              have e0 : xs.take k = compactBy (eqOf cmpG) (xs.take (k + 1)) := by rw [compactBy_step _ hk0 c2, if_pos c3b, List.append_nil]; exact hk3.symm
              refine ok_loop (σ := (Nat × Nat × List Term)) (fun s => [(0, .mrow 0), (1, .fn 171 [(1, 0)]), (5, .d .i (s.1 : Int)), (6, .msl 0 1 k (xs.length - k)), (7, .d .i (s.2.1 : Int))]) (fun s => [.mrow 36 .term s.2.2, .cells [.fn 87 []]]) (fun s => 1 ≤ s.2.1 ∧ s.2.1 ≤ xs.length - k ∧ k ≤ s.1 ∧ s.1 ≤ k + s.2.1 - 1 ∧ s.2.2.length = xs.length ∧ s.2.2.take s.1 = compactBy (eqOf cmpG) (xs.take (k + s.2.1)) ∧ s.2.2.drop (k + s.2.1 - 1) = xs.drop (k + s.2.1 - 1)) (fun s => xs.length - k - s.2.1) (k, 1, xs) ⟨Nat.le_refl _, hk5, Nat.le_refl _, hk6, rfl, e0, rfl⟩ ?_ ?_
              · constructor <;> simp [EntF, EntH, EntB, Conv, ConvL, scop, scopL]
              rintro ⟨q, j, ws⟩ ⟨hj1, hj2, hq1, hq2, hl, ht, hd⟩
              simp only at hj1 hj2 hq1 hq2 hl ht hd ⊢
              have w1 : IntKind.i64.wrap ((j : Int) - 1) = ((j - 1 : Nat) : Int) := by rw [wrap_i64 (by omega) (by omega)]; omega
              have w2 : k + (j - 1) = k + j - 1 := by omega
              repeat refine ok_seq ?_
              refine ok_reg E [0, 1, 5, 6, 7, 35] [] (by simp [-Option.some.injEq, -Prod.mk.injEq]; rfl) (by first | trivial | omega | simp | (simp; omega)) ?_
              repeat refine ok_seq ?_
              refine ok_if rfl (fun c4 => ?_) (fun c4 => ?_)
              · try simp at c4
                all_goals
                  refine ok_skip ?_
                  repeat refine ok_seq ?_
                  refine ok_block ?_
                  repeat refine ok_seq ?_
                  refine ok_dr E rfl [0, 1, 5, 6, 7, 49] 12 [.full [1] [.d .term (gt ws ((k : Int) + j)), .d .term (gt ws (k + j - 1 : Nat)), .ptr 0 0] [.cells [.fn 87 []]] (.d .bool (eqOf cmpG (gt ws ((k : Int) + j)) (gt ws (k + j - 1 : Nat)))) [.cells [.fn 87 []]]] (by decide) (by simp [nodupF]) (by simp [w1, w2, -Option.some.injEq, -Prod.mk.injEq]; rfl) (by (have k1 := eqT_ctr (gt ws ((k : Int) + j)) (gt ws (k + j - 1 : Nat)); (try simp at k1); simp [k1, w1, w2]; (try (repeat' apply And.intro)) <;> first | omega | exact Takes.of (by decide) (by simp))) ?_
                  repeat refine ok_seq ?_
                  refine ok_if rfl (fun c5 => ?_) (fun c5 => ?_)
                  · try simp at c5
                    all_goals
                      repeat refine ok_seq ?_
                      refine ok_reg E [0, 1, 5, 6, 7] [] (by simp [-Option.some.injEq, -Prod.mk.injEq]; rfl) (by first | trivial | omega | simp | (simp; omega)) ?_
                      repeat refine ok_seq ?_
                      refine ok_reg E [0, 1, 5, 6, 7] [] (by simp [-Option.some.injEq, -Prod.mk.injEq]; rfl) (by first | trivial | omega | simp | (simp; omega)) ?_
                      repeat refine ok_seq ?_
                      refine ok_reg E [0, 1, 5, 6, 7] [] (by simp [-Option.some.injEq, -Prod.mk.injEq]; rfl) (by first | trivial | omega | simp | (simp; omega)) ?_
                      -- end21
                      have hlt : k + j < xs.length := by omega
                      have hl1 : k + j < ws.length := by omega
                      have hl2 : k + j - 1 < ws.length := by omega
                      obtain ⟨s1, s2⟩ := cf_step (τ := .term) (xs := xs) (ws := ws) (eq := (eqOf cmpG)) hk1 hj1 hq1 hq2 hl hlt ht hd
                      have c5b := c5
                      rw [show ((k : Int) + j) = ((k + j : Nat) : Int) by omega, gt_lt hl1, gt_lt hl2] at c5b
                      obtain ⟨t1, t2⟩ := s2 c5b
                      have e9 : gt ws ((k : Int) + j) = ws[k + j] := by rw [show ((k : Int) + j) = ((k + j : Nat) : Int) by omega, gt_lt hl1]
                      exact ⟨(q + 1, j + 1, ws.set q ws[k + j]), ⟨by simp only; omega, by simp only; omega, by simp only; omega, by simp only; omega, by simp only; rw [List.length_set]; exact hl, t1, t2⟩, by simp only; omega, by constructor <;> simp (disch := omega) [EntF, EntH, EntB, Conv, ConvL, scop, scopL, wrap_i64, e9]⟩
                  · try simp at c5
                    all_goals
                      refine ok_skip ?_
                      repeat refine ok_seq ?_
                      refine ok_reg E [0, 1, 5, 6, 7] [] (by simp [-Option.some.injEq, -Prod.mk.injEq]; rfl) (by first | trivial | omega | simp | (simp; omega)) ?_
                      -- end22
                      have hlt : k + j < xs.length := by omega
                      have hl1 : k + j < ws.length := by omega
                      have hl2 : k + j - 1 < ws.length := by omega
                      obtain ⟨s1, s2⟩ := cf_step (τ := .term) (xs := xs) (ws := ws) (eq := (eqOf cmpG)) hk1 hj1 hq1 hq2 hl hlt ht hd
                      have c5b := c5
                      rw [show ((k : Int) + j) = ((k + j : Nat) : Int) by omega, gt_lt hl1, gt_lt hl2] at c5b
                      obtain ⟨t1, t2⟩ := s1 c5b
                      exact ⟨(q, j + 1, ws), ⟨by simp only; omega, by simp only; omega, by simp only; omega, by simp only; omega, hl, t1, t2⟩, by simp only; omega, by constructor <;> simp (disch := omega) [EntF, EntH, EntB, Conv, ConvL, scop, scopL, wrap_i64]⟩
              · try simp at c4
                all_goals
                  refine ok_exit ?_
                  repeat refine ok_seq ?_
                  refine ok_reg E [0, 5] [] (by simp [-Option.some.injEq, -Prod.mk.injEq]; rfl) (by omega) ?_
                  repeat refine ok_seq ?_
                  refine ok_reg E [4] [] (by simp [-Option.some.injEq, -Prod.mk.injEq]; rfl) (by (have e7 : (clr .term ws q (ws.length - q)).length = ws.length := (by simp [clr]; omega)); (first | omega | (simp [e7]; omega) | (simp only [e7]; omega))) ?_
                  refine ok_ret ⟨.inr rfl, ?_⟩
                  -- ret2
                  have hjk : k + j = xs.length := by omega
                  rw [hjk, List.take_length] at ht
                  have hql : (compactBy (eqOf cmpG) xs).length = q := by rw [← ht, List.length_take]; omega
                  have e8 : clr .term ws q (ws.length - q) = cfOut .term (eqOf cmpG) xs := by rw [clr_all _ _ _ _ (by omega), cfOut, ← ht, List.length_take, hl]; congr 2; omega
                  simp [e8, hql]
          · try simp at c3
            all_goals
              refine ok_skip ?_
              repeat refine ok_seq ?_
              refine ok_reg E [0, 1, 5] [] (by simp [-Option.some.injEq, -Prod.mk.injEq]; rfl) (by first | trivial | omega | simp | (simp; omega)) ?_
              -- end01
              have hk4 : k - 1 < xs.length := by omega
              have hk0 : 0 < k := by omega
              have c3b : eqOf cmpG xs[k] xs[k - 1] = false := by rw [← gt_lt c2, ← gt_lt hk4]; exact c3
              have e0 : compactBy (eqOf cmpG) (xs.take (k + 1)) = xs.take (k + 1) := by rw [compactBy_step _ hk0 c2, if_neg (by rw [c3b]; simp), hk3, List.take_succ_eq_append_getElem c2]
              exact ⟨k + 1, ⟨by omega, by omega, e0⟩, by omega, by constructor <;> simp (disch := omega) [EntF, EntH, EntB, Conv, ConvL, scop, scopL, wrap_i64]⟩
      · try simp at c2
        all_goals
          skip
          refine ok_exit ?_
          repeat refine ok_seq ?_
          refine ok_reg E [4] [] (by simp [-Option.some.injEq, -Prod.mk.injEq]; rfl) (by first | trivial | omega | simp | (simp; omega)) ?_
          refine ok_ent (ρ1 := [(4, .msl 0 1 0 xs.length)]) (H1 := [.mrow 36 .term xs, .cells [.fn 87 []]]) ⟨⟨⟨_, rfl, conv_msl rfl rfl rfl⟩, by simp [scop], trivial⟩, by simp [EntH, EntB, Box.scop]⟩ ?_
          refine ok_ret ⟨.inr rfl, ?_⟩
          -- ret3
          have hkl : k = xs.length := by omega
          rw [hkl, List.take_length] at hk3
          have e2 := cfOut_same (τ := .term) hk3
          simp [hk3, e2]

set_option maxRecDepth 8000 in
set_option maxHeartbeats 4000000 in
theorem cfT0_ctr  : Ctr Tryz.prog 170 [.d (.sl .term) [], .fn 171 [(0, 0)]] [.cells [.fn 87 []]] (.d (.sl .term) []) [.cells [.fn 87 []]] := by
  refine ctr_full E Tryz.func170 rfl Tryz.ntmps170 Tryz.results170 (Nat.le_of_ble_eq_true rfl) 1 rfl rfl (by simp) (by simp) rfl ?_
  repeat refine ok_seq ?_
  refine ok_reg E [0, 1] [] (by simp [-Option.some.injEq, -Prod.mk.injEq]; rfl) (by first | trivial | omega | simp | (simp; omega)) ?_
  repeat refine ok_seq ?_
  refine ok_reg E [0, 1, 10] [] (by simp [-Option.some.injEq, -Prod.mk.injEq]; rfl) (by first | trivial | omega | simp | (simp; omega)) ?_
  repeat refine ok_seq ?_
  refine ok_if rfl (fun c1 => ?_) (fun c1 => ?_)
  · try simp at c1
    all_goals
      repeat refine ok_seq ?_
      refine ok_reg E [4] [] (by simp [-Option.some.injEq, -Prod.mk.injEq]; rfl) (by first | trivial | omega | simp | (simp; omega)) ?_
      refine ok_ret ⟨.inr rfl, ?_⟩
      -- ret1
      simp
  · exfalso; simp at c1

set_option maxRecDepth 8000 in
set_option maxHeartbeats 4000000 in
theorem setT0_ctr  : Ctr Tryz.prog 108 [.d (.sl .term) [], .fn 87 []] [] (.d (.sl .term) []) [] := by
  refine ctr_pure E Tryz.func108 rfl Tryz.ntmps108 Tryz.results108 (Nat.le_of_ble_eq_true rfl) rfl ?_
  repeat refine ok_seq ?_
  refine ok_reg E [0, 3] [] (by simp [-Option.some.injEq, -Prod.mk.injEq]; rfl) (by first | trivial | omega | simp | (simp; omega)) ?_
  repeat refine ok_seq ?_
  refine ok_reg E [3, 5] [.pure (.d (.sl .term) [])] (by simp [-Option.some.injEq, -Prod.mk.injEq]; rfl) (by (have k1 := cloneT0_ctr; (try simp at k1); simp [k1])) ?_
  repeat refine ok_seq ?_
  refine ok_reg E [3, 5] [.pure (.tup [])] (by simp [-Option.some.injEq, -Prod.mk.injEq]; rfl) (by (have k1 := sortT0_ctr; (try simp at k1); simp [k1])) ?_
  repeat refine ok_seq ?_
  refine ok_reg E [4] [.full [0] [.d (.sl .term) [], .fn 171 [(0, 0)]] [.cells [.fn 87 []]] (.d (.sl .term) []) [.cells [.fn 87 []]]] (by simp [-Option.some.injEq, -Prod.mk.injEq]; rfl) (by (have k1 := cfT0_ctr; (try simp at k1); simp [k1]; exact Takes.of (by decide) (by simp))) ?_
  refine ok_ret ⟨.inr rfl, ?_⟩
  -- ret1
  simp [resAll, resL, resA, frozE]

set_option maxRecDepth 8000 in
set_option maxHeartbeats 4000000 in
theorem setT1_ctr (l : List Term) (hne : l ≠ []) (hb : l.length ≤ big) : Ctr Tryz.prog 108 [.d (.sl .term) l, .fn 87 []] [] (.d (.sl .term) (setBy cmpG l)) [] := by
  refine ctr_pure E Tryz.func108 rfl Tryz.ntmps108 Tryz.results108 (Nat.le_of_ble_eq_true rfl) rfl ?_
  have hs : (srt cmpG l) ≠ [] := by intro h; have := srt_len (cmp := cmpG) l; rw [h] at this; exact hne (List.length_eq_zero_iff.1 this.symm)
  have hsl : (srt cmpG l).length ≤ big := by rw [srt_len]; exact hb
  repeat refine ok_seq ?_
  refine ok_reg E [0, 3] [] (by simp [-Option.some.injEq, -Prod.mk.injEq]; rfl) (by first | trivial | omega | simp | (simp; omega)) ?_
  repeat refine ok_seq ?_
  refine ok_reg E [3, 5] [.own (.mrow 36 .term l)] (by simp [-Option.some.injEq, -Prod.mk.injEq]; rfl) (by (have k1 := cloneT_own hne hb; (try simp at k1); simp [k1])) ?_
  repeat refine ok_seq ?_
  refine ok_reg E [3, 5] [.full [1] [.mrow 0, .fn 87 []] [.mrow 36 .term l] (.tup []) [.mrow 36 .term (srt cmpG l)]] (by simp [-Option.some.injEq, -Prod.mk.injEq]; rfl) (by (have k1 := sortT_ctr hne hb; (try simp at k1); simp [k1]; exact Takes.of (by decide) (by simp))) ?_
  repeat refine ok_seq ?_
  refine ok_reg E [4] [.full [1, 0] [.mrow 0, .fn 171 [(1, 0)]] [.mrow 36 .term (srt cmpG l), .cells [.fn 87 []]] (.msl 0 1 0 (compactBy (eqOf cmpG) (srt cmpG l)).length) [.mrow 36 .term (cfOut .term (eqOf cmpG) (srt cmpG l)), .cells [.fn 87 []]]] (by simp [-Option.some.injEq, -Prod.mk.injEq]; rfl) (by (have k1 := cfT_ctr (srt cmpG l) hsl; (try simp at k1); simp [k1]; exact Takes.of (by decide) (by simp))) ?_
  refine ok_ret ⟨.inr rfl, ?_⟩
  -- ret1
  have e1 := compact_set (l := l) cmpG_ord (fun _ _ => trivial)
  have e2 : (compactBy (eqOf cmpG) (srt cmpG l)).length ≤ (cfOut .term (eqOf cmpG) (srt cmpG l)).length := by simp [cfOut]
  have e3 : (cfOut .term (eqOf cmpG) (srt cmpG l)).take (compactBy (eqOf cmpG) (srt cmpG l)).length = compactBy (eqOf cmpG) (srt cmpG l) := by simp [cfOut]
  rw [e1] at e2 e3
  simp [Ty.size, e1, e2, e3]

theorem setT_ctr (l : List Term) (hb : l.length ≤ big) : Ctr Tryz.prog 108 [.d (.sl .term) l, .fn 87 []] [] (.d (.sl .term) (setBy cmpG l)) [] := by
  by_cases h : l = []
  · subst h; exact setT0_ctr
  · exact setT1_ctr l h hb

set_option maxRecDepth 8000 in
set_option maxHeartbeats 4000000 in
theorem eqI_ctr (a b : Int) : Ctr Tryz.prog 174 [.d .i (a), .d .i (b), .ptr 0 0] [.cells [.fn 94 []]] (.d .bool (eqOf cmpI a b)) [.cells [.fn 94 []]] := by
  refine ctr_full E Tryz.func174 rfl Tryz.ntmps174 Tryz.results174 (Nat.le_of_ble_eq_true rfl) 1 rfl rfl (by simp) (by simp) rfl ?_
  have k1 := cmpI_ctr a b
  try simp at k1
  repeat refine ok_seq ?_
  refine ok_reg E [0, 1, 2] [] (by simp [-Option.some.injEq, -Prod.mk.injEq]; rfl) (by first | trivial | omega | simp | (simp; omega)) ?_
  repeat refine ok_seq ?_
  refine ok_reg E [5] [.pure (.d .i (cmpI a b))] (by simp [-Option.some.injEq, -Prod.mk.injEq]; rfl) (by simp [k1]) ?_
  refine ok_ret ⟨.inr rfl, ?_⟩
  -- ret1
  simp [eqOf]

set_option maxRecDepth 8000 in
set_option maxHeartbeats 4000000 in
theorem cfI_ctr (xs : List Int) (hb : xs.length ≤ big) : Ctr Tryz.prog 173 [.mrow 0, .fn 174 [(1, 0)]] [.mrow 3 .i xs, .cells [.fn 94 []]] (.msl 0 1 0 (compactBy (eqOf cmpI) xs).length) [.mrow 3 .i (cfOut .i (eqOf cmpI) xs), .cells [.fn 94 []]] := by
  refine ctr_full E Tryz.func173 rfl Tryz.ntmps173 Tryz.results173 (Nat.le_of_ble_eq_true rfl) 2 rfl rfl (by simp) (by simp) rfl ?_
  simp only [big] at hb
  repeat refine ok_seq ?_
  refine ok_reg E [0, 1] [] (by simp [-Option.some.injEq, -Prod.mk.injEq]; rfl) (by first | trivial | omega | simp | (simp; omega)) ?_
  repeat refine ok_seq ?_
  refine ok_reg E [0, 1, 10] [] (by simp [-Option.some.injEq, -Prod.mk.injEq]; rfl) (by first | trivial | omega | simp | (simp; omega)) ?_
  repeat refine ok_seq ?_
  refine ok_if rfl (fun c1 => ?_) (fun c1 => ?_)
  · try simp at c1
    all_goals
      repeat refine ok_seq ?_
      refine ok_reg E [4] [] (by simp [-Option.some.injEq, -Prod.mk.injEq]; rfl) (by first | trivial | omega | simp | (simp; omega)) ?_
      refine ok_ent (ρ1 := [(4, .msl 0 1 0 xs.length)]) (H1 := [.mrow 3 .i xs, .cells [.fn 94 []]]) ⟨⟨⟨_, rfl, conv_msl rfl rfl rfl⟩, by simp [scop], trivial⟩, by simp [EntH, EntB, Box.scop]⟩ ?_
      refine ok_ret ⟨.inr rfl, ?_⟩
      -- ret1
      have e1 := compactBy_short (eqOf cmpI) (xs := xs) (by omega)
      have e2 := cfOut_same (τ := .i) e1
      simp [e1, e2]
  · try simp at c1
    all_goals
      refine ok_skip ?_
      repeat refine ok_seq ?_
      refine ok_reg E [0, 1, 5] [] (by simp [-Option.some.injEq, -Prod.mk.injEq]; rfl) (by first | trivial | omega | simp | (simp; omega)) ?_
      repeat refine ok_seq ?_
      refine ok_block ?_
      repeat refine ok_seq ?_
      refine ok_loop (σ := Nat) (fun k => [(0, .mrow 0), (1, .fn 174 [(1, 0)]), (5, .d .i (k : Int))]) (fun k => [.mrow 3 .i xs, .cells [.fn 94 []]]) (fun k => 1 ≤ k ∧ k ≤ xs.length ∧ compactBy (eqOf cmpI) (xs.take k) = xs.take k) (fun k => xs.length - k) 1 ⟨Nat.le_refl _, by omega, compactBy_short _ (by simp; omega)⟩ ?_ ?_
      · constructor <;> simp [EntF, EntH, EntB, Conv, scop]
      rintro k ⟨hk1, hk2, hk3⟩
      repeat refine ok_seq ?_
      refine ok_reg E [0, 1, 5, 15] [] (by simp [-Option.some.injEq, -Prod.mk.injEq]; rfl) (by first | trivial | omega | simp | (simp; omega)) ?_
      repeat refine ok_seq ?_
      refine ok_if rfl (fun c2 => ?_) (fun c2 => ?_)
      · try simp at c2
        all_goals
          have w0 : IntKind.i64.wrap ((k : Int) - 1) = ((k - 1 : Nat) : Int) := by rw [wrap_i64 (by omega) (by omega)]; omega
          refine ok_skip ?_
          repeat refine ok_seq ?_
          refine ok_block ?_
          repeat refine ok_seq ?_
          refine ok_dr E rfl [0, 1, 5, 28] 11 [.full [1] [.d .i (gi xs (k : Nat)), .d .i (gi xs (k - 1 : Nat)), .ptr 0 0] [.cells [.fn 94 []]] (.d .bool (eqOf cmpI (gi xs (k : Nat)) (gi xs (k - 1 : Nat)))) [.cells [.fn 94 []]]] (by decide) (by simp [nodupF]) (by simp [w0, -Option.some.injEq, -Prod.mk.injEq]; rfl) (by (have k1 := eqI_ctr (gi xs (k : Nat)) (gi xs (k - 1 : Nat)); (try simp at k1); simp [k1, w0]; (try (repeat' apply And.intro)) <;> first | omega | exact Takes.of (by decide) (by simp))) ?_
          repeat refine ok_seq ?_
          refine ok_if rfl (fun c3 => ?_) (fun c3 => ?_)
          · try simp at c3
            all_goals
              repeat refine ok_seq ?_
              refine ok_reg E [0, 1, 5, 6] [] (by simp [-Option.some.injEq, -Prod.mk.injEq]; rfl) (by first | trivial | omega | simp | (simp; omega)) ?_
              repeat refine ok_seq ?_
              refine ok_reg E [0, 1, 5, 6, 7] [] (by simp [-Option.some.injEq, -Prod.mk.injEq]; rfl) (by first | trivial | omega | simp | (simp; omega)) ?_
              repeat refine ok_seq ?_
              refine ok_block ?_
              repeat refine ok_seq ?_
              have hk4 : k - 1 < xs.length := by omega
              have hk5 : 1 ≤ xs.length - k := by omega
              have hk6 : k ≤ k + 1 - 1 := by omega
              have hk0 : 0 < k := by omega
              have c3b : eqOf cmpI xs[k] xs[k - 1] = true := by rw [← gi_lt c2, ← gi_lt hk4]; exact c3
              have e0 : xs.take k = compactBy (eqOf cmpI) (xs.take (k + 1)) := by rw [compactBy_step _ hk0 c2, if_pos c3b, List.append_nil]; exact hk3.symm
              refine ok_loop (σ := (Nat × Nat × List Int)) (fun s => [(0, .mrow 0), (1, .fn 174 [(1, 0)]), (5, .d .i (s.1 : Int)), (6, .msl 0 1 k (xs.length - k)), (7, .d .i (s.2.1 : Int))]) (fun s => [.mrow 3 .i s.2.2, .cells [.fn 94 []]]) (fun s => 1 ≤ s.2.1 ∧ s.2.1 ≤ xs.length - k ∧ k ≤ s.1 ∧ s.1 ≤ k + s.2.1 - 1 ∧ s.2.2.length = xs.length ∧ s.2.2.take s.1 = compactBy (eqOf cmpI) (xs.take (k + s.2.1)) ∧ s.2.2.drop (k + s.2.1 - 1) = xs.drop (k + s.2.1 - 1)) (fun s => xs.length - k - s.2.1) (k, 1, xs) ⟨Nat.le_refl _, hk5, Nat.le_refl _, hk6, rfl, e0, rfl⟩ ?_ ?_
              · constructor <;> simp [EntF, EntH, EntB, Conv, ConvL, scop, scopL]
              rintro ⟨q, j, ws⟩ ⟨hj1, hj2, hq1, hq2, hl, ht, hd⟩
              simp only at hj1 hj2 hq1 hq2 hl ht hd ⊢
              have w1 : IntKind.i64.wrap ((j : Int) - 1) = ((j - 1 : Nat) : Int) := by rw [wrap_i64 (by omega) (by omega)]; omega
              have w2 : k + (j - 1) = k + j - 1 := by omega
              repeat refine ok_seq ?_
              refine ok_reg E [0, 1, 5, 6, 7, 35] [] (by simp [-Option.some.injEq, -Prod.mk.injEq]; rfl) (by first | trivial | omega | simp | (simp; omega)) ?_
              repeat refine ok_seq ?_
              refine ok_if rfl (fun c4 => ?_) (fun c4 => ?_)
              · try simp at c4
                all_goals
                  refine ok_skip ?_
                  repeat refine ok_seq ?_
                  refine ok_block ?_
                  repeat refine ok_seq ?_
                  refine ok_dr E rfl [0, 1, 5, 6, 7, 49] 12 [.full [1] [.d .i (gi ws ((k : Int) + j)), .d .i (gi ws (k + j - 1 : Nat)), .ptr 0 0] [.cells [.fn 94 []]] (.d .bool (eqOf cmpI (gi ws ((k : Int) + j)) (gi ws (k + j - 1 : Nat)))) [.cells [.fn 94 []]]] (by decide) (by simp [nodupF]) (by simp [w1, w2, -Option.some.injEq, -Prod.mk.injEq]; rfl) (by (have k1 := eqI_ctr (gi ws ((k : Int) + j)) (gi ws (k + j - 1 : Nat)); (try simp at k1); simp [k1, w1, w2]; (try (repeat' apply And.intro)) <;> first | omega | exact Takes.of (by decide) (by simp))) ?_
                  repeat refine ok_seq ?_
                  refine ok_if rfl (fun c5 => ?_) (fun c5 => ?_)
                  · try simp at c5
                    all_goals
                      repeat refine ok_seq ?_
                      refine ok_reg E [0, 1, 5, 6, 7] [] (by simp [-Option.some.injEq, -Prod.mk.injEq]; rfl) (by first | trivial | omega | simp | (simp; omega)) ?_
                      repeat refine ok_seq ?_
                      refine ok_reg E [0, 1, 5, 6, 7] [] (by simp [-Option.some.injEq, -Prod.mk.injEq]; rfl) (by first | trivial | omega | simp | (simp; omega)) ?_
                      repeat refine ok_seq ?_
                      refine ok_reg E [0, 1, 5, 6, 7] [] (by simp [-Option.some.injEq, -Prod.mk.injEq]; rfl) (by first | trivial | omega | simp | (simp; omega)) ?_
                      -- end21
                      have hlt : k + j < xs.length := by omega
                      have hl1 : k + j < ws.length := by omega
                      have hl2 : k + j - 1 < ws.length := by omega
                      obtain ⟨s1, s2⟩ := cf_step (τ := .i) (xs := xs) (ws := ws) (eq := (eqOf cmpI)) hk1 hj1 hq1 hq2 hl hlt ht hd
                      have c5b := c5
                      rw [show ((k : Int) + j) = ((k + j : Nat) : Int) by omega, gi_lt hl1, gi_lt hl2] at c5b
                      obtain ⟨t1, t2⟩ := s2 c5b
                      have e9 : gi ws ((k : Int) + j) = ws[k + j] := by rw [show ((k : Int) + j) = ((k + j : Nat) : Int) by omega, gi_lt hl1]
                      exact ⟨(q + 1, j + 1, ws.set q ws[k + j]), ⟨by simp only; omega, by simp only; omega, by simp only; omega, by simp only; omega, by simp only; rw [List.length_set]; exact hl, t1, t2⟩, by simp only; omega, by constructor <;> simp (disch := omega) [EntF, EntH, EntB, Conv, ConvL, scop, scopL, wrap_i64, e9]⟩
                  · try simp at c5
                    all_goals
                      refine ok_skip ?_
                      repeat refine ok_seq ?_
                      refine ok_reg E [0, 1, 5, 6, 7] [] (by simp [-Option.some.injEq, -Prod.mk.injEq]; rfl) (by first | trivial | omega | simp | (simp; omega)) ?_
                      -- end22
                      have hlt : k + j < xs.length := by omega
                      have hl1 : k + j < ws.length := by omega
                      have hl2 : k + j - 1 < ws.length := by omega
                      obtain ⟨s1, s2⟩ := cf_step (τ := .i) (xs := xs) (ws := ws) (eq := (eqOf cmpI)) hk1 hj1 hq1 hq2 hl hlt ht hd
                      have c5b := c5
                      rw [show ((k : Int) + j) = ((k + j : Nat) : Int) by omega, gi_lt hl1, gi_lt hl2] at c5b
                      obtain ⟨t1, t2⟩ := s1 c5b
                      exact ⟨(q, j + 1, ws), ⟨by simp only; omega, by simp only; omega, by simp only; omega, by simp only; omega, hl, t1, t2⟩, by simp only; omega, by constructor <;> simp (disch := omega) [EntF, EntH, EntB, Conv, ConvL, scop, scopL, wrap_i64]⟩
              · try simp at c4
                all_goals
                  refine ok_exit ?_
                  repeat refine ok_seq ?_
                  refine ok_reg E [0, 5] [] (by simp [-Option.some.injEq, -Prod.mk.injEq]; rfl) (by omega) ?_
                  repeat refine ok_seq ?_
                  refine ok_reg E [4] [] (by simp [-Option.some.injEq, -Prod.mk.injEq]; rfl) (by (have e7 : (clr .i ws q (ws.length - q)).length = ws.length := (by simp [clr]; omega)); (first | omega | (simp [e7]; omega) | (simp only [e7]; omega))) ?_
                  refine ok_ret ⟨.inr rfl, ?_⟩
                  -- ret2
                  have hjk : k + j = xs.length := by omega
                  rw [hjk, List.take_length] at ht
                  have hql : (compactBy (eqOf cmpI) xs).length = q := by rw [← ht, List.length_take]; omega
                  have e8 : clr .i ws q (ws.length - q) = cfOut .i (eqOf cmpI) xs := by rw [clr_all _ _ _ _ (by omega), cfOut, ← ht, List.length_take, hl]; congr 2; omega
                  simp [e8, hql]
          · try simp at c3
            all_goals
              refine ok_skip ?_
              repeat refine ok_seq ?_
              refine ok_reg E [0, 1, 5] [] (by simp [-Option.some.injEq, -Prod.mk.injEq]; rfl) (by first | trivial | omega | simp | (simp; omega)) ?_
              -- end01
              have hk4 : k - 1 < xs.length := by omega
              have hk0 : 0 < k := by omega
              have c3b : eqOf cmpI xs[k] xs[k - 1] = false := by rw [← gi_lt c2, ← gi_lt hk4]; exact c3
              have e0 : compactBy (eqOf cmpI) (xs.take (k + 1)) = xs.take (k + 1) := by rw [compactBy_step _ hk0 c2, if_neg (by rw [c3b]; simp), hk3, List.take_succ_eq_append_getElem c2]
              exact ⟨k + 1, ⟨by omega, by omega, e0⟩, by omega, by constructor <;> simp (disch := omega) [EntF, EntH, EntB, Conv, ConvL, scop, scopL, wrap_i64]⟩
      · try simp at c2
        all_goals
          skip
          refine ok_exit ?_
          repeat refine ok_seq ?_
          refine ok_reg E [4] [] (by simp [-Option.some.injEq, -Prod.mk.injEq]; rfl) (by first | trivial | omega | simp | (simp; omega)) ?_
          refine ok_ent (ρ1 := [(4, .msl 0 1 0 xs.length)]) (H1 := [.mrow 3 .i xs, .cells [.fn 94 []]]) ⟨⟨⟨_, rfl, conv_msl rfl rfl rfl⟩, by simp [scop], trivial⟩, by simp [EntH, EntB, Box.scop]⟩ ?_
          refine ok_ret ⟨.inr rfl, ?_⟩
          -- ret3
          have hkl : k = xs.length := by omega
          rw [hkl, List.take_length] at hk3
          have e2 := cfOut_same (τ := .i) hk3
          simp [hk3, e2]

set_option maxRecDepth 8000 in
set_option maxHeartbeats 4000000 in
theorem cfI0_ctr  : Ctr Tryz.prog 173 [.d (.sl .i) [], .fn 174 [(0, 0)]] [.cells [.fn 94 []]] (.d (.sl .i) []) [.cells [.fn 94 []]] := by
  refine ctr_full E Tryz.func173 rfl Tryz.ntmps173 Tryz.results173 (Nat.le_of_ble_eq_true rfl) 1 rfl rfl (by simp) (by simp) rfl ?_
  repeat refine ok_seq ?_
  refine ok_reg E [0, 1] [] (by simp [-Option.some.injEq, -Prod.mk.injEq]; rfl) (by first | trivial | omega | simp | (simp; omega)) ?_
  repeat refine ok_seq ?_
  refine ok_reg E [0, 1, 10] [] (by simp [-Option.some.injEq, -Prod.mk.injEq]; rfl) (by first | trivial | omega | simp | (simp; omega)) ?_
  repeat refine ok_seq ?_
  refine ok_if rfl (fun c1 => ?_) (fun c1 => ?_)
  · try simp at c1
    all_goals
      repeat refine ok_seq ?_
      refine ok_reg E [4] [] (by simp [-Option.some.injEq, -Prod.mk.injEq]; rfl) (by first | trivial | omega | simp | (simp; omega)) ?_
      refine ok_ret ⟨.inr rfl, ?_⟩
      -- ret1
      simp
  · exfalso; simp at c1

set_option maxRecDepth 8000 in
set_option maxHeartbeats 4000000 in
theorem setI0_ctr  : Ctr Tryz.prog 110 [.d (.sl .i) [], .fn 94 []] [] (.d (.sl .i) []) [] := by
  refine ctr_pure E Tryz.func110 rfl Tryz.ntmps110 Tryz.results110 (Nat.le_of_ble_eq_true rfl) rfl ?_
  repeat refine ok_seq ?_
  refine ok_reg E [0, 3] [] (by simp [-Option.some.injEq, -Prod.mk.injEq]; rfl) (by first | trivial | omega | simp | (simp; omega)) ?_
  repeat refine ok_seq ?_
  refine ok_reg E [3, 5] [.pure (.d (.sl .i) [])] (by simp [-Option.some.injEq, -Prod.mk.injEq]; rfl) (by (have k1 := cloneI0_ctr; (try simp at k1); simp [k1])) ?_
  repeat refine ok_seq ?_
  refine ok_reg E [3, 5] [.pure (.tup [])] (by simp [-Option.some.injEq, -Prod.mk.injEq]; rfl) (by (have k1 := sortI0_ctr; (try simp at k1); simp [k1])) ?_
  repeat refine ok_seq ?_
  refine ok_reg E [4] [.full [0] [.d (.sl .i) [], .fn 174 [(0, 0)]] [.cells [.fn 94 []]] (.d (.sl .i) []) [.cells [.fn 94 []]]] (by simp [-Option.some.injEq, -Prod.mk.injEq]; rfl) (by (have k1 := cfI0_ctr; (try simp at k1); simp [k1]; exact Takes.of (by decide) (by simp))) ?_
  refine ok_ret ⟨.inr rfl, ?_⟩
  -- ret1
  simp [resAll, resL, resA, frozE]

set_option maxRecDepth 8000 in
set_option maxHeartbeats 4000000 in
theorem setI1_ctr (l : List Int) (hne : l ≠ []) (hb : l.length ≤ big) : Ctr Tryz.prog 110 [.d (.sl .i) l, .fn 94 []] [] (.d (.sl .i) (setBy cmpI l)) [] := by
  refine ctr_pure E Tryz.func110 rfl Tryz.ntmps110 Tryz.results110 (Nat.le_of_ble_eq_true rfl) rfl ?_
  have hs : (srt cmpI l) ≠ [] := by intro h; have := srt_len (cmp := cmpI) l; rw [h] at this; exact hne (List.length_eq_zero_iff.1 this.symm)
  have hsl : (srt cmpI l).length ≤ big := by rw [srt_len]; exact hb
  repeat refine ok_seq ?_
  refine ok_reg E [0, 3] [] (by simp [-Option.some.injEq, -Prod.mk.injEq]; rfl) (by first | trivial | omega | simp | (simp; omega)) ?_
  repeat refine ok_seq ?_
  refine ok_reg E [3, 5] [.own (.mrow 3 .i l)] (by simp [-Option.some.injEq, -Prod.mk.injEq]; rfl) (by (have k1 := cloneI_own hne hb; (try simp at k1); simp [k1])) ?_
  repeat refine ok_seq ?_
  refine ok_reg E [3, 5] [.full [1] [.mrow 0, .fn 94 []] [.mrow 3 .i l] (.tup []) [.mrow 3 .i (srt cmpI l)]] (by simp [-Option.some.injEq, -Prod.mk.injEq]; rfl) (by (have k1 := sortI_ctr hne hb; (try simp at k1); simp [k1]; exact Takes.of (by decide) (by simp))) ?_
  repeat refine ok_seq ?_
  refine ok_reg E [4] [.full [1, 0] [.mrow 0, .fn 174 [(1, 0)]] [.mrow 3 .i (srt cmpI l), .cells [.fn 94 []]] (.msl 0 1 0 (compactBy (eqOf cmpI) (srt cmpI l)).length) [.mrow 3 .i (cfOut .i (eqOf cmpI) (srt cmpI l)), .cells [.fn 94 []]]] (by simp [-Option.some.injEq, -Prod.mk.injEq]; rfl) (by (have k1 := cfI_ctr (srt cmpI l) hsl; (try simp at k1); simp [k1]; exact Takes.of (by decide) (by simp))) ?_
  refine ok_ret ⟨.inr rfl, ?_⟩
  -- ret1
  have e1 := compact_set (l := l) cmpI_ord (fun _ _ => trivial)
  have e2 : (compactBy (eqOf cmpI) (srt cmpI l)).length ≤ (cfOut .i (eqOf cmpI) (srt cmpI l)).length := by simp [cfOut]
  have e3 : (cfOut .i (eqOf cmpI) (srt cmpI l)).take (compactBy (eqOf cmpI) (srt cmpI l)).length = compactBy (eqOf cmpI) (srt cmpI l) := by simp [cfOut]
  rw [e1] at e2 e3
  simp [Ty.size, e1, e2, e3]

theorem setI_ctr (l : List Int) (hb : l.length ≤ big) : Ctr Tryz.prog 110 [.d (.sl .i) l, .fn 94 []] [] (.d (.sl .i) (setBy cmpI l)) [] := by
  by_cases h : l = []
  · subst h; exact setI0_ctr
  · exact setI1_ctr l h hb

set_option maxRecDepth 8000 in
set_option maxHeartbeats 4000000 in
theorem eqR_ctr (a b : Rule) : Ctr Tryz.prog 178 [avOf .rule (a), avOf .rule (b), .ptr 0 0] [.cells [.fn 89 []]] (.d .bool (eqOf gOrder a b)) [.cells [.fn 89 []]] := by
  refine ctr_full E Tryz.func178 rfl Tryz.ntmps178 Tryz.results178 (Nat.le_of_ble_eq_true rfl) 1 rfl rfl (by simp) (by simp) rfl ?_
  have k1 := gOrder_ctr a b
  try simp at k1
  repeat refine ok_seq ?_
  refine ok_reg E [2, 3, 4] [] (by simp [-Option.some.injEq, -Prod.mk.injEq]; rfl) (by first | trivial | omega | simp | (simp; omega)) ?_
  repeat refine ok_seq ?_
  refine ok_reg E [5] [.pure (.d .i (gOrder a b))] (by simp [-Option.some.injEq, -Prod.mk.injEq]; rfl) (by simp [k1]) ?_
  refine ok_ret ⟨.inr rfl, ?_⟩
  -- ret1
  simp [eqOf]

set_option maxRecDepth 8000 in
set_option maxHeartbeats 4000000 in
theorem cfR_ctr (xs : List Rule) (hb : xs.length ≤ big) : Ctr Tryz.prog 177 [.mrow 0, .fn 178 [(1, 0)]] [.mrow 55 .rule xs, .cells [.fn 89 []]] (.msl 0 3 0 (compactBy (eqOf gOrder) xs).length) [.mrow 55 .rule (cfOut .rule (eqOf gOrder) xs), .cells [.fn 89 []]] := by
  refine ctr_full E Tryz.func177 rfl Tryz.ntmps177 Tryz.results177 (Nat.le_of_ble_eq_true rfl) 2 rfl rfl (by simp) (by simp) rfl ?_
  simp only [big] at hb
  repeat refine ok_seq ?_
  refine ok_reg E [0, 1] [] (by simp [-Option.some.injEq, -Prod.mk.injEq]; rfl) (by first | trivial | omega | simp | (simp; omega)) ?_
  repeat refine ok_seq ?_
  refine ok_reg E [0, 1, 10] [] (by simp [-Option.some.injEq, -Prod.mk.injEq]; rfl) (by first | trivial | omega | simp | (simp; omega)) ?_
  repeat refine ok_seq ?_
  refine ok_if rfl (fun c1 => ?_) (fun c1 => ?_)
  · try simp at c1
    all_goals
      repeat refine ok_seq ?_
      refine ok_reg E [4] [] (by simp [-Option.some.injEq, -Prod.mk.injEq]; rfl) (by first | trivial | omega | simp | (simp; omega)) ?_
      refine ok_ent (ρ1 := [(4, .msl 0 3 0 xs.length)]) (H1 := [.mrow 55 .rule xs, .cells [.fn 89 []]]) ⟨⟨⟨_, rfl, conv_msl rfl rfl rfl⟩, by simp [scop], trivial⟩, by simp [EntH, EntB, Box.scop]⟩ ?_
      refine ok_ret ⟨.inr rfl, ?_⟩
      -- ret1
      have e1 := compactBy_short (eqOf gOrder) (xs := xs) (by omega)
      have e2 := cfOut_same (τ := .rule) e1
      simp [e1, e2]
  · try simp at c1
    all_goals
      refine ok_skip ?_
      repeat refine ok_seq ?_
      refine ok_reg E [0, 1, 5] [] (by simp [-Option.some.injEq, -Prod.mk.injEq]; rfl) (by first | trivial | omega | simp | (simp; omega)) ?_
      repeat refine ok_seq ?_
      refine ok_block ?_
      repeat refine ok_seq ?_
      refine ok_loop (σ := Nat) (fun k => [(0, .mrow 0), (1, .fn 178 [(1, 0)]), (5, .d .i (k : Int))]) (fun k => [.mrow 55 .rule xs, .cells [.fn 89 []]]) (fun k => 1 ≤ k ∧ k ≤ xs.length ∧ compactBy (eqOf gOrder) (xs.take k) = xs.take k) (fun k => xs.length - k) 1 ⟨Nat.le_refl _, by omega, compactBy_short _ (by simp; omega)⟩ ?_ ?_
      · constructor <;> simp [EntF, EntH, EntB, Conv, scop]
      rintro k ⟨hk1, hk2, hk3⟩
      repeat refine ok_seq ?_
      refine ok_reg E [0, 1, 5, 15] [] (by simp [-Option.some.injEq, -Prod.mk.injEq]; rfl) (by first | trivial | omega | simp | (simp; omega)) ?_
      repeat refine ok_seq ?_
      refine ok_if rfl (fun c2 => ?_) (fun c2 => ?_)
      · try simp at c2
        all_goals
          have w0 : IntKind.i64.wrap ((k : Int) - 1) = ((k - 1 : Nat) : Int) := by rw [wrap_i64 (by omega) (by omega)]; omega
          refine ok_skip ?_
          repeat refine ok_seq ?_
          refine ok_block ?_
          repeat refine ok_seq ?_
          refine ok_dr E rfl [0, 1, 5, 28] 11 [.full [1] [avOf .rule (gr xs (k : Nat)), avOf .rule (gr xs (k - 1 : Nat)), .ptr 0 0] [.cells [.fn 89 []]] (.d .bool (eqOf gOrder (gr xs (k : Nat)) (gr xs (k - 1 : Nat)))) [.cells [.fn 89 []]]] (by decide) (by simp [nodupF]) (by simp [w0, -Option.some.injEq, -Prod.mk.injEq]; rfl) (by (have k1 := eqR_ctr (gr xs (k : Nat)) (gr xs (k - 1 : Nat)); (try simp at k1); simp [k1, w0]; (try (repeat' apply And.intro)) <;> first | omega | exact Takes.of (by decide) (by simp))) ?_
          repeat refine ok_seq ?_
          refine ok_if rfl (fun c3 => ?_) (fun c3 => ?_)
          · try simp at c3
            all_goals
              repeat refine ok_seq ?_
              refine ok_reg E [0, 1, 5, 6] [] (by simp [-Option.some.injEq, -Prod.mk.injEq]; rfl) (by first | trivial | omega | simp | (simp; omega)) ?_
              repeat refine ok_seq ?_
              refine ok_reg E [0, 1, 5, 6, 7] [] (by simp [-Option.some.injEq, -Prod.mk.injEq]; rfl) (by first | trivial | omega | simp | (simp; omega)) ?_
              repeat refine ok_seq ?_
              refine ok_block ?_
              repeat refine ok_seq ?_
              have hk4 : k - 1 < xs.length := by omega
              have hk5 : 1 ≤ xs.length - k := by omega
              have hk6 : k ≤ k + 1 - 1 := by omega
              have hk0 : 0 < k := by omega
              have c3b : eqOf gOrder xs[k] xs[k - 1] = true := by rw [← gr_lt c2, ← gr_lt hk4]; exact c3
              have e0 : xs.take k = compactBy (eqOf gOrder) (xs.take (k + 1)) := by rw [compactBy_step _ hk0 c2, if_pos c3b, List.append_nil]; exact hk3.symm
              refine ok_loop (σ := (Nat × Nat × List Rule)) (fun s => [(0, .mrow 0), (1, .fn 178 [(1, 0)]), (5, .d .i (s.1 : Int)), (6, .msl 0 3 k (xs.length - k)), (7, .d .i (s.2.1 : Int))]) (fun s => [.mrow 55 .rule s.2.2, .cells [.fn 89 []]]) (fun s => 1 ≤ s.2.1 ∧ s.2.1 ≤ xs.length - k ∧ k ≤ s.1 ∧ s.1 ≤ k + s.2.1 - 1 ∧ s.2.2.length = xs.length ∧ s.2.2.take s.1 = compactBy (eqOf gOrder) (xs.take (k + s.2.1)) ∧ s.2.2.drop (k + s.2.1 - 1) = xs.drop (k + s.2.1 - 1)) (fun s => xs.length - k - s.2.1) (k, 1, xs) ⟨Nat.le_refl _, hk5, Nat.le_refl _, hk6, rfl, e0, rfl⟩ ?_ ?_
              · constructor <;> simp [EntF, EntH, EntB, Conv, ConvL, scop, scopL]
              rintro ⟨q, j, ws⟩ ⟨hj1, hj2, hq1, hq2, hl, ht, hd⟩
              simp only at hj1 hj2 hq1 hq2 hl ht hd ⊢
              have w1 : IntKind.i64.wrap ((j : Int) - 1) = ((j - 1 : Nat) : Int) := by rw [wrap_i64 (by omega) (by omega)]; omega
              have w2 : k + (j - 1) = k + j - 1 := by omega
              repeat refine ok_seq ?_
              refine ok_reg E [0, 1, 5, 6, 7, 35] [] (by simp [-Option.some.injEq, -Prod.mk.injEq]; rfl) (by first | trivial | omega | simp | (simp; omega)) ?_
              repeat refine ok_seq ?_
              refine ok_if rfl (fun c4 => ?_) (fun c4 => ?_)
              · try simp at c4
                all_goals
                  refine ok_skip ?_
                  repeat refine ok_seq ?_
                  refine ok_block ?_
                  repeat refine ok_seq ?_
                  refine ok_dr E rfl [0, 1, 5, 6, 7, 49] 12 [.full [1] [avOf .rule (gr ws ((k : Int) + j)), avOf .rule (gr ws (k + j - 1 : Nat)), .ptr 0 0] [.cells [.fn 89 []]] (.d .bool (eqOf gOrder (gr ws ((k : Int) + j)) (gr ws (k + j - 1 : Nat)))) [.cells [.fn 89 []]]] (by decide) (by simp [nodupF]) (by simp [w1, w2, -Option.some.injEq, -Prod.mk.injEq]; rfl) (by (have k1 := eqR_ctr (gr ws ((k : Int) + j)) (gr ws (k + j - 1 : Nat)); (try simp at k1); simp [k1, w1, w2]; (try (repeat' apply And.intro)) <;> first | omega | exact Takes.of (by decide) (by simp))) ?_
                  repeat refine ok_seq ?_
                  refine ok_if rfl (fun c5 => ?_) (fun c5 => ?_)
                  · try simp at c5
                    all_goals
                      repeat refine ok_seq ?_
                      refine ok_reg E [0, 1, 5, 6, 7] [] (by simp [-Option.some.injEq, -Prod.mk.injEq]; rfl) (by first | trivial | omega | simp | (simp; omega)) ?_
                      repeat refine ok_seq ?_
                      refine ok_reg E [0, 1, 5, 6, 7] [] (by simp [-Option.some.injEq, -Prod.mk.injEq]; rfl) (by first | trivial | omega | simp | (simp; omega)) ?_
                      repeat refine ok_seq ?_
                      refine ok_reg E [0, 1, 5, 6, 7] [] (by simp [-Option.some.injEq, -Prod.mk.injEq]; rfl) (by first | trivial | omega | simp | (simp; omega)) ?_
                      -- end21
                      have hlt : k + j < xs.length := by omega
                      have hl1 : k + j < ws.length := by omega
                      have hl2 : k + j - 1 < ws.length := by omega
                      obtain ⟨s1, s2⟩ := cf_step (τ := .rule) (xs := xs) (ws := ws) (eq := (eqOf gOrder)) hk1 hj1 hq1 hq2 hl hlt ht hd
                      have c5b := c5
                      rw [show ((k : Int) + j) = ((k + j : Nat) : Int) by omega, gr_lt hl1, gr_lt hl2] at c5b
                      obtain ⟨t1, t2⟩ := s2 c5b
                      have e9 : gr ws ((k : Int) + j) = ws[k + j] := by rw [show ((k : Int) + j) = ((k + j : Nat) : Int) by omega, gr_lt hl1]
                      exact ⟨(q + 1, j + 1, ws.set q ws[k + j]), ⟨by simp only; omega, by simp only; omega, by simp only; omega, by simp only; omega, by simp only; rw [List.length_set]; exact hl, t1, t2⟩, by simp only; omega, by constructor <;> simp (disch := omega) [EntF, EntH, EntB, Conv, ConvL, scop, scopL, wrap_i64, e9]⟩
                  · try simp at c5
                    all_goals
                      refine ok_skip ?_
                      repeat refine ok_seq ?_
                      refine ok_reg E [0, 1, 5, 6, 7] [] (by simp [-Option.some.injEq, -Prod.mk.injEq]; rfl) (by first | trivial | omega | simp | (simp; omega)) ?_
                      -- end22
                      have hlt : k + j < xs.length := by omega
                      have hl1 : k + j < ws.length := by omega
                      have hl2 : k + j - 1 < ws.length := by omega
                      obtain ⟨s1, s2⟩ := cf_step (τ := .rule) (xs := xs) (ws := ws) (eq := (eqOf gOrder)) hk1 hj1 hq1 hq2 hl hlt ht hd
                      have c5b := c5
                      rw [show ((k : Int) + j) = ((k + j : Nat) : Int) by omega, gr_lt hl1, gr_lt hl2] at c5b
                      obtain ⟨t1, t2⟩ := s1 c5b
                      exact ⟨(q, j + 1, ws), ⟨by simp only; omega, by simp only; omega, by simp only; omega, by simp only; omega, hl, t1, t2⟩, by simp only; omega, by constructor <;> simp (disch := omega) [EntF, EntH, EntB, Conv, ConvL, scop, scopL, wrap_i64]⟩
              · try simp at c4
                all_goals
                  refine ok_exit ?_
                  repeat refine ok_seq ?_
                  refine ok_reg E [0, 5] [] (by simp [-Option.some.injEq, -Prod.mk.injEq]; rfl) (by omega) ?_
                  repeat refine ok_seq ?_
                  refine ok_reg E [4] [] (by simp [-Option.some.injEq, -Prod.mk.injEq]; rfl) (by (have e7 : (clr .rule ws q (ws.length - q)).length = ws.length := (by simp [clr]; omega)); (first | omega | (simp [e7]; omega) | (simp only [e7]; omega))) ?_
                  refine ok_ret ⟨.inr rfl, ?_⟩
                  -- ret2
                  have hjk : k + j = xs.length := by omega
                  rw [hjk, List.take_length] at ht
                  have hql : (compactBy (eqOf gOrder) xs).length = q := by rw [← ht, List.length_take]; omega
                  have e8 : clr .rule ws q (ws.length - q) = cfOut .rule (eqOf gOrder) xs := by rw [clr_all _ _ _ _ (by omega), cfOut, ← ht, List.length_take, hl]; congr 2; omega
                  simp [e8, hql]
          · try simp at c3
            all_goals
              refine ok_skip ?_
              repeat refine ok_seq ?_
              refine ok_reg E [0, 1, 5] [] (by simp [-Option.some.injEq, -Prod.mk.injEq]; rfl) (by first | trivial | omega | simp | (simp; omega)) ?_
              -- end01
              have hk4 : k - 1 < xs.length := by omega
              have hk0 : 0 < k := by omega
              have c3b : eqOf gOrder xs[k] xs[k - 1] = false := by rw [← gr_lt c2, ← gr_lt hk4]; exact c3
              have e0 : compactBy (eqOf gOrder) (xs.take (k + 1)) = xs.take (k + 1) := by rw [compactBy_step _ hk0 c2, if_neg (by rw [c3b]; simp), hk3, List.take_succ_eq_append_getElem c2]
              exact ⟨k + 1, ⟨by omega, by omega, e0⟩, by omega, by constructor <;> simp (disch := omega) [EntF, EntH, EntB, Conv, ConvL, scop, scopL, wrap_i64]⟩
      · try simp at c2
        all_goals
          skip
          refine ok_exit ?_
          repeat refine ok_seq ?_
          refine ok_reg E [4] [] (by simp [-Option.some.injEq, -Prod.mk.injEq]; rfl) (by first | trivial | omega | simp | (simp; omega)) ?_
          refine ok_ent (ρ1 := [(4, .msl 0 3 0 xs.length)]) (H1 := [.mrow 55 .rule xs, .cells [.fn 89 []]]) ⟨⟨⟨_, rfl, conv_msl rfl rfl rfl⟩, by simp [scop], trivial⟩, by simp [EntH, EntB, Box.scop]⟩ ?_
          refine ok_ret ⟨.inr rfl, ?_⟩
          -- ret3
          have hkl : k = xs.length := by omega
          rw [hkl, List.take_length] at hk3
          have e2 := cfOut_same (τ := .rule) hk3
          simp [hk3, e2]

set_option maxRecDepth 8000 in
set_option maxHeartbeats 4000000 in
theorem cfR0_ctr  : Ctr Tryz.prog 177 [.d (.sl .rule) [], .fn 178 [(0, 0)]] [.cells [.fn 89 []]] (.d (.sl .rule) []) [.cells [.fn 89 []]] := by
  refine ctr_full E Tryz.func177 rfl Tryz.ntmps177 Tryz.results177 (Nat.le_of_ble_eq_true rfl) 1 rfl rfl (by simp) (by simp) rfl ?_
  repeat refine ok_seq ?_
  refine ok_reg E [0, 1] [] (by simp [-Option.some.injEq, -Prod.mk.injEq]; rfl) (by first | trivial | omega | simp | (simp; omega)) ?_
  repeat refine ok_seq ?_
  refine ok_reg E [0, 1, 10] [] (by simp [-Option.some.injEq, -Prod.mk.injEq]; rfl) (by first | trivial | omega | simp | (simp; omega)) ?_
  repeat refine ok_seq ?_
  refine ok_if rfl (fun c1 => ?_) (fun c1 => ?_)
  · try simp at c1
    all_goals
      repeat refine ok_seq ?_
      refine ok_reg E [4] [] (by simp [-Option.some.injEq, -Prod.mk.injEq]; rfl) (by first | trivial | omega | simp | (simp; omega)) ?_
      refine ok_ret ⟨.inr rfl, ?_⟩
      -- ret1
      simp
  · exfalso; simp at c1

set_option maxRecDepth 8000 in
set_option maxHeartbeats 4000000 in
theorem setR0_ctr  : Ctr Tryz.prog 111 [.d (.sl .rule) [], .fn 89 []] [] (.d (.sl .rule) []) [] := by
  refine ctr_pure E Tryz.func111 rfl Tryz.ntmps111 Tryz.results111 (Nat.le_of_ble_eq_true rfl) rfl ?_
  repeat refine ok_seq ?_
  refine ok_reg E [0, 3] [] (by simp [-Option.some.injEq, -Prod.mk.injEq]; rfl) (by first | trivial | omega | simp | (simp; omega)) ?_
  repeat refine ok_seq ?_
  refine ok_reg E [3, 5] [.pure (.d (.sl .rule) [])] (by simp [-Option.some.injEq, -Prod.mk.injEq]; rfl) (by (have k1 := cloneR0_ctr; (try simp at k1); simp [k1])) ?_
  repeat refine ok_seq ?_
  refine ok_reg E [3, 5] [.pure (.tup [])] (by simp [-Option.some.injEq, -Prod.mk.injEq]; rfl) (by (have k1 := sortR0_ctr; (try simp at k1); simp [k1])) ?_
  repeat refine ok_seq ?_
  refine ok_reg E [4] [.full [0] [.d (.sl .rule) [], .fn 178 [(0, 0)]] [.cells [.fn 89 []]] (.d (.sl .rule) []) [.cells [.fn 89 []]]] (by simp [-Option.some.injEq, -Prod.mk.injEq]; rfl) (by (have k1 := cfR0_ctr; (try simp at k1); simp [k1]; exact Takes.of (by decide) (by simp))) ?_
  refine ok_ret ⟨.inr rfl, ?_⟩
  -- ret1
  simp [resAll, resL, resA, frozE]

set_option maxRecDepth 8000 in
set_option maxHeartbeats 4000000 in
theorem setR1_ctr (l : List Rule) (hne : l ≠ []) (hb : l.length ≤ big) : Ctr Tryz.prog 111 [.d (.sl .rule) l, .fn 89 []] [] (.d (.sl .rule) (setBy gOrder l)) [] := by
  refine ctr_pure E Tryz.func111 rfl Tryz.ntmps111 Tryz.results111 (Nat.le_of_ble_eq_true rfl) rfl ?_
  have hs : (srt gOrder l) ≠ [] := by intro h; have := srt_len (cmp := gOrder) l; rw [h] at this; exact hne (List.length_eq_zero_iff.1 this.symm)
  have hsl : (srt gOrder l).length ≤ big := by rw [srt_len]; exact hb
  repeat refine ok_seq ?_
  refine ok_reg E [0, 3] [] (by simp [-Option.some.injEq, -Prod.mk.injEq]; rfl) (by first | trivial | omega | simp | (simp; omega)) ?_
  repeat refine ok_seq ?_
  refine ok_reg E [3, 5] [.own (.mrow 55 .rule l)] (by simp [-Option.some.injEq, -Prod.mk.injEq]; rfl) (by (have k1 := cloneR_own hne hb; (try simp at k1); simp [k1])) ?_
  repeat refine ok_seq ?_
  refine ok_reg E [3, 5] [.full [1] [.mrow 0, .fn 89 []] [.mrow 55 .rule l] (.tup []) [.mrow 55 .rule (srt gOrder l)]] (by simp [-Option.some.injEq, -Prod.mk.injEq]; rfl) (by (have k1 := sortR_ctr hne hb; (try simp at k1); simp [k1]; exact Takes.of (by decide) (by simp))) ?_
  repeat refine ok_seq ?_
  refine ok_reg E [4] [.full [1, 0] [.mrow 0, .fn 178 [(1, 0)]] [.mrow 55 .rule (srt gOrder l), .cells [.fn 89 []]] (.msl 0 3 0 (compactBy (eqOf gOrder) (srt gOrder l)).length) [.mrow 55 .rule (cfOut .rule (eqOf gOrder) (srt gOrder l)), .cells [.fn 89 []]]] (by simp [-Option.some.injEq, -Prod.mk.injEq]; rfl) (by (have k1 := cfR_ctr (srt gOrder l) hsl; (try simp at k1); simp [k1]; exact Takes.of (by decide) (by simp))) ?_
  refine ok_ret ⟨.inr rfl, ?_⟩
  -- ret1
  have e1 := compact_set (l := l) gOrder_ord (fun _ _ => trivial)
  have e2 : (compactBy (eqOf gOrder) (srt gOrder l)).length ≤ (cfOut .rule (eqOf gOrder) (srt gOrder l)).length := by simp [cfOut]
  have e3 : (cfOut .rule (eqOf gOrder) (srt gOrder l)).take (compactBy (eqOf gOrder) (srt gOrder l)).length = compactBy (eqOf gOrder) (srt gOrder l) := by simp [cfOut]
  rw [e1] at e2 e3
  simp [Ty.size, e1, e2, e3]

theorem setR_ctr (l : List Rule) (hb : l.length ≤ big) : Ctr Tryz.prog 111 [.d (.sl .rule) l, .fn 89 []] [] (.d (.sl .rule) (setBy gOrder l)) [] := by
  by_cases h : l = []
  · subst h; exact setR0_ctr
  · exact setR1_ctr l h hb

end Go.Proofs.YtgapiecbinplfaaGreat
/- Walks: package ground: the program of instances. Printed by walk.py from annotations. -/
namespace Go.Proofs.YtgapiecbinplfaaGreat
open Go.RowKit


theorem mapTT_step {α : Type} {f : Term → α} {l : List Term} {i : Nat} (h : i < l.length) : (l.take (i + 1)).map f = (l.take i).map f ++ [f (gt l i)] := by
  rw [List.take_succ_eq_append_getElem h, List.map_append, gt_lt h]; rfl
theorem mapIn_step {α : Type} {f : Inst → α} {l : List Inst} {i : Nat} (h : i < l.length) : (l.take (i + 1)).map f = (l.take i).map f ++ [f (gin l i)] := by
  rw [List.take_succ_eq_append_getElem h, List.map_append, gin_lt h]; rfl
theorem allG_step {l : List Inst} {i : Nat} (h : i < l.length) : allG (l.take (i + 1)) = allG (l.take i) ++ [(gin l i).head] ++ (gin l i).pos ++ (gin l i).neg := by
  rw [List.take_succ_eq_append_getElem h, allG, List.flatMap_append, gin_lt h]; simp [instAll, allG]
theorem allG_len {l : List Inst} (h : InstsOk l) : ∀ i, i ≤ l.length → (allG (l.take i)).length ≤ 401 * i
  | 0, _ => by simp [allG]
  | i + 1, hi => by
    have ih := allG_len h i (by omega)
    have h4 := h.2 i (by omega)
    rw [allG_step (by omega)]
    simp only [List.length_append, List.length_cons, List.length_nil]; omega
theorem setBy_len {α : Type} (cmp : α → α → Int) : ∀ l : List α, (setBy cmp l).length ≤ l.length := by
  suffices h : ∀ (l s : List α), (l.foldl (putBy cmp) s).length ≤ s.length + l.length by
    intro l; have := h l []; simpa [setBy] using this
  intro l
  induction l with
  | nil => intro s; simp
  | cons a l ih =>
    intro s
    have h1 := ih (putBy cmp s a)
    have h2 := putBy_len cmp a s
    simp only [List.foldl_cons, List.length_cons]; omega

set_option maxRecDepth 8000 in
set_option maxHeartbeats 4000000 in
theorem placesG_ctr (ts l : List Term) (hl : l.length ≤ 1000000) (ht : ts.length ≤ 1000000) : Ctr Tryz.prog 109 [.d .terms l, .ptr 0 0] [.cells [.d .terms ts, .d (.sl .rule) []]] (.d .ints (placesG ts l)) [.cells [.d .terms ts, .d (.sl .rule) []]] := by
  refine ctr_full E Tryz.func109 rfl Tryz.ntmps109 Tryz.results109 (Nat.le_of_ble_eq_true rfl) 1 rfl rfl (by simp) (by simp) rfl ?_
  repeat refine ok_seq ?_
  refine ok_reg E [0, 1] [] (by simp [-Option.some.injEq, -Prod.mk.injEq]; rfl) (by first | trivial | omega | simp | (simp; omega)) ?_
  repeat refine ok_seq ?_
  refine ok_reg E [0, 1, 4] [] (by simp [-Option.some.injEq, -Prod.mk.injEq]; rfl) (by first | trivial | omega | simp | (simp; omega)) ?_
  repeat refine ok_seq ?_
  refine ok_reg E [1, 4, 7, 8, 9] [] (by simp [-Option.some.injEq, -Prod.mk.injEq]; rfl) (by first | trivial | omega | simp | (simp; omega)) ?_
  repeat refine ok_seq ?_
  refine ok_block ?_
  repeat refine ok_seq ?_
  refine ok_own 4 3 .i rfl ?_
  refine ok_loop (σ := Nat) (fun i => [(1, .ptr 0 0), (4, .orow 1), (7, .d .terms l), (8, .d .i (l.length : Int)), (9, .d .i (i : Int))]) (fun i => [.cells [.d .terms ts, .d (.sl .rule) []], .orow 3 .i ((l.take i).map (findG ts))]) (fun i => i ≤ l.length) (fun i => l.length - i) 0 (by simp) ?_ ?_
  · constructor <;> simp [EntF, EntH, EntB, Conv, ConvL, scop, scopL]
  rintro i hi
  repeat refine ok_seq ?_
  refine ok_reg E [1, 4, 7, 8, 9, 10] [] (by simp [-Option.some.injEq, -Prod.mk.injEq]; rfl) (by first | trivial | omega | simp | (simp; omega)) ?_
  repeat refine ok_seq ?_
  refine ok_if rfl (fun c1 => ?_) (fun c1 => ?_)
  · try simp at c1
    all_goals
      skip
      refine ok_skip ?_
      repeat refine ok_seq ?_
      refine ok_block ?_
      repeat refine ok_seq ?_
      refine ok_reg E [1, 4, 6, 7, 8, 9] [] (by simp [-Option.some.injEq, -Prod.mk.injEq]; rfl) (by first | trivial | omega | simp | (simp; omega)) ?_
      repeat refine ok_seq ?_
      refine ok_reg E [1, 4, 7, 8, 9] [.pure (.d .i (findG ts (gt l i)))] (by simp [-Option.some.injEq, -Prod.mk.injEq]; rfl) (by (have k1 := findG_ctr ⟨ts, []⟩ (gt l i) ht; (try simp at k1); simp [k1, big]; omega)) ?_
      repeat refine ok_seq ?_
      refine ok_reg E [1, 4, 7, 8, 9] [] (by simp [-Option.some.injEq, -Prod.mk.injEq]; rfl) (by first | trivial | omega | simp | (simp; omega)) ?_
      -- end01
      have e1 := mapTT_step (f := findG ts) c1
      exact ⟨i + 1, by omega, by omega, by constructor <;> simp (disch := omega) [EntF, EntH, EntB, Conv, ConvL, scop, scopL, wrap_i64, e1]⟩
  · try simp at c1
    all_goals
      have e3 : (l.take i).map (findG ts) = l.map (findG ts) := by rw [List.take_of_length_le c1]
      refine ok_exit ?_
      repeat refine ok_seq ?_
      refine ok_reg E [3] [.pure (.d .ints (placesG ts l))] (by simp [e3, -Option.some.injEq, -Prod.mk.injEq]; rfl) (by (have k1 := setI_ctr (l.map (findG ts)) (by simp [big]; omega); (try simp at k1); rw [← List.map_take, e3] at *; simp [k1, placesG])) ?_
      refine ok_ret ⟨.inr rfl, ?_⟩
      -- ret1
      simp

set_option maxRecDepth 8000 in
set_option maxHeartbeats 4000000 in
theorem fromG_ctr (l : List Inst) (hl : InstsOk l) : Ctr Tryz.prog 38 [.d (.sl .inst) l] [] (pav (fromG l)) [] := by
  refine ctr_pure E Tryz.func38 rfl Tryz.ntmps38 Tryz.results38 (Nat.le_of_ble_eq_true rfl) rfl ?_
  have hl1 := hl.1
  have ha0 := allG_len hl l.length (Nat.le_refl _)
  rw [List.take_length] at ha0
  have hts := setBy_len cmpG (allG l)
  repeat refine ok_seq ?_
  refine ok_reg E [0, 2] [] (by simp [-Option.some.injEq, -Prod.mk.injEq]; rfl) (by first | trivial | omega | simp | (simp; omega)) ?_
  repeat refine ok_seq ?_
  refine ok_reg E [0, 2, 3] [] (by simp [-Option.some.injEq, -Prod.mk.injEq]; rfl) (by first | trivial | omega | simp | (simp; omega)) ?_
  repeat refine ok_seq ?_
  refine ok_reg E [0, 2, 3, 11, 12, 13] [] (by simp [-Option.some.injEq, -Prod.mk.injEq]; rfl) (by first | trivial | omega | simp | (simp; omega)) ?_
  repeat refine ok_seq ?_
  refine ok_block ?_
  repeat refine ok_seq ?_
  refine ok_own 3 36 .term rfl ?_
  refine ok_loop (σ := Nat) (fun i => [(0, .d (.sl .inst) l), (2, .ptr 0 0), (3, .orow 1), (11, .d (.sl .inst) l), (12, .d .i (l.length : Int)), (13, .d .i (i : Int))]) (fun i => [.cells [.nilsl, .nilsl], .orow 36 .term (allG (l.take i))]) (fun i => i ≤ l.length) (fun i => l.length - i) 0 (by simp) ?_ ?_
  · constructor <;> simp [EntF, EntH, EntB, Conv, ConvL, scop, scopL, allG]
  rintro i hi
  have ha := allG_len hl i hi
  repeat refine ok_seq ?_
  refine ok_reg E [0, 2, 3, 11, 12, 13, 14] [] (by simp [-Option.some.injEq, -Prod.mk.injEq]; rfl) (by first | trivial | omega | simp | (simp; omega)) ?_
  repeat refine ok_seq ?_
  refine ok_if rfl (fun c1 => ?_) (fun c1 => ?_)
  · try simp at c1
    all_goals
      have hq := hl.2 i (by omega)
      refine ok_skip ?_
      repeat refine ok_seq ?_
      refine ok_block ?_
      repeat refine ok_seq ?_
      refine ok_reg E [0, 2, 3, 5, 11, 12, 13] [] (by simp [-Option.some.injEq, -Prod.mk.injEq]; rfl) (by first | trivial | omega | simp | (simp; omega)) ?_
      repeat refine ok_seq ?_
      refine ok_reg E [0, 2, 3, 5, 11, 12, 13] [] (by simp [-Option.some.injEq, -Prod.mk.injEq]; rfl) (by simp [big]; omega) ?_
      repeat refine ok_seq ?_
      refine ok_reg E [0, 2, 3, 5, 11, 12, 13] [] (by simp [-Option.some.injEq, -Prod.mk.injEq]; rfl) (by simp [big]; omega) ?_
      repeat refine ok_seq ?_
      refine ok_reg E [0, 2, 3, 11, 12, 13] [] (by simp [-Option.some.injEq, -Prod.mk.injEq]; rfl) (by simp [big]; omega) ?_
      repeat refine ok_seq ?_
      refine ok_reg E [0, 2, 3, 11, 12, 13] [] (by simp [-Option.some.injEq, -Prod.mk.injEq]; rfl) (by first | trivial | omega | simp | (simp; omega)) ?_
      -- end01
      have e1 := allG_step c1
      exact ⟨i + 1, by omega, by omega, by constructor <;> simp (disch := omega) [EntF, EntH, EntB, Conv, ConvL, scop, scopL, wrap_i64, e1]⟩
  · try simp at c1
    all_goals
      have e3 : allG (l.take i) = allG l := by rw [List.take_of_length_le c1]
      refine ok_exit ?_
      repeat refine ok_seq ?_
      refine ok_reg E [0, 2, 6] [.pure (.d .terms (setBy cmpG (allG l)))] (by simp [e3, -Option.some.injEq, -Prod.mk.injEq]; rfl) (by (have k1 := setT_ctr (allG l) (by simp only [big]; omega); (try simp at k1); simp [k1, e3])) ?_
      refine ok_ent (ρ1 := [(0, .d (.sl .inst) l), (2, .ptr 0 0), (6, .ptr 2 0)]) (H1 := [.cells [.nilsl, .nilsl], .dead, .cells [.d .terms (setBy cmpG (allG l)), .d (.sl .rule) []]]) (by constructor <;> simp [EntF, EntH, EntB, Conv, ConvL, scop, scopL]) ?_
      repeat refine ok_seq ?_
      refine ok_reg E [0, 2, 6, 7] [] (by simp [-Option.some.injEq, -Prod.mk.injEq]; rfl) (by first | trivial | omega | simp | (simp; omega)) ?_
      repeat refine ok_seq ?_
      refine ok_reg E [0, 2, 6, 7, 8] [] (by simp [-Option.some.injEq, -Prod.mk.injEq]; rfl) (by first | trivial | omega | simp | (simp; omega)) ?_
      repeat refine ok_seq ?_
      refine ok_reg E [2, 6, 7, 8, 35, 36, 37] [] (by simp [-Option.some.injEq, -Prod.mk.injEq]; rfl) (by first | trivial | omega | simp | (simp; omega)) ?_
      repeat refine ok_seq ?_
      refine ok_block ?_
      repeat refine ok_seq ?_
      refine ok_own 8 55 .rule rfl ?_
      refine ok_loop (σ := Nat) (fun j => [(2, .ptr 0 0), (6, .ptr 2 0), (7, .fn 109 [(2, 0)]), (8, .orow 3), (35, .d (.sl .inst) l), (36, .d .i (l.length : Int)), (37, .d .i (j : Int))]) (fun j => [.cells [.nilsl, .nilsl], .dead, .cells [.d .terms (setBy cmpG (allG l)), .d (.sl .rule) []], .orow 55 .rule ((l.take j).map (ruleG (setBy cmpG (allG l))))]) (fun j => j ≤ l.length) (fun j => l.length - j) 0 (by simp) ?_ ?_
      · constructor <;> simp [EntF, EntH, EntB, Conv, ConvL, scop, scopL]
      rintro j hj
      repeat refine ok_seq ?_
      refine ok_reg E [2, 6, 7, 8, 35, 36, 37, 38] [] (by simp [-Option.some.injEq, -Prod.mk.injEq]; rfl) (by first | trivial | omega | simp | (simp; omega)) ?_
      repeat refine ok_seq ?_
      refine ok_if rfl (fun c2 => ?_) (fun c2 => ?_)
      · try simp at c2
        all_goals
          have hq := hl.2 j (by omega)
          refine ok_skip ?_
          repeat refine ok_seq ?_
          refine ok_block ?_
          repeat refine ok_seq ?_
          refine ok_reg E [2, 6, 7, 8, 10, 35, 36, 37] [] (by simp [-Option.some.injEq, -Prod.mk.injEq]; rfl) (by first | trivial | omega | simp | (simp; omega)) ?_
          repeat refine ok_seq ?_
          refine ok_dr E rfl [2, 6, 7, 8, 35, 36, 37] 15 [.pure (.d .i (findG (setBy cmpG (allG l)) (gin l j).head)), .full [2] [.d .terms (gin l j).pos, .ptr 0 0] [.cells [.d .terms (setBy cmpG (allG l)), .d (.sl .rule) []]] (.d .ints (placesG (setBy cmpG (allG l)) (gin l j).pos)) [.cells [.d .terms (setBy cmpG (allG l)), .d (.sl .rule) []]], .full [2] [.d .terms (gin l j).neg, .ptr 0 0] [.cells [.d .terms (setBy cmpG (allG l)), .d (.sl .rule) []]] (.d .ints (placesG (setBy cmpG (allG l)) (gin l j).neg)) [.cells [.d .terms (setBy cmpG (allG l)), .d (.sl .rule) []]]] (by decide) (by simp [nodupF]) (by simp [-Option.some.injEq, -Prod.mk.injEq]; rfl) (by (have k1 := findG_ctr ⟨(setBy cmpG (allG l)), []⟩ (gin l j).head (by simp only; omega); have k2 := placesG_ctr (setBy cmpG (allG l)) (gin l j).pos (by omega) (by omega); have k3 := placesG_ctr (setBy cmpG (allG l)) (gin l j).neg (by omega) (by omega); (try simp at k1 k2 k3); simp [k1, k2, k3, big, ruleG]; (try (repeat' apply And.intro)) <;> first | omega | exact Takes.of (by decide) (by simp))) ?_
          repeat refine ok_seq ?_
          refine ok_reg E [2, 6, 7, 8, 35, 36, 37] [] (by simp [-Option.some.injEq, -Prod.mk.injEq]; rfl) (by first | trivial | omega | simp | (simp; omega)) ?_
          -- end21
          have e1 := mapIn_step (f := ruleG (setBy cmpG (allG l))) c2
          exact ⟨j + 1, by omega, by omega, by constructor <;> simp (disch := omega) [EntF, EntH, EntB, Conv, ConvL, scop, scopL, wrap_i64, e1, ruleG]⟩
      · try simp at c2
        all_goals
          have e4 : (l.map (ruleG (setBy cmpG (allG l)))).take j = l.map (ruleG (setBy cmpG (allG l))) := List.take_of_length_le (by simpa using c2)
          refine ok_exit ?_
          repeat refine ok_seq ?_
          refine ok_reg E [2, 6] [.pure (.d (.sl .rule) (setBy gOrder (l.map (ruleG (setBy cmpG (allG l))))))] (by simp [e4, -Option.some.injEq, -Prod.mk.injEq]; rfl) (by (have k1 := setR_ctr (l.map (ruleG (setBy cmpG (allG l)))) (by simp [big]; omega); (try simp at k1); simp [k1, e4])) ?_
          repeat refine ok_seq ?_
          refine ok_reg E [2] [] (by simp [-Option.some.injEq, -Prod.mk.injEq]; rfl) (by first | trivial | omega | simp | (simp; omega)) ?_
          refine ok_ret ⟨.inr rfl, ?_⟩
          -- ret1
          simp [fromG]

end Go.Proofs.YtgapiecbinplfaaGreat
/- slices.Grow at the nil slice: a row of one's own, with room. -/
namespace Go.Proofs.YtgapiecbinplfaaGreat
open Go.RowKit Go.Shelf Go.Lib Go.Sort
variable {P : Program} {ρ : Ren}

theorem grow_own (L : Lays8.n4 P ρ) {τ : Ty} {i0 : TypeInfo} {z : Value} (hi0 : P.info? (ρ.t 25) = some i0) (hz0 : i0.zero = some z) (hs0 : i0.size = τ.size) (hb0 : i0.bytes ≤ 128) (hzs : z.cells.size = τ.size) {n : Nat} (hn : n ≤ 1000000000) :
    CtrO P (ρ.f 4) [.nilsl, .d .i (n : Int)] (.orow (ρ.t 25) τ []) := by
  intro fz w vs hfz hr
  simp only [RdL, RdA, ElR, List.cons.injEq, and_true] at hr
  obtain ⟨v, r, rfl, rfl, v2, r2, rfl, rfl, rfl⟩ := hr
  have hτ : 0 < τ.size := by cases τ <;> simp [Ty.size]
  by_cases h0 : n = 0
  · subst h0
    refine (Any8.slices_Grow_room L none 0 0 0 w (Nat.le_refl _) (by simp) (by simp) (Nat.le_refl _)).mono ?_
    rintro e w' ⟨rfl, rfl⟩
    exact ⟨_, fz, rfl, rfl, ⟨[], ⟨by simp, .inl ⟨rfl, rfl⟩⟩, rfl, fun blk hb => by cases hb⟩, fun k hk => (by cases hk), ⟨rfl, rfl, rfl, Nat.le_refl _, Nat.le_refl _, fun _ _ _ => rfl, Later.refl _ _, fun b o h => .inl h⟩, hfz⟩
  · have hbytes : (0 + n) * i0.bytes ≤ 140737488355328 := by
      have : (0 + n) * i0.bytes ≤ 1000000000 * 128 := Nat.mul_le_mul (by omega) hb0
      omega
    refine (Any8.slices_Grow_grow L i0 z hi0 hz0 (by omega) none 0 0 n [] w (Nat.le_refl _) (by omega) hbytes (by omega) (by simp) (fun _ => rfl) (fun a h => by cases h)).mono ?_
    rintro e w' ⟨rfl, rfl⟩
    have h1 : ∀ k, k < w.heap.size → (w.drew.alloc (.cells ((#[] : Array Value) ++ Builtin.zeroCells z.cells (0 + n - 0) ++ Builtin.zeroCells z.cells (grownCap w (0 + n) 0 (ρ.t 25) - (0 + n))) (ρ.t 25))).heap[k]? = w.heap[k]? := fun k hk => Below.heap_alloc w.drew _ k hk
    have hge := grownCap_ge w (0 + n) 0 (ρ.t 25)
    have hle := grownCap_le_maxLen w (0 + n) 0 (ρ.t 25) (by simp [maxLen]; omega)
    refine ⟨_, fz, rfl, rfl, ⟨[], ⟨by simp, .inr ⟨w.heap.size, _, _, rfl, Nat.zero_le _, heap_alloc_new w.drew _, Nat.zero_le _, hle, ?_, by simp⟩⟩, rfl, fun blk hb o => ?_⟩, fun k hk => (by cases hk; exact Nat.le_refl _),
      ⟨rfl, rfl, rfl, Nat.le_succ _, by simp, fun k hk _ => h1 k hk, fun b k hf => ⟨hf, World.cell?_of_block (w := w) (h1 b (hfz b k hf))⟩, fun b o h => .inl h⟩, fun b k hf => ?_⟩
    · simp only [Array.size_append, Builtin.zeroCells, Array.size_map, Array.size_range, hzs, Nat.zero_add]
      rw [show (#[] : Array Value).size = 0 from rfl, Nat.zero_add, ← Nat.add_mul]
      simp only [Nat.zero_add] at hge
      congr 1; omega
    · cases hb
      constructor
      · intro h; exact absurd (hfz _ _ h) (Nat.lt_irrefl _)
      · intro h; simp at h
    · have h2 := hfz b k hf
      have h3 : w.heap.size ≤ (w.drew.alloc (.cells ((#[] : Array Value) ++ Builtin.zeroCells z.cells (0 + n - 0) ++ Builtin.zeroCells z.cells (grownCap w (0 + n) 0 (ρ.t 25) - (0 + n))) (ρ.t 25))).heap.size := by simp
      exact Nat.lt_of_lt_of_le h2 h3
def Tryz.growI_ren : Go.Shelf.Ren := ⟨fun | 4 => 167 | n => n, fun | 22 => 30 | 25 => 3 | 3 => 3 | 4 => 4 | 9 => 9 | 20 => 20 | 0 => 0 | n => n, fun | n => n⟩
theorem Tryz.growI : Go.Proofs.Lays8.n4 Tryz.prog Tryz.growI_ren := {
  mixed := by kernel_rfl
  f4 := ⟨Tryz.f167.name, by decide, Tryz.func167.trans (congrArg some (by kernel_rfl))⟩
  t0 := Tryz.underlying0
  a0 := Tryz.isAgg0
  z0 := Tryz.sizeOf0
  v0 := Tryz.zeroValue0
  t3 := Tryz.underlying3
  a3 := Tryz.isAgg3
  z3 := Tryz.sizeOf3
  v3 := Tryz.zeroValue3
  t4 := Tryz.underlying4
  a4 := Tryz.isAgg4
  z4 := Tryz.sizeOf4
  v4 := Tryz.zeroValue4
  t9 := Tryz.underlying9
  a9 := Tryz.isAgg9
  z9 := Tryz.sizeOf9
  v9 := Tryz.zeroValue9
  t20 := Tryz.underlying20
  a20 := Tryz.isAgg20
  z20 := Tryz.sizeOf20
  v20 := Tryz.zeroValue20
  t22 := Tryz.underlying30
  a22 := Tryz.isAgg30
  z22 := Tryz.sizeOf30
  v22 := Tryz.zeroValue30 }
theorem growI_own {n : Nat} (hn : n ≤ 1000000000) : CtrO Tryz.prog 167 [.nilsl, .d .i (n : Int)] (.orow 3 .i []) := grow_own (τ := .i) Tryz.growI (i0 := Tryz.t3) (z := .int .i64 0) (by kernel_rfl) (by kernel_rfl) rfl (by decide) rfl hn
end Go.Proofs.YtgapiecbinplfaaGreat
