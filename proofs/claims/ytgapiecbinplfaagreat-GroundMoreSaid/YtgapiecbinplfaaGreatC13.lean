/- Own framework, walks and plain laws behind the laws of this seat, part C13: lemmas, no statement of the seat. -/
import Derived.Test.YtgapiecbinplfaaGreatC12
import Derived.Test.YtgapiecbinplfaaGreatRows
import Derived.ProofKit
import Derived.SizedLaws
import Derived.Lib.RowBridge
set_option linter.all false
/- Walks: package ground: what is cut. Printed by walk.py from annotations. -/
namespace Go.Proofs.YtgapiecbinplfaaGreat
open Go.RowKit


def gs (l : List (List Int)) (i : Int) : List Int := l.getD i.toNat []
@[simp] theorem at0_ints (l : List (List Int)) (i : Int) : (at0 (Ty.sl (.int .i64)) l i : List Int) = gs l i := rfl
theorem gs_lt {l : List (List Int)} {i : Nat} (h : i < l.length) : gs l (i : Int) = l[i] := by simp [gs, h]
def flt (l : List (List Int)) (i : Nat) : List Int := (l.take i).flatten
def fl (l : List (List Int)) (i : Nat) : Nat := (flt l i).length
theorem flt_step {l : List (List Int)} {i : Nat} (h : i < l.length) : flt l (i + 1) = flt l i ++ gs l i := by
  rw [flt, List.take_succ_eq_append_getElem h, List.flatten_append, gs_lt h]; simp [flt]
theorem fl_step {l : List (List Int)} {i : Nat} (h : i < l.length) : fl l (i + 1) = fl l i + (gs l i).length := by
  rw [fl, flt_step h, List.length_append]; rfl
theorem flt_all {l : List (List Int)} {i : Nat} (h : l.length ≤ i) : flt l i = l.flatten := by rw [flt, List.take_of_length_le h]
theorem fl_le {l : List (List Int)} {n : Nat} (hb : l.flatten.length ≤ n) (i : Nat) : fl l i ≤ n := by
  refine Nat.le_trans ?_ hb
  conv => rhs; rw [← List.take_append_drop i l, List.flatten_append, List.length_append]
  simp only [fl, flt]; omega

set_option maxRecDepth 8000 in
set_option maxHeartbeats 4000000 in
theorem concatI_ctr (ls : List (List Int)) (hb : ls.flatten.length ≤ 1000000000) (hl : ls.length ≤ 1000000) : Ctr Tryz.prog 104 [.d (.sl .ints) ls] [] (.d .ints ls.flatten) [] := by
  refine ctr_pure E Tryz.func104 rfl Tryz.ntmps104 Tryz.results104 (Nat.le_of_ble_eq_true rfl) rfl ?_
  repeat refine ok_seq ?_
  refine ok_reg E [0] [] (by simp [-Option.some.injEq, -Prod.mk.injEq]; rfl) (by first | trivial | omega | simp | (simp; omega)) ?_
  repeat refine ok_seq ?_
  refine ok_reg E [0, 3] [] (by simp [-Option.some.injEq, -Prod.mk.injEq]; rfl) (by first | trivial | omega | simp | (simp; omega)) ?_
  repeat refine ok_seq ?_
  refine ok_reg E [0, 3, 9, 10, 11] [] (by simp [-Option.some.injEq, -Prod.mk.injEq]; rfl) (by first | trivial | omega | simp | (simp; omega)) ?_
  repeat refine ok_seq ?_
  refine ok_block ?_
  repeat refine ok_seq ?_
  refine ok_loop (σ := Nat) (fun i => [(0, .d (.sl .ints) ls), (3, .d .i (fl ls i : Int)), (9, .d (.sl .ints) ls), (10, .d .i (ls.length : Int)), (11, .d .i (i : Int))]) (fun i => []) (fun i => i ≤ ls.length) (fun i => ls.length - i) 0 (by simp) ?_ ?_
  · constructor <;> simp [EntF, EntH, EntB, Conv, ConvL, scop, scopL, fl, flt]
  rintro i hi
  have hf := fl_le hb i
  have hf2 := fl_le hb (i + 1)
  repeat refine ok_seq ?_
  refine ok_reg E [0, 3, 9, 10, 11, 12] [] (by simp [-Option.some.injEq, -Prod.mk.injEq]; rfl) (by first | trivial | omega | simp | (simp; omega)) ?_
  repeat refine ok_seq ?_
  refine ok_if rfl (fun c1 => ?_) (fun c1 => ?_)
  · try simp at c1
    all_goals
      have e2 := fl_step c1
      have w1 : IntKind.i64.wrap ((fl ls i : Int) + ((gs ls i).length : Int)) = (fl ls (i + 1) : Int) := by rw [wrap_i64 (by omega) (by omega)]; omega
      refine ok_skip ?_
      repeat refine ok_seq ?_
      refine ok_block ?_
      repeat refine ok_seq ?_
      refine ok_reg E [0, 3, 5, 9, 10, 11] [] (by simp [-Option.some.injEq, -Prod.mk.injEq]; rfl) (by first | trivial | omega | simp | (simp; omega)) ?_
      repeat refine ok_seq ?_
      refine ok_reg E [0, 3, 9, 10, 11] [] (by simp [w1, -Option.some.injEq, -Prod.mk.injEq]; rfl) (by first | trivial | omega | simp | (simp; omega)) ?_
      repeat refine ok_seq ?_
      refine ok_reg E [0, 3, 9, 10, 11, 20] [] (by simp [-Option.some.injEq, -Prod.mk.injEq]; rfl) (by first | trivial | omega | simp | (simp; omega)) ?_
      repeat refine ok_seq ?_
      refine ok_if rfl (fun c2 => ?_) (fun c2 => ?_)
      · exfalso; simp at c2; omega
      · try simp at c2
        all_goals
          refine ok_skip ?_
          repeat refine ok_seq ?_
          refine ok_reg E [0, 3, 9, 10, 11] [] (by simp [-Option.some.injEq, -Prod.mk.injEq]; rfl) (by first | trivial | omega | simp | (simp; omega)) ?_
          -- end01
          exact ⟨i + 1, by omega, by omega, by constructor <;> simp (disch := omega) [EntF, EntH, EntB, Conv, ConvL, scop, scopL, wrap_i64]⟩
  · try simp at c1
    all_goals
      have e3 : (fl ls i : Int) = (fl ls ls.length : Int) := by rw [fl, fl, flt_all c1, flt_all (Nat.le_refl _)]
      refine ok_exit ?_
      repeat refine ok_seq ?_
      refine ok_reg E [0, 6] [.own (.orow 3 .i [])] (by simp [e3, -Option.some.injEq, -Prod.mk.injEq]; rfl) (by (have k1 := growI_own (fl_le hb ls.length); (try simp at k1); simp [k1])) ?_
      repeat refine ok_seq ?_
      refine ok_reg E [6, 25, 26, 27] [] (by simp [-Option.some.injEq, -Prod.mk.injEq]; rfl) (by first | trivial | omega | simp | (simp; omega)) ?_
      repeat refine ok_seq ?_
      refine ok_block ?_
      repeat refine ok_seq ?_
      refine ok_loop (σ := Nat) (fun j => [(6, .orow 0), (25, .d (.sl .ints) ls), (26, .d .i (ls.length : Int)), (27, .d .i (j : Int))]) (fun j => [.orow 3 .i (flt ls j)]) (fun j => j ≤ ls.length) (fun j => ls.length - j) 0 (by simp) ?_ ?_
      · constructor <;> simp [EntF, EntH, EntB, Conv, ConvL, scop, scopL, flt]
      rintro j hj
      have hg := fl_le hb j
      have hg2 := fl_le hb (j + 1)
      repeat refine ok_seq ?_
      refine ok_reg E [6, 25, 26, 27, 28] [] (by simp [-Option.some.injEq, -Prod.mk.injEq]; rfl) (by first | trivial | omega | simp | (simp; omega)) ?_
      repeat refine ok_seq ?_
      refine ok_if rfl (fun c3 => ?_) (fun c3 => ?_)
      · try simp at c3
        all_goals
          have e4 := flt_step c3
          have e5 := fl_step c3
          simp only [fl] at hg hg2 e5
          refine ok_skip ?_
          repeat refine ok_seq ?_
          refine ok_block ?_
          repeat refine ok_seq ?_
          refine ok_reg E [6, 8, 25, 26, 27] [] (by simp [-Option.some.injEq, -Prod.mk.injEq]; rfl) (by first | trivial | omega | simp | (simp; omega)) ?_
          repeat refine ok_seq ?_
          refine ok_reg E [6, 25, 26, 27] [] (by simp [-Option.some.injEq, -Prod.mk.injEq]; rfl) (by simp [big]; omega) ?_
          repeat refine ok_seq ?_
          refine ok_reg E [6, 25, 26, 27] [] (by simp [-Option.some.injEq, -Prod.mk.injEq]; rfl) (by first | trivial | omega | simp | (simp; omega)) ?_
          -- end21
          exact ⟨j + 1, by omega, by omega, by constructor <;> simp (disch := omega) [EntF, EntH, EntB, Conv, ConvL, scop, scopL, wrap_i64, e4]⟩
      · try simp at c3
        all_goals
          have e3b := flt_all c3
          refine ok_exit ?_
          repeat refine ok_seq ?_
          refine ok_reg E [2] [] (by simp [-Option.some.injEq, -Prod.mk.injEq]; rfl) (by first | trivial | omega | simp | (simp; omega)) ?_
          refine ok_ret ⟨.inr rfl, ?_⟩
          -- ret1
          simp [resAll, resL, resA, frozE]
          rw [e3b]

set_option maxRecDepth 8000 in
set_option maxHeartbeats 4000000 in
theorem anewG_ctr (s l : List Int) (hk : ∀ k ∈ l, 0 ≤ k ∧ k < s.length) (hs : ∀ x ∈ s, -1000000 ≤ x ∧ x ≤ 1000000) (hl : l.length ≤ 1000000) : Ctr Tryz.prog 105 [.d .ints l, .ptr 0 0] [.cells [.mrow 1], .mrow 3 .i s] (.d .ints (l.map fun k => gi s k - 1)) [.cells [.mrow 1], .mrow 3 .i s] := by
  refine ctr_full E Tryz.func105 rfl Tryz.ntmps105 Tryz.results105 (Nat.le_of_ble_eq_true rfl) 2 rfl rfl (by simp) (by simp) rfl ?_
  repeat refine ok_seq ?_
  refine ok_reg E [0, 1] [] (by simp [-Option.some.injEq, -Prod.mk.injEq]; rfl) (by first | trivial | omega | simp | (simp; omega)) ?_
  repeat refine ok_seq ?_
  refine ok_reg E [0, 1, 4] [] (by simp [-Option.some.injEq, -Prod.mk.injEq]; rfl) (by first | trivial | omega | simp | (simp; omega)) ?_
  repeat refine ok_seq ?_
  refine ok_reg E [1, 4, 7, 8, 9] [] (by simp [-Option.some.injEq, -Prod.mk.injEq]; rfl) (by first | trivial | omega | simp | (simp; omega)) ?_
  repeat refine ok_seq ?_
  refine ok_block ?_
  repeat refine ok_seq ?_
  refine ok_own 4 3 .i rfl ?_
  refine ok_loop (σ := Nat) (fun i => [(1, .ptr 0 0), (4, .orow 2), (7, .d .ints l), (8, .d .i (l.length : Int)), (9, .d .i (i : Int))]) (fun i => [.cells [.mrow 1], .mrow 3 .i s, .orow 3 .i ((l.take i).map fun k => gi s k - 1)]) (fun i => i ≤ l.length) (fun i => l.length - i) 0 (by simp) ?_ ?_
  · constructor <;> simp [EntF, EntH, EntB, Conv, ConvL, scop, scopL]
  rintro i hi
  repeat refine ok_seq ?_
  refine ok_reg E [1, 4, 7, 8, 9, 10] [] (by simp [-Option.some.injEq, -Prod.mk.injEq]; rfl) (by first | trivial | omega | simp | (simp; omega)) ?_
  repeat refine ok_seq ?_
  refine ok_if rfl (fun c1 => ?_) (fun c1 => ?_)
  · try simp at c1
    all_goals
      have hq := hk _ (gi_mem c1)
      have w2 : max (gi l i) 0 = gi l i := by omega
      have hx : gi s (gi l i) ∈ s := by obtain ⟨j, hj, e1, e2⟩ := gi_nat hq; rw [e2]; exact List.getElem_mem _
      have hb := hs _ hx
      have w1 : IntKind.i64.wrap (gi s (gi l i) - 1) = gi s (gi l i) - 1 := wrap_i64 (by omega) (by omega)
      have e1 := mapT_step (f := fun k => gi s k - 1) c1
      refine ok_skip ?_
      repeat refine ok_seq ?_
      refine ok_block ?_
      repeat refine ok_seq ?_
      refine ok_reg E [1, 4, 6, 7, 8, 9] [] (by simp [-Option.some.injEq, -Prod.mk.injEq]; rfl) (by first | trivial | omega | simp | (simp; omega)) ?_
      repeat refine ok_seq ?_
      refine ok_reg E [1, 4, 7, 8, 9] [] (by simp [w1, w2, -Option.some.injEq, -Prod.mk.injEq]; rfl) (by simp [big]; omega) ?_
      repeat refine ok_seq ?_
      refine ok_reg E [1, 4, 7, 8, 9] [] (by simp [-Option.some.injEq, -Prod.mk.injEq]; rfl) (by first | trivial | omega | simp | (simp; omega)) ?_
      -- end01
      exact ⟨i + 1, by omega, by omega, by constructor <;> simp (disch := omega) [EntF, EntH, EntB, Conv, ConvL, scop, scopL, wrap_i64, e1]⟩
  · try simp at c1
    all_goals
      have e2 : (l.map fun k => gi s k - 1).take i = l.map fun k => gi s k - 1 := List.take_of_length_le (by simpa using c1)
      refine ok_exit ?_
      repeat refine ok_seq ?_
      refine ok_reg E [3] [] (by simp [-Option.some.injEq, -Prod.mk.injEq]; rfl) (by first | trivial | omega | simp | (simp; omega)) ?_
      refine ok_ret ⟨.inr rfl, ?_⟩
      -- ret1
      simp [e2]

theorem gr_memI {l : List Rule} {i : Int} (h : 0 ≤ i ∧ i < l.length) : gr l i ∈ l := by
  have h1 : i.toNat < l.length := by omega
  rw [show i = ((i.toNat : Nat) : Int) by omega, gr_lt h1]; exact List.getElem_mem _
/-- The marks are 0 and 1. -/
def Small01 (s : List Int) : Prop := ∀ x ∈ s, 0 ≤ x ∧ x ≤ 1
theorem small_set {s : List Int} (h : Small01 s) (n : Nat) : Small01 (s.set n 1) := fun x hx => by
  rcases List.mem_or_eq_of_mem_set hx with h1 | rfl
  · exact h x h1
  · omega
theorem small_mark (g : Prg) : ∀ (f : Nat) (n : Int) (s : List Int), Small01 s → Small01 (markF g f n s)
  | 0, _, _, h => h
  | f + 1, n, s, h => by
    simp only [markF]
    split
    · exact h
    · suffices h2 : ∀ (is : List Int) (t : List Int), Small01 t → Small01 (is.foldl (fun s i => ((gr g.rules i).pos ++ (gr g.rules i).neg).foldl (fun s k => markF g f k s) s) t) from h2 _ _ (small_set h _)
      intro is
      induction is with
      | nil => intro t ht; exact ht
      | cons i is ih =>
        intro t ht
        refine ih _ ?_
        suffices h3 : ∀ (ks : List Int) (u : List Int), Small01 u → Small01 (ks.foldl (fun s k => markF g f k s) u) from h3 _ _ ht
        intro ks
        induction ks with
        | nil => intro u hu; exact hu
        | cons k ks ihk => intro u hu; exact ihk _ (small_mark g f k u hu)
/-- The marks behind some rules; behind some of their literals. -/
def mkR (g : Prg) (f : Nat) (is : List Int) (s : List Int) : List Int := is.foldl (fun s i => ((gr g.rules i).pos ++ (gr g.rules i).neg).foldl (fun s k => markF g f k s) s) s
def mkL (g : Prg) (f : Nat) (ks : List Int) (s : List Int) : List Int := ks.foldl (fun s k => markF g f k s) s
theorem mkR_step {g : Prg} {f : Nat} {is s : List Int} {i : Nat} (h : i < is.length) : mkR g f (is.take (i + 1)) s = mkL g f ((gr g.rules (gi is i)).pos ++ (gr g.rules (gi is i)).neg) (mkR g f (is.take i) s) := by
  rw [mkR, List.take_succ_eq_append_getElem h, List.foldl_append, gi_lt h]; rfl
theorem mkL_step {g : Prg} {f : Nat} {ks s : List Int} {k : Nat} (h : k < ks.length) : mkL g f (ks.take (k + 1)) s = markF g f (gi ks k) (mkL g f (ks.take k) s) := by
  rw [mkL, List.take_succ_eq_append_getElem h, List.foldl_append, gi_lt h]; rfl
theorem markF_succ {g : Prg} {f : Nat} {n : Int} {s : List Int} (h : ¬ 0 < gi s n) : markF g (f + 1) n s = mkR g f (ofR g.rules n g.rules.length) (s.set n.toNat 1) := by rw [markF, if_neg h]; rfl

set_option maxRecDepth 8000 in
set_option maxHeartbeats 4000000 in
theorem mark_step_ctr (g : Prg) (hr : RightP g) (hN : g.atoms.length ≤ 1000) (hR : g.rules.length ≤ 1000) (f : Nat) (n : Int) (s : List Int) (hl : s.length = g.atoms.length) (hn : InP g n) (hz : zerosN s ≤ f + 1) (ih : ¬ 0 < gi s n → ∀ (n2 : Int) (s2 : List Int), s2.length = g.atoms.length → InP g n2 → zerosN s2 ≤ f → Ctr Tryz.prog 103 [.d .i n2, .ptr 0 0, .ptr 1 0, .ptr 2 0] [.cells [.mrow 3], .cells [.d .terms g.atoms, .d (.sl .rule) g.rules], .cells [.fn 103 [(0, 0), (1, 0), (2, 0)]], .mrow 3 .i s2] (.tup []) [.cells [.mrow 3], .cells [.d .terms g.atoms, .d (.sl .rule) g.rules], .cells [.fn 103 [(0, 0), (1, 0), (2, 0)]], .mrow 3 .i (markF g f n2 s2)]) : Ctr Tryz.prog 103 [.d .i n, .ptr 0 0, .ptr 1 0, .ptr 2 0] [.cells [.mrow 3], .cells [.d .terms g.atoms, .d (.sl .rule) g.rules], .cells [.fn 103 [(0, 0), (1, 0), (2, 0)]], .mrow 3 .i s] (.tup []) [.cells [.mrow 3], .cells [.d .terms g.atoms, .d (.sl .rule) g.rules], .cells [.fn 103 [(0, 0), (1, 0), (2, 0)]], .mrow 3 .i (markF g (f + 1) n s)] := by
  refine ctr_full E Tryz.func103 rfl Tryz.ntmps103 Tryz.results103 (Nat.le_of_ble_eq_true rfl) 4 rfl rfl (by simp) (by simp) rfl ?_
  have hn1 := hn.1
  have hn2 := hn.2
  have w9 : max n 0 = n := by omega
  repeat refine ok_seq ?_
  refine ok_reg E [0, 1, 2, 3, 13] [] (by simp [w9, -Option.some.injEq, -Prod.mk.injEq]; rfl) (by first | trivial | omega | simp | (simp; omega)) ?_
  repeat refine ok_seq ?_
  refine ok_if rfl (fun c1 => ?_) (fun c1 => ?_)
  · try simp at c1
    all_goals
      skip
      refine ok_ret ⟨.inr rfl, ?_⟩
      -- ret1
      simp [markF, c1]
  · try simp at c1
    all_goals
      have hz2 := zeros_set (s := s) (n := n) (by omega) (show ¬ 0 < gi s n by omega)
      have hk1 := ofR_ctr g n hR
      have hm : ∀ i ∈ (ofR g.rules n g.rules.length), 0 ≤ i ∧ i < g.rules.length := fun i hi => by obtain ⟨k, h1, rfl, _⟩ := mem_ofR.1 hi; omega
      have hms : ∀ j : Nat, MarkOk g (s.set n.toNat 1) (mkR g f ((ofR g.rules n g.rules.length).take j) (s.set n.toNat 1)) _ := fun j => (fold_rules hr (mark_all hr f) ((ofR g.rules n g.rules.length).take j) (s.set n.toNat 1) (by simpa using hl) (fun i hi => hm i (List.mem_of_mem_take hi)) (by omega)).1
      have hil := ofR_len g.rules n g.rules.length
      refine ok_skip ?_
      repeat refine ok_seq ?_
      refine ok_reg E [0, 2, 3] [] (by simp [w9, -Option.some.injEq, -Prod.mk.injEq]; rfl) (by first | trivial | omega | simp | (simp; omega)) ?_
      repeat refine ok_seq ?_
      refine ok_reg E [2, 3, 19, 20, 21] [.pure (.d .ints (ofR g.rules n g.rules.length))] (by simp [-Option.some.injEq, -Prod.mk.injEq]; rfl) (by (try simp at hk1); simp [hk1]) ?_
      repeat refine ok_seq ?_
      refine ok_block ?_
      repeat refine ok_seq ?_
      refine ok_loop (σ := Nat) (fun i => [(2, .ptr 1 0), (3, .ptr 2 0), (19, .d .ints (ofR g.rules n g.rules.length)), (20, .d .i ((ofR g.rules n g.rules.length).length : Int)), (21, .d .i (i : Int))]) (fun i => [.cells [.mrow 3], .cells [.d .terms g.atoms, .d (.sl .rule) g.rules], .cells [.fn 103 [(0, 0), (1, 0), (2, 0)]], .mrow 3 .i (mkR g f ((ofR g.rules n g.rules.length).take i) (s.set n.toNat 1))]) (fun i => i ≤ (ofR g.rules n g.rules.length).length) (fun i => (ofR g.rules n g.rules.length).length - i) 0 (by simp) ?_ ?_
      · constructor <;> simp [EntF, EntH, EntB, Conv, ConvL, scop, scopL, mkR]
      rintro i hi
      repeat refine ok_seq ?_
      refine ok_reg E [2, 3, 19, 20, 21, 22] [] (by simp [-Option.some.injEq, -Prod.mk.injEq]; rfl) (by first | trivial | omega | simp | (simp; omega)) ?_
      repeat refine ok_seq ?_
      refine ok_if rfl (fun c2 => ?_) (fun c2 => ?_)
      · try simp at c2
        all_goals
          have hg := hm _ (gi_mem c2)
          have hgm : (gr g.rules (gi (ofR g.rules n g.rules.length) i)) ∈ g.rules := gr_memI hg
          have w8 : max (gi (ofR g.rules n g.rules.length) i) 0 = gi (ofR g.rules n g.rules.length) i := by omega
          have hpl := setOk_len (hr.pos _ hgm)
          have hnl := setOk_len (hr.neg _ hgm)
          have hcc := concatI_ctr [(gr g.rules (gi (ofR g.rules n g.rules.length) i)).pos, (gr g.rules (gi (ofR g.rules n g.rules.length) i)).neg] (by simp; omega) (by simp)
          have hkin : ∀ k ∈ ((gr g.rules (gi (ofR g.rules n g.rules.length) i)).pos ++ (gr g.rules (gi (ofR g.rules n g.rules.length) i)).neg), InP g k := fun k hk => Succ.inP hr (n := (gr g.rules (gi (ofR g.rules n g.rules.length) i)).head) ⟨_, hgm, rfl, List.mem_append.1 hk⟩
          have hsl : (mkR g f ((ofR g.rules n g.rules.length).take i) (s.set n.toNat 1)).length = g.atoms.length := by rw [(hms i).len]; simpa using hl
          have hsz : zerosN (mkR g f ((ofR g.rules n g.rules.length).take i) (s.set n.toNat 1)) ≤ f := Nat.le_trans (hms i).zer (by omega)
          have hks := fun j : Nat => (fold_mark hr (mark_all hr f) (((gr g.rules (gi (ofR g.rules n g.rules.length) i)).pos ++ (gr g.rules (gi (ofR g.rules n g.rules.length) i)).neg).take j) (mkR g f ((ofR g.rules n g.rules.length).take i) (s.set n.toNat 1)) hsl (fun k hk => hkin k (List.mem_of_mem_take hk)) hsz).1
          refine ok_skip ?_
          repeat refine ok_seq ?_
          refine ok_block ?_
          repeat refine ok_seq ?_
          refine ok_reg E [2, 3, 6, 19, 20, 21] [] (by simp [w8, -Option.some.injEq, -Prod.mk.injEq]; rfl) (by first | trivial | omega | simp | (simp; omega)) ?_
          repeat refine ok_seq ?_
          refine ok_dr E rfl [2, 3, 19, 20, 21, 38, 39, 40] 16 [.pure (.d .ints ((gr g.rules (gi (ofR g.rules n g.rules.length) i)).pos ++ (gr g.rules (gi (ofR g.rules n g.rules.length) i)).neg))] (by decide) (by simp [nodupF]) (by simp [w8, -Option.some.injEq, -Prod.mk.injEq]; rfl) (by (try simp at hcc); simp [hcc]; try omega) ?_
          repeat refine ok_seq ?_
          refine ok_block ?_
          repeat refine ok_seq ?_
          refine ok_loop (σ := Nat) (fun k => [(2, .ptr 1 0), (3, .ptr 2 0), (19, .d .ints (ofR g.rules n g.rules.length)), (20, .d .i ((ofR g.rules n g.rules.length).length : Int)), (21, .d .i (i : Int)), (38, .d .ints ((gr g.rules (gi (ofR g.rules n g.rules.length) i)).pos ++ (gr g.rules (gi (ofR g.rules n g.rules.length) i)).neg)), (39, .d .i (((gr g.rules (gi (ofR g.rules n g.rules.length) i)).pos ++ (gr g.rules (gi (ofR g.rules n g.rules.length) i)).neg).length : Int)), (40, .d .i (k : Int))]) (fun k => [.cells [.mrow 3], .cells [.d .terms g.atoms, .d (.sl .rule) g.rules], .cells [.fn 103 [(0, 0), (1, 0), (2, 0)]], .mrow 3 .i (mkL g f (((gr g.rules (gi (ofR g.rules n g.rules.length) i)).pos ++ (gr g.rules (gi (ofR g.rules n g.rules.length) i)).neg).take k) (mkR g f ((ofR g.rules n g.rules.length).take i) (s.set n.toNat 1)))]) (fun k => k ≤ ((gr g.rules (gi (ofR g.rules n g.rules.length) i)).pos ++ (gr g.rules (gi (ofR g.rules n g.rules.length) i)).neg).length) (fun k => ((gr g.rules (gi (ofR g.rules n g.rules.length) i)).pos ++ (gr g.rules (gi (ofR g.rules n g.rules.length) i)).neg).length - k) 0 (by simp) ?_ ?_
          · constructor <;> simp [EntF, EntH, EntB, Conv, ConvL, scop, scopL, mkL]
          rintro k hk
          repeat refine ok_seq ?_
          refine ok_reg E [2, 3, 19, 20, 21, 38, 39, 40, 41] [] (by simp [-Option.some.injEq, -Prod.mk.injEq]; rfl) (by first | trivial | omega | simp | (simp; omega)) ?_
          repeat refine ok_seq ?_
          refine ok_if rfl (fun c3 => ?_) (fun c3 => ?_)
          · try simp at c3
            all_goals
              have c3b : k < ((gr g.rules (gi (ofR g.rules n g.rules.length) i)).pos ++ (gr g.rules (gi (ofR g.rules n g.rules.length) i)).neg).length := by rw [List.length_append]; omega
              have hkk := hkin _ (gi_mem c3b)
              have w7 : max (gi ((gr g.rules (gi (ofR g.rules n g.rules.length) i)).pos ++ (gr g.rules (gi (ofR g.rules n g.rules.length) i)).neg) k) 0 = gi ((gr g.rules (gi (ofR g.rules n g.rules.length) i)).pos ++ (gr g.rules (gi (ofR g.rules n g.rules.length) i)).neg) k := by have := hkk.1; omega
              have htl : (mkL g f (((gr g.rules (gi (ofR g.rules n g.rules.length) i)).pos ++ (gr g.rules (gi (ofR g.rules n g.rules.length) i)).neg).take k) (mkR g f ((ofR g.rules n g.rules.length).take i) (s.set n.toNat 1))).length = g.atoms.length := (hks k).len.trans hsl
              have htz : zerosN (mkL g f (((gr g.rules (gi (ofR g.rules n g.rules.length) i)).pos ++ (gr g.rules (gi (ofR g.rules n g.rules.length) i)).neg).take k) (mkR g f ((ofR g.rules n g.rules.length).take i) (s.set n.toNat 1))) ≤ f := Nat.le_trans (hks k).zer hsz
              refine ok_skip ?_
              repeat refine ok_seq ?_
              refine ok_block ?_
              repeat refine ok_seq ?_
              refine ok_reg E [2, 3, 8, 19, 20, 21, 38, 39, 40] [] (by simp [-Option.some.injEq, -Prod.mk.injEq]; rfl) (by first | trivial | omega | simp | (simp; omega)) ?_
              repeat refine ok_seq ?_
              refine ok_reg E [2, 3, 19, 20, 21, 38, 39, 40] [.full [0, 1, 2, 3] [.d .i (gi ((gr g.rules (gi (ofR g.rules n g.rules.length) i)).pos ++ (gr g.rules (gi (ofR g.rules n g.rules.length) i)).neg) k), .ptr 0 0, .ptr 1 0, .ptr 2 0] [.cells [.mrow 3], .cells [.d .terms g.atoms, .d (.sl .rule) g.rules], .cells [.fn 103 [(0, 0), (1, 0), (2, 0)]], .mrow 3 .i (mkL g f (((gr g.rules (gi (ofR g.rules n g.rules.length) i)).pos ++ (gr g.rules (gi (ofR g.rules n g.rules.length) i)).neg).take k) (mkR g f ((ofR g.rules n g.rules.length).take i) (s.set n.toNat 1)))] (.tup []) [.cells [.mrow 3], .cells [.d .terms g.atoms, .d (.sl .rule) g.rules], .cells [.fn 103 [(0, 0), (1, 0), (2, 0)]], .mrow 3 .i (markF g f (gi ((gr g.rules (gi (ofR g.rules n g.rules.length) i)).pos ++ (gr g.rules (gi (ofR g.rules n g.rules.length) i)).neg) k) (mkL g f (((gr g.rules (gi (ofR g.rules n g.rules.length) i)).pos ++ (gr g.rules (gi (ofR g.rules n g.rules.length) i)).neg).take k) (mkR g f ((ofR g.rules n g.rules.length).take i) (s.set n.toNat 1))))]] (by simp [w7, -Option.some.injEq, -Prod.mk.injEq]; rfl) (by (have k1 := ih (by omega) (gi ((gr g.rules (gi (ofR g.rules n g.rules.length) i)).pos ++ (gr g.rules (gi (ofR g.rules n g.rules.length) i)).neg) k) (mkL g f (((gr g.rules (gi (ofR g.rules n g.rules.length) i)).pos ++ (gr g.rules (gi (ofR g.rules n g.rules.length) i)).neg).take k) (mkR g f ((ofR g.rules n g.rules.length).take i) (s.set n.toNat 1))) htl hkk htz; (try simp at k1); simp [k1]; exact Takes.of (by decide) (by simp))) ?_
              repeat refine ok_seq ?_
              refine ok_reg E [2, 3, 19, 20, 21, 38, 39, 40] [] (by simp [-Option.some.injEq, -Prod.mk.injEq]; rfl) (by first | trivial | omega | simp | (simp; omega)) ?_
              -- end21
              have e1 := mkL_step (g := g) (f := f) (s := (mkR g f ((ofR g.rules n g.rules.length).take i) (s.set n.toNat 1))) c3b
              exact ⟨k + 1, by omega, by omega, by constructor <;> simp (disch := omega) [EntF, EntH, EntB, Conv, ConvL, scop, scopL, wrap_i64, e1]⟩
          · try simp at c3
            all_goals
              have c3b : ((gr g.rules (gi (ofR g.rules n g.rules.length) i)).pos ++ (gr g.rules (gi (ofR g.rules n g.rules.length) i)).neg).length ≤ k := by rw [List.length_append]; omega
              refine ok_exit ?_
              repeat refine ok_seq ?_
              refine ok_reg E [2, 3, 19, 20, 21] [] (by simp [-Option.some.injEq, -Prod.mk.injEq]; rfl) (by first | trivial | omega | simp | (simp; omega)) ?_
              -- end01
              have e2 : ((gr g.rules (gi (ofR g.rules n g.rules.length) i)).pos ++ (gr g.rules (gi (ofR g.rules n g.rules.length) i)).neg).take k = ((gr g.rules (gi (ofR g.rules n g.rules.length) i)).pos ++ (gr g.rules (gi (ofR g.rules n g.rules.length) i)).neg) := List.take_of_length_le c3b
              have e1 := mkR_step (g := g) (f := f) (s := (s.set n.toNat 1)) c2
              exact ⟨i + 1, by omega, by omega, by constructor <;> simp (disch := omega) [EntF, EntH, EntB, Conv, ConvL, scop, scopL, wrap_i64, e1, e2]⟩
      · try simp at c2
        all_goals
          skip
          refine ok_exit ?_
          refine ⟨.inl rfl, ?_⟩
          -- ret2
          have e2 : (ofR g.rules n g.rules.length).take i = (ofR g.rules n g.rules.length) := List.take_of_length_le c2
          have e1 := markF_succ (g := g) (f := f) (n := n) (s := s) (by omega)
          simp [e1, e2]

end Go.Proofs.YtgapiecbinplfaaGreat
/- Walks: package ground: what is cut. Printed by walk.py from annotations. -/
namespace Go.Proofs.YtgapiecbinplfaaGreat
open Go.RowKit


theorem mark_ctr (g : Prg) (hr : RightP g) (hN : g.atoms.length ≤ 1000) (hR : g.rules.length ≤ 1000) : ∀ (f : Nat) (n : Int) (s : List Int), s.length = g.atoms.length → InP g n → zerosN s ≤ f →
    Ctr Tryz.prog 103 [.d .i n, .ptr 0 0, .ptr 1 0, .ptr 2 0] [.cells [.mrow 3], .cells [.d .terms g.atoms, .d (.sl .rule) g.rules], .cells [.fn 103 [(0, 0), (1, 0), (2, 0)]], .mrow 3 .i s] (.tup []) [.cells [.mrow 3], .cells [.d .terms g.atoms, .d (.sl .rule) g.rules], .cells [.fn 103 [(0, 0), (1, 0), (2, 0)]], .mrow 3 .i (markF g f n s)]
  | 0, n, s, hl, hn, hz => by
    have hm : 0 < gi s n := Classical.byContradiction fun h => by
      have := zeros_set (s := s) (n := n) (by rw [hl]; exact hn) h
      omega
    have h := mark_step_ctr g hr hN hR 0 n s hl hn (by omega) (fun h => absurd hm h)
    have e : markF g (0 + 1) n s = markF g 0 n s := by simp only [markF]; rw [if_pos hm]
    rwa [e] at h
  | f + 1, n, s, hl, hn, hz => mark_step_ctr g hr hN hR f n s hl hn hz (fun _ n2 s2 h1 h2 h3 => mark_ctr g hr hN hR f n2 s2 h1 h2 h3)

theorem markedL_append : ∀ (a b : List Int) (i : Nat), markedL (a ++ b) i = markedL a i ++ markedL b (i + a.length)
  | [], b, i => by simp [markedL]
  | x :: a, b, i => by
    have ih := markedL_append a b (i + 1)
    have e : i + 1 + a.length = i + (a.length + 1) := by omega
    simp only [List.cons_append, markedL, ih, List.length_cons, e]
    split <;> simp
theorem markedL_len : ∀ (a : List Int) (i j : Nat), (markedL a i).length = (markedL a j).length
  | [], _, _ => rfl
  | x :: a, i, j => by
    simp only [markedL]
    have := markedL_len a (i + 1) (j + 1)
    split <;> simp [this]
theorem markedL_le : ∀ (a : List Int) (i : Nat), (markedL a i).length ≤ a.length
  | [], _ => by simp [markedL]
  | x :: a, i => by
    have := markedL_le a (i + 1)
    simp only [markedL]; split <;> simp <;> omega
theorem markedL_step {m : List Int} {i : Nat} (h : i < m.length) : markedL (m.take (i + 1)) 0 = markedL (m.take i) 0 ++ (if 0 < gi m i then [(i : Int)] else []) := by
  rw [List.take_succ_eq_append_getElem h, markedL_append, gi_lt h, List.length_take]
  congr 1
  simp only [markedL, show 0 + min i m.length = i by omega]
theorem numF_val : ∀ (s : List Int) (c : Int) (j : Nat) (h : j < s.length), (numF s c)[j]'(by rw [numF_len]; exact h) = if 0 < s[j] then c + (markedL (s.take j) 0).length + 1 else s[j]
  | x :: xs, c, 0, _ => by
    simp only [numF]
    split <;> rename_i h <;> simp [h, markedL]
  | x :: xs, c, j + 1, hj => by
    have hj' : j < xs.length := by simpa using hj
    have ih := fun c => numF_val xs c j hj'
    have hlen := markedL_len (xs.take j) 1 0
    by_cases hx : 0 < x
    · have e2 : numF (x :: xs) c = (c + 1) :: numF xs (c + 1) := by rw [numF, if_pos hx]
      simp only [e2, List.getElem_cons_succ, ih, List.take_succ_cons, markedL, hx, if_true, List.length_cons, Nat.zero_add, hlen]
      split <;> omega
    · have e2 : numF (x :: xs) c = x :: numF xs c := by rw [numF, if_neg hx]
      simp only [e2, List.getElem_cons_succ, ih, List.take_succ_cons, markedL, hx, if_false, Nat.zero_add, hlen]
/-- The numbers, some of which are new ones already. -/
def nuT (m : List Int) (i : Nat) : List Int := (numF m 0).take i ++ m.drop i
theorem nuT_len {m : List Int} {i : Nat} (h : i ≤ m.length) : (nuT m i).length = m.length := by
  simp only [nuT, List.length_append, List.length_take, List.length_drop, numF_len]; omega
theorem nuT_get {m : List Int} {i : Nat} (h : i < m.length) : gi (nuT m i) i = gi m i := by
  have h1 : i < (nuT m i).length := by rw [nuT_len (by omega)]; exact h
  rw [gi_lt h1, gi_lt h]
  simp only [nuT]
  rw [List.getElem_append_right (by simp [numF_len]; omega)]
  simp [numF_len, show i - min i m.length = 0 by omega]
theorem nuT_step {m : List Int} {i : Nat} (h : i < m.length) : nuT m (i + 1) = if 0 < gi m i then (nuT m i).set i (((markedL (m.take i) 0).length : Int) + 1) else nuT m i := by
  have hn : i < (numF m 0).length := by rw [numF_len]; exact h
  have e1 : (numF m 0).take (i + 1) = (numF m 0).take i ++ [(numF m 0)[i]] := List.take_succ_eq_append_getElem hn
  have e2 : m.drop i = m[i] :: m.drop (i + 1) := List.drop_eq_getElem_cons h
  have hl : ((numF m 0).take i).length = i := by rw [List.length_take, numF_len]; omega
  have e3 := numF_val m 0 i h
  rw [gi_lt h]
  simp only [nuT, e1, e3, e2]
  split
  · rw [List.set_append_right _ _ (by omega), hl, Nat.sub_self, List.set_cons_zero, List.append_assoc, List.singleton_append, Int.zero_add]
  · rw [List.append_assoc, List.singleton_append]
theorem nuT_all {m : List Int} : nuT m m.length = numF m 0 := by simp [nuT, numF_len, List.take_of_length_le]
theorem numF_small {m : List Int} (hs : Small01 m) (hl : m.length ≤ 1000) : ∀ x ∈ numF m 0, -1000000 ≤ x ∧ x ≤ 1000000 := fun x hx => by
  obtain ⟨j, hj, rfl⟩ := List.getElem_of_mem hx
  have hj' : j < m.length := by rw [numF_len] at hj; exact hj
  rw [numF_val m 0 j hj']
  have h1 := markedL_le (m.take j) 0
  have h2 : (m.take j).length ≤ j := List.length_take_le _ _
  have h3 := hs _ (List.getElem_mem hj')
  split <;> omega
theorem small_marks (g : Prg) (n : Int) : Small01 (marksG g n) := small_mark g _ _ _ fun x hx => by
  rw [List.eq_of_mem_replicate hx]; omega

set_option maxRecDepth 8000 in
set_option maxHeartbeats 4000000 in
theorem cutG_ctr (g : Prg) (n : Int) (hr : RightP g) (hN : g.atoms.length ≤ 1000) (hR : g.rules.length ≤ 1000) : Ctr Tryz.prog 33 [pav g, .d .i n] [] (pav (cutG g n)) [] := by
  refine ctr_pure E Tryz.func33 rfl Tryz.ntmps33 Tryz.results33 (Nat.le_of_ble_eq_true rfl) rfl ?_
  simp only [pav]
  repeat refine ok_seq ?_
  refine ok_reg E [1, 2, 4] [] (by simp [-Option.some.injEq, -Prod.mk.injEq]; rfl) (by first | trivial | omega | simp | (simp; omega)) ?_
  repeat refine ok_seq ?_
  refine ok_regJ E [(21, .d .bool (decide (n < 0 ∨ (g.atoms.length : Int) ≤ n)))] [1, 2, 4] [1, 2, 4, 21] [] ?_ ?_
  · skip
    by_cases q0 : n < 0
    · refine ⟨_, _, _, by simp [q0, -Option.some.injEq, -Prod.mk.injEq]; rfl, (by first | trivial | omega | simp | (simp; omega)), by constructor <;> simp [EntF, EntH, EntB, Conv, scop, q0] <;> first | omega | (rw [Bool.eq_iff_iff]; simp; omega)⟩
    refine ⟨_, _, _, by simp [q0, -Option.some.injEq, -Prod.mk.injEq]; rfl, (by first | trivial | omega | simp | (simp; omega)), by constructor <;> simp [EntF, EntH, EntB, Conv, scop, q0] <;> first | omega | (rw [Bool.eq_iff_iff]; simp; omega)⟩
  repeat refine ok_seq ?_
  refine ok_if rfl (fun c1 => ?_) (fun c1 => ?_)
  · try simp at c1
    all_goals
      skip
      repeat refine ok_seq ?_
      refine ok_reg E [4] [] (by simp [-Option.some.injEq, -Prod.mk.injEq]; rfl) (by first | trivial | omega | simp | (simp; omega)) ?_
      refine ok_ent (ρ1 := [(4, .ptr 1 0)]) (H1 := [.dead, .cells [.d .terms [], .d (.sl .rule) []]]) (by constructor <;> simp [EntF, EntH, EntB, Conv, ConvL, scop, scopL]) ?_
      refine ok_ret ⟨.inr rfl, ?_⟩
      -- ret1
      simp [cutG, c1]
  · try simp at c1
    all_goals
      have hi : InP g n := ⟨c1.1, c1.2⟩
      have hml := (marks_all hr hi).1
      have hsm := small_marks g n
      have hnb := numF_small hsm (by omega)
      have hnl : (numF (marksG g n) 0).length = g.atoms.length := by rw [numF_len]; exact hml
      have hmk := mark_ctr g hr hN hR (g.atoms.length + 1) n (List.replicate g.atoms.length 0) (by simp) hi (by have := List.countP_le_length (p := fun x : Int => decide (x ≤ 0)) (l := List.replicate g.atoms.length (0 : Int)); rw [List.length_replicate] at this; exact Nat.le_succ_of_le this)
      refine ok_skip ?_
      repeat refine ok_seq ?_
      refine ok_reg E [1, 2, 4, 5] [] (by simp [-Option.some.injEq, -Prod.mk.injEq]; rfl) (by simp [big]; omega) ?_
      repeat refine ok_seq ?_
      refine ok_reg E [1, 2, 4, 5, 6] [] (by simp [-Option.some.injEq, -Prod.mk.injEq]; rfl) (by first | trivial | omega | simp | (simp; omega)) ?_
      repeat refine ok_seq ?_
      refine ok_reg E [1, 2, 4, 5, 6] [] (by simp [-Option.some.injEq, -Prod.mk.injEq]; rfl) (by first | trivial | omega | simp | (simp; omega)) ?_
      repeat refine ok_seq ?_
      refine ok_reg E [2, 4, 5] [.full [3, 0, 4, 2] [.d .i n, .ptr 0 0, .ptr 1 0, .ptr 2 0] [.cells [.mrow 3], .cells [.d .terms g.atoms, .d (.sl .rule) g.rules], .cells [.fn 103 [(0, 0), (1, 0), (2, 0)]], .mrow 3 .i (List.replicate g.atoms.length 0)] (.tup []) [.cells [.mrow 3], .cells [.d .terms g.atoms, .d (.sl .rule) g.rules], .cells [.fn 103 [(0, 0), (1, 0), (2, 0)]], .mrow 3 .i (markF g (g.atoms.length + 1) n (List.replicate g.atoms.length 0))]] (by simp [-Option.some.injEq, -Prod.mk.injEq]; rfl) (by ((try simp at hmk); simp [hmk]; exact Takes.of (by decide) (by simp))) ?_
      repeat refine ok_seq ?_
      refine ok_reg E [2, 4, 5, 7] [] (by simp [-Option.some.injEq, -Prod.mk.injEq]; rfl) (by first | trivial | omega | simp | (simp; omega)) ?_
      repeat refine ok_seq ?_
      refine ok_reg E [2, 4, 5, 7, 31, 32, 33] [] (by simp [-Option.some.injEq, -Prod.mk.injEq]; rfl) (by first | trivial | omega | simp | (simp; omega)) ?_
      repeat refine ok_seq ?_
      refine ok_block ?_
      repeat refine ok_seq ?_
      refine ok_ownC 5 0 36 .term rfl rfl ?_
      have em : markF g (g.atoms.length + 1) n (List.replicate g.atoms.length 0) = (marksG g n) := rfl
      refine ok_loop (σ := Nat) (fun i => [(2, .ptr 0 0), (4, .ptr 1 0), (5, .ptr 3 0), (7, .ptr 5 0), (31, .mrow 2), (32, .d .i (g.atoms.length : Int)), (33, .d .i (i : Int))]) (fun i => [.cells [.d .terms g.atoms, .d (.sl .rule) g.rules], .cells [.nilsl, .nilsl], .mrow 3 .i (nuT (marksG g n) i), .cells [.mrow 2], .dead, .cells [.orow 6, .nilsl], .orow 36 .term ((markedL ((marksG g n).take i) 0).map (gt g.atoms))]) (fun i => i ≤ g.atoms.length) (fun i => g.atoms.length - i) 0 (by simp) ?_ ?_
      · constructor <;> simp [EntF, EntH, EntB, Conv, ConvL, scop, scopL, em, nuT, markedL, hml]
      rintro i hi0
      repeat refine ok_seq ?_
      refine ok_reg E [2, 4, 5, 7, 31, 32, 33, 34] [] (by simp [-Option.some.injEq, -Prod.mk.injEq]; rfl) (by first | trivial | omega | simp | (simp; omega)) ?_
      repeat refine ok_seq ?_
      refine ok_if rfl (fun c2 => ?_) (fun c2 => ?_)
      · try simp at c2
        all_goals
          have hnt := nuT_len (m := (marksG g n)) (i := i) (by omega)
          have w3 := nuT_get (m := (marksG g n)) (i := i) (by omega)
          have e1 := markedL_step (m := (marksG g n)) (i := i) (by omega)
          have e2 := nuT_step (m := (marksG g n)) (i := i) (by omega)
          have hle := markedL_le ((marksG g n).take i) 0
          have hle2 : ((marksG g n).take i).length ≤ i := List.length_take_le _ _
          refine ok_skip ?_
          repeat refine ok_seq ?_
          refine ok_block ?_
          repeat refine ok_seq ?_
          refine ok_reg E [2, 4, 5, 7, 8, 9, 31, 32, 33] [] (by simp [w3, -Option.some.injEq, -Prod.mk.injEq]; rfl) (by first | omega | (simp [hnt]; omega)) ?_
          repeat refine ok_seq ?_
          refine ok_reg E [2, 4, 5, 7, 8, 31, 32, 33, 39] [] (by simp [-Option.some.injEq, -Prod.mk.injEq]; rfl) (by first | trivial | omega | simp | (simp; omega)) ?_
          repeat refine ok_seq ?_
          refine ok_if rfl (fun c3 => ?_) (fun c3 => ?_)
          · try simp at c3
            all_goals
              repeat refine ok_seq ?_
              refine ok_dr E rfl [2, 4, 5, 7, 8, 31, 32, 33] 8 [] (by decide) (by simp [nodupF]) (by simp [-Option.some.injEq, -Prod.mk.injEq]; rfl) (by simp [big]; omega) ?_
              repeat refine ok_seq ?_
              refine ok_reg E [2, 4, 5, 7, 31, 32, 33] [] (by simp [hnt, -Option.some.injEq, -Prod.mk.injEq]; rfl) (by first | omega | (simp [hnt]; omega)) ?_
              repeat refine ok_seq ?_
              refine ok_reg E [2, 4, 5, 7, 31, 32, 33] [] (by simp [-Option.some.injEq, -Prod.mk.injEq]; rfl) (by first | trivial | omega | simp | (simp; omega)) ?_
              -- end01
              rw [if_pos c3] at e1 e2
              exact ⟨i + 1, by omega, by omega, by constructor <;> simp (disch := omega) [EntF, EntH, EntB, Conv, ConvL, scop, scopL, wrap_i64, e1, e2]⟩
          · try simp at c3
            all_goals
              refine ok_skip ?_
              repeat refine ok_seq ?_
              refine ok_reg E [2, 4, 5, 7, 31, 32, 33] [] (by simp [-Option.some.injEq, -Prod.mk.injEq]; rfl) (by first | trivial | omega | simp | (simp; omega)) ?_
              -- end02
              rw [if_neg (by omega)] at e1 e2
              exact ⟨i + 1, by omega, by omega, by constructor <;> simp (disch := omega) [EntF, EntH, EntB, Conv, ConvL, scop, scopL, wrap_i64, e1, e2]⟩
      · try simp at c2
        all_goals
          have e3 : nuT (marksG g n) i = (numF (marksG g n) 0) := by rw [show i = (marksG g n).length by omega]; exact nuT_all
          have e4 : (marksG g n).take i = (marksG g n) := List.take_of_length_le (by omega)
          refine ok_exit ?_
          repeat refine ok_seq ?_
          refine ok_reg E [2, 4, 5, 7, 10] [] (by simp [-Option.some.injEq, -Prod.mk.injEq]; rfl) (by first | trivial | omega | simp | (simp; omega)) ?_
          repeat refine ok_seq ?_
          refine ok_reg E [4, 5, 7, 10, 59, 60, 61] [] (by simp [-Option.some.injEq, -Prod.mk.injEq]; rfl) (by first | trivial | omega | simp | (simp; omega)) ?_
          repeat refine ok_seq ?_
          refine ok_block ?_
          repeat refine ok_seq ?_
          refine ok_ownC 5 1 55 .rule rfl rfl ?_
          refine ok_loop (σ := Nat) (fun j => [(4, .ptr 1 0), (5, .ptr 3 0), (7, .ptr 5 0), (10, .fn 105 [(3, 0)]), (59, .d (.sl .rule) g.rules), (60, .d .i (g.rules.length : Int)), (61, .d .i (j : Int))]) (fun j => [.cells [.d .terms g.atoms, .d (.sl .rule) g.rules], .cells [.nilsl, .nilsl], .mrow 3 .i (numF (marksG g n) 0), .cells [.mrow 2], .dead, .cells [.orow 6, .orow 7], .orow 36 .term ((markedL (marksG g n) 0).map (gt g.atoms)), .orow 55 .rule (((g.rules.take j).filter fun r => decide (0 < gi (numF (marksG g n) 0) r.head)).map (cutRule (numF (marksG g n) 0)))]) (fun j => j ≤ g.rules.length) (fun j => g.rules.length - j) 0 (by simp) ?_ ?_
          · constructor <;> simp [EntF, EntH, EntB, Conv, ConvL, scop, scopL, e3, e4]
          rintro j hj
          repeat refine ok_seq ?_
          refine ok_reg E [4, 5, 7, 10, 59, 60, 61, 62] [] (by simp [-Option.some.injEq, -Prod.mk.injEq]; rfl) (by first | trivial | omega | simp | (simp; omega)) ?_
          repeat refine ok_seq ?_
          refine ok_if rfl (fun c4 => ?_) (fun c4 => ?_)
          · try simp at c4
            all_goals
              have hm := gr_mem c4
              have hh := hr.head _ hm
              have w5 : max (gr g.rules j).head 0 = (gr g.rules j).head := by omega
              have hpl := setOk_len (hr.pos _ hm)
              have hngl := setOk_len (hr.neg _ hm)
              have hf := filtR_len (fun r => decide (0 < gi (numF (marksG g n) 0) r.head)) g.rules j
              have hx : gi (numF (marksG g n) 0) (gr g.rules j).head ∈ (numF (marksG g n) 0) := by obtain ⟨q, hq, e1, e2⟩ := gi_nat (l := (numF (marksG g n) 0)) (k := (gr g.rules j).head) (by omega); rw [e2]; exact List.getElem_mem _
              have hxb := hnb _ hx
              have w6 : IntKind.i64.wrap (gi (numF (marksG g n) 0) (gr g.rules j).head - 1) = gi (numF (marksG g n) 0) (gr g.rules j).head - 1 := wrap_i64 (by omega) (by omega)
              have hap := anewG_ctr (numF (marksG g n) 0) (gr g.rules j).pos (fun k hk => by have := (setOk_iff.1 (hr.pos _ hm)).1 k hk; omega) hnb (by omega)
              have han := anewG_ctr (numF (marksG g n) 0) (gr g.rules j).neg (fun k hk => by have := (setOk_iff.1 (hr.neg _ hm)).1 k hk; omega) hnb (by omega)
              have e7 := filtR_step (p := fun r => decide (0 < gi (numF (marksG g n) 0) r.head)) (f := cutRule (numF (marksG g n) 0)) c4
              refine ok_skip ?_
              repeat refine ok_seq ?_
              refine ok_block ?_
              repeat refine ok_seq ?_
              refine ok_reg E [4, 5, 7, 10, 12, 59, 60, 61] [] (by simp [-Option.some.injEq, -Prod.mk.injEq]; rfl) (by first | trivial | omega | simp | (simp; omega)) ?_
              repeat refine ok_seq ?_
              refine ok_reg E [4, 5, 7, 10, 12, 59, 60, 61, 70] [] (by simp [w5, -Option.some.injEq, -Prod.mk.injEq]; rfl) (by first | omega | (simp [hnl]; omega)) ?_
              repeat refine ok_seq ?_
              refine ok_if rfl (fun c5 => ?_) (fun c5 => ?_)
              · try simp at c5
                all_goals
                  repeat refine ok_seq ?_
                  refine ok_dr E rfl [4, 5, 7, 10, 59, 60, 61] 18 [.full [3, 2] [.d .ints (gr g.rules j).pos, .ptr 0 0] [.cells [.mrow 1], .mrow 3 .i (numF (marksG g n) 0)] (.d .ints ((gr g.rules j).pos.map fun k => gi (numF (marksG g n) 0) k - 1)) [.cells [.mrow 1], .mrow 3 .i (numF (marksG g n) 0)], .full [3, 2] [.d .ints (gr g.rules j).neg, .ptr 0 0] [.cells [.mrow 1], .mrow 3 .i (numF (marksG g n) 0)] (.d .ints ((gr g.rules j).neg.map fun k => gi (numF (marksG g n) 0) k - 1)) [.cells [.mrow 1], .mrow 3 .i (numF (marksG g n) 0)]] (by decide) (by simp [nodupF]) (by simp [w5, w6, -Option.some.injEq, -Prod.mk.injEq]; rfl) (by ((try simp at hap han); simp [hap, han, hnl, big]; (try (repeat' apply And.intro)) <;> first | omega | exact Takes.of (by decide) (by simp))) ?_
                  repeat refine ok_seq ?_
                  refine ok_reg E [4, 5, 7, 10, 59, 60, 61] [] (by simp [-Option.some.injEq, -Prod.mk.injEq]; rfl) (by first | trivial | omega | simp | (simp; omega)) ?_
                  -- end21
                  rw [if_pos (by simpa using c5)] at e7
                  exact ⟨j + 1, by omega, by omega, by constructor <;> simp (disch := omega) [EntF, EntH, EntB, Conv, ConvL, scop, scopL, wrap_i64, e7, cutRule]⟩
              · try simp at c5
                all_goals
                  refine ok_skip ?_
                  repeat refine ok_seq ?_
                  refine ok_reg E [4, 5, 7, 10, 59, 60, 61] [] (by simp [-Option.some.injEq, -Prod.mk.injEq]; rfl) (by first | trivial | omega | simp | (simp; omega)) ?_
                  -- end22
                  rw [if_neg (by simp; omega), List.append_nil] at e7
                  exact ⟨j + 1, by omega, by omega, by constructor <;> simp (disch := omega) [EntF, EntH, EntB, Conv, ConvL, scop, scopL, wrap_i64, e7]⟩
          · try simp at c4
            all_goals
              skip
              refine ok_exit ?_
              repeat refine ok_seq ?_
              refine ok_reg E [4] [] (by simp [-Option.some.injEq, -Prod.mk.injEq]; rfl) (by first | trivial | omega | simp | (simp; omega)) ?_
              refine ok_ret ⟨.inr rfl, ?_⟩
              -- ret2
              have c6 : ¬ (n < 0 ∨ (g.atoms.length : Int) ≤ n) := by omega
              have e8 : g.rules.take j = g.rules := List.take_of_length_le c4
              simp [cutG, c6, cutOf, e8]

end Go.Proofs.YtgapiecbinplfaaGreat
/- The live questions of layer 16: what the plain functions give there. -/
namespace Go.Proofs.YtgapiecbinplfaaGreat
open Go.RowKit

def aT : Term := [⟨3, [97], 0⟩]
def bT : Term := [⟨3, [98], 0⟩]
def cT : Term := [⟨3, [99], 0⟩]
def l0 : List Inst := [⟨bT, [aT], [bT]⟩, ⟨aT, [], []⟩]
def g0 : Prg := ⟨[aT, bT], [⟨0, [], []⟩, ⟨1, [0], [1]⟩]⟩
def g1 : Prg := ⟨[], [⟨0, [], []⟩]⟩
theorem g0_len : g0.atoms.length = 2 ∧ g0.rules.length = 2 := ⟨rfl, rfl⟩
theorem g0_right : rightP g0 = true := by rfl
theorem g0_rt : RightP g0 := (rightP_iff (by simp [g0])).1 g0_right
theorem g1_right : rightP g1 = false := by rfl
theorem l0_ok : InstsOk l0 := by
  refine ⟨by simp [l0], fun i hi => ?_⟩
  have : i = 0 ∨ i = 1 := by simp [l0] at hi; omega
  rcases this with rfl | rfl <;> simp [l0, gin]
theorem l0_rt : InstsRt l0 := by
  intro x hx t ht
  have h1 : RT aT := by rfl
  have h2 : RT bT := by rfl
  simp [l0] at hx
  rcases hx with rfl | rfl
  · simp [instAll] at ht
    rcases ht with rfl | rfl | rfl <;> assumption
  · simp [instAll] at ht
    subst ht; assumption
theorem from0 : fromG l0 = g0 := by rw [from_eq l0_rt l0_ok]; rfl
theorem cut0 : cutG g0 0 = ⟨[aT], [⟨0, [], []⟩]⟩ := by rw [cut_eq g0_rt]; rfl
theorem cut2 : cutG g0 2 = ⟨[], []⟩ := by rfl
theorem of1 : ofR g0.rules 1 g0.rules.length = [1] := by rfl
theorem find_b : findG g0.atoms bT = 1 := by rw [find_eq g0_rt.rise]; rfl
theorem find_c : findG g0.atoms cT = -1 := by rw [find_eq g0_rt.rise]; rfl
theorem rightG0 : rightGP g0 = true := rightGP_iff.2 g0_rt
theorem rightG1 : rightGP g1 = false := by rw [right_eq (by simp [g1])]; exact g1_right
end Go.Proofs.YtgapiecbinplfaaGreat
/- Walks: the live questions of layer 16. Printed by walk.py from annotations. -/
namespace Go.Proofs.YtgapiecbinplfaaGreat
open Go.RowKit


theorem gt0 : gt g0.atoms 0 = aT := rfl
theorem gt1 : gt g0.atoms 1 = bT := rfl
theorem gr0 : gr g0.rules 0 = ⟨0, [], []⟩ := rfl
theorem gr1 : gr g0.rules 1 = ⟨1, [0], [1]⟩ := rfl
theorem gal : g0.atoms.length = 2 := rfl
theorem grl : g0.rules.length = 2 := rfl
theorem nameA_ctr : Ctr Tryz.prog 106 [.d .str [97]] [] (.d .term aT) [] := nameT_ctr [97]
theorem nameB_ctr : Ctr Tryz.prog 106 [.d .str [98]] [] (.d .term bT) [] := nameT_ctr [98]
theorem nameC_ctr : Ctr Tryz.prog 106 [.d .str [99]] [] (.d .term cT) [] := nameT_ctr [99]
theorem hFrom_ctr : Ctr Tryz.prog 38 [.d (.sl .inst) [⟨bT, [aT], [bT]⟩, ⟨aT, [], []⟩]] [] (pav g0) [] := by
  have h := fromG_ctr l0 l0_ok
  rw [from0] at h; exact h
theorem hCut0_ctr : Ctr Tryz.prog 33 [pav g0, .d .i 0] [] (.agg [.d .terms [aT], .d (.sl .rule) [⟨0, [], []⟩]]) [] := by
  have h := cutG_ctr g0 0 g0_rt (by simp [gal]) (by simp [grl])
  rw [cut0] at h; exact h
theorem hCut2_ctr : Ctr Tryz.prog 33 [pav g0, .d .i 2] [] (.agg [.d .terms [], .d (.sl .rule) []]) [] := by
  have h := cutG_ctr g0 2 g0_rt (by simp [gal]) (by simp [grl])
  rw [cut2] at h; exact h
theorem hOf_ctr : Ctr Tryz.prog 27 [pav g0, .d .i 1] [] (.d .ints [1]) [] := by
  have h := ofR_ctr g0 1 (by simp [grl])
  rw [of1] at h; exact h
theorem hFindB_ctr : Ctr Tryz.prog 32 [pav g0, .d .term bT] [] (.d .i 1) [] := by
  have h := findG_ctr g0 bT (by simp [gal])
  rw [find_b] at h; exact h
theorem hFindC_ctr : Ctr Tryz.prog 32 [pav g0, .d .term cT] [] (.d .i (-1)) [] := by
  have h := findG_ctr g0 cT (by simp [gal])
  rw [find_c] at h; exact h
theorem hRight_ctr : Ctr Tryz.prog 28 [pav g0] [] (.d .bool true) [] := by
  have h := rightGP_ctr g0
  rw [rightG0] at h; exact h
theorem hRight1_ctr : Ctr Tryz.prog 28 [.agg [.nilsl, .d (.sl .rule) [⟨0, [], []⟩]]] [] (.d .bool false) [] := by
  have h := rightGP_ctr g1
  rw [rightG1] at h
  intro fz β w vs hb hz hr
  refine h fz β w vs hb hz ?_
  simp only [pav, RdL, RdA] at hr ⊢
  obtain ⟨v, r, rfl, ⟨us, rfl, v1, r1, rfl, rfl, v2, r2, rfl, h2, rfl⟩, rfl⟩ := hr
  exact ⟨_, _, rfl, ⟨_, rfl, _, _, rfl, ⟨_, rfl, none, 0, rfl, Nat.le_refl _, by simp [maxLen], fun h => absurd rfl h⟩, _, _, rfl, h2, rfl⟩, rfl⟩
theorem hSameA_ctr : Ctr Tryz.prog 30 [.d .term aT, .d .term aT] [] (.d .bool true) [] := by
  have h := same_ctr aT aT
  rwa [decide_eq_true rfl] at h
theorem hSameB_ctr : Ctr Tryz.prog 30 [.d .term bT, .d .term bT] [] (.d .bool true) [] := by
  have h := same_ctr bT bT
  rwa [decide_eq_true rfl] at h

set_option maxRecDepth 8000 in
set_option maxHeartbeats 4000000 in
theorem head16_ctr  : Ctr Tryz.prog 35 [] [] (.d .bool true) [] := by
  refine ctr_pure E Tryz.func35 rfl Tryz.ntmps35 Tryz.results35 (Nat.le_of_ble_eq_true rfl) rfl ?_
  repeat refine ok_seq ?_
  refine ok_reg E [] [] (by simp [-Option.some.injEq, -Prod.mk.injEq]; rfl) (by first | trivial | omega | simp | (simp; omega)) ?_
  repeat refine ok_seq ?_
  refine ok_reg E [1] [.pure (.d .term aT)] (by simp [-Option.some.injEq, -Prod.mk.injEq]; rfl) (by (have k1 := nameA_ctr; (try simp at k1); simp [k1])) ?_
  repeat refine ok_seq ?_
  refine ok_reg E [1, 2] [.pure (.d .term bT)] (by simp [-Option.some.injEq, -Prod.mk.injEq]; rfl) (by (have k1 := nameB_ctr; (try simp at k1); simp [k1])) ?_
  repeat refine ok_seq ?_
  refine ok_reg E [1, 2, 3] [] (by simp [-Option.some.injEq, -Prod.mk.injEq]; rfl) (by first | trivial | omega | simp | (simp; omega)) ?_
  repeat refine ok_seq ?_
  refine ok_reg E [1, 2, 4] [.pure (pav g0)] (by simp [-Option.some.injEq, -Prod.mk.injEq]; rfl) (by (have k1 := hFrom_ctr; (try simp at k1); simp [k1])) ?_
  repeat refine ok_seq ?_
  refine ok_reg E [1, 2, 4, 5] [.pure (.agg [.d .terms [aT], .d (.sl .rule) [⟨0, [], []⟩]])] (by simp [-Option.some.injEq, -Prod.mk.injEq]; rfl) (by (have k1 := hCut0_ctr; (try simp at k1); simp [k1])) ?_
  repeat refine ok_seq ?_
  refine ok_reg E [1, 2, 4, 5, 6] [.pure (.d .ints [1])] (by simp [-Option.some.injEq, -Prod.mk.injEq]; rfl) (by (have k1 := hOf_ctr; (try simp at k1); simp [k1])) ?_
  repeat refine ok_seq ?_
  refine ok_reg E [1, 2, 4, 6, 51] [] (by simp [gal, grl, -Option.some.injEq, -Prod.mk.injEq]; rfl) (by first | trivial | omega | simp | (simp; omega)) ?_
  repeat refine ok_seq ?_
  refine ok_if rfl (fun c1 => ?_) (fun c1 => ?_)
  · exfalso; simp at c1
  · try simp at c1
    all_goals
      refine ok_skip ?_
      repeat refine ok_seq ?_
      refine ok_reg E [1, 2, 4, 6, 7] [] (by simp [gr1, grl, -Option.some.injEq, -Prod.mk.injEq]; rfl) (by simp [grl]) ?_
      repeat refine ok_seq ?_
      refine ok_dr E rfl [0] 90 [.pure (.d .bool true), .pure (.d .bool true), .pure (.d .i 1), .pure (.d .term cT), .pure (.d .i (-1)), .pure (.d .bool true), .pure (.d .bool false), .pure (.agg [.d .terms [], .d (.sl .rule) []])] (by decide) (by simp [nodupF]) (by simp [gt0, gt1, gr0, gr1, gal, grl, gi, -Option.some.injEq, -Prod.mk.injEq]; rfl) (by (have k1 := hSameA_ctr; have k2 := hSameB_ctr; have k3 := hFindB_ctr; have k4 := nameC_ctr; have k5 := hFindC_ctr; have k6 := hRight_ctr; have k7 := hRight1_ctr; have k8 := hCut2_ctr; (try simp at k1 k2 k3 k4 k5 k6 k7 k8); simp [k1, k2, k3, k4, k5, k6, k7, k8, gal, grl])) ?_
      refine ok_ret ⟨.inr rfl, ?_⟩
      -- ret1
      simp [resAll, resL, resA, frozE]

end Go.Proofs.YtgapiecbinplfaaGreat
/- Walks: layer 16's laws: GroundTells, GroundAsks. Printed by walk.py from annotations. -/
namespace Go.Proofs.YtgapiecbinplfaaGreat
open Go.RowKit


theorem made_ok (l : List Inst) : InstsOk (madeR l) := by
  have h1 : (madeR l).length ≤ 60 := Nat.le_trans (List.length_filter_le _ _) (List.length_take_le _ _)
  refine ⟨by omega, fun i hi => ?_⟩
  have hm : gin (madeR l) i ∈ madeR l := by rw [gin_lt hi]; exact List.getElem_mem _
  have h2 := (List.mem_filter.1 hm).2
  simp only [madeOk, Bool.and_eq_true, decide_eq_true_eq] at h2
  omega
theorem made_rt (l : List Inst) : InstsRt (madeR l) := by
  intro x hx t ht
  have h2 := (List.mem_filter.1 hx).2
  simp only [madeOk, Bool.and_eq_true, decide_eq_true_eq, List.all_eq_true] at h2
  have h3 : ∀ t, atom200 t = true → RT t := fun t h => by
    simp only [atom200, Bool.and_eq_true] at h
    exact atomT_rt h.2.1
  simp only [instAll, List.mem_cons, List.mem_append] at ht
  rcases ht with rfl | ht | ht
  · exact h3 _ h2.1
  · exact h3 _ (h2.2.2.1 _ ht)
  · exact h3 _ (h2.2.2.2 _ ht)
theorem made_len (l : List Inst) : (madeR l).length ≤ 60 := Nat.le_trans (List.length_filter_le _ _) (List.length_take_le _ _)
theorem fromG_rules (l : List Inst) : (fromG l).rules.length ≤ l.length := by
  have := setBy_len gOrder (l.map (ruleG (setBy cmpG (allG l))))
  simpa [fromG] using this
theorem same_from {m : List Inst} (h : InstsRt m) (hk : InstsOk m) : Ctr Tryz.prog 29 [pav (fromG m), pav (fromR m)] [] (.d .bool true) [] := by
  have h1 := sameP_ctr (fromG m) (fromR m) (by have := fromG_rules m; have := hk.1; omega)
  rw [from_eq h hk] at h1 ⊢
  rwa [decide_eq_true (sameP_self _)] at h1
theorem small_of {g : Prg} (h : greatP g = false) : SmallP g := by simpa [greatP] using h
theorem right_ctr2 {g : Prg} (h : greatP g = false) : Ctr Tryz.prog 28 [pav g] [] (.d .bool (rightP g)) [] := by
  have h1 := rightGP_ctr g
  have := (small_of h).1
  rwa [right_eq (by omega)] at h1
theorem rightR_ctr2 {g : Prg} (h : greatP g = false) (hn : ∀ t ∈ g.atoms, NmOk t) : Ctr Tryz.prog 40 [pav g] [] (.d .bool (rightP g)) [] := by
  have h1 := small_of h
  exact rightP_ctr g (by have := h1.1; omega) (by have := h1.2.1; omega) fun i hi => hn _ (by rw [gt_lt hi]; exact List.getElem_mem _)
theorem right_of {g : Prg} (h : greatP g = false) (hr : rightP g = true) : RightP g := (rightP_iff (by have := (small_of h).1; omega)).1 hr
theorem cutR_rules (g : Prg) (n : Int) : (cutR g n).rules.length ≤ g.rules.length := by
  unfold cutR
  split
  · simp
  · simp only [onlyR, List.length_map]
    exact List.length_filter_le _ _
theorem cut_ctr2 {g : Prg} (n : Int) (h : greatP g = false) (hr : RightP g) : Ctr Tryz.prog 33 [pav g, .d .i n] [] (pav (cutR g n)) [] := by
  have h1 := small_of h
  have h2 := cutG_ctr g n hr (by have := h1.1; omega) (by have := h1.2.1; omega)
  rwa [cut_eq hr] at h2
theorem find_ctr2 {g : Prg} (t : Term) (h : greatP g = false) (hr : RightP g) : Ctr Tryz.prog 32 [pav g, .d .term t] [] (.d .i (findR g.atoms t)) [] := by
  have h1 := small_of h
  have h2 := findG_ctr g t (by have := h1.1; omega)
  rwa [find_eq hr.rise] at h2
theorem same_self (g : Prg) (h : g.rules.length ≤ 1000000) : Ctr Tryz.prog 29 [pav g, pav g] [] (.d .bool true) [] := by
  have h1 := sameP_ctr g g h
  rwa [decide_eq_true (sameP_self _)] at h1
theorem ints_self (l : List Int) : Ctr Tryz.prog 42 [.d (.sl .i) l, .d (.sl .i) l] [] (.d .bool true) [] := by
  have h1 := ints_ctr l l
  rwa [decide_eq_true rfl] at h1

set_option maxRecDepth 8000 in
set_option maxHeartbeats 4000000 in
theorem tells_ctr (l : List Inst) (g : Prg) (hl : ∀ x ∈ l, NmI x) (hg : ∀ t ∈ g.atoms, NmOk t) : Ctr Tryz.prog 5 [.d (.sl .inst) l, pav g] [] (.d .bool true) [] := by
  refine ctr_pure E Tryz.func5 rfl Tryz.ntmps5 Tryz.results5 (Nat.le_of_ble_eq_true rfl) rfl ?_
  simp only [pav]
  repeat refine ok_seq ?_
  refine ok_reg E [0, 3] [] (by simp [-Option.some.injEq, -Prod.mk.injEq]; rfl) (by first | trivial | omega | simp | (simp; omega)) ?_
  repeat refine ok_seq ?_
  refine ok_reg E [0, 3, 5] [.pure (.d .bool true)] (by simp [-Option.some.injEq, -Prod.mk.injEq]; rfl) (by (have q100 := head16_ctr; (try simp at q100); simp [q100])) ?_
  repeat refine ok_seq ?_
  refine ok_reg E [0, 3, 5, 9] [.pure (.d .bool (greatP g))] (by simp [-Option.some.injEq, -Prod.mk.injEq]; rfl) (by (have q100 := greatP_ctr g; (try simp at q100); simp [q100])) ?_
  repeat refine ok_seq ?_
  refine ok_if rfl (fun c1 => ?_) (fun c1 => ?_)
  · try simp at c1
    all_goals
      repeat refine ok_seq ?_
      refine ok_reg E [4] [] (by simp [-Option.some.injEq, -Prod.mk.injEq]; rfl) (by first | trivial | omega | simp | (simp; omega)) ?_
      refine ok_ret ⟨.inr rfl, ?_⟩
      -- ret1
      simp [resAll, resL, resA, frozE]
  · try simp at c1
    all_goals
      refine ok_skip ?_
      repeat refine ok_seq ?_
      refine ok_reg E [3, 5, 6] [.pure (.d (.sl .inst) (madeR l))] (by simp [-Option.some.injEq, -Prod.mk.injEq]; rfl) (by (have q100 := made_ctr l hl; (try simp at q100); simp [q100])) ?_
      repeat refine ok_seq ?_
      refine ok_dr E rfl [4] 16 [.pure (pav (fromG (madeR l))), .pure (pav (fromR (madeR l))), .pure (.d .bool true), .pure (.d .bool (rightP g)), .pure (.d .bool (rightP g))] (by decide) (by simp [nodupF]) (by simp [-Option.some.injEq, -Prod.mk.injEq]; rfl) (by (have q100 := fromG_ctr _ (made_ok l); (try simp at q100); have q101 := fromR_ctr _ (made_ok l); (try simp at q101); have q102 := same_from (made_rt l) (made_ok l); (try simp at q102); have q103 := right_ctr2 c1; (try simp at q103); have q104 := rightR_ctr2 c1 hg; (try simp at q104); simp [q100, q101, q102, q103, q104])) ?_
      refine ok_ret ⟨.inr rfl, ?_⟩
      -- ret2
      simp [resAll, resL, resA, frozE]

set_option maxRecDepth 8000 in
set_option maxHeartbeats 4000000 in
theorem asks_ctr (g : Prg) (t : Term) (n : Int) (hg : ∀ t ∈ g.atoms, NmOk t) : Ctr Tryz.prog 6 [pav g, .d .term t, .d .i n] [] (.d .bool true) [] := by
  refine ctr_pure E Tryz.func6 rfl Tryz.ntmps6 Tryz.results6 (Nat.le_of_ble_eq_true rfl) rfl ?_
  simp only [pav]
  have k0 := greatP_ctr g
  have k1 := fun h => rightR_ctr2 (g := g) h hg
  repeat refine ok_seq ?_
  refine ok_reg E [1, 2, 3] [] (by simp [-Option.some.injEq, -Prod.mk.injEq]; rfl) (by first | trivial | omega | simp | (simp; omega)) ?_
  repeat refine ok_seq ?_
  refine ok_reg E [1, 2, 3, 7] [.pure (.d .bool true)] (by simp [-Option.some.injEq, -Prod.mk.injEq]; rfl) (by (have q100 := head16_ctr; (try simp at q100); simp [q100])) ?_
  repeat refine ok_seq ?_
  refine ok_regJ E [(20, .d .bool (decide (greatP g = true ∨ rightP g = false ∨ 200 < t.length)))] [1, 2, 3, 7] [1, 2, 3, 7, 20] [.pure (.d .bool (greatP g)), .pure (.d .bool (rightP g))] ?_ ?_
  · skip
    by_cases q0 : greatP g = true
    · refine ⟨_, _, _, by simp [q0, -Option.some.injEq, -Prod.mk.injEq]; rfl, (by first | (have q100 := k0; (try simp at q100); (try simp [q0] at q100); (try simp [q1] at q100); have q101 := k1 (by simpa using q0); (try simp at q101); (try simp [q0] at q101); (try simp [q1] at q101); simp [q100, q101]) | (have q100 := k0; (try simp at q100); (try simp [q0] at q100); (try simp [q1] at q100); simp [q100])), by constructor <;> simp [EntF, EntH, EntB, Conv, scop, q0] <;> first | omega | (rw [Bool.eq_iff_iff]; simp; omega)⟩
    by_cases q1 : rightP g = true
    rotate_left
    · refine ⟨_, _, _, by simp [q0, q1, -Option.some.injEq, -Prod.mk.injEq]; rfl, (by first | (have q100 := k0; (try simp at q100); (try simp [q0] at q100); (try simp [q1] at q100); have q101 := k1 (by simpa using q0); (try simp at q101); (try simp [q0] at q101); (try simp [q1] at q101); simp [q100, q101]) | (have q100 := k0; (try simp at q100); (try simp [q0] at q100); (try simp [q1] at q100); simp [q100])), by constructor <;> simp [EntF, EntH, EntB, Conv, scop, q0, q1] <;> first | omega | (rw [Bool.eq_iff_iff]; simp; omega)⟩
    refine ⟨_, _, _, by simp [q0, q1, -Option.some.injEq, -Prod.mk.injEq]; rfl, (by first | (have q100 := k0; (try simp at q100); (try simp [q0] at q100); (try simp [q1] at q100); have q101 := k1 (by simpa using q0); (try simp at q101); (try simp [q0] at q101); (try simp [q1] at q101); simp [q100, q101]) | (have q100 := k0; (try simp at q100); (try simp [q0] at q100); (try simp [q1] at q100); simp [q100])), by constructor <;> simp [EntF, EntH, EntB, Conv, scop, q0, q1] <;> first | omega | (rw [Bool.eq_iff_iff]; simp; omega)⟩
  repeat refine ok_seq ?_
  refine ok_if rfl (fun c1 => ?_) (fun c1 => ?_)
  · try simp at c1
    all_goals
      repeat refine ok_seq ?_
      refine ok_reg E [6] [] (by simp [-Option.some.injEq, -Prod.mk.injEq]; rfl) (by first | trivial | omega | simp | (simp; omega)) ?_
      refine ok_ret ⟨.inr rfl, ?_⟩
      -- ret1
      simp [resAll, resL, resA, frozE]
  · try simp at c1
    all_goals
      refine ok_skip ?_
      repeat refine ok_seq ?_
      refine ok_dr E rfl [6] 29 [.pure (.d .i (findR g.atoms t)), .pure (.d .i (findR g.atoms t)), .pure (.d .ints (ofR g.rules n g.rules.length)), .pure (.d .ints (ofR g.rules n g.rules.length)), .pure (.d .bool true), .pure (pav (cutR g n)), .pure (pav (cutR g n)), .pure (.d .bool true)] (by decide) (by simp [nodupF]) (by simp [-Option.some.injEq, -Prod.mk.injEq]; rfl) (by (have c2 := right_of c1.1 c1.2.1; have c3 := small_of c1.1; (have q100 := find_ctr2 t c1.1 c2; (try simp at q100); have q101 := findR_ctr g t (by have := c3.1; omega); (try simp at q101); have q102 := ofR_ctr g n (by have := c3.2.1; omega); (try simp at q102); have q103 := ofRR_ctr g n (by have := c3.2.1; omega); (try simp at q103); have q104 := ints_self (ofR g.rules n g.rules.length); (try simp at q104); have q105 := cut_ctr2 n c1.1 c2; (try simp at q105); have q106 := cutR_ctr g n c2 (by have := c3.1; omega) (by have := c3.2.1; omega); (try simp at q106); have q107 := same_self (cutR g n) (by have := cutR_rules g n; have := c3.2.1; omega); (try simp at q107); simp [q100, q101, q102, q103, q104, q105, q106, q107]))) ?_
      refine ok_ret ⟨.inr rfl, ?_⟩
      -- ret2
      simp [resAll, resL, resA, frozE]

end Go.Proofs.YtgapiecbinplfaaGreat
/- Opening and closing of a law: its arguments read as data; behind the call they read as before. -/
namespace Go.Proofs.YtgapiecbinplfaaGreat
open Go.RowKit Go.ChangeShapes Go.WideShapes Go.ChangeAt

def Ty.parts : Ty → List Ty
  | .cell => [.i, .str, .i]
  | .rule => [.i, .ints, .ints]
  | .inst => [.term, .terms, .terms]
  | .table => [.term, .terms]
  | .bind => [.i, .term]
  | _ => []

/-- The fields of a struct lie one behind the other, a cell each. -/
def fitsS (P : Program) (f : Ty → TypeId → Bool) : List Ty → Nat → List Field → Bool
  | [], _, [] => true
  | τ :: τs, i, fl :: fls => decide (fl.offset = i) && decide (P.cellsOf fl.type = 1) && f τ fl.type && fitsS P f τs (i + 1) fls
  | _, _, _ => false

/-- Does a type of the program lie as a type of data does? -/
def fits (P : Program) : Nat → Ty → TypeId → Bool
  | 0, _, _ => false
  | n + 1, τ, t => match τ with
    | .int k => (match P.underlying t with | some (.int k') => decide (k' = k) | _ => false)
    | .bool => (match P.underlying t with | some .bool => true | _ => false)
    | .str => (match P.underlying t with | some .string => true | _ => false)
    | .sl τ' => (match P.underlying t with | some (.slice e) => decide (P.cellsOf e = τ'.size) && fits P n τ' e | _ => false)
    | τ => (match P.underlying t with | some (.struct fs) => decide (P.cellsOf t = τ.parts.length) && fitsS P (fits P n) τ.parts 0 fs.toList | _ => false)

/-- The names in a datum are no longer than a text may be. -/
def strOk : (t : Ty) → t.den → Prop
  | .int k, n => (Lit.int k n).wf = true
  | .str, s => s.length ≤ maxLen
  | .cell, c => c.name.length ≤ maxLen
  | .inst, i => (∀ c ∈ i.head, c.name.length ≤ maxLen) ∧ (∀ u ∈ i.pos, ∀ c ∈ u, c.name.length ≤ maxLen) ∧ (∀ u ∈ i.neg, ∀ c ∈ u, c.name.length ≤ maxLen)
  | .table, i => (∀ c ∈ i.call, c.name.length ≤ maxLen) ∧ (∀ u ∈ i.answers, ∀ c ∈ u, c.name.length ≤ maxLen)
  | .bind, i => ∀ c ∈ i.t, c.name.length ≤ maxLen
  | .sl t, xs => ∀ x ∈ xs, strOk t x
  | _, _ => True

theorem strOk_parts : ∀ {t : Ty} {x : t.den}, (∀ d ∈ t.cells x, strOk d.t d.x) → t.parts ≠ [] → strOk t x := by
  intro t x h hp
  cases t with
  | cell => have := h ⟨.str, x.name⟩ (by simp [Ty.cells]); exact this
  | rule => trivial
  | inst => exact ⟨h ⟨.term, x.head⟩ (by simp [Ty.cells]), h ⟨.terms, x.pos⟩ (by simp [Ty.cells]), h ⟨.terms, x.neg⟩ (by simp [Ty.cells])⟩
  | table => exact ⟨h ⟨.term, x.call⟩ (by simp [Ty.cells]), h ⟨.terms, x.answers⟩ (by simp [Ty.cells])⟩
  | bind => exact h ⟨.term, x.t⟩ (by simp [Ty.cells])
  | _ => exact absurd rfl hp

theorem ofParts : ∀ {t : Ty} {ds : List DV}, t.parts ≠ [] → ds.map (·.t) = t.parts → ∃ x : t.den, t.cells x = ds := by
  intro t ds hp h
  cases t with
  | cell =>
    match ds, h with
    | [⟨t1, a⟩, ⟨t2, b⟩, ⟨t3, c⟩], h =>
      simp only [List.map, Ty.parts, List.cons.injEq, and_true] at h
      obtain ⟨rfl, rfl, rfl⟩ := h
      exact ⟨⟨a, b, c⟩, rfl⟩
  | rule =>
    match ds, h with
    | [⟨t1, a⟩, ⟨t2, b⟩, ⟨t3, c⟩], h =>
      simp only [List.map, Ty.parts, List.cons.injEq, and_true] at h
      obtain ⟨rfl, rfl, rfl⟩ := h
      exact ⟨⟨a, b, c⟩, rfl⟩
  | inst =>
    match ds, h with
    | [⟨t1, a⟩, ⟨t2, b⟩, ⟨t3, c⟩], h =>
      simp only [List.map, Ty.parts, List.cons.injEq, and_true] at h
      obtain ⟨rfl, rfl, rfl⟩ := h
      exact ⟨⟨a, b, c⟩, rfl⟩
  | table =>
    match ds, h with
    | [⟨t1, a⟩, ⟨t2, b⟩], h =>
      simp only [List.map, Ty.parts, List.cons.injEq, and_true] at h
      obtain ⟨rfl, rfl⟩ := h
      exact ⟨⟨a, b⟩, rfl⟩
  | bind =>
    match ds, h with
    | [⟨t1, a⟩, ⟨t2, b⟩], h =>
      simp only [List.map, Ty.parts, List.cons.injEq, and_true] at h
      obtain ⟨rfl, rfl⟩ := h
      exact ⟨⟨a, b⟩, rfl⟩
  | _ => exact absurd rfl hp

theorem choose_list {α : Type} {Q : Nat → α → Prop} : ∀ n, (∀ i, i < n → ∃ x, Q i x) → ∃ xs : List α, xs.length = n ∧ ∀ i (h : i < xs.length), Q i xs[i]
  | 0, _ => ⟨[], rfl, fun i h => absurd h (by simp)⟩
  | n + 1, h => by
    obtain ⟨xs, h1, h2⟩ := choose_list n fun i hi => h i (by omega)
    obtain ⟨x, hx⟩ := h n (by omega)
    refine ⟨xs ++ [x], by simp [h1], fun i hi => ?_⟩
    by_cases hl : i < xs.length
    · rw [List.getElem_append_left hl]; exact h2 i hl
    · have : i = n := by simp at hi; omega
      subst this
      rw [List.getElem_append_right (by omega)]
      simpa [h1] using hx

variable {H : Type} {enc : TypeId × Value → H} {P : Program} {W : World} {spare : Nat → Bool} {held : Bool}

/-- All cells of a world's heap. -/
def fzOf (W : World) : Fz := fun b _ => b < W.heap.size

theorem fields_read {n m : Nat} (ih : ∀ (τ : Ty) (t : TypeId) (cs : List Value) r, fits P n τ t = true → DataW.trod enc P W 0 spare held m t cs = some r → ∃ x : τ.den, ElR (fzOf W) W τ x cs ∧ strOk τ x)
    {cs : List Value} : ∀ (τs : List Ty) (i : Nat) (fls : List Field) xs, fitsS P (fits P n) τs i fls = true → cs.length = i + τs.length →
      (fls.mapM fun f => DataW.trod enc P W 0 spare held m f.type ((cs.drop f.offset).take (P.cellsOf f.type))) = some xs →
      ∃ ds : List DV, ds.map (·.t) = τs ∧ CellsR (fzOf W) W ds (cs.drop i) ∧ ∀ d ∈ ds, strOk d.t d.x
  | [], i, [], xs, _, hl, _ => ⟨[], rfl, by simp at hl; show _ = _; rw [List.drop_of_length_le (by omega)], by simp⟩
  | [], i, _ :: _, xs, h, _, _ => by simp [fitsS] at h
  | _ :: _, i, [], xs, h, _, _ => by simp [fitsS] at h
  | τ :: τs, i, fl :: fls, xs, h, hl, hm => by
    simp only [fitsS, Bool.and_eq_true, decide_eq_true_eq] at h
    obtain ⟨⟨⟨h1, h2⟩, h3⟩, h4⟩ := h
    rw [List.mapM_cons] at hm
    cases hx : DataW.trod enc P W 0 spare held m fl.type ((cs.drop fl.offset).take (P.cellsOf fl.type)) with
    | none => simp [hx] at hm
    | some y =>
      cases hxs : (fls.mapM fun f => DataW.trod enc P W 0 spare held m f.type ((cs.drop f.offset).take (P.cellsOf f.type))) with
      | none => simp [hx, hxs] at hm
      | some ys =>
        obtain ⟨ds, e1, e2, e3⟩ := fields_read ih τs (i + 1) fls ys h4 (by simp at hl; omega) hxs
        rw [h1, h2] at hx
        obtain ⟨x, hr, hs⟩ := ih τ fl.type _ y h3 hx
        have hi : i < cs.length := by simp at hl; omega
        have ed : cs.drop i = cs[i] :: cs.drop (i + 1) := List.drop_eq_getElem_cons hi
        rw [ed] at hr
        simp only [List.take_succ_cons, List.take_zero] at hr
        refine ⟨⟨τ, x⟩ :: ds, by simp [e1], ?_, ?_⟩
        · rw [ed]; exact ⟨_, _, rfl, hr, e2⟩
        · intro d hd
          rcases List.mem_cons.1 hd with rfl | hd
          · exact hs
          · exact e3 d hd

/-- WHAT TRODS READS. -/
theorem trod_reads : ∀ (n m : Nat) (τ : Ty) (t : TypeId) (cs : List Value) r, fits P n τ t = true → DataW.trod enc P W 0 spare held m t cs = some r → ∃ x : τ.den, ElR (fzOf W) W τ x cs ∧ strOk τ x
  | 0, _, _, _, _, _, h, _ => by simp [fits] at h
  | _ + 1, 0, _, _, _, _, _, h => by simp [DataW.trod] at h
  | n + 1, m + 1, τ, t, cs, r, hf, h => by
    have ih := fun τ t cs r => trod_reads n m τ t cs r
    have agg : ∀ fs : Array Field, P.underlying t = some (.struct fs) → τ.parts ≠ [] → P.cellsOf t = τ.parts.length → fitsS P (fits P n) τ.parts 0 fs.toList = true → ∃ x : τ.den, ElR (fzOf W) W τ x cs ∧ strOk τ x := by
      intro fs hu hp hc hfs
      rw [DataW.trod_step] at h
      simp only [DataW.trodStep, hu] at h
      split at h
      · rename_i hl
        cases hm : (fs.toList.mapM fun f => DataW.trod enc P W 0 spare held m f.type ((cs.drop f.offset).take (P.cellsOf f.type))) with
        | none => simp [hm] at h
        | some ys =>
          obtain ⟨ds, e1, e2, e3⟩ := fields_read ih τ.parts 0 fs.toList ys hfs (by omega) hm
          obtain ⟨x, hx⟩ := ofParts hp e1
          refine ⟨x, ElR_cells.2 ?_, strOk_parts ?_ hp⟩
          · rw [hx]; simpa using e2
          · rw [hx]; exact e3
      · cases h
    cases τ with
    | int k =>
      simp only [fits] at hf
      split at hf
      · rename_i k' hu
        simp only [decide_eq_true_eq] at hf
        subst hf
        obtain ⟨x, rfl, _, hw⟩ := DataW.trod_int hu h
        exact ⟨x, rfl, hw⟩
      · cases hf
    | bool =>
      simp only [fits] at hf
      split at hf
      · rename_i hu
        obtain ⟨x, rfl, _⟩ := DataW.trod_bool hu h
        exact ⟨x, rfl, trivial⟩
      · cases hf
    | str =>
      simp only [fits] at hf
      split at hf
      · rename_i hu
        obtain ⟨x, rfl, _, hs⟩ := DataW.trod_string hu h
        exact ⟨x.data.toList, by show _ = _; simp, by show _ ≤ _; simpa using hs⟩
      · cases hf
    | sl τ' =>
      simp only [fits] at hf
      split at hf
      · rename_i e hu
        simp only [Bool.and_eq_true, decide_eq_true_eq] at hf
        obtain ⟨hc, hf⟩ := hf
        rcases DataW.trod_slice hu h with ⟨rfl, _⟩ | ⟨a, len, cap, elems, rest, n', hn, rfl, _, _, h1, h2, h3, h4, _⟩
        · exact ⟨([] : List τ'.den), ⟨_, rfl, none, 0, rfl, by simp, by simp [maxLen], fun h => absurd rfl h⟩, fun x hx => by cases hx⟩
        · have hnn : n' = m := by omega
          subst hnn
          have hex : ∀ i, i < len → ∃ x : τ'.den, (∃ cs, cs.length = τ'.size ∧ (∀ j, j < τ'.size → W.cell? ((a.add (i * τ'.size)).add j) = cs[j]?) ∧ ElR (fzOf W) W τ' x cs) ∧ strOk τ' x := by
            intro i hi
            have := h4 i hi
            rw [hc] at this
            cases hcs : W.cells? 0 (a.add (i * τ'.size)) τ'.size with
            | none => rw [hcs] at this; simp only [Option.bind_none] at this; have := List.getElem?_eq_none_iff.1 this.symm; omega
            | some cs =>
              rw [hcs] at this
              simp only [Option.bind_some] at this
              rw [List.getElem?_eq_getElem (by omega)] at this
              obtain ⟨x, hx, hs⟩ := ih τ' e cs _ hf this
              obtain ⟨_, k1, k2⟩ := World.cells?_some hcs
              exact ⟨x, ⟨cs, k1, k2, hx⟩, hs⟩
          obtain ⟨xs, e1, e2⟩ := choose_list len hex
          subst e1
          refine ⟨xs, ⟨_, rfl, some a, cap, rfl, h1, h2, fun hne => ?_⟩, fun x hx => ?_⟩
          · have hspot : a.spot = none := by
              have hl : 0 < xs.length := List.length_pos_iff.2 hne
              obtain ⟨⟨cs, k1, k2, _⟩, _⟩ := e2 0 hl
              have hz : 0 < τ'.size := by cases τ' <;> simp [Ty.size]
              have := k2 0 hz
              rw [List.getElem?_eq_getElem (by omega)] at this
              have := World.cell?_spot this
              unfold Addr.add at this
              split at this <;> simp_all
            obtain ⟨b, o, sp⟩ := a
            subst hspot
            refine ⟨b, o, rfl, fun i hi => ?_⟩
            obtain ⟨⟨cs, k1, k2, k3⟩, _⟩ := e2 i hi
            refine ⟨cs, k1, fun j hj => ?_, k3⟩
            have := k2 j (by omega)
            rw [List.getElem?_eq_getElem hj, add_plain, add_plain] at this
            exact ⟨World.block_lt_of_cell? _ _ this, this⟩
          · obtain ⟨i, hi, rfl⟩ := List.mem_iff_getElem.1 hx
            exact (e2 i hi).2
      · cases hf
    | cell =>
      simp only [fits] at hf
      split at hf
      · rename_i fs hu
        simp only [Bool.and_eq_true, decide_eq_true_eq] at hf
        exact agg fs hu (by simp [Ty.parts]) hf.1 hf.2
      · cases hf
    | rule =>
      simp only [fits] at hf
      split at hf
      · rename_i fs hu
        simp only [Bool.and_eq_true, decide_eq_true_eq] at hf
        exact agg fs hu (by simp [Ty.parts]) hf.1 hf.2
      · cases hf
    | inst =>
      simp only [fits] at hf
      split at hf
      · rename_i fs hu
        simp only [Bool.and_eq_true, decide_eq_true_eq] at hf
        exact agg fs hu (by simp [Ty.parts]) hf.1 hf.2
      · cases hf
    | table =>
      simp only [fits] at hf
      split at hf
      · rename_i fs hu
        simp only [Bool.and_eq_true, decide_eq_true_eq] at hf
        exact agg fs hu (by simp [Ty.parts]) hf.1 hf.2
      · cases hf
    | bind =>
      simp only [fits] at hf
      split at hf
      · rename_i fs hu
        simp only [Bool.and_eq_true, decide_eq_true_eq] at hf
        exact agg fs hu (by simp [Ty.parts]) hf.1 hf.2
      · cases hf

/-- The arguments of a law. -/
theorem trod_one {τ : Ty} {t : TypeId} {v : Value} {d : DataW H} {p : List MemPlace} (n : Nat) (hf : fits P n τ t = true) (hv : v.cells.toList = [v]) (h : DataW.Trod enc P W 0 spare held t v d p) :
    ∃ x : τ.den, RdA (fzOf W) [] W (.d τ x) v ∧ strOk τ x := by
  obtain ⟨m, hm⟩ := h
  obtain ⟨x, h1, h2⟩ := trod_reads n m τ t _ _ hf hm
  rw [hv] at h1
  exact ⟨x, by simpa only [RdA] using h1, h2⟩

theorem rdl_of_cells : ∀ (ds : List DV) (vs : List Value), CellsR (fzOf W) W ds vs → RdL (fzOf W) [] W (ds.map fun d => .d d.t d.x) vs
  | [], _, h => by simp only [List.map, RdL]; exact h
  | d :: ds, _, ⟨v, r, e, h1, h2⟩ => by
    simp only [List.map, RdL]
    exact ⟨v, r, e, by simpa only [RdA] using h1, rdl_of_cells ds r h2⟩

theorem trod_agg {τs : List Ty} {t : TypeId} {fs : Array Field} {v : Value} {d : DataW H} {p : List MemPlace} (n : Nat) (hu : P.underlying t = some (.struct fs)) (hc : P.cellsOf t = τs.length) (hf : fitsS P (fits P n) τs 0 fs.toList = true)
    {r : _root_.Go.Reach} {b0 : Nat} (hok : Value.okWide P W r b0 t v) (h : DataW.Trod enc P W 0 spare held t v d p) :
    ∃ ds : List DV, ds.map (·.t) = τs ∧ RdA (fzOf W) [] W (.agg (ds.map fun d => .d d.t d.x)) v ∧ ∀ d ∈ ds, strOk d.t d.x := by
  obtain ⟨m, hm⟩ := h
  obtain ⟨cs, rfl, hsz⟩ := okWide_struct hu hok
  cases m with
  | zero => simp [DataW.trod] at hm
  | succ m =>
    rw [DataW.trod_step] at hm
    simp only [DataW.trodStep, hu] at hm
    split at hm
    · rename_i hl
      cases hmm : (fs.toList.mapM fun f => DataW.trod enc P W 0 spare held m f.type (((Value.agg cs).cells.toList.drop f.offset).take (P.cellsOf f.type))) with
      | none => simp [hmm] at hm
      | some ys =>
        obtain ⟨ds, e1, e2, e3⟩ := fields_read (fun τ t cs r => trod_reads n m τ t cs r) τs 0 fs.toList ys hf (by omega) hmm
        refine ⟨ds, e1, ?_, e3⟩
        simp only [RdA]
        exact ⟨cs.toList, by simp, rdl_of_cells ds _ (by simpa [Value.cells] using e2)⟩
    · cases hm

theorem sl_cells {t e : TypeId} {v : Value} {r : _root_.Go.Reach} {b0 : Nat} (hu : P.underlying t = some (.slice e)) (hok : Value.okWide P W r b0 t v) : v.cells.toList = [v] := by
  obtain ⟨a, l, c, rfl⟩ := okWide_slice hu hok
  rfl
theorem int_cells {t : TypeId} {k : IntKind} {v : Value} {d : DataW H} {p : List MemPlace} {r : _root_.Go.Reach} {b0 : Nat} (hu : P.underlying t = some (.int k)) (hok : Value.okWide P W r b0 t v) (h : DataW.Trod enc P W 0 spare held t v d p) : v.cells.toList = [v] := by
  obtain ⟨x, rfl, _⟩ := open_int hu hok h
  rfl

/-- A call with such arguments returns true and leaves all as it was. -/
theorem law_calls {f : FuncId} {avs : List AV} {args : Array Value} (hc : Ctr P f avs [] (.d .bool true) []) (hr : RdL (fzOf W) [] W avs args.toList) :
    Calls P f args W fun e W' => e = .returned (.bool true) ∧ Below W.heap.size W W' := by
  have := hc (fzOf W) [] W args.toList ⟨rfl, fun i g h => by simp at h, fun i g x h => by simp at h, fun i j gi gj xi xj _ h => by simp at h⟩ (fun b o h => h) hr
  rw [Array.toArray_toList] at this
  refine this.mono fun e W' ⟨v, fz', he, hv, _, ha, _⟩ => ?_
  subst he
  have hv' : v = .bool true := by
    have : ElR fz' W' .bool true [v] := by simpa only [RdA] using hv
    have h2 : [v] = [Value.bool true] := this
    simpa using h2
  subst hv'
  refine ⟨rfl, ha.os, ha.tape, ha.output, ha.size, fun k hk => ha.block k hk ?_⟩
  rintro ⟨i, g, hg, _⟩
  simp at hg

theorem trodAll_below {W W' : World} (hl : laidOutB P = true) (hb : Below W.heap.size W W') : ∀ {ts : List TypeId} {vs : List Value} {ds : List (DataW H)} {ps : List MemPlace},
    (∀ t ∈ ts, P.readableRec t = true ∧ t < P.types.size) → DataW.TrodAll enc P W 0 (fun _ => true) true ts vs ds ps → DataW.TrodAll enc P W' 0 (fun b => decide (b < W.heap.size)) true ts vs ds ps
  | [], [], [], _, _, h => h
  | t :: ts, v :: vs, d :: ds, ps, hr, h => by
    have hlt := h.lt
    obtain ⟨p, q, h1, h2, rfl⟩ := h
    exact ⟨p, q, Below.trod hl (hr t (by simp)).1 (hr t (by simp)).2 h1 hb (fun x hx => hlt x (by simp [hx])), trodAll_below hl hb (fun t ht => hr t (by simp [ht])) h2, rfl⟩
  | [], [], _ :: _, _, _, h => h.elim
  | [], _ :: _, _, _, _, h => by cases h
  | _ :: _, [], _, _, _, h => by cases h
  | _ :: _, _ :: _, [], _, _, h => h.elim

/-- THE END OF A LAW. -/
theorem law_end {s : ChangeSpec} {fn : Func} {f : FuncId} (hl : laidOutB P = true) (hvars : s.vars = []) (hres : fn.resultTypes = #[4]) (hu4 : P.underlying 4 = some .bool) {k : Nat} (hk : fn.params.size = k)
    (hpar : ∀ t ∈ fn.params.toList, P.readableRec t = true ∧ t < P.types.size)
    {args : Array Value} {ds gs : List (DataW H)} {before : List MemPlace} {apart : Bool} (hsp : ∀ ds : List (DataW H), ds.length = k → s.fn H ds = { results := [.lit (.bool true)], args := ds })
    (hW : DataW.Whole enc P fn.params.toList s.vars apart W args.toList ds gs before)
    (hc : Calls P f args W fun e W' => e = .returned (.bool true) ∧ Below W.heap.size W W') :
    Calls P f args W fun e W' => ∃ v, e = .returned v ∧ s.post enc P fn apart true false false W args v W' := by
  have hW' := hW
  obtain ⟨p, q, hA, hV, rfl, _, _⟩ := hW
  rw [hvars] at hV
  obtain ⟨rfl, rfl⟩ := trodVars_none hV
  have hlen : ds.length = k := by
    have : ∀ {ts : List TypeId} {vs : List Value} {ds : List (DataW H)} {ps : List MemPlace}, DataW.TrodAll enc P W 0 (fun _ => true) true ts vs ds ps → ds.length = ts.length := by
      intro ts
      induction ts with
      | nil => intro vs ds ps h; cases vs <;> cases ds <;> first | rfl | exact h.elim
      | cons t ts ih =>
        intro vs ds ps h
        cases vs with
        | nil => cases ds <;> exact h.elim
        | cons v vs => cases ds with
          | nil => exact h.elim
          | cons d ds => obtain ⟨p, q, _, h2, _⟩ := h; simp [ih h2]
    rw [this hA, ← hk]; simp
  refine hc.mono fun e W' ⟨he, hn⟩ => ?_
  subst he
  have hfn := hsp ds hlen
  refine ⟨_, rfl, ds, [], p ++ [], [], p, [], hW', ?_, ?_, ?_, hn.frame _, fun h => by cases h⟩
  · rw [List.append_nil, hfn, hres]
    exact trodAll_mk1 ⟨1, by simp [DataW.trod, Value.cells, hu4]⟩
  · rw [List.append_nil, hfn]
    exact trodAll_below hl hn hpar hA
  · rw [List.append_nil, hfn, hvars]
    rfl

theorem own : ownKnob Tryz.prog.godebug = none := by kernel_rfl
theorem laidOut : laidOutB Tryz.prog = true := by kernel_rfl
end Go.Proofs.YtgapiecbinplfaaGreat
