/- Own framework, walks and plain laws behind the laws of this seat, part D22: lemmas, no statement of the seat. -/
import Derived.Test.YtgapiecbinplfaaGreatD21
set_option linter.all false
/- What comes of instances is right; order, turning about and doubles change nothing; more instances have all of fewer. -/
namespace Go.Proofs.YtgapiecbinplfaaGreat
open Go.RowKit

theorem setBy_congr {α : Type} {cmp : α → α → Int} (h : OrdOn (fun _ => True) cmp) {a b : List α} (hx : ∀ x, x ∈ a ↔ x ∈ b) : setBy cmp a = setBy cmp b := by
  obtain ⟨h1, h2, _⟩ := setBy_ris h (l := a) (fun _ _ => trivial)
  exact setBy_eq h (fun _ _ => trivial) h1 fun x => by rw [h2]; exact hx x
/-- The same instance, but for the order of its literals. -/
def SameI (x y : Inst) : Prop := x.head = y.head ∧ (∀ t, t ∈ x.pos ↔ t ∈ y.pos) ∧ ∀ t, t ∈ x.neg ↔ t ∈ y.neg
theorem places_congr (ts : List Term) {a b : List Term} (h : ∀ t, t ∈ a ↔ t ∈ b) : placesG ts a = placesG ts b :=
  setBy_congr cmpI_ord fun x => by simp only [List.mem_map]; constructor <;> rintro ⟨t, ht, e⟩ <;> exact ⟨t, by first | exact (h t).1 ht | exact (h t).2 ht, e⟩
theorem ruleG_congr (ts : List Term) {x y : Inst} (h : SameI x y) : ruleG ts x = ruleG ts y := by
  simp only [ruleG, h.1, places_congr ts h.2.1, places_congr ts h.2.2]
theorem instAll_congr {x y : Inst} (h : SameI x y) (t : Term) : t ∈ instAll x ↔ t ∈ instAll y := by
  simp only [instAll, List.mem_cons, List.mem_append, h.1, h.2.1 t, h.2.2 t]
theorem from_congr {m n : List Inst} (h1 : ∀ x ∈ m, ∃ y ∈ n, SameI x y) (h2 : ∀ y ∈ n, ∃ x ∈ m, SameI x y) : fromG m = fromG n := by
  have ha : ∀ t, t ∈ allG m ↔ t ∈ allG n := fun t => by
    simp only [allG, List.mem_flatMap]
    constructor
    · rintro ⟨x, hx, ht⟩
      obtain ⟨y, hy, e⟩ := h1 x hx
      exact ⟨y, hy, (instAll_congr e t).1 ht⟩
    · rintro ⟨y, hy, ht⟩
      obtain ⟨x, hx, e⟩ := h2 y hy
      exact ⟨x, hx, (instAll_congr e t).2 ht⟩
  have e := setBy_congr cmpG_ord ha
  simp only [fromG, e]
  congr 1
  refine setBy_congr gOrder_ord fun r => ?_
  simp only [List.mem_map]
  constructor
  · rintro ⟨x, hx, rfl⟩
    obtain ⟨y, hy, e⟩ := h1 x hx
    exact ⟨y, hy, (ruleG_congr _ e).symm⟩
  · rintro ⟨y, hy, rfl⟩
    obtain ⟨x, hx, e⟩ := h2 y hy
    exact ⟨x, hx, ruleG_congr _ e⟩
theorem SameI.refl (x : Inst) : SameI x x := ⟨rfl, fun _ => Iff.rfl, fun _ => Iff.rfl⟩
theorem turned_same (x : Inst) : SameI x (turnedR x) := by
  refine ⟨rfl, fun t => ?_, fun t => by simp [turnedR]⟩
  simp only [turnedR, List.mem_append, List.mem_reverse]
  exact ⟨.inl, fun h => h.elim id List.mem_of_mem_take⟩
theorem sets_eq (m e : List Inst) (he : ∀ x ∈ e, x ∈ m) : fromG (m.reverse.map turnedR ++ e) = fromG m := by
  refine from_congr (fun x hx => ?_) fun y hy => ⟨turnedR y, by simp; exact .inl ⟨y, hy, rfl⟩, ?_⟩
  · rcases List.mem_append.1 hx with h | h
    · obtain ⟨y, hy, rfl⟩ := List.mem_map.1 h
      have := turned_same y
      exact ⟨y, by simpa using hy, this.1.symm, fun t => (this.2.1 t).symm, fun t => (this.2.2 t).symm⟩
    · exact ⟨x, he x h, .refl x⟩
  · have := turned_same y
    exact ⟨this.1.symm, fun t => (this.2.1 t).symm, fun t => (this.2.2 t).symm⟩

/-- What comes of instances of atoms is right. -/
theorem find_in {ts : List Term} (hr : Ris cmpG ts) {t : Term} (h : t ∈ ts) : 0 ≤ findG ts t ∧ findG ts t < ts.length ∧ gt ts (findG ts t) = t := by
  obtain ⟨k, hk, rfl⟩ := List.getElem_of_mem h
  rw [find_eq hr, findR_at (hr.nodup cmpG_ord (fun _ _ => trivial)) hk, gt_lt hk]
  exact ⟨by omega, by omega, rfl⟩
theorem places_ok {ts l : List Term} (hr : Ris cmpG ts) (h : ∀ t ∈ l, t ∈ ts) : setOk (placesG ts l) ts.length = true := by
  obtain ⟨h1, h2, _⟩ := setBy_ris cmpI_ord (l := l.map (findG ts)) (fun _ _ => trivial)
  refine setOk_iff.2 ⟨fun x hx => ?_, h1.imp fun hab => (cmpI_sub _ _).1.1 hab⟩
  obtain ⟨t, ht, rfl⟩ := List.mem_map.1 ((h2 x).1 hx)
  have := find_in hr (h t ht)
  exact ⟨this.1, this.2.1⟩
theorem mem_allG {l : List Inst} {x : Inst} (hx : x ∈ l) {t : Term} (ht : t ∈ instAll x) : t ∈ setBy cmpG (allG l) :=
  ((setG_ris (allG l)).2 t).2 (List.mem_flatMap.2 ⟨x, hx, ht⟩)
theorem from_right {l : List Inst} (h : ∀ x ∈ l, ∀ t ∈ instAll x, atomT t = true ∧ groundT t = true) : RightP (fromG l) := by
  obtain ⟨h1, h2⟩ := setG_ris (allG l)
  obtain ⟨h3, h4, _⟩ := setBy_ris gOrder_ord (l := l.map (ruleG (setBy cmpG (allG l)))) (fun _ _ => trivial)
  have hx : ∀ r ∈ (fromG l).rules, ∃ x ∈ l, ruleG (setBy cmpG (allG l)) x = r := fun r hr => List.mem_map.1 ((h4 r).1 hr)
  refine ⟨fun t ht => ?_, h1, fun r hr => ?_, fun r hr => ?_, fun r hr => ?_, h3⟩
  · obtain ⟨x, hx, ht⟩ := List.mem_flatMap.1 ((h2 t).1 ht)
    exact h x hx t ht
  · obtain ⟨x, hm, rfl⟩ := hx r hr
    have := find_in h1 (mem_allG hm (t := x.head) (by simp [instAll]))
    exact ⟨this.1, this.2.1⟩
  · obtain ⟨x, hm, rfl⟩ := hx r hr
    exact places_ok h1 fun t ht => mem_allG hm (by simp [instAll, ht])
  · obtain ⟨x, hm, rfl⟩ := hx r hr
    exact places_ok h1 fun t ht => mem_allG hm (by simp [instAll, ht])

/-- The rules' instances are the instances, but for the order and doubles of literals. -/
theorem places_inst {ts l : List Term} (hr : Ris cmpG ts) (h : ∀ t ∈ l, t ∈ ts) : (placesG ts l).map (gt ts) = (placesG ts l).map (gt ts) ∧ ∀ t, t ∈ (placesG ts l).map (gt ts) ↔ t ∈ l := by
  obtain ⟨_, h2, _⟩ := setBy_ris cmpI_ord (l := l.map (findG ts)) (fun _ _ => trivial)
  refine ⟨rfl, fun t => ?_⟩
  simp only [List.mem_map]
  constructor
  · rintro ⟨k, hk, rfl⟩
    obtain ⟨u, hu, rfl⟩ := List.mem_map.1 ((h2 k).1 hk)
    rw [(find_in hr (h u hu)).2.2]; exact hu
  · intro ht
    exact ⟨findG ts t, (h2 _).2 (List.mem_map.2 ⟨t, ht, rfl⟩), (find_in hr (h t ht)).2.2⟩
theorem tnd_congr : True := trivial
def tnd (m : List Inst) (c : Nat) : List Inst := (m.reverse.take c).map turnedR
theorem tnd_zero (m : List Inst) : tnd m 0 = [] := rfl
theorem tnd_step {m : List Inst} {c : Nat} (h : c < m.length) : tnd m (c + 1) = tnd m c ++ [turnedR (gin m ((m.length : Int) - 1 - c))] := by
  have h1 : c < m.reverse.length := by simpa using h
  rw [tnd, List.take_succ_eq_append_getElem h1, List.map_append, tnd, show (m.length : Int) - 1 - c = ((m.length - 1 - c : Nat) : Int) by omega, gin_lt (by omega)]
  simp [List.getElem_reverse]
theorem tnd_len {m : List Inst} {c : Nat} (h : c ≤ m.length) : (tnd m c).length = c := by simp [tnd]; omega
theorem tnd_all {m : List Inst} {c : Nat} (h : m.length ≤ c) : tnd m c = m.reverse.map turnedR := by rw [tnd, List.take_of_length_le (by simpa using h)]
end Go.Proofs.YtgapiecbinplfaaGreat
/- Walks: layer 16's laws: GroundSets. Printed by walk.py from annotations. -/
namespace Go.Proofs.YtgapiecbinplfaaGreat
open Go.RowKit


theorem made_atoms (l : List Inst) : ∀ x ∈ madeR l, ∀ t ∈ instAll x, atomT t = true ∧ groundT t = true := by
  intro x hx t ht
  have h2 := (List.mem_filter.1 hx).2
  simp only [madeOk, Bool.and_eq_true, decide_eq_true_eq, List.all_eq_true] at h2
  have h3 : ∀ t, atom200 t = true → atomT t = true ∧ groundT t = true := fun t h => by
    simp only [atom200, Bool.and_eq_true] at h
    exact h.2
  simp only [instAll, List.mem_cons, List.mem_append] at ht
  rcases ht with rfl | ht | ht
  · exact h3 _ h2.1
  · exact h3 _ (h2.2.2.1 _ ht)
  · exact h3 _ (h2.2.2.2 _ ht)
theorem made_right (l : List Inst) : RightP (fromG (madeR l)) := from_right (made_atoms l)
theorem gin_mem {l : List Inst} {i : Int} (h : 0 ≤ i ∧ i < l.length) : gin l i ∈ l := by
  have h1 : i.toNat < l.length := by omega
  rw [show i = ((i.toNat : Nat) : Int) by omega, gin_lt h1]; exact List.getElem_mem _
theorem made_sh (l : List Inst) : ∀ x ∈ madeR l, x.pos.length ≤ 10 ∧ x.neg.length ≤ 10 := fun x hx => by
  have h2 := (List.mem_filter.1 hx).2
  simp only [madeOk, Bool.and_eq_true, decide_eq_true_eq] at h2
  exact h2.2.1
theorem mixed_ok (l e : List Inst) (he : ∀ x ∈ e, x ∈ madeR l) (hl : e.length ≤ 1) : InstsOk ((madeR l).reverse.map turnedR ++ e) := by
  have h1 := made_len l
  refine ⟨by simp; omega, fun i hi => ?_⟩
  have hm : gin ((madeR l).reverse.map turnedR ++ e) i ∈ (madeR l).reverse.map turnedR ++ e := by rw [gin_lt hi]; exact List.getElem_mem _
  rcases List.mem_append.1 hm with h | h
  · obtain ⟨y, hy, e2⟩ := List.mem_map.1 h
    rw [← e2]
    have := made_sh l y (by simpa using hy)
    have h2 := List.length_take_le 1 y.pos
    simp only [turnedR, List.length_append, List.length_reverse]
    omega
  · have := made_sh l _ (he _ h)
    omega
theorem mixed_ctr (l e : List Inst) (he : ∀ x ∈ e, x ∈ madeR l) (hl : e.length ≤ 1) {c : Nat} (hc : (madeR l).length ≤ c) : Ctr Tryz.prog 38 [.d (.sl .inst) (tnd (madeR l) c ++ e)] [] (pav (fromG (madeR l))) [] := by
  have h1 := fromG_ctr _ (mixed_ok l e he hl)
  rwa [sets_eq _ _ he, ← tnd_all hc] at h1
theorem rightG_ctr3 {g : Prg} (h : RightP g) : Ctr Tryz.prog 28 [pav g] [] (.d .bool true) [] := by
  have h1 := rightGP_ctr g
  rwa [rightGP_iff.2 h] at h1

set_option maxRecDepth 8000 in
set_option maxHeartbeats 4000000 in
theorem sets_ctr (l : List Inst) (n : Int) (hl : ∀ x ∈ l, NmI x) (hn : 0 ≤ n ∧ n ≤ 255) : Ctr Tryz.prog 7 [.d (.sl .inst) l, .d (.int .u8) n] [] (.d .bool true) [] := by
  refine ctr_pure E Tryz.func7 rfl Tryz.ntmps7 Tryz.results7 (Nat.le_of_ble_eq_true rfl) rfl ?_
  have hml := made_len l
  have k1 := made_ctr l hl
  have k2 := fromG_ctr _ (made_ok l)
  have k3 := rightG_ctr3 (made_right l)
  have hfr := fromG_rules (madeR l)
  have k4 := same_self (fromG (madeR l)) (by omega)
  have wn : IntKind.i64.wrap n = n := wrap_i64 (by omega) (by omega)
  repeat refine ok_seq ?_
  refine ok_reg E [0, 1] [] (by simp [-Option.some.injEq, -Prod.mk.injEq]; rfl) (by first | trivial | omega | simp | (simp; omega)) ?_
  repeat refine ok_seq ?_
  refine ok_reg E [0, 1, 5] [.pure (.d .bool true)] (by simp [-Option.some.injEq, -Prod.mk.injEq]; rfl) (by (have q100 := head16_ctr; (try simp at q100); simp [q100])) ?_
  repeat refine ok_seq ?_
  refine ok_reg E [1, 5, 6] [.pure (.d (.sl .inst) (madeR l))] (by simp [-Option.some.injEq, -Prod.mk.injEq]; rfl) (by (have q100 := k1; (try simp at q100); simp [q100])) ?_
  repeat refine ok_seq ?_
  refine ok_reg E [1, 5, 6, 7] [.pure (pav (fromG (madeR l)))] (by simp [-Option.some.injEq, -Prod.mk.injEq]; rfl) (by (have q100 := k2; (try simp at q100); simp [q100])) ?_
  repeat refine ok_seq ?_
  refine ok_reg E [1, 5, 6, 7, 8] [] (by simp [-Option.some.injEq, -Prod.mk.injEq]; rfl) (by first | trivial | omega | simp | (simp; omega)) ?_
  repeat refine ok_seq ?_
  refine ok_reg E [1, 5, 6, 7, 8, 9] [] (by simp [-Option.some.injEq, -Prod.mk.injEq]; rfl) (by first | trivial | omega | simp | (simp; omega)) ?_
  repeat refine ok_seq ?_
  refine ok_block ?_
  repeat refine ok_seq ?_
  refine ok_loop (σ := Nat) (fun c => [(1, .d (.int .u8) n), (5, .d .bool true), (6, .d (.sl .inst) (madeR l)), (7, .ptr 0 0), (8, .orow 1), (9, .d .i (((madeR l).length : Int) - 1 - c))]) (fun c => [.cells [.d .terms (fromG (madeR l)).atoms, .d (.sl .rule) (fromG (madeR l)).rules], .orow 51 .inst (tnd (madeR l) c)]) (fun c => c ≤ (madeR l).length) (fun c => (madeR l).length - c) 0 (by simp) ?_ ?_
  · constructor <;> simp (disch := omega) [EntF, EntH, EntB, Conv, ConvL, scop, scopL, wrap_i64, tnd_zero]
  rintro c hc
  repeat refine ok_seq ?_
  refine ok_reg E [1, 5, 6, 7, 8, 9, 21] [] (by simp [-Option.some.injEq, -Prod.mk.injEq]; rfl) (by first | trivial | omega | simp | (simp; omega)) ?_
  repeat refine ok_seq ?_
  refine ok_if rfl (fun c1 => ?_) (fun c1 => ?_)
  · try simp at c1
    all_goals
      have hin := gin_mem (l := (madeR l)) (i := ((madeR l).length : Int) - 1 - c) (by omega)
      have hsh := made_sh l _ hin
      have k5 := turnedR_ctr (gin (madeR l) (((madeR l).length : Int) - 1 - c)) (by omega) (by omega)
      have e1 := tnd_step (m := (madeR l)) (c := c) (by omega)
      have e2 := tnd_len hc
      refine ok_skip ?_
      repeat refine ok_seq ?_
      refine ok_block ?_
      repeat refine ok_seq ?_
      refine ok_reg E [1, 5, 6, 7, 8, 9] [.pure (avOf .inst (turnedR (gin (madeR l) (((madeR l).length : Int) - 1 - c))))] (by simp [-Option.some.injEq, -Prod.mk.injEq]; rfl) (by ((try simp at k5); simp [k5, big]; omega)) ?_
      repeat refine ok_seq ?_
      refine ok_reg E [1, 5, 6, 7, 8, 9] [] (by simp [-Option.some.injEq, -Prod.mk.injEq]; rfl) (by first | trivial | omega | simp | (simp; omega)) ?_
      -- end01
      exact ⟨c + 1, by omega, by omega, by constructor <;> simp (disch := omega) [EntF, EntH, EntB, Conv, ConvL, scop, scopL, wrap_i64, e1] <;> (show (_ : Int) = (_ : Int); omega)⟩
  · try simp at c1
    all_goals
      have e2 := tnd_len hc
      have hc2 : (madeR l).length ≤ c := by omega
      refine ok_exit ?_
      repeat refine ok_seq ?_
      refine ok_reg E [1, 5, 6, 7, 8, 34] [] (by simp [-Option.some.injEq, -Prod.mk.injEq]; rfl) (by first | trivial | omega | simp | (simp; omega)) ?_
      repeat refine ok_seq ?_
      refine ok_if rfl (fun c2 => ?_) (fun c2 => ?_)
      · try simp at c2
        all_goals
          have hkk : 0 ≤ (n.tmod ((madeR l).length : Int)) ∧ (n.tmod ((madeR l).length : Int)) < ((madeR l).length : Int) := ⟨Int.tmod_nonneg _ hn.1, Int.tmod_lt_of_pos _ (by omega)⟩
          have hkm := gin_mem hkk
          have w1 : max (n.tmod ((madeR l).length : Int)) 0 = (n.tmod ((madeR l).length : Int)) := by omega
          obtain ⟨e, he⟩ : ∃ e, e = [gin (madeR l) (n.tmod ((madeR l).length : Int))] := ⟨_, rfl⟩
          have k6 := mixed_ctr l e (by rw [he]; simpa using hkm) (by simp [he]) hc2
          repeat refine ok_seq ?_
          refine ok_reg E [5, 6, 7, 8] [] (by simp [wn, w1, -Option.some.injEq, -Prod.mk.injEq]; rfl) (by simp [big]; omega) ?_
          repeat refine ok_seq ?_
          refine ok_ent (ρ1 := [(5, .d .bool true), (6, .d (.sl .inst) (madeR l)), (7, .ptr 0 0), (8, .d (.sl .inst) (tnd (madeR l) c ++ e))]) (H1 := [.cells [.d .terms (fromG (madeR l)).atoms, .d (.sl .rule) (fromG (madeR l)).rules]]) (by constructor <;> simp [EntF, EntH, EntB, Conv, ConvL, scop, scopL, he]) ?_
          refine ok_reg E [5, 6, 7, 10] [.pure (pav (fromG (madeR l)))] (by simp [-Option.some.injEq, -Prod.mk.injEq]; rfl) (by (have q100 := k6; (try simp at q100); simp [q100])) ?_
          repeat refine ok_seq ?_
          refine ok_reg E [4] [.pure (.d .bool true), .pure (.d .bool true)] (by simp [hfr, -Option.some.injEq, -Prod.mk.injEq]; rfl) (by (have q100 := k3; (try simp at q100); have q101 := k4; (try simp at q101); simp [q100, q101])) ?_
          refine ok_ret ⟨.inr rfl, ?_⟩
          -- ret1
          simp [resAll, resL, resA, frozE]
      · try simp at c2
        all_goals
          obtain ⟨e, he⟩ : ∃ e : List Inst, e = [] := ⟨_, rfl⟩
          have k6 := mixed_ctr l e (by simp [he]) (by simp [he]) hc2
          refine ok_skip ?_
          repeat refine ok_seq ?_
          refine ok_ent (ρ1 := [(5, .d .bool true), (6, .d (.sl .inst) (madeR l)), (7, .ptr 0 0), (8, .d (.sl .inst) (tnd (madeR l) c ++ e))]) (H1 := [.cells [.d .terms (fromG (madeR l)).atoms, .d (.sl .rule) (fromG (madeR l)).rules]]) (by constructor <;> simp [EntF, EntH, EntB, Conv, ConvL, scop, scopL, he]) ?_
          refine ok_reg E [5, 6, 7, 10] [.pure (pav (fromG (madeR l)))] (by simp [-Option.some.injEq, -Prod.mk.injEq]; rfl) (by (have q100 := k6; (try simp at q100); simp [q100])) ?_
          repeat refine ok_seq ?_
          refine ok_reg E [4] [.pure (.d .bool true), .pure (.d .bool true)] (by simp [hfr, -Option.some.injEq, -Prod.mk.injEq]; rfl) (by (have q100 := k3; (try simp at q100); have q101 := k4; (try simp at q101); simp [q100, q101])) ?_
          refine ok_ret ⟨.inr rfl, ?_⟩
          -- ret2
          simp [resAll, resL, resA, frozE]

end Go.Proofs.YtgapiecbinplfaaGreat
