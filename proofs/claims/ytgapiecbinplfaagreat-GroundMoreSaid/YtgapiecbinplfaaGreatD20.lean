/- Own framework, walks and plain laws behind the laws of this seat, part D20: lemmas, no statement of the seat. -/
import Derived.Test.YtgapiecbinplfaaGreatC14
set_option linter.all false
/- A right program, each atom of which stands in a rule, is that of its rules' instances. -/
namespace Go.Proofs.YtgapiecbinplfaaGreat
open Go.RowKit

theorem nodup_atoms {g : Prg} (hr : RightP g) : g.atoms.Nodup := hr.rise.nodup cmpG_ord (fun _ _ => trivial)
theorem find_place {g : Prg} (hr : RightP g) {k : Int} (hk : InP g k) : findG g.atoms (gt g.atoms k) = k := by
  obtain ⟨h0, h1⟩ := hk
  have h2 : k.toNat < g.atoms.length := by omega
  rw [show k = ((k.toNat : Nat) : Int) by omega, gt_lt h2, find_eq hr.rise, findR_at (nodup_atoms hr) h2]
theorem gt_memI {l : List Term} {i : Int} (h : 0 ≤ i ∧ i < l.length) : gt l i ∈ l := by
  have h1 : i.toNat < l.length := by omega
  rw [show i = ((i.toNat : Nat) : Int) by omega, gt_lt h1]; exact List.getElem_mem _
theorem ris_cmpI {l : List Int} (h : Ris subI l) : Ris cmpI l := h.imp fun hab => (cmpI_sub _ _).1.2 hab
theorem setBy_self {α : Type} {cmp : α → α → Int} (h : OrdOn (fun _ => True) cmp) {l : List α} (hl : Ris cmp l) : setBy cmp l = l :=
  (setBy_eq h (fun _ _ => trivial) hl (fun _ => Iff.rfl)).symm
theorem places_self {g : Prg} (hr : RightP g) {l : List Int} (h : setOk l g.atoms.length = true) : placesG g.atoms (l.map (gt g.atoms)) = l := by
  obtain ⟨h1, h2⟩ := setOk_iff.1 h
  rw [placesG, List.map_map, show (l.map (findG g.atoms ∘ gt g.atoms)) = l from ?_]
  · exact setBy_self cmpI_ord (ris_cmpI h2)
  · conv => rhs; rw [← List.map_id l]
    exact List.map_congr_left fun k hk => find_place hr (h1 k hk)
theorem rule_self {g : Prg} (hr : RightP g) {r : Rule} (h : r ∈ g.rules) : ruleG g.atoms (instR g r) = r := by
  simp only [ruleG, instR, find_place hr (hr.head r h), places_self hr (hr.pos r h), places_self hr (hr.neg r h)]

/-- Does an atom stand in a rule? -/
def UsedIn (g : Prg) (k : Int) : Prop := ∃ r ∈ g.rules, k = r.head ∨ k ∈ r.pos ∨ k ∈ r.neg
theorem back_eq {g : Prg} (hr : RightP g) (hu : ∀ k, InP g k → UsedIn g k) : fromG (g.rules.map (instR g)) = g := by
  have ha : setBy cmpG (allG (g.rules.map (instR g))) = g.atoms := by
    refine (setBy_eq cmpG_ord (fun _ _ => trivial) hr.rise fun x => ?_).symm
    simp only [allG, List.mem_flatMap, List.mem_map, instAll, List.mem_cons, List.mem_append]
    constructor
    · intro hx
      obtain ⟨k, hk, rfl⟩ := List.getElem_of_mem hx
      obtain ⟨r, hm, h⟩ := hu k ⟨by omega, by omega⟩
      refine ⟨_, ⟨r, hm, rfl⟩, ?_⟩
      simp only [instR, List.mem_map]
      rw [← gt_lt hk]
      rcases h with h | h | h
      · left; rw [h]
      · right; left; exact ⟨_, h, rfl⟩
      · right; right; exact ⟨_, h, rfl⟩
    · rintro ⟨_, ⟨r, hm, rfl⟩, h⟩
      simp only [instR, List.mem_map] at h
      rcases h with rfl | ⟨k, hk, rfl⟩ | ⟨k, hk, rfl⟩
      · exact gt_memI (hr.head r hm)
      · exact gt_memI ((setOk_iff.1 (hr.pos r hm)).1 k hk)
      · exact gt_memI ((setOk_iff.1 (hr.neg r hm)).1 k hk)
  simp only [fromG, ha, List.map_map]
  have e : g.rules.map (ruleG g.atoms ∘ instR g) = g.rules := by
    conv => rhs; rw [← List.map_id g.rules]
    exact List.map_congr_left fun r h => rule_self hr h
  rw [e, setBy_self gOrder_ord hr.rules]

/-! ### marks -/
def setL (s : List Bool) (l : List Int) : List Bool := l.foldl (fun s k => s.set k.toNat true) s
def usedStep (s : List Bool) (r : Rule) : List Bool := setL (setL (s.set r.head.toNat true) r.pos) r.neg
def usedR (rs : List Rule) (n : Nat) : List Bool := rs.foldl usedStep (List.replicate n false)
theorem setL_len : ∀ (l : List Int) (s : List Bool), (setL s l).length = s.length
  | [], _ => rfl
  | k :: l, s => by
    have := setL_len l (s.set k.toNat true)
    simpa [setL] using this
theorem setL_step {s : List Bool} {l : List Int} {i : Nat} (h : i < l.length) : setL s (l.take (i + 1)) = (setL s (l.take i)).set (gi l i).toNat true := by
  rw [List.take_succ_eq_append_getElem h, setL, List.foldl_append, gi_lt h]; rfl
theorem usedStep_len (s : List Bool) (r : Rule) : (usedStep s r).length = s.length := by simp [usedStep, setL_len]
theorem usedR_len (n : Nat) : ∀ (rs : List Rule), (usedR rs n).length = n := by
  suffices h : ∀ (rs : List Rule) (s : List Bool), (rs.foldl usedStep s).length = s.length from fun rs => by rw [usedR, h]; simp
  intro rs
  induction rs with
  | nil => intro s; rfl
  | cons r rs ih => intro s; rw [List.foldl_cons, ih, usedStep_len]
theorem usedR_step {l : List Rule} {n i : Nat} (h : i < l.length) : usedR (l.take (i + 1)) n = usedStep (usedR (l.take i) n) (gr l i) := by
  rw [List.take_succ_eq_append_getElem h, usedR, List.foldl_append, gr_lt h]; rfl
theorem setL_true : ∀ (l : List Int) (s : List Bool) (j : Nat), (setL s l)[j]? = some true → s[j]? = some true ∨ ∃ k ∈ l, k.toNat = j
  | [], s, j, h => .inl h
  | k :: l, s, j, h => by
    rcases setL_true l (s.set k.toNat true) j h with h | ⟨q, hq, e⟩
    · rw [List.getElem?_set] at h
      split at h
      · rename_i e; exact .inr ⟨k, by simp, e⟩
      · exact .inl h
    · exact .inr ⟨q, by simp [hq], e⟩
theorem usedStep_true {s : List Bool} {r : Rule} {j : Nat} (h : (usedStep s r)[j]? = some true) : s[j]? = some true ∨ r.head.toNat = j ∨ ∃ k, (k ∈ r.pos ∨ k ∈ r.neg) ∧ k.toNat = j := by
  rcases setL_true _ _ _ h with h | ⟨q, hq, e⟩
  · rcases setL_true _ _ _ h with h | ⟨q, hq, e⟩
    · rw [List.getElem?_set] at h
      split at h
      · rename_i e; exact .inr (.inl e)
      · exact .inl h
    · exact .inr (.inr ⟨q, .inl hq, e⟩)
  · exact .inr (.inr ⟨q, .inr hq, e⟩)
theorem usedR_true : ∀ (rs : List Rule) (s : List Bool) (j : Nat), (rs.foldl usedStep s)[j]? = some true → s[j]? = some true ∨ ∃ r ∈ rs, r.head.toNat = j ∨ ∃ k, (k ∈ r.pos ∨ k ∈ r.neg) ∧ k.toNat = j
  | [], s, j, h => .inl h
  | r :: rs, s, j, h => by
    rcases usedR_true rs _ j h with h | ⟨q, hq, e⟩
    · rcases usedStep_true h with h | h
      · exact .inl h
      · exact .inr ⟨r, by simp, h⟩
    · exact .inr ⟨q, by simp [hq], e⟩
theorem used_all {g : Prg} (hr : RightP g) (h : ∀ j : Nat, j < g.atoms.length → (usedR g.rules g.atoms.length)[j]? = some true) : ∀ k, InP g k → UsedIn g k := by
  intro k hk
  have h1 := h k.toNat (by have := hk.1; have := hk.2; omega)
  rcases usedR_true _ _ _ h1 with h2 | ⟨r, hm, h2⟩
  · rw [List.getElem?_replicate] at h2; split at h2 <;> simp at h2
  · refine ⟨r, hm, ?_⟩
    have e : ∀ q : Int, 0 ≤ q → q.toNat = k.toNat → k = q := fun q h0 e => by have := hk.1; omega
    rcases h2 with h2 | ⟨q, hq, h2⟩
    · exact .inl (e _ (hr.head r hm).1 h2)
    · rcases hq with hq | hq
      · have := ((setOk_iff.1 (hr.pos r hm)).1 q hq).1
        rw [e q this h2]; exact .inr (.inl hq)
      · have := ((setOk_iff.1 (hr.neg r hm)).1 q hq).1
        rw [e q this h2]; exact .inr (.inr hq)
end Go.Proofs.YtgapiecbinplfaaGreat
/- Walks: layer 16's laws: GroundBack. Printed by walk.py from annotations. -/
namespace Go.Proofs.YtgapiecbinplfaaGreat
open Go.RowKit


def gb (l : List Bool) (i : Int) : Bool := l.getD i.toNat false
@[simp] theorem at0_bool (l : List Bool) (i : Int) : (at0 Ty.bool l i : Bool) = gb l i := rfl
theorem gb_lt {l : List Bool} {i : Nat} (h : i < l.length) : gb l (i : Int) = l[i] := by simp [gb, h]
theorem mapR_step {α : Type} {f : Rule → α} {l : List Rule} {i : Nat} (h : i < l.length) : (l.take (i + 1)).map f = (l.take i).map f ++ [f (gr l i)] := by
  rw [List.take_succ_eq_append_getElem h, List.map_append, gr_lt h]; rfl
theorem inst_ctr2 {g : Prg} (hr : RightP g) (hN : g.atoms.length ≤ 100000) {r : Rule} (h : r ∈ g.rules) : Ctr Tryz.prog 46 [pav g, avOf .rule r] [] (avOf .inst (instR g r)) [] := by
  have h1 := setOk_len (hr.pos r h)
  have h2 := setOk_len (hr.neg r h)
  exact instR_ctr g r (hr.head r h) (setOk_iff.1 (hr.pos r h)).1 (setOk_iff.1 (hr.neg r h)).1 (by omega) (by omega)
theorem insts_ok {g : Prg} (h : greatP g = false) : InstsOk (g.rules.map (instR g)) := by
  have h1 := small_of h
  refine ⟨by rw [List.length_map]; have := h1.2.1; omega, fun i hi => ?_⟩
  have hi2 : i < g.rules.length := by simpa using hi
  have h2 := h1.2.2.2 i hi2
  rw [gin_lt hi, List.getElem_map, ← gr_lt hi2]
  simp only [instR, List.length_map]
  omega

set_option maxRecDepth 8000 in
set_option maxHeartbeats 4000000 in
theorem back_ctr (g : Prg) (hg : ∀ t ∈ g.atoms, NmOk t) : Ctr Tryz.prog 8 [pav g] [] (.d .bool true) [] := by
  refine ctr_pure E Tryz.func8 rfl Tryz.ntmps8 Tryz.results8 (Nat.le_of_ble_eq_true rfl) rfl ?_
  simp only [pav]
  have k0 := greatP_ctr g
  have k1 := fun h => rightR_ctr2 (g := g) h hg
  repeat refine ok_seq ?_
  refine ok_reg E [1] [] (by simp [-Option.some.injEq, -Prod.mk.injEq]; rfl) (by first | trivial | omega | simp | (simp; omega)) ?_
  repeat refine ok_seq ?_
  refine ok_reg E [1, 3] [.pure (.d .bool true)] (by simp [-Option.some.injEq, -Prod.mk.injEq]; rfl) (by (have q100 := head16_ctr; (try simp at q100); simp [q100])) ?_
  repeat refine ok_seq ?_
  refine ok_regJ E [(18, .d .bool (decide (greatP g = true ∨ rightP g = false)))] [1, 3] [1, 3, 18] [.pure (.d .bool (greatP g)), .pure (.d .bool (rightP g))] ?_ ?_
  · skip
    by_cases q0 : greatP g = true
    · refine ⟨_, _, _, by simp [q0, -Option.some.injEq, -Prod.mk.injEq]; rfl, (by first | (have q100 := k0; (try simp at q100); (try simp [q0] at q100); (try simp [q1] at q100); have q101 := k1 (by simpa using q0); (try simp at q101); (try simp [q0] at q101); (try simp [q1] at q101); simp [q100, q101]) | (have q100 := k0; (try simp at q100); (try simp [q0] at q100); (try simp [q1] at q100); simp [q100])), by constructor <;> simp [EntF, EntH, EntB, Conv, scop, q0] <;> first | omega | (rw [Bool.eq_iff_iff]; simp; omega)⟩
    refine ⟨_, _, _, by simp [q0, -Option.some.injEq, -Prod.mk.injEq]; rfl, (by first | (have q100 := k0; (try simp at q100); (try simp [q0] at q100); (try simp [q1] at q100); have q101 := k1 (by simpa using q0); (try simp at q101); (try simp [q0] at q101); (try simp [q1] at q101); simp [q100, q101]) | (have q100 := k0; (try simp at q100); (try simp [q0] at q100); (try simp [q1] at q100); simp [q100])), by constructor <;> simp [EntF, EntH, EntB, Conv, scop, q0] <;> first | omega | (rw [Bool.eq_iff_iff]; simp; omega)⟩
  repeat refine ok_seq ?_
  refine ok_if rfl (fun c1 => ?_) (fun c1 => ?_)
  · try simp at c1
    all_goals
      skip
      repeat refine ok_seq ?_
      refine ok_reg E [2] [] (by simp [-Option.some.injEq, -Prod.mk.injEq]; rfl) (by first | trivial | omega | simp | (simp; omega)) ?_
      refine ok_ret ⟨.inr rfl, ?_⟩
      -- ret1
      simp [resAll, resL, resA, frozE]
  · try simp at c1
    all_goals
      have hr := right_of c1.1 c1.2
      have hs := small_of c1.1
      have hs1 := hs.1
      have hs2 := hs.2.1
      refine ok_skip ?_
      repeat refine ok_seq ?_
      refine ok_reg E [1, 3, 4] [] (by simp [-Option.some.injEq, -Prod.mk.injEq]; rfl) (by simp [big]; omega) ?_
      repeat refine ok_seq ?_
      refine ok_reg E [1, 3, 4, 5] [] (by simp [-Option.some.injEq, -Prod.mk.injEq]; rfl) (by first | trivial | omega | simp | (simp; omega)) ?_
      repeat refine ok_seq ?_
      refine ok_reg E [1, 3, 4, 5, 6] [] (by simp [-Option.some.injEq, -Prod.mk.injEq]; rfl) (by first | trivial | omega | simp | (simp; omega)) ?_
      repeat refine ok_seq ?_
      refine ok_block ?_
      repeat refine ok_seq ?_
      refine ok_loop (σ := Nat) (fun i => [(1, .ptr 0 0), (3, .d .bool true), (4, .mrow 1), (5, .orow 2), (6, .d .i (i : Int))]) (fun i => [.cells [.d .terms g.atoms, .d (.sl .rule) g.rules], .mrow 4 .bool (usedR (g.rules.take i) g.atoms.length), .orow 51 .inst ((g.rules.take i).map (instR g))]) (fun i => i ≤ g.rules.length) (fun i => g.rules.length - i) 0 (by simp) ?_ ?_
      · constructor <;> simp [EntF, EntH, EntB, Conv, ConvL, scop, scopL, usedR]
      rintro i hi
      repeat refine ok_seq ?_
      refine ok_reg E [1, 3, 4, 5, 6, 29] [] (by simp [-Option.some.injEq, -Prod.mk.injEq]; rfl) (by first | trivial | omega | simp | (simp; omega)) ?_
      repeat refine ok_seq ?_
      refine ok_if rfl (fun c2 => ?_) (fun c2 => ?_)
      · try simp at c2
        all_goals
          have hm := gr_mem c2
          have hh := hr.head _ hm
          have w1 : max (gr g.rules i).head 0 = (gr g.rules i).head := by omega
          have hul := usedR_len g.atoms.length (g.rules.take i)
          have hpl := setOk_len (hr.pos _ hm)
          have hnl := setOk_len (hr.neg _ hm)
          have hps := (setOk_iff.1 (hr.pos _ hm)).1
          have hns := (setOk_iff.1 (hr.neg _ hm)).1
          have k3 := inst_ctr2 hr (by omega) hm
          have e5 := mapR_step (f := instR g) c2
          have e1 := usedR_step (n := g.atoms.length) c2
          have hlp : ∀ j : Nat, (setL ((usedR (g.rules.take i) g.atoms.length).set (gr g.rules i).head.toNat true) ((gr g.rules i).pos.take j)).length = g.atoms.length := fun j => by rw [setL_len, List.length_set]; exact hul
          have hln : ∀ j : Nat, (setL (setL ((usedR (g.rules.take i) g.atoms.length).set (gr g.rules i).head.toNat true) (gr g.rules i).pos) ((gr g.rules i).neg.take j)).length = g.atoms.length := fun j => by rw [setL_len, setL_len, List.length_set]; exact hul
          refine ok_skip ?_
          repeat refine ok_seq ?_
          refine ok_block ?_
          repeat refine ok_seq ?_
          refine ok_reg E [1, 3, 4, 5, 6, 7] [] (by simp [-Option.some.injEq, -Prod.mk.injEq]; rfl) (by first | trivial | omega | simp | (simp; omega)) ?_
          repeat refine ok_seq ?_
          refine ok_reg E [1, 3, 4, 5, 6, 7] [] (by simp [w1, -Option.some.injEq, -Prod.mk.injEq]; rfl) (by first | omega | (simp [hul]; omega)) ?_
          repeat refine ok_seq ?_
          refine ok_reg E [1, 3, 4, 5, 6, 7, 8] [] (by simp [-Option.some.injEq, -Prod.mk.injEq]; rfl) (by first | trivial | omega | simp | (simp; omega)) ?_
          repeat refine ok_seq ?_
          refine ok_block ?_
          repeat refine ok_seq ?_
          refine ok_loop (σ := Nat) (fun k => [(1, .ptr 0 0), (3, .d .bool true), (4, .mrow 1), (5, .orow 2), (6, .d .i (i : Int)), (7, .ptr 3 0), (8, .d .i (k : Int))]) (fun k => [.cells [.d .terms g.atoms, .d (.sl .rule) g.rules], .mrow 4 .bool (setL ((usedR (g.rules.take i) g.atoms.length).set (gr g.rules i).head.toNat true) ((gr g.rules i).pos.take k)), .orow 51 .inst ((g.rules.take i).map (instR g)), .cells [.d .i (gr g.rules i).head, .d .ints (gr g.rules i).pos, .d .ints (gr g.rules i).neg]]) (fun k => k ≤ (gr g.rules i).pos.length) (fun k => (gr g.rules i).pos.length - k) 0 (by simp) ?_ ?_
          · constructor <;> simp [EntF, EntH, EntB, Conv, ConvL, scop, scopL, setL]
          rintro k hk0
          repeat refine ok_seq ?_
          refine ok_reg E [1, 3, 4, 5, 6, 7, 8, 45] [] (by simp [-Option.some.injEq, -Prod.mk.injEq]; rfl) (by first | trivial | omega | simp | (simp; omega)) ?_
          repeat refine ok_seq ?_
          refine ok_if rfl (fun c3 => ?_) (fun c3 => ?_)
          · try simp at c3
            all_goals
              have hk := hps _ (gi_mem c3)
              have w2 : max (gi (gr g.rules i).pos k) 0 = gi (gr g.rules i).pos k := by omega
              have hl3 := hlp k
              have e2 := setL_step (s := ((usedR (g.rules.take i) g.atoms.length).set (gr g.rules i).head.toNat true)) c3
              refine ok_skip ?_
              repeat refine ok_seq ?_
              refine ok_block ?_
              repeat refine ok_seq ?_
              refine ok_reg E [1, 3, 4, 5, 6, 7, 8] [] (by simp [w2, -Option.some.injEq, -Prod.mk.injEq]; rfl) (by first | omega | (simp [hl3, hul]; omega)) ?_
              repeat refine ok_seq ?_
              refine ok_reg E [1, 3, 4, 5, 6, 7, 8] [] (by simp [-Option.some.injEq, -Prod.mk.injEq]; rfl) (by first | trivial | omega | simp | (simp; omega)) ?_
              -- end21
              exact ⟨k + 1, by omega, by omega, by constructor <;> simp (disch := omega) [EntF, EntH, EntB, Conv, ConvL, scop, scopL, wrap_i64, e2]⟩
          · try simp at c3
            all_goals
              have e3 : (gr g.rules i).pos.take k = (gr g.rules i).pos := List.take_of_length_le c3
              refine ok_exit ?_
              repeat refine ok_seq ?_
              refine ok_reg E [1, 3, 4, 5, 6, 7, 9] [] (by simp [-Option.some.injEq, -Prod.mk.injEq]; rfl) (by first | trivial | omega | simp | (simp; omega)) ?_
              repeat refine ok_seq ?_
              refine ok_block ?_
              repeat refine ok_seq ?_
              refine ok_loop (σ := Nat) (fun m => [(1, .ptr 0 0), (3, .d .bool true), (4, .mrow 1), (5, .orow 2), (6, .d .i (i : Int)), (7, .ptr 3 0), (9, .d .i (m : Int))]) (fun m => [.cells [.d .terms g.atoms, .d (.sl .rule) g.rules], .mrow 4 .bool (setL (setL ((usedR (g.rules.take i) g.atoms.length).set (gr g.rules i).head.toNat true) (gr g.rules i).pos) ((gr g.rules i).neg.take m)), .orow 51 .inst ((g.rules.take i).map (instR g)), .cells [.d .i (gr g.rules i).head, .d .ints (gr g.rules i).pos, .d .ints (gr g.rules i).neg]]) (fun m => m ≤ (gr g.rules i).neg.length) (fun m => (gr g.rules i).neg.length - m) 0 (by simp) ?_ ?_
              · constructor <;> simp [EntF, EntH, EntB, Conv, ConvL, scop, scopL, setL, e3]
              rintro m hm0
              repeat refine ok_seq ?_
              refine ok_reg E [1, 3, 4, 5, 6, 7, 9, 59] [] (by simp [-Option.some.injEq, -Prod.mk.injEq]; rfl) (by first | trivial | omega | simp | (simp; omega)) ?_
              repeat refine ok_seq ?_
              refine ok_if rfl (fun c4 => ?_) (fun c4 => ?_)
              · try simp at c4
                all_goals
                  have hk := hns _ (gi_mem c4)
                  have w3 : max (gi (gr g.rules i).neg m) 0 = gi (gr g.rules i).neg m := by omega
                  have hl4 := hln m
                  have e4 := setL_step (s := setL ((usedR (g.rules.take i) g.atoms.length).set (gr g.rules i).head.toNat true) (gr g.rules i).pos) c4
                  refine ok_skip ?_
                  repeat refine ok_seq ?_
                  refine ok_block ?_
                  repeat refine ok_seq ?_
                  refine ok_reg E [1, 3, 4, 5, 6, 7, 9] [] (by simp [w3, -Option.some.injEq, -Prod.mk.injEq]; rfl) (by first | omega | (simp [hl4, hul]; omega)) ?_
                  repeat refine ok_seq ?_
                  refine ok_reg E [1, 3, 4, 5, 6, 7, 9] [] (by simp [-Option.some.injEq, -Prod.mk.injEq]; rfl) (by first | trivial | omega | simp | (simp; omega)) ?_
                  -- end41
                  exact ⟨m + 1, by omega, by omega, by constructor <;> simp (disch := omega) [EntF, EntH, EntB, Conv, ConvL, scop, scopL, wrap_i64, e4]⟩
              · try simp at c4
                all_goals
                  have e4 : (gr g.rules i).neg.take m = (gr g.rules i).neg := List.take_of_length_le c4
                  refine ok_exit ?_
                  repeat refine ok_seq ?_
                  refine ok_reg E [1, 3, 4, 5, 6] [.pure (avOf .inst (instR g (gr g.rules i)))] (by simp [-Option.some.injEq, -Prod.mk.injEq]; rfl) (by ((try simp at k3); simp [k3, big]; (try omega))) ?_
                  repeat refine ok_seq ?_
                  refine ok_reg E [1, 3, 4, 5, 6] [] (by simp [-Option.some.injEq, -Prod.mk.injEq]; rfl) (by first | trivial | omega | simp | (simp; omega)) ?_
                  -- end01
                  exact ⟨i + 1, by omega, by omega, by constructor <;> simp (disch := omega) [EntF, EntH, EntB, Conv, ConvL, scop, scopL, wrap_i64, e1, e4, e5, usedStep]⟩
      · try simp at c2
        all_goals
          have e6 : g.rules.take i = g.rules := List.take_of_length_le c2
          have e6b : (g.rules.map (instR g)).take i = g.rules.map (instR g) := by rw [← List.map_take, e6]
          have hua := usedR_len g.atoms.length g.rules
          refine ok_exit ?_
          repeat refine ok_seq ?_
          refine ok_reg E [1, 3, 4, 5, 10] [] (by simp [-Option.some.injEq, -Prod.mk.injEq]; rfl) (by first | trivial | omega | simp | (simp; omega)) ?_
          repeat refine ok_seq ?_
          refine ok_block ?_
          repeat refine ok_seq ?_
          refine ok_loop (σ := Nat) (fun j => [(1, .ptr 0 0), (3, .d .bool true), (4, .mrow 1), (5, .d (.sl .inst) (g.rules.map (instR g))), (10, .d .i (j : Int))]) (fun j => [.cells [.d .terms g.atoms, .d (.sl .rule) g.rules], .mrow 4 .bool (usedR g.rules g.atoms.length)]) (fun j => j ≤ g.atoms.length ∧ ∀ q : Nat, q < j → (usedR g.rules g.atoms.length)[q]? = some true) (fun j => g.atoms.length - j) 0 (by simp) ?_ ?_
          · constructor <;> simp [EntF, EntH, EntB, Conv, ConvL, scop, scopL, e6, e6b]
          rintro j ⟨hj1, hj⟩
          repeat refine ok_seq ?_
          refine ok_reg E [1, 3, 4, 5, 10, 78] [] (by simp [hua, -Option.some.injEq, -Prod.mk.injEq]; rfl) (by first | trivial | omega | simp | (simp; omega)) ?_
          repeat refine ok_seq ?_
          refine ok_if rfl (fun c5 => ?_) (fun c5 => ?_)
          · try simp at c5
            all_goals
              skip
              refine ok_skip ?_
              repeat refine ok_seq ?_
              refine ok_block ?_
              repeat refine ok_seq ?_
              refine ok_reg E [1, 3, 4, 5, 10, 85] [] (by simp [hua, -Option.some.injEq, -Prod.mk.injEq]; rfl) (by first | omega | (simp [hua]; omega)) ?_
              repeat refine ok_seq ?_
              refine ok_if rfl (fun c6 => ?_) (fun c6 => ?_)
              · try simp at c6
                all_goals
                  repeat refine ok_seq ?_
                  refine ok_reg E [2] [] (by simp [-Option.some.injEq, -Prod.mk.injEq]; rfl) (by first | trivial | omega | simp | (simp; omega)) ?_
                  refine ok_ret ⟨.inr rfl, ?_⟩
                  -- ret2
                  simp [resAll, resL, resA, frozE]
              · try simp at c6
                all_goals
                  refine ok_skip ?_
                  repeat refine ok_seq ?_
                  refine ok_reg E [1, 3, 4, 5, 10] [] (by simp [-Option.some.injEq, -Prod.mk.injEq]; rfl) (by first | trivial | omega | simp | (simp; omega)) ?_
                  -- end61
                  have c7 : (usedR g.rules g.atoms.length)[j]? = some true := by
                    have h1 : j < (usedR g.rules g.atoms.length).length := by omega
                    rw [List.getElem?_eq_getElem h1, ← gb_lt h1, c6]
                  exact ⟨j + 1, ⟨by omega, fun q hq => by
                    by_cases e : q = j
                    · rw [e]; exact c7
                    · exact hj q (by omega)⟩, by omega, by constructor <;> simp (disch := omega) [EntF, EntH, EntB, Conv, ConvL, scop, scopL, wrap_i64]⟩
          · try simp at c5
            all_goals
              have hall := used_all hr (fun q hq => hj q (by omega))
              have e7 := back_eq hr hall
              have k4 := fromG_ctr _ (insts_ok c1.1)
              rw [e7] at k4
              have k5 := same_self g (by omega)
              refine ok_exit ?_
              repeat refine ok_seq ?_
              refine ok_dr E rfl [2] 8 [.pure (pav g), .pure (.d .bool true)] (by decide) (by simp [nodupF]) (by simp [-Option.some.injEq, -Prod.mk.injEq]; rfl) (by ((try simp at k4 k5); simp [k4, k5])) ?_
              refine ok_ret ⟨.inr rfl, ?_⟩
              -- ret3
              simp [resAll, resL, resA, frozE]

end Go.Proofs.YtgapiecbinplfaaGreat
