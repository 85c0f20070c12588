/- Own framework, walks and plain laws behind the laws of this seat, part D23: lemmas, no statement of the seat. -/
import Derived.Test.YtgapiecbinplfaaGreatD22
set_option linter.all false
/- What is cut out of a right program is right; cut again it is what the program's own cut is. -/
namespace Go.Proofs.YtgapiecbinplfaaGreat
open Go.RowKit

theorem nodup_ris {l : List Int} (h : Ris subI l) : l.Nodup := h.nodup subI_ord (fun _ _ => trivial)
theorem place_at {l : List Int} (h : Ris subI l) {i : Nat} (hi : i < l.length) : placeI l l[i] = i := idx_nodup (nodup_ris h) hi
theorem place_in {l : List Int} (h : Ris subI l) {k : Int} (hk : k ∈ l) : ∃ (i : Nat) (hi : i < l.length), placeI l k = i ∧ l[i] = k := by
  obtain ⟨i, hi, rfl⟩ := List.getElem_of_mem hk
  exact ⟨i, hi, place_at h hi, rfl⟩
theorem place_lt {l : List Int} (h : Ris subI l) {x y : Int} (hx : x ∈ l) (hy : y ∈ l) : placeI l x < placeI l y ↔ x < y := by
  obtain ⟨i, hi, e1, rfl⟩ := place_in h hx
  obtain ⟨j, hj, e2, rfl⟩ := place_in h hy
  rw [e1, e2]
  have up : ∀ a b (ha : a < l.length) (hb : b < l.length), a < b → l[a] < l[b] := fun a b ha hb hab => by
    have := Ris.lt h a b ha hb hab; simp only [subI] at this; omega
  constructor
  · intro hlt; exact up i j hi hj (by omega)
  · intro hlt
    refine Classical.byContradiction fun c => ?_
    rcases Nat.eq_or_lt_of_le (show j ≤ i by omega) with e | e
    · subst e; omega
    · have := up j i hj hi e; omega
theorem place_inj {l : List Int} (h : Ris subI l) {x y : Int} (hx : x ∈ l) (hy : y ∈ l) (e : placeI l x = placeI l y) : x = y := by
  have h1 := place_lt h hx hy
  have h2 := place_lt h hy hx
  omega
theorem place_get {α : Type} {l : List Int} (h : Ris subI l) {k : Int} (hk : k ∈ l) (f : Int → Term) : gt (l.map f) (placeI l k) = f k := by
  obtain ⟨i, hi, e, rfl⟩ := place_in h hk
  rw [e, gt_lt (by simpa using hi), List.getElem_map]
theorem place_rng {l : List Int} (h : Ris subI l) {k : Int} (hk : k ∈ l) : 0 ≤ placeI l k ∧ placeI l k < l.length := by
  obtain ⟨i, hi, e, _⟩ := place_in h hk
  rw [e]; omega
theorem ris_place {l s : List Int} (h : Ris subI l) (hs : Ris subI s) (hm : ∀ x ∈ s, x ∈ l) : Ris subI (s.map (placeI l)) := by
  refine List.pairwise_map.2 (hs.imp_of_mem fun {a b} ha hb hab => ?_)
  have := (place_lt h (hm a ha) (hm b hb)).2 (by simp only [subI] at hab; omega)
  simp only [subI]; omega
theorem ris_gt {ts : List Term} {l : List Int} (ht : Ris cmpG ts) (h : Ris subI l) (hm : ∀ x ∈ l, 0 ≤ x ∧ x < ts.length) : Ris cmpG (l.map (gt ts)) := by
  refine List.pairwise_map.2 (h.imp_of_mem fun {a b} ha hb hab => ?_)
  have h1 := hm a ha
  have h2 := hm b hb
  simp only [subI] at hab
  have := Ris.lt ht a.toNat b.toNat (by omega) (by omega) (by omega)
  rw [← gt_lt (by omega), ← gt_lt (by omega)] at this
  rwa [show ((a.toNat : Nat) : Int) = a by omega, show ((b.toNat : Nat) : Int) = b by omega] at this
theorem cmpI_place {l : List Int} (h : Ris subI l) {x y : Int} (hx : x ∈ l) (hy : y ∈ l) : cmpI (placeI l x) (placeI l y) = cmpI x y := by
  have h1 := place_lt h hx hy
  have h2 := place_lt h hy hx
  by_cases c : x < y
  · have a := (cmpI_lt (a := x) (b := y)).2 c
    have b := (cmpI_lt (a := placeI l x) (b := placeI l y)).2 (h1.2 c)
    unfold cmpI at a b ⊢
    repeat' split
    all_goals first | rfl | omega
  · by_cases c2 : y < x
    · have a := h2.2 c2
      unfold cmpI
      repeat' split
      all_goals first | rfl | omega
    · have e : x = y := by omega
      subst e; simp only [cmpI]; repeat' split
      all_goals first | rfl | omega
theorem cmpIs_place {l : List Int} (h : Ris subI l) : ∀ (a b : List Int), (∀ x ∈ a, x ∈ l) → (∀ x ∈ b, x ∈ l) → cmpIs (a.map (placeI l)) (b.map (placeI l)) = cmpIs a b := by
  intro a b ha hb
  rw [cmpIs_lex, cmpIs_lex]
  induction a generalizing b with
  | nil => cases b <;> simp [lexBy]
  | cons x a ih =>
    cases b with
    | nil => simp [lexBy]
    | cons y b =>
      simp only [List.map_cons, lexBy, cmpI_place h (ha x (by simp)) (hb y (by simp)), ih b (fun z hz => ha z (by simp [hz])) (fun z hz => hb z (by simp [hz]))]

/-- A set of atoms that has all that its rules name. -/
structure Shut (g : Prg) (l : List Int) : Prop where
  ris : Ris subI l
  rng : ∀ k ∈ l, InP g k
  lits : ∀ r ∈ g.rules, r.head ∈ l → (∀ k ∈ r.pos, k ∈ l) ∧ ∀ k ∈ r.neg, k ∈ l
theorem shut_leads {g : Prg} (hr : RightP g) {n : Int} (hn : InP g n) : Shut g (leadsR g n) := by
  obtain ⟨h1, h2⟩ := leadsR_all hr hn
  refine ⟨h1, fun k hk => ((h2 k).1 hk).inP hr hn, fun r hm hh => ⟨fun k hk => ?_, fun k hk => ?_⟩⟩
  · exact (h2 k).2 (.step ((h2 _).1 hh) ⟨r, hm, rfl, .inl hk⟩)
  · exact (h2 k).2 (.step ((h2 _).1 hh) ⟨r, hm, rfl, .inr hk⟩)
theorem Shut.reach {g : Prg} {l : List Int} (h : Shut g l) {a b : Int} (ha : a ∈ l) (k : Reach g a b) : b ∈ l := by
  induction k with
  | refl => exact ha
  | step _ hs ih =>
    obtain ⟨r, hm, e, hk⟩ := hs
    have := h.lits r hm (by rw [e]; exact ih)
    rcases hk with hk | hk
    · exact this.1 _ hk
    · exact this.2 _ hk
theorem mem_only {g : Prg} {l : List Int} {q : Rule} : q ∈ (onlyR g l).rules ↔ ∃ r ∈ g.rules, r.head ∈ l ∧ anewRule l r = q := by
  simp only [onlyR, List.mem_map, List.mem_filter, decide_eq_true_eq, and_assoc]
theorem only_right {g : Prg} (hr : RightP g) {l : List Int} (h : Shut g l) : RightP (onlyR g l) := by
  have hlen : (onlyR g l).atoms.length = l.length := by simp [onlyR]
  refine ⟨fun t ht => ?_, ris_gt hr.rise h.ris h.rng, fun q hq => ?_, fun q hq => ?_, fun q hq => ?_, ?_⟩
  · obtain ⟨k, hk, rfl⟩ := List.mem_map.1 ht
    exact hr.atom _ (gt_memI (h.rng k hk))
  · obtain ⟨r, hm, hh, rfl⟩ := mem_only.1 hq
    rw [hlen]; exact place_rng h.ris hh
  · obtain ⟨r, hm, hh, rfl⟩ := mem_only.1 hq
    rw [hlen]
    refine setOk_iff.2 ⟨fun x hx => ?_, ris_place h.ris (setOk_iff.1 (hr.pos r hm)).2 (h.lits r hm hh).1⟩
    obtain ⟨k, hk, rfl⟩ := List.mem_map.1 hx
    exact place_rng h.ris ((h.lits r hm hh).1 k hk)
  · obtain ⟨r, hm, hh, rfl⟩ := mem_only.1 hq
    rw [hlen]
    refine setOk_iff.2 ⟨fun x hx => ?_, ris_place h.ris (setOk_iff.1 (hr.neg r hm)).2 (h.lits r hm hh).2⟩
    obtain ⟨k, hk, rfl⟩ := List.mem_map.1 hx
    exact place_rng h.ris ((h.lits r hm hh).2 k hk)
  · refine List.pairwise_map.2 ((hr.rules.filter _).imp_of_mem fun {a b} ha hb hab => ?_)
    have ha := List.mem_filter.1 ha
    have hb := List.mem_filter.1 hb
    have ha2 : a.head ∈ l := by simpa using ha.2
    have hb2 : b.head ∈ l := by simpa using hb.2
    have la := h.lits a ha.1 ha2
    have lb := h.lits b hb.1 hb2
    rw [gOrder_lt] at hab ⊢
    simp only [anewRule, anewR, cmpIs_place h.ris _ _ la.1 lb.1, cmpIs_place h.ris _ _ la.2 lb.2, place_lt h.ris ha2 hb2]
    rcases hab with e | ⟨e, e2⟩
    · exact .inl e
    · right
      refine ⟨by rw [e], ?_⟩
      rcases e2 with e2 | ⟨e2, e3⟩
      · exact .inl e2
      · exact .inr ⟨by rw [e2], e3⟩
theorem only_inst {g : Prg} {l : List Int} (h : Shut g l) {r : Rule} (hm : r ∈ g.rules) (hh : r.head ∈ l) : instR (onlyR g l) (anewRule l r) = instR g r := by
  have hp := h.lits r hm hh
  have e : ∀ s : List Int, (∀ k ∈ s, k ∈ l) → (anewR s l).map (gt (onlyR g l).atoms) = s.map (gt g.atoms) := fun s hs => by
    rw [anewR, List.map_map]
    exact List.map_congr_left fun k hk => place_get (α := Unit) h.ris (hs k hk) (gt g.atoms)
  simp only [instR, anewRule, e _ hp.1, e _ hp.2]
  congr 1
  exact place_get (α := Unit) h.ris hh (gt g.atoms)

/-- The sets of a cut's atoms are those of the program. -/
theorem leads_only {g : Prg} (hr : RightP g) {l : List Int} (h : Shut g l) {a : Int} (ha : a ∈ l) : leadsR (onlyR g l) (placeI l a) = (leadsR g a).map (placeI l) := by
  have hc := only_right hr h
  have hn : InP (onlyR g l) (placeI l a) := by
    have := place_rng h.ris ha
    exact ⟨this.1, by simpa [onlyR] using this.2⟩
  obtain ⟨h1, h2⟩ := leadsR_all hc hn
  obtain ⟨h3, h4⟩ := leadsR_all hr (h.rng a ha)
  have hin : ∀ k ∈ leadsR g a, k ∈ l := fun k hk => h.reach ha ((h4 k).1 hk)
  refine ris_ext subI_ord (fun _ _ => trivial) (fun _ _ => trivial) h1 (ris_place h.ris h3 hin) fun k => ?_
  rw [h2, List.mem_map]
  constructor
  · intro hk
    induction hk with
    | refl => exact ⟨a, (h4 a).2 .refl, rfl⟩
    | @step k0 m0 _ hs ih =>
      obtain ⟨m, hm, rfl⟩ := ih
      obtain ⟨q, hq, hh, hk⟩ := hs
      obtain ⟨r, hrm, hrh, rfl⟩ := mem_only.1 hq
      have e : r.head = m := place_inj h.ris hrh (hin m hm) hh
      have hx : ∃ y, (y ∈ r.pos ∨ y ∈ r.neg) ∧ placeI l y = m0 := by
        rcases hk with hk | hk
        · obtain ⟨y, hy, e⟩ := List.mem_map.1 hk
          exact ⟨y, .inl hy, e⟩
        · obtain ⟨y, hy, e⟩ := List.mem_map.1 hk
          exact ⟨y, .inr hy, e⟩
      obtain ⟨y, hy, e2⟩ := hx
      exact ⟨y, (h4 y).2 (.step ((h4 m).1 hm) ⟨r, hrm, e, hy⟩), e2⟩
  · rintro ⟨m, hm0, rfl⟩
    have hm := (h4 m).1 hm0
    clear hm0
    induction hm with
    | refl => exact .refl
    | @step k m hk hs ih =>
      refine .step (ih ) ?_
      obtain ⟨r, hrm, e, hy⟩ := hs
      have hkl := h.reach ha hk
      refine ⟨anewRule l r, mem_only.2 ⟨r, hrm, by rw [e]; exact hkl, rfl⟩, by simp only [anewRule]; rw [e], ?_⟩
      simp only [anewRule, anewR, List.mem_map]
      exact hy.imp (fun hy => ⟨m, hy, rfl⟩) fun hy => ⟨m, hy, rfl⟩
theorem place_map {l s : List Int} (h : Ris subI l) (hs : Ris subI s) (hm : ∀ x ∈ s, x ∈ l) {x : Int} (hx : x ∈ s) : placeI (s.map (placeI l)) (placeI l x) = placeI s x := by
  obtain ⟨i, hi, e, rfl⟩ := place_in hs hx
  rw [e]
  have := place_at (ris_place h hs hm) (i := i) (by simpa using hi)
  rwa [List.getElem_map] at this
theorem only_only {g : Prg} (hr : RightP g) {l : List Int} (h : Shut g l) {a : Int} (ha : a ∈ l) : onlyR (onlyR g l) ((leadsR g a).map (placeI l)) = onlyR g (leadsR g a) := by
  have hs := shut_leads hr (h.rng a ha)
  obtain ⟨h3, h4⟩ := leadsR_all hr (h.rng a ha)
  have hin : ∀ k ∈ leadsR g a, k ∈ l := fun k hk => h.reach ha ((h4 k).1 hk)
  unfold onlyR
  simp only [Prg.mk.injEq]
  constructor
  · rw [List.map_map]
    exact List.map_congr_left fun k hk => place_get (α := Unit) h.ris (hin k hk) (gt g.atoms)
  · rw [List.filter_map, List.filter_filter, List.map_map]
    have e : ∀ r ∈ g.rules, (((fun r : Rule => decide (r.head ∈ (leadsR g a).map (placeI l))) ∘ anewRule l) r && decide (r.head ∈ l)) = decide (r.head ∈ leadsR g a) := fun r _ => by
      rw [Bool.eq_iff_iff]
      simp only [Function.comp_apply, Bool.and_eq_true, decide_eq_true_eq]
      simp only [anewRule, List.mem_map]
      constructor
      · rintro ⟨⟨m, hm, e⟩, hh⟩
        rw [← place_inj h.ris (hin m hm) hh e]; exact hm
      · intro hm
        exact ⟨⟨_, hm, rfl⟩, hin _ hm⟩
    rw [List.filter_congr e]
    refine List.map_congr_left fun r hm => ?_
    obtain ⟨hm, hh⟩ := List.mem_filter.1 hm
    have hh : r.head ∈ leadsR g a := by simpa using hh
    have hp := hs.lits r hm hh
    have e2 : ∀ s : List Int, (∀ k ∈ s, k ∈ leadsR g a) → anewR (anewR s l) ((leadsR g a).map (placeI l)) = anewR s (leadsR g a) := fun s hs2 => by
      simp only [anewR, List.map_map]
      exact List.map_congr_left fun k hk => place_map h.ris h3 hin (hs2 k hk)
    simp only [Function.comp_apply, anewRule, e2 _ hp.1, e2 _ hp.2, place_map h.ris h3 hin hh]
theorem cutR_in {g : Prg} {n : Int} (hn : InP g n) : cutR g n = onlyR g (leadsR g n) := by
  have h1 := hn.1
  have h2 := hn.2
  rw [cutR, if_neg (by omega)]
theorem cut_cut {g : Prg} (hr : RightP g) {n : Int} (hn : InP g n) {a : Int} (ha : a ∈ leadsR g n) : cutR (cutR g n) (placeI (leadsR g n) a) = cutR g a := by
  have h := shut_leads hr hn
  rw [cutR_in hn, cutR_in (h.rng a ha), cutR_in, leads_only hr h ha, only_only hr h ha]
  have := place_rng h.ris ha
  exact ⟨this.1, by simpa [onlyR] using this.2⟩
theorem cut_right {g : Prg} (hr : RightP g) {n : Int} (hn : InP g n) : RightP (cutR g n) := by
  rw [cutR_in hn]; exact only_right hr (shut_leads hr hn)
theorem cut_atoms {g : Prg} {n : Int} (hn : InP g n) : (cutR g n).atoms = (leadsR g n).map (gt g.atoms) := by rw [cutR_in hn]; rfl
theorem cut_len {g : Prg} {n : Int} (hn : InP g n) : (cutR g n).atoms.length = (leadsR g n).length := by rw [cut_atoms hn]; simp
theorem cut_atom {g : Prg} {n : Int} (hn : InP g n) {i : Nat} (hi : i < (leadsR g n).length) : gt (cutR g n).atoms i = gt g.atoms (gi (leadsR g n) i) := by
  rw [cut_atoms hn, gt_lt (by simpa using hi), List.getElem_map, gi_lt hi]
theorem leads_pos {g : Prg} (hr : RightP g) {n : Int} (hn : InP g n) : n ∈ leadsR g n := ((leadsR_all hr hn).2 n).2 .refl
theorem cut_less {g : Prg} (hr : RightP g) {n : Int} (hn : InP g n) {a : Int} (ha : a ∈ leadsR g n) : (cutR g a).atoms.length ≤ (cutR g n).atoms.length := by
  have h := shut_leads hr hn
  have h2 := leadsR_all hr hn
  have h3 := leadsR_all hr (h.rng a ha)
  rw [cut_len hn, cut_len (h.rng a ha)]
  exact (ris_sublist h3.1 h2.1 fun k hk => h.reach ha ((h3.2 k).1 hk)).length_le
theorem reach_last {g : Prg} {n m : Int} (h : Reach g n m) : m = n ∨ ∃ k, Reach g n k ∧ Succ g k m := by
  cases h with
  | refl => exact .inl rfl
  | step h hs => exact .inr ⟨_, h, hs⟩
/-- Each atom of a cut but the one is a literal of a rule. -/
theorem cut_leans {g : Prg} (hr : RightP g) {n : Int} (hn : InP g n) {i : Nat} (hi : i < (leadsR g n).length) : gi (leadsR g n) i = n ∨ ∃ q ∈ (cutR g n).rules, (i : Int) ∈ q.pos ∨ (i : Int) ∈ q.neg := by
  have h := shut_leads hr hn
  obtain ⟨h1, h2⟩ := leadsR_all hr hn
  have hm : (leadsR g n)[i] ∈ leadsR g n := List.getElem_mem hi
  have hk := (h2 _).1 hm
  have hp := place_at h1 hi
  rw [gi_lt hi, cutR_in hn]
  rcases reach_last hk with hk | ⟨k, hk, hs⟩
  · exact .inl hk
  · right
    obtain ⟨r, hrm, e, hy⟩ := hs
    refine ⟨anewRule (leadsR g n) r, mem_only.2 ⟨r, hrm, by rw [e]; exact (h2 _).2 hk, rfl⟩, ?_⟩
    simp only [anewRule, anewR, List.mem_map]
    exact hy.imp (fun hy => ⟨_, hy, hp⟩) fun hy => ⟨_, hy, hp⟩
end Go.Proofs.YtgapiecbinplfaaGreat
/- Walks: layer 16's laws: GroundLeans. Printed by walk.py from annotations. -/
namespace Go.Proofs.YtgapiecbinplfaaGreat
open Go.RowKit


/-- Is an atom of a cut the one, or a literal of a rule before the j-th? -/
def isA (g : Prg) (q : Int) (i j : Nat) : Bool := decide (gt (cutR g q).atoms i = gt g.atoms q) || ((cutR g q).rules.take j).any fun r => decide ((i : Int) ∈ r.pos) || decide ((i : Int) ∈ r.neg)
theorem isA_zero (g : Prg) (q : Int) (i : Nat) : isA g q i 0 = decide (gt (cutR g q).atoms i = gt g.atoms q) := by simp [isA]
theorem isA_step {g : Prg} {q : Int} {i j : Nat} (h : j < (cutR g q).rules.length) : isA g q i (j + 1) = (isA g q i j || (decide ((i : Int) ∈ (gr (cutR g q).rules j).pos) || decide ((i : Int) ∈ (gr (cutR g q).rules j).neg))) := by
  simp only [isA]
  rw [List.take_succ_eq_append_getElem h, List.any_append, gr_lt h]
  simp [Bool.or_assoc]
theorem isA_all {g : Prg} (hr : RightP g) {q : Int} (hq : InP g q) {i j : Nat} (hi : i < (cutR g q).atoms.length) (hj : (cutR g q).rules.length ≤ j) : isA g q i j = true := by
  rw [cut_len hq] at hi
  simp only [isA, List.take_of_length_le hj, Bool.or_eq_true, decide_eq_true_eq, List.any_eq_true]
  rcases cut_leans hr hq hi with h | h
  · left; rw [cut_atom hq hi, h]
  · exact .inr h
theorem cut_rng {g : Prg} (hr : RightP g) {q : Int} (hq : InP g q) {k : Nat} (hk : k < (cutR g q).atoms.length) : gi (leadsR g q) k ∈ leadsR g q ∧ InP g (gi (leadsR g q) k) := by
  rw [cut_len hq] at hk
  have h1 : gi (leadsR g q) k ∈ leadsR g q := by rw [gi_lt hk]; exact List.getElem_mem _
  exact ⟨h1, (shut_leads hr hq).rng _ h1⟩
theorem find_ctr4 {g : Prg} (h : greatP g = false) (hr : RightP g) {q : Int} (hq : InP g q) {k : Nat} (hk : k < (cutR g q).atoms.length) : Ctr Tryz.prog 32 [pav g, .d .term (gt (cutR g q).atoms k)] [] (.d .i (gi (leadsR g q) k)) [] := by
  have h1 := small_of h
  have h2 := findG_ctr g (gt (cutR g q).atoms k) (by have := h1.1; omega)
  have e := cut_atom hq (i := k) (by rw [← cut_len hq]; exact hk)
  rw [e] at h2 ⊢
  rwa [find_place hr (cut_rng hr hq hk).2] at h2
theorem cut_size {g : Prg} (h : greatP g = false) {q : Int} (hr : RightP g) (hq : InP g q) : (cutR g q).atoms.length ≤ 80 ∧ (cutR g q).rules.length ≤ 200 := by
  have h1 := small_of h
  have h2 := cutR_rules g q
  have h3 := ris_len (shut_leads hr hq).ris (shut_leads hr hq).rng
  rw [cut_len hq]
  have := h1.1
  have := h1.2.1
  omega
theorem cut_ctr5 {g : Prg} (h : greatP g = false) (hr : RightP g) {q : Int} (hq : InP g q) {k : Nat} (hk : k < (cutR g q).atoms.length) : Ctr Tryz.prog 33 [pav (cutR g q), .d .i (k : Int)] [] (pav (cutR g (gi (leadsR g q) k))) [] := by
  have h1 := cut_size h hr hq
  have h2 := cutG_ctr (cutR g q) (k : Int) (cut_right hr hq) (by omega) (by omega)
  have h3 := cut_rng hr hq hk
  have h4 := cut_cut hr hq h3.1
  rw [cut_len hq] at hk
  rw [gi_lt hk, place_at (shut_leads hr hq).ris hk] at h4
  rwa [cut_eq (cut_right hr hq), h4, ← gi_lt hk] at h2
theorem tmod_in {n : Int} {m : Nat} (hn : 0 ≤ n) (hm : 0 < m) : 0 ≤ n.tmod (m : Int) ∧ n.tmod (m : Int) < m := ⟨Int.tmod_nonneg _ hn, Int.tmod_lt_of_pos _ (by omega)⟩

set_option maxRecDepth 8000 in
set_option maxHeartbeats 4000000 in
theorem leans_ctr (g : Prg) (n m : Int) (hg : ∀ t ∈ g.atoms, NmOk t) (hn : 0 ≤ n ∧ n ≤ 255) (hm : 0 ≤ m ∧ m ≤ 255) : Ctr Tryz.prog 11 [pav g, .d (.int .u8) n, .d (.int .u8) m] [] (.d .bool true) [] := by
  refine ctr_pure E Tryz.func11 rfl Tryz.ntmps11 Tryz.results11 (Nat.le_of_ble_eq_true rfl) rfl ?_
  simp only [pav]
  have k0 := greatP_ctr g
  have k1 := fun h => rightR_ctr2 (g := g) h hg
  have wn : IntKind.i64.wrap n = n := wrap_i64 (by omega) (by omega)
  have wm : IntKind.i64.wrap m = m := wrap_i64 (by omega) (by omega)
  repeat refine ok_seq ?_
  refine ok_reg E [1, 2, 3] [] (by simp [-Option.some.injEq, -Prod.mk.injEq]; rfl) (by first | trivial | omega | simp | (simp; omega)) ?_
  repeat refine ok_seq ?_
  refine ok_reg E [1, 2, 3, 7] [.pure (.d .bool true)] (by simp [-Option.some.injEq, -Prod.mk.injEq]; rfl) (by (have q100 := head16_ctr; (try simp at q100); simp [q100])) ?_
  repeat refine ok_seq ?_
  refine ok_regJ E [(28, .d .bool (decide (greatP g = true ∨ rightP g = false ∨ g.atoms.length = 0)))] [1, 2, 3, 7] [1, 2, 3, 7, 28] [.pure (.d .bool (greatP g)), .pure (.d .bool (rightP g))] ?_ ?_
  · skip
    by_cases q0 : greatP g = true
    · refine ⟨_, _, _, by simp [q0, -Option.some.injEq, -Prod.mk.injEq]; rfl, (by first | (have q100 := k0; (try simp at q100); (try simp [q0] at q100); (try simp [q1] at q100); have q101 := k1 (by simpa using q0); (try simp at q101); (try simp [q0] at q101); (try simp [q1] at q101); simp [q100, q101]) | (have q100 := k0; (try simp at q100); (try simp [q0] at q100); (try simp [q1] at q100); simp [q100])), by constructor <;> simp [EntF, EntH, EntB, Conv, scop, q0] <;> first | omega | (rw [Bool.eq_iff_iff]; simp; omega)⟩
    by_cases q1 : rightP g = true
    rotate_left
    · refine ⟨_, _, _, by simp [q0, q1, -Option.some.injEq, -Prod.mk.injEq]; rfl, (by first | (have q100 := k0; (try simp at q100); (try simp [q0] at q100); (try simp [q1] at q100); have q101 := k1 (by simpa using q0); (try simp at q101); (try simp [q0] at q101); (try simp [q1] at q101); simp [q100, q101]) | (have q100 := k0; (try simp at q100); (try simp [q0] at q100); (try simp [q1] at q100); simp [q100])), by constructor <;> simp [EntF, EntH, EntB, Conv, scop, q0, q1] <;> first | omega | (rw [Bool.eq_iff_iff]; simp; omega)⟩
    refine ⟨_, _, _, by simp [q0, q1, -Option.some.injEq, -Prod.mk.injEq]; rfl, (by first | (have q100 := k0; (try simp at q100); (try simp [q0] at q100); (try simp [q1] at q100); have q101 := k1 (by simpa using q0); (try simp at q101); (try simp [q0] at q101); (try simp [q1] at q101); simp [q100, q101]) | (have q100 := k0; (try simp at q100); (try simp [q0] at q100); (try simp [q1] at q100); simp [q100])), by constructor <;> simp [EntF, EntH, EntB, Conv, scop, q0, q1] <;> first | omega | (rw [Bool.eq_iff_iff]; simp; omega)⟩
  repeat refine ok_seq ?_
  refine ok_if rfl (fun c1 => ?_) (fun c1 => ?_)
  · try simp at c1
    all_goals
      skip
      repeat refine ok_seq ?_
      refine ok_reg E [6] [] (by simp [-Option.some.injEq, -Prod.mk.injEq]; rfl) (by first | trivial | omega | simp | (simp; omega)) ?_
      refine ok_ret ⟨.inr rfl, ?_⟩
      -- ret1
      simp [resAll, resL, resA, frozE]
  · try simp at c1
    all_goals
      have hr := right_of c1.1 c1.2.1
      have hs := small_of c1.1
      have hs1 := hs.1
      have hs2 := hs.2.1
      have hap : 0 < g.atoms.length := List.length_pos_iff.2 c1.2.2
      obtain ⟨q, hq⟩ : ∃ q, n.tmod (g.atoms.length : Int) = q := ⟨_, rfl⟩
      have hqi : InP g q := by rw [← hq]; exact tmod_in hn.1 hap
      have hqi1 := hqi.1
      have hqi2 := hqi.2
      have w1 : max q 0 = q := by omega
      have k2 := cut_ctr2 q c1.1 hr
      have hsz := cut_size c1.1 hr hqi
      have hcp : 0 < (cutR g q).atoms.length := by rw [cut_len hqi]; exact List.length_pos_of_mem (leads_pos hr hqi)
      refine ok_skip ?_
      repeat refine ok_seq ?_
      refine ok_reg E [2, 3, 7, 8] [] (by simp [wn, hq, -Option.some.injEq, -Prod.mk.injEq]; rfl) (by first | trivial | omega | simp | (simp; omega)) ?_
      repeat refine ok_seq ?_
      refine ok_reg E [2, 3, 7, 8, 9] [.pure (pav (cutR g q))] (by simp [-Option.some.injEq, -Prod.mk.injEq]; rfl) (by (have q100 := k2; (try simp at q100); simp [q100])) ?_
      repeat refine ok_seq ?_
      refine ok_reg E [2, 3, 7, 8, 9, 42] [] (by simp [-Option.some.injEq, -Prod.mk.injEq]; rfl) (by first | trivial | omega | simp | (simp; omega)) ?_
      repeat refine ok_seq ?_
      refine ok_if rfl (fun c2 => ?_) (fun c2 => ?_)
      · exfalso; simp at c2; simp [c2] at hcp
      · try simp at c2
        all_goals
          obtain ⟨k, hk⟩ : ∃ k : Nat, m.tmod ((cutR g q).atoms.length : Int) = k := ⟨(m.tmod ((cutR g q).atoms.length : Int)).toNat, by have := tmod_in (m := (cutR g q).atoms.length) hm.1 hcp; omega⟩
          have hkl : k < (cutR g q).atoms.length := by have := tmod_in (m := (cutR g q).atoms.length) hm.1 hcp; omega
          have k3 := find_ctr4 c1.1 hr hqi hkl
          have hf := cut_rng hr hqi hkl
          have f1 : ¬ (gi (leadsR g q) k) < 0 := by have := hf.2.1; omega
          have f2 := cut_less hr hqi hf.1
          have f3 : ¬ ((cutR g q).atoms.length : Int) < ((cutR g (gi (leadsR g q) k)).atoms.length : Int) := by omega
          have k4 := cut_ctr5 c1.1 hr hqi hkl
          have k5 := cut_ctr2 (gi (leadsR g q) k) c1.1 hr
          have k6 := same_self (cutR g (gi (leadsR g q) k)) (by have := cutR_rules g (gi (leadsR g q) k); omega)
          refine ok_skip ?_
          repeat refine ok_seq ?_
          refine ok_reg E [3, 7, 8, 9, 10] [] (by simp [wm, hk, -Option.some.injEq, -Prod.mk.injEq]; rfl) (by first | trivial | omega | simp | (simp; omega)) ?_
          repeat refine ok_seq ?_
          refine ok_dr E rfl [3, 7, 8, 9, 10, 11] 8 [.pure (.d .i (gi (leadsR g q) k))] (by decide) (by simp [nodupF]) (by simp [-Option.some.injEq, -Prod.mk.injEq]; rfl) (by ((try simp at k3); simp [k3, hkl])) ?_
          repeat refine ok_seq ?_
          refine ok_dr E rfl [3, 7, 8, 9, 78] 23 [.pure (pav (cutR g (gi (leadsR g q) k))), .pure (pav (cutR g (gi (leadsR g q) k))), .pure (.d .bool true), .pure (pav (cutR g (gi (leadsR g q) k)))] (by decide) (by simp [nodupF]) (by simp [f1, f3, -Option.some.injEq, -Prod.mk.injEq]; rfl) (by (have q100 := k4; (try simp at q100); have q101 := k5; (try simp at q101); have q102 := k6; (try simp at q102); simp [q100, q101, q102])) ?_
          repeat refine ok_seq ?_
          refine ok_if rfl (fun c3 => ?_) (fun c3 => ?_)
          · exfalso; simp at c3
          · try simp at c3
            all_goals
              refine ok_skip ?_
              repeat refine ok_seq ?_
              refine ok_reg E [3, 7, 8, 9, 12] [] (by simp [-Option.some.injEq, -Prod.mk.injEq]; rfl) (by first | trivial | omega | simp | (simp; omega)) ?_
              repeat refine ok_seq ?_
              refine ok_block ?_
              repeat refine ok_seq ?_
              refine ok_loop (σ := Nat) (fun i => [(3, .ptr 0 0), (7, .d .bool true), (8, .d .i q), (9, .ptr 1 0), (12, .d .i (i : Int))]) (fun i => [.cells [.d .terms g.atoms, .d (.sl .rule) g.rules], .cells [.d .terms (cutR g q).atoms, .d (.sl .rule) (cutR g q).rules]]) (fun i => i ≤ (cutR g q).atoms.length) (fun i => (cutR g q).atoms.length - i) 0 (by simp) ?_ ?_
              · constructor <;> simp [EntF, EntH, EntB, Conv, scop]
              rintro i hi
              repeat refine ok_seq ?_
              refine ok_reg E [3, 7, 8, 9, 12, 83] [] (by simp [-Option.some.injEq, -Prod.mk.injEq]; rfl) (by first | trivial | omega | simp | (simp; omega)) ?_
              repeat refine ok_seq ?_
              refine ok_if rfl (fun c4 => ?_) (fun c4 => ?_)
              · try simp at c4
                all_goals
                  have k7 := same_ctr (gt (cutR g q).atoms i) (gt g.atoms q)
                  refine ok_skip ?_
                  repeat refine ok_seq ?_
                  refine ok_block ?_
                  repeat refine ok_seq ?_
                  refine ok_dr E rfl [3, 7, 8, 9, 12, 13] 12 [.pure (.d .bool (decide (gt (cutR g q).atoms i = gt g.atoms q)))] (by decide) (by simp [nodupF]) (by simp [w1, -Option.some.injEq, -Prod.mk.injEq]; rfl) (by ((try simp at k7); simp [k7]; omega)) ?_
                  repeat refine ok_seq ?_
                  refine ok_reg E [3, 7, 8, 9, 12, 13, 14] [] (by simp [-Option.some.injEq, -Prod.mk.injEq]; rfl) (by first | trivial | omega | simp | (simp; omega)) ?_
                  repeat refine ok_seq ?_
                  refine ok_block ?_
                  repeat refine ok_seq ?_
                  refine ok_loop (σ := Nat) (fun j => [(3, .ptr 0 0), (7, .d .bool true), (8, .d .i q), (9, .ptr 1 0), (12, .d .i (i : Int)), (13, .d .bool (isA g q i j)), (14, .d .i (j : Int))]) (fun j => [.cells [.d .terms g.atoms, .d (.sl .rule) g.rules], .cells [.d .terms (cutR g q).atoms, .d (.sl .rule) (cutR g q).rules]]) (fun j => j ≤ (cutR g q).rules.length) (fun j => (cutR g q).rules.length - j) 0 (by simp) ?_ ?_
                  · constructor <;> simp [EntF, EntH, EntB, Conv, ConvL, scop, scopL, isA_zero]
                  rintro j hj
                  repeat refine ok_seq ?_
                  refine ok_reg E [3, 7, 8, 9, 12, 13, 14, 101] [] (by simp [-Option.some.injEq, -Prod.mk.injEq]; rfl) (by first | trivial | omega | simp | (simp; omega)) ?_
                  repeat refine ok_seq ?_
                  refine ok_if rfl (fun c5 => ?_) (fun c5 => ?_)
                  · try simp at c5
                    all_goals
                      have e1 := isA_step (i := i) c5
                      have k8 := isIn_ctr (gr (cutR g q).rules j).pos (i : Int)
                      have k9 := isIn_ctr (gr (cutR g q).rules j).neg (i : Int)
                      refine ok_skip ?_
                      repeat refine ok_seq ?_
                      refine ok_block ?_
                      repeat refine ok_seq ?_
                      refine ok_regJ E [(13, .d .bool (isA g q i (j + 1)))] [3, 7, 8, 9, 12, 14] [3, 7, 8, 9, 12, 13, 14] [.pure (.d .bool (decide ((i : Int) ∈ (gr (cutR g q).rules j).pos))), .pure (.d .bool (decide ((i : Int) ∈ (gr (cutR g q).rules j).neg)))] ?_ ?_
                      · skip
                        by_cases q0 : isA g q i j = true
                        · refine ⟨_, _, _, by simp [q0, e1, -Option.some.injEq, -Prod.mk.injEq]; rfl, (by first | ((try simp at k8 k9); (try simp [q0] at k8); (try simp [q1] at k8); simp [k8, k9, c5]) | simp [c5]), by constructor <;> simp [EntF, EntH, EntB, Conv, scop, q0, e1] <;> first | omega | (rw [Bool.eq_iff_iff]; simp; omega)⟩
                        by_cases q1 : (i : Int) ∈ (gr (cutR g q).rules j).pos
                        · refine ⟨_, _, _, by simp [q0, q1, e1, -Option.some.injEq, -Prod.mk.injEq]; rfl, (by first | ((try simp at k8 k9); (try simp [q0] at k8); (try simp [q1] at k8); simp [k8, k9, c5]) | simp [c5]), by constructor <;> simp [EntF, EntH, EntB, Conv, scop, q0, q1, e1] <;> first | omega | (rw [Bool.eq_iff_iff]; simp; omega)⟩
                        refine ⟨_, _, _, by simp [q0, q1, e1, -Option.some.injEq, -Prod.mk.injEq]; rfl, (by first | ((try simp at k8 k9); (try simp [q0] at k8); (try simp [q1] at k8); simp [k8, k9, c5]) | simp [c5]), by constructor <;> simp [EntF, EntH, EntB, Conv, scop, q0, q1, e1] <;> first | omega | (rw [Bool.eq_iff_iff]; simp; omega)⟩
                      repeat refine ok_seq ?_
                      refine ok_reg E [3, 7, 8, 9, 12, 13, 14] [] (by simp [-Option.some.injEq, -Prod.mk.injEq]; rfl) (by first | trivial | omega | simp | (simp; omega)) ?_
                      -- end21
                      exact ⟨j + 1, by omega, by omega, by constructor <;> simp (disch := omega) [EntF, EntH, EntB, Conv, ConvL, scop, scopL, wrap_i64]⟩
                  · try simp at c5
                    all_goals
                      have e2 := isA_all hr hqi c4 c5
                      refine ok_exit ?_
                      repeat refine ok_seq ?_
                      refine ok_reg E [3, 7, 8, 9, 12, 126] [] (by simp [-Option.some.injEq, -Prod.mk.injEq]; rfl) (by first | trivial | omega | simp | (simp; omega)) ?_
                      repeat refine ok_seq ?_
                      refine ok_if rfl (fun c6 => ?_) (fun c6 => ?_)
                      · exfalso; simp [e2] at c6
                      · try simp at c6
                        all_goals
                          refine ok_skip ?_
                          repeat refine ok_seq ?_
                          refine ok_reg E [3, 7, 8, 9, 12] [] (by simp [-Option.some.injEq, -Prod.mk.injEq]; rfl) (by first | trivial | omega | simp | (simp; omega)) ?_
                          -- end01
                          exact ⟨i + 1, by omega, by omega, by constructor <;> simp (disch := omega) [EntF, EntH, EntB, Conv, ConvL, scop, scopL, wrap_i64]⟩
              · try simp at c4
                all_goals
                  skip
                  refine ok_exit ?_
                  repeat refine ok_seq ?_
                  refine ok_reg E [6] [] (by simp [-Option.some.injEq, -Prod.mk.injEq]; rfl) (by first | trivial | omega | simp | (simp; omega)) ?_
                  refine ok_ret ⟨.inr rfl, ?_⟩
                  -- ret2
                  simp [resAll, resL, resA, frozE]

end Go.Proofs.YtgapiecbinplfaaGreat
