/- Own framework, walks and plain laws behind the laws of this seat, part C5: lemmas, no statement of the seat. -/
import Derived.Test.YtgapiecbinplfaaGreatC4
import Derived.IntWalk
import Derived.Test.YtgapiecbinplfaaGreatProg
import Derived.Laws.StructEq
import Derived.KernelRfl
set_option linter.all false
/- THE RULE for a statement whose order is open. -/
namespace Go.Proofs.YtgapiecbinplfaaGreat
open Go.RowKit

variable {P : Program} {m0 N : Nat} {ρ ρ' ρp : Fr} {H H' : List Box}

def Ltd (listed : Array Bool) (i : Nat) : Bool := listed.getD i false

/-- No operation is listed whose own ones are not. -/
def Closed (all : List Oper) (listed : Array Bool) : Prop := ∀ i o, all[i]? = some o → Ltd listed i = true → ∀ d ∈ depsOf o, Ltd listed d = true

theorem ready_mem {ops : Array Oper} {listed : Array Bool} (hs : listed.size = ops.size) {i : Nat} : i ∈ Region.ready .any ops listed ↔ i < ops.size ∧ Ltd listed i = false ∧ ∃ o, ops.toList[i]? = some o ∧ ∀ d ∈ depsOf o, Ltd listed d = true := by
  unfold Region.ready
  simp only [List.mem_filter, List.mem_range, Bool.and_eq_true, Bool.not_eq_true']
  constructor
  · rintro ⟨h1, h2, h3⟩
    refine ⟨h1, ?_, ops[i], by simp [h1], fun d hd => ?_⟩
    · simp only [Ltd, Array.getD_eq_getD_getElem?] at h2 ⊢
      rw [Array.getElem?_eq_getElem (by omega)] at h2 ⊢
      simpa using h2
    · rw [Array.getElem?_eq_getElem h1] at h3
      simp only [Option.map_some, Option.getD_some] at h3
      simp only [depsOf, List.mem_map, List.mem_filter] at hd
      obtain ⟨e, ⟨he, hb⟩, rfl⟩ := hd
      have := Array.all_eq_true_iff_forall_mem.1 h3 e (by simpa using he)
      rw [hb] at this
      simp only [Bool.not_true, Bool.false_or] at this
      exact this
  · rintro ⟨h1, h2, o, ho, hd⟩
    refine ⟨h1, ?_, ?_⟩
    · simp only [Ltd, Array.getD_eq_getD_getElem?] at h2 ⊢
      rw [Array.getElem?_eq_getElem (by omega)] at h2 ⊢
      simpa using h2
    · have ho' : ops[i]? = some o := by simpa using ho
      rw [ho']
      simp only [Option.map_some, Option.getD_some]
      rw [Array.all_eq_true_iff_forall_mem]
      intro e he
      by_cases hb : Region.binds .any e = true
      · have := hd e.on (by simp only [depsOf, List.mem_map, List.mem_filter]; exact ⟨e, ⟨by simpa using he, hb⟩, rfl⟩)
        rw [hb, Bool.not_true, Bool.false_or]
        exact this
      · simp [hb]

theorem ready_nil {ops : Array Oper} {p : Nat} (ho : OrdOk ops.toList p) {listed : Array Bool} (hs : listed.size = ops.size) (h : Region.ready .any ops listed = []) : ∀ i, i < ops.size → Ltd listed i = true := by
  intro i
  induction i using Nat.strongRecOn with
  | _ i ih =>
    intro hi
    cases hl : Ltd listed i with
    | true => rfl
    | false =>
      have : i ∈ Region.ready .any ops listed := (ready_mem hs).2 ⟨hi, hl, ops[i], by simp [hi], fun d hd => ih d (ho.back i _ (by simp [hi]) d hd) (by have := ho.back i _ (by simp [hi]) d hd; omega)⟩
      rw [h] at this; cases this

theorem reach_listed {all : List Oper} {listed : Array Bool} (hc : Closed all listed) : ∀ {f k i : Nat}, reach all f k i = true → (∃ o, all[k]? = some o ∧ ∀ d ∈ depsOf o, Ltd listed d = true) → Ltd listed i = true
  | f + 1, k, i, h, ⟨o, ho, hd⟩ => by
    simp only [reach, ho] at h
    rw [List.any_eq_true] at h
    obtain ⟨d, hdm, h⟩ := h
    simp only [Bool.or_eq_true, beq_iff_eq] at h
    rcases h with h | h
    · subst h; exact hd d hdm
    · cases hx : all[d]? with
      | none => cases f <;> simp [reach, hx] at h
      | some o' => exact reach_listed hc h ⟨o', hx, hc d o' hx (hd d hdm)⟩

theorem Ltd_set {listed : Array Bool} {i : Nat} (hi : i < listed.size) : (∀ j, j ≠ i → Ltd (listed.setIfInBounds i true) j = Ltd listed j) ∧ Ltd (listed.setIfInBounds i true) i = true := by
  refine ⟨fun j hj => ?_, ?_⟩
  · simp only [Ltd, Array.getD_eq_getD_getElem?, Array.getElem?_setIfInBounds]
    rw [if_neg (Ne.symm hj)]
  · simp only [Ltd, Array.getD_eq_getD_getElem?, Array.getElem?_setIfInBounds]
    simp [hi]

theorem closed_set {all : List Oper} {listed : Array Bool} {i : Nat} (hi : i < listed.size) (hc : Closed all listed) {o : Oper} (ho : all[i]? = some o) (hd : ∀ d ∈ depsOf o, Ltd listed d = true) : Closed all (listed.setIfInBounds i true) := by
  obtain ⟨h1, h2⟩ := Ltd_set hi
  have up : ∀ d, Ltd listed d = true → Ltd (listed.setIfInBounds i true) d = true := fun d h => by
    by_cases hdi : d = i
    · subst hdi; exact h2
    · rw [h1 d hdi]; exact h
  intro j o' hj hl d hdm
  by_cases hji : j = i
  · subst hji; rw [ho] at hj; cases hj; exact up d (hd d hdm)
  · rw [h1 j hji] at hl; exact up d (hc j o' hj hl d hdm)

section
variable {S : Start} {ops : Array Oper} {p : Nat} {X : List AV} {ob obt : Prop} {csp cs : List CO} {Qw : Exit → Act → World → Prop}

/-- Behind the operations that only reckon: the others, one by one. -/
theorem draw_tail (E : TEnv P) (hord : OrdOk ops.toList p) (hk : ∀ fz' β' w' a', Rel S m0 N fz' β' w' a' ρ' H' → Qw .normal a' w') : ∀ {fuel k : Nat} {listed : Array Bool} {fz : Fz} {β : List Value} {w : World} {a : Act} {ρk : Fr} {Hk : List Box} {csk : List CO} {obk : Prop},
    p ≤ k → k ≤ ops.size → listed.size = ops.size → (∀ i, i < ops.size → (Ltd listed i = true ↔ i < k)) → Closed ops.toList listed → ops.size - k ≤ fuel →
    runOps E N false ops.toList (ops.toList.drop k) ρk Hk csk = some (ρ', H', obk) → obk → Rel S m0 N fz β w a ρk Hk → wpAny P .any ops Qw fuel listed a w := by
  intro fuel
  induction fuel with
  | zero =>
    intro k listed fz β w a ρk Hk csk obk hpk hkn hsz hl hc hf hr hob h
    have hkn' : k = ops.size := by omega
    subst hkn'
    refine ⟨?_, ?_⟩
    · apply List.eq_nil_iff_forall_not_mem.2
      intro i hi
      obtain ⟨h1, h2, _⟩ := (ready_mem hsz).1 hi
      rw [(hl i h1).2 h1] at h2; cases h2
    · rw [← Array.length_toList, List.drop_length] at hr
      simp only [runOps, Option.some.injEq, Prod.mk.injEq] at hr
      obtain ⟨rfl, rfl, _⟩ := hr
      exact hk fz β w a h
  | succ fuel ih =>
    intro k listed fz β w a ρk Hk csk obk hpk hkn hsz hl hc hf hr hob h
    refine ⟨fun hnil => ?_, fun i hi => ?_⟩
    · have hall := ready_nil hord hsz hnil
      have hkn' : k = ops.size := by
        refine Nat.le_antisymm hkn (Nat.le_of_not_lt fun hlt => ?_)
        have := (hl k hlt).1 (hall k hlt); omega
      subst hkn'
      rw [← Array.length_toList, List.drop_length] at hr
      simp only [runOps, Option.some.injEq, Prod.mk.injEq] at hr
      obtain ⟨rfl, rfl, _⟩ := hr
      exact hk fz β w a h
    · obtain ⟨h1, h2, o, ho, hd⟩ := (ready_mem hsz).1 hi
      have hik : i = k := by
        have hki : k ≤ i := Nat.le_of_not_lt fun hlt => by rw [(hl i h1).2 hlt] at h2; cases h2
        refine Nat.le_antisymm (Nat.le_of_not_lt fun hlt => ?_) hki
        have := reach_listed hc (hord.tail i k (by omega) (by simpa using h1) hlt) ⟨o, ho, hd⟩
        have := (hl k (by omega)).1 this
        omega
      subst hik
      have ho' : ops[i]? = some o := by simpa using ho
      have hdrop : ops.toList.drop i = o :: ops.toList.drop (i + 1) := by
        rw [List.drop_eq_getElem_cons (by simpa using h1)]
        congr 1
        have := (List.getElem?_eq_some_iff.1 ho).2
        exact this
      rw [hdrop] at hr
      obtain ⟨s1, s2⟩ := Ltd_set (listed := listed) (i := i) (by omega)
      have hl' : ∀ j, j < ops.size → (Ltd (listed.setIfInBounds i true) j = true ↔ j < i + 1) := by
        intro j hj
        by_cases hji : j = i
        · subst hji; rw [s2]; simp
        · rw [s1 j hji, hl j hj]; omega
      have hnext : ∀ {fz' : Fz} {β' : List Value} {w' : World} {a' : Act} {ρ2 : Fr} {H2 : List Box} {cs2 : List CO} {ob2 : Prop}, runOps E N false ops.toList (ops.toList.drop (i + 1)) ρ2 H2 cs2 = some (ρ', H', ob2) → ob2 → Rel S m0 N fz' β' w' a' ρ2 H2 →
          wpAny P .any ops Qw fuel (listed.setIfInBounds i true) a' w' := fun e1 e2 e3 =>
        ih (k := i + 1) (by omega) (by omega) (by simpa using hsz) hl' (closed_set (by omega) hc ho hd) (by omega) e1 e2 e3
      unfold wpOp
      rw [ho']
      simp only [runOps] at hr
      change if Region.wanted o (yielded ops a.tmps) = true then _ else _
      split at hr
      · rename_i hg
        rw [if_pos (guardA_ok h.fr hg)]
        split at hr
        · rename_i r cs' h3
          split at hr
          · rename_i ρ1 hp1
            split at hr
            · rename_i ρ2 H2 ob2 h4
              cases hr
              exact .inl (op1x_ok E h h3 hob.1 _ _ fun fz' β' w' v hrel hx => hnext h4 hob.2 (put1_ok hrel hx hp1))
            · cases hr
          · cases hr
        · cases hr
      · rename_i hg
        rw [if_neg (by rw [guardA_ok h.fr hg]; simp)]
        split at hr
        · rename_i d hdst
          split at hr
          · rename_i hdN
            refine hnext hr hob (fz' := fz) (β' := β) ?_
            rw [hdst]
            exact ⟨h.fr.put hdN undef_ok, h.bx, h.mine, h.anc, h.fzok, h.pre⟩
          · cases hr
        · rename_i hdst
          rw [hdst]
          exact hnext hr hob h
      · cases hr

theorem FrR.of {fz : Fz} {β : List Value} {w : World} {a : Act} {ρ1 ρ2 : Fr} (hf : FrR fz β w N a ρ1) (hs : ∀ t x, (t, x) ∈ ρ2 → (t, x) ∈ ρ1) : FrR fz β w N a ρ2 := ⟨hf.1, hf.2.1, fun t x h => hf.2.2 t x (hs t x h)⟩
theorem Rel.of {fz : Fz} {β : List Value} {w : World} {a : Act} {ρ1 ρ2 : Fr} (h : Rel S m0 N fz β w a ρ1 H) (hs : ∀ t x, (t, x) ∈ ρ2 → (t, x) ∈ ρ1) : Rel S m0 N fz β w a ρ2 H :=
  ⟨h.fr.of hs, h.bx, h.mine, h.anc, h.fzok, h.pre⟩

theorem draw_any (E : TEnv P) (hord : OrdOk ops.toList p) (hnd : nodupF ρ = true) (hpure : runPure E N ops.toList (ops.toList.take p) ρ H cs = some (X, ρp, ob, csp)) (hob : ob)
    (htail : runOps E N false ops.toList (ops.toList.drop p) ρp H csp = some (ρ', H', obt)) (hobt : obt)
    (hk : ∀ fz' β' w' a', Rel S m0 N fz' β' w' a' ρ' H' → Qw .normal a' w') (keys : List Nat) (hkeys : ∀ t, (look ρ t ≠ none → t ∈ keys) ∧ ∀ i, dstAt ops.toList i = some t → t ∈ keys) :
    ∀ {fuel : Nat} {listed : Array Bool} {fz : Fz} {β : List Value} {w : World} {a : Act}, listed.size = ops.size → (∀ i, p ≤ i → i < ops.size → Ltd listed i = false) → Closed ops.toList listed →
      cntN (Ltd listed) ops.size ≤ fuel → Rel S m0 N fz β w a (mkC (curOf ops.toList X ρ (Ltd listed) p) keys) H → wpAny P .any ops Qw fuel listed a w := by
  have hple : p ≤ ops.size := by simpa using hord.le
  obtain ⟨hXl, hfin, hseq⟩ := runPure_seq E (ρ0 := ρ) (p := p) (k := 0) (Xpre := []) (fun j => by
      rw [List.getElem?_take]; simp) (by simp; omega) rfl hpure hob (fun t => by simp [curOf, lastW])
  simp only [List.nil_append] at hfin hseq
  have hndp := nodupF_pure E hpure hnd
  -- when all that only reckon are done
  have full : ∀ {fuel : Nat} {listed : Array Bool} {fz : Fz} {β : List Value} {w : World} {a : Act}, listed.size = ops.size → (∀ i, i < ops.size → (Ltd listed i = true ↔ i < p)) → Closed ops.toList listed →
      cntN (Ltd listed) ops.size ≤ fuel → Rel S m0 N fz β w a (mkC (curOf ops.toList X ρ (Ltd listed) p) keys) H → wpAny P .any ops Qw fuel listed a w := by
    intro fuel listed fz β w a hsz hl hc hf h
    have hcnt : ops.size - p ≤ fuel := by
      refine Nat.le_trans ?_ hf
      have : ∀ n, n ≤ ops.size → n - p ≤ cntN (Ltd listed) n := by
        intro n hn
        induction n with
        | zero => simp
        | succ n ih =>
          simp only [cntN]
          have := ih (by omega)
          by_cases hnp : n < p
          · omega
          · have : ¬ (Ltd listed n = true) := fun e => hnp ((hl n (by omega)).1 e)
            rw [if_neg this]; omega
      exact this _ (Nat.le_refl _)
    refine draw_tail E hord hk (Nat.le_refl _) hple hsz hl hc hcnt htail hobt (h.of fun t x hm => ?_)
    have hx := nodupF_look hndp hm
    rw [hfin t] at hx
    have hcur : curOf ops.toList X ρ (Ltd listed) p t = some x := by
      rw [← hx]
      unfold curOf
      rw [lastW_congr (L' := fun _ => true) (fun j hj _ => (hl j (by omega)).2 hj)]
    refine mkC_in ?_ hcur
    unfold curOf at hx
    split at hx
    · rename_i j hj
      exact (hkeys t).2 j (lastW_some hj).2.1
    · exact (hkeys t).1 (by rw [hx]; simp)
  intro fuel
  induction fuel with
  | zero =>
    intro listed fz β w a hsz hl hc hf h
    have hall : ∀ i, i < ops.size → Ltd listed i = true := cntN_zero (by omega)
    have hpn : p = ops.size := Nat.le_antisymm hple (Nat.le_of_not_lt fun hlt => by have := hl p (Nat.le_refl _) hlt; rw [hall p hlt] at this; cases this)
    refine full hsz (fun i hi => ⟨fun _ => ?_, fun _ => hall i hi⟩) hc hf h
    rw [hpn]; exact hi
  | succ fuel ih =>
    intro listed fz β w a hsz hl hc hf h
    by_cases hdone : ∀ i, i < p → Ltd listed i = true
    · exact full hsz (fun i hi => ⟨fun e => Nat.lt_of_not_le fun hpi => (by rw [hl i hpi hi] at e; cases e), fun hip => hdone i hip⟩) hc hf h
    · refine ⟨fun hnil => absurd (fun i hip => ready_nil hord hsz hnil i (by omega)) hdone, fun i hi => ?_⟩
      obtain ⟨h1, h2, o, ho, hd⟩ := (ready_mem hsz).1 hi
      have hip : i < p := by
        refine Nat.lt_of_not_le fun hpi => hdone fun j hj => ?_
        exact reach_listed hc (hord.tail i j hpi (by simpa using h1) (by omega)) ⟨o, ho, hd⟩
      obtain ⟨o', d, x, ρi, csi, csi', obi, ho', hdst, hdN, hXi, hst, hobi, hlook⟩ := hseq i (Nat.zero_le _) hip
      rw [ho] at ho'; cases ho'
      have hoa : ops[i]? = some o := by simpa using ho
      have hdsti : dstAt ops.toList i = some d := by simp [dstAt, ho, hdst]
      -- who writes a slot that o names
      have hW : ∀ t ∈ names ops.toList o, ∀ j, j < p → ((Ltd listed j = true ∧ dstAt ops.toList j = some t) ↔ (j < i ∧ dstAt ops.toList j = some t)) := by
        intro t ht j hj
        have hjo : ∃ oj, ops.toList[j]? = some oj := ⟨ops.toList[j]'(by simp; omega), List.getElem?_eq_getElem _⟩
        obtain ⟨oj, hoj⟩ := hjo
        constructor
        · rintro ⟨e1, e2⟩
          refine ⟨Nat.lt_of_not_le fun hij => ?_, e2⟩
          have e3 : oj.dst = some t := by simpa [dstAt, hoj] using e2
          rcases Nat.eq_or_lt_of_le hij with hij | hij
          · subst hij; rw [h2] at e1; cases e1
          · have := hord.clash i j o oj hij ho hoj (by simp [clashO, e3, ht])
            have := hc j oj hoj e1 i this
            rw [h2] at this; cases this
        · rintro ⟨e1, e2⟩
          have e3 : oj.dst = some t := by simpa [dstAt, hoj] using e2
          have := hord.clash j i oj o e1 hoj ho (by simp [clashO, e3, ht])
          exact ⟨hd j this, e2⟩
      have hcur : ∀ t ∈ names ops.toList o, curOf ops.toList X ρ (Ltd listed) p t = look ρi t := by
        intro t ht
        rw [hlook t]
        unfold curOf
        rw [lastW_same (hW t ht) (by omega)]
      have hin : ∀ t x, t ∈ names ops.toList o → look ρi t = some x → (t, x) ∈ mkC (curOf ops.toList X ρ (Ltd listed) p) keys := by
        intro t x ht hx
        have hc2 := (hcur t ht).trans hx
        refine mkC_in ?_ hc2
        unfold curOf at hc2
        split at hc2
        · rename_i j hj; exact (hkeys t).2 j (lastW_some hj).2.1
        · exact (hkeys t).1 (by rw [hc2]; simp)
      obtain ⟨s1, s2⟩ := Ltd_set (listed := listed) (i := i) (by omega)
      -- the state behind it
      have hafter : ∀ {fz' : Fz} {w' : World} {v : Value}, Mono fz β w fz' w' H → RdA fz' β w' x v → wpAny P .any ops Qw fuel (listed.setIfInBounds i true) (a.put o.dst v) w' := by
        intro fz' w' v hm hx
        refine ih (β := β) (fz := fz') (by simpa using hsz) (fun j hj hjn => ?_) (closed_set (by omega) hc ho hd) ?_ ?_
        · rw [s1 j (by omega)]; exact hl j hj hjn
        · have := cntN_set (f := Ltd listed) (g := Ltd (listed.setIfInBounds i true)) s1 h2 s2 h1
          omega
        · have hrel := hm.2 S m0 N a _ h
          rw [hdst]
          refine ⟨⟨hrel.fr.1, by simp [Act.put, hrel.fr.2.1], fun t y hty => ?_⟩, hrel.bx, hrel.mine, hrel.anc, hrel.fzok, hrel.pre⟩
          have hy := mkC_mem hty
          by_cases htd : t = d
          · subst htd
            have hlast : lastW (dstAt ops.toList) (Ltd (listed.setIfInBounds i true)) t p = some i := by
              refine lastW_last hip s2 hdsti (fun j hij hjp hj => ?_)
              rw [s1 j (by omega)] at hj
              have := ((hW t (by simp [names, hdst]) j hjp).1 hj).1
              omega
            unfold curOf at hy
            rw [hlast] at hy
            simp only [hXi, Option.some.injEq] at hy
            subst hy
            refine ⟨hdN, ?_⟩
            have : (a.put (some t) v).tmps.getD t undef = v := by
              simp [Act.put, Array.getD_eq_getD_getElem?, Array.getElem?_setIfInBounds, hrel.fr.2.1, hdN]
            rw [this]; exact hx
          · have hsame : curOf ops.toList X ρ (Ltd (listed.setIfInBounds i true)) p t = curOf ops.toList X ρ (Ltd listed) p t := by
              unfold curOf
              rw [lastW_congr (L' := Ltd listed) (fun j hj hjt => ?_)]
              by_cases hji : j = i
              · subst hji; rw [hdsti] at hjt; exact absurd (by injection hjt with e; exact e.symm) htd
              · exact s1 j hji
            rw [hsame] at hy
            have hmem : (t, y) ∈ mkC (curOf ops.toList X ρ (Ltd listed) p) keys := by
              refine mkC_in ?_ hy
              unfold curOf at hy
              split at hy
              · rename_i j hj; exact (hkeys t).2 j (lastW_some hj).2.1
              · exact (hkeys t).1 (by rw [hy]; simp)
            obtain ⟨e1, e2⟩ := hrel.fr.2.2 t y hmem
            refine ⟨e1, ?_⟩
            have : (a.put (some d) v).tmps.getD t undef = a.tmps.getD t undef := by
              simp only [Act.put, Array.getD_eq_getD_getElem?, Array.getElem?_setIfInBounds]
              rw [if_neg (Ne.symm htd)]
            rw [this]; exact e2
      unfold wpOp
      rw [hoa]
      change if Region.wanted o (yielded ops a.tmps) = true then _ else _
      unfold stepP at hst
      have hgsame : guardA ops.toList (mkF (guardTmp ops.toList o) ρi) o.guard = guardA ops.toList ρi o.guard := guardA_same fun t ht => look_mkF ht
      have hrelg : Rel S m0 N fz β w a (mkF (guardTmp ops.toList o) ρi) H := h.of fun t y hm => by
        obtain ⟨e1, e2⟩ := mkF_mem hm
        exact hin t y (by simp [names, e1]) e2
      split at hst
      · rename_i hg
        cases hst
        rw [← hgsame] at hg
        rw [if_neg (by rw [guardA_ok hrelg.fr hg]; simp)]
        exact hafter ⟨Later.refl _ _, fun _ _ _ _ _ h => h⟩ undef_ok
      · rename_i hg
        rw [← hgsame] at hg
        rw [if_pos (guardA_ok hrelg.fr hg)]
        split at hst
        · rename_i hpur
          split at hst
          · rename_i r cs' hop
            split at hst
            · rename_i y hy
              cases hst
              have hrelo : Rel S m0 N fz β w a (mkF (opTmps o.op) ρi) H := h.of fun t z hm => by
                obtain ⟨e1, e2⟩ := mkF_mem hm
                exact hin t z (by simp [names, e1]) e2
              exact .inl (op1_pure E hrelo hop hobi.1 hobi.2 hpur fun fz' w' v hm hx => hafter hm (hx _ hy))
            · cases hst
          · cases hst
        · cases hst
      · cases hst
end

/-- A region whose order is open: the first p operations only reckon; the others stand behind them in the order of the text. -/
theorem ok_draw (E : TEnv P) (hP : P.follows .mixedOrders = true) {Q : Exit → Fr → List Box → Prop} (keep : List Nat) (p : Nat) (cs : List CO) {id : Nat} {ops : Array Oper} {X : List AV} {csp : List CO} {ob obt : Prop}
    (hord : orderOk ops.toList p = true) (hnd : nodupF ρ = true)
    (hpure : runPure E N ops.toList (ops.toList.take p) ρ H cs = some (X, ρp, ob, csp)) (hob : ob)
    (htail : runOps E N false ops.toList (ops.toList.drop p) ρp H csp = some (ρ', H', obt)) (hobt : obt) (k : Q .normal (keepF keep ρ') H') : Ok P m0 N (.region id ops true) Q ρ H := by
  intro S fz β w a h
  refine wp_region_any hP ?_
  refine draw_any E (orderOk_iff hord) hnd hpure hob htail hobt (fun fz' β' w' a' hrel => ⟨fz', β', _, _, hrel.keep keep, k⟩) (ρ.map (·.1) ++ ops.toList.filterMap (·.dst)) (fun t => ⟨fun ht => ?_, fun i hi => ?_⟩)
    (by simp) (fun i _ hi => ?_) (fun i o ho hl => ?_) ?_ (h.drew.of fun t x hm => ?_)
  · cases hl : look ρ t with
    | none => exact absurd hl ht
    | some x => exact List.mem_append_left _ (List.mem_map.2 ⟨(t, x), look_mem hl, rfl⟩)
  · refine List.mem_append_right _ (List.mem_filterMap.2 ?_)
    unfold dstAt at hi
    cases ho : ops.toList[i]? with
    | none => simp [ho] at hi
    | some o => simp [ho] at hi; exact ⟨o, List.mem_of_getElem? ho, hi⟩
  · simp [Ltd, Array.getD_eq_getD_getElem?, hi]
  · have hi := (List.getElem?_eq_some_iff.1 ho).1
    simp only [Ltd, Array.getD_eq_getD_getElem?, Array.getElem?_replicate] at hl
    split at hl <;> simp at hl
  · have : ∀ n, cntN (Ltd (Array.replicate ops.size false)) n ≤ n := by
      intro n
      induction n with
      | zero => simp [cntN]
      | succ n ih => simp only [cntN]; split <;> omega
    exact this _
  · have hx := mkC_mem hm
    have hL : ∀ j, Ltd (Array.replicate ops.size false) j = false := by
      intro j
      simp only [Ltd, Array.getD_eq_getD_getElem?, Array.getElem?_replicate]
      split <;> rfl
    unfold curOf at hx
    split at hx
    · rename_i j hj
      have := (lastW_some hj).2.2
      rw [hL j] at this; cases this
    · exact look_mem hx

end Go.Proofs.YtgapiecbinplfaaGreat
/- The rules as a walk uses them: one line a region. -/
namespace Go.Proofs.YtgapiecbinplfaaGreat
open Go.RowKit

variable {P : Program} {m0 N : Nat} {ρ ρ' ρp : Fr} {H H' : List Box} {Q : Exit → Fr → List Box → Prop}

/-- A region in the text's order, and what of it is kept. -/
def evK (E : TEnv P) (N : Nat) (keep : List Nat) (ops : List Oper) (ρ : Fr) (H : List Box) (cs : List CO) : Option (Fr × List Box × Prop) :=
  match runOps E N false ops ops ρ H cs with
  | some (ρ', H', ob) => some (keepF keep ρ', H', ob)
  | none => none

/-- A region whose order is open. -/
def evD (E : TEnv P) (N p : Nat) (keep : List Nat) (ops : List Oper) (ρ : Fr) (H : List Box) (cs : List CO) : Option (Fr × List Box × Prop) :=
  match runPure E N ops (ops.take p) ρ H cs with
  | some (_, ρp, ob, csp) => match runOps E N false ops (ops.drop p) ρp H csp with
    | some (ρ', H', obt) => some (keepF keep ρ', H', ob ∧ obt)
    | none => none
  | none => none

theorem ok_reg (E : TEnv P) (keep : List Nat) (cs : List CO) {id : Nat} {ops : Array Oper} {ob : Prop} (hr : evK E N keep ops.toList ρ H cs = some (ρ', H', ob)) (hob : ob) (k : Q .normal ρ' H') : Ok P m0 N (.region id ops false) Q ρ H := by
  unfold evK at hr
  split at hr
  · rename_i ρ1 H1 ob1 h1
    cases hr
    exact ok_region E keep cs h1 hob k
  · cases hr
theorem ok_nx (E : TEnv P) (keep : List Nat) (cs : List CO) {id : Nat} {ops : Array Oper} {y : Code} {ob : Prop} (hr : evK E N keep ops.toList ρ H cs = some (ρ', H', ob)) (hob : ob) (k : Ok P m0 N y Q ρ' H') : Ok P m0 N (.seq (.region id ops false) y) Q ρ H :=
  ok_seq (ok_reg E keep cs hr hob k)
theorem ok_dr (E : TEnv P) (hP : P.follows .mixedOrders = true) (keep : List Nat) (p : Nat) (cs : List CO) {id : Nat} {ops : Array Oper} {ob : Prop} (hord : orderOk ops.toList p = true) (hnd : nodupF ρ = true)
    (hr : evD E N p keep ops.toList ρ H cs = some (ρ', H', ob)) (hob : ob) (k : Q .normal ρ' H') : Ok P m0 N (.region id ops true) Q ρ H := by
  unfold evD at hr
  split at hr
  · rename_i X ρ1 ob1 cs1 h1
    split at hr
    · rename_i ρ2 H2 ob2 h2
      cases hr
      exact ok_draw E hP keep p cs hord hnd h1 hob.1 h2 hob.2 k
    · cases hr
  · cases hr
theorem ok_drn (E : TEnv P) (hP : P.follows .mixedOrders = true) (keep : List Nat) (p : Nat) (cs : List CO) {id : Nat} {ops : Array Oper} {y : Code} {ob : Prop} (hord : orderOk ops.toList p = true) (hnd : nodupF ρ = true)
    (hr : evD E N p keep ops.toList ρ H cs = some (ρ', H', ob)) (hob : ob) (k : Ok P m0 N y Q ρ' H') : Ok P m0 N (.seq (.region id ops true) y) Q ρ H :=
  ok_seq (ok_dr E hP keep p cs hord hnd hr hob k)

/-- A function that takes data and hands back data. -/
theorem ctr_pure (E : TEnv P) {f : FuncId} {fn : Func} {c : Code} {n : Nat} {rs : Array ResultVar} (hf : P.funcs[f]? = some fn) (hb : fn.body = some c) {args : List AV} {r : AV} (hN : fn.ntmps = n) (hrs : fn.results = rs) (hargs : args.length ≤ n) (hsc : scop 0 r = true)
    (h : Ok P 0 n c (fun e ρ H => (e = .normal ∨ e = .ret) ∧ resAll E.td 0 H ρ rs.toList = some r) (frame0 0 args) []) : Ctr P f args [] r [] := by
  refine ctr_of E hf hb hN hargs (by simp) (by simp) rfl (by simp) ?_
  rw [hrs]
  refine ok_mono h fun e ρ H hq => ⟨hq.1, hq.2, ?_, Nat.zero_le _, hsc⟩
  cases H <;> rfl

/-- The end of a function. -/
theorem ok_fin {E : TEnv P} {rs : List ResultVar} {r : AV} (h : resAll E.td 0 H ρ rs = some r) : Ok P m0 N .ret (fun e ρ H => (e = .normal ∨ e = .ret) ∧ resAll E.td 0 H ρ rs = some r) ρ H :=
  ok_ret ⟨.inr rfl, h⟩

/-- A whole number of the machine that fits stays as it is. -/
theorem wrap_i64 {n : Int} (h1 : -9223372036854775808 ≤ n) (h2 : n ≤ 9223372036854775807) : IntKind.wrap .i64 n = n := by
  exact IntWalk.i64_in n ⟨h1, h2⟩

theorem ok_lenN {c : Code} {τ : Ty} {xs : List τ.den} (t : Nat) (ht : look ρ t = some (.d (.sl τ) xs)) (h : xs.length ≤ 9223372036854775807 → Ok P m0 N c Q ρ H) : Ok P m0 N c Q ρ H :=
  ok_len t ht fun hl => h (by simp only [maxLen] at hl; omega)

theorem at0_lt {t : Ty} {xs : List t.den} {i : Nat} (h : i < xs.length) : at0 t xs (i : Int) = xs[i] := by
  simp [at0, List.getD, h]

theorem ok_ent_q {c : Code} {ρ1 : Fr} {H1 : List Box} (h : Ok P m0 N c (fun e ρ' H' => e = .normal ∧ Ent ρ' H' ρ1 H1) ρ H) (k : Q .normal ρ1 H1) (hm : m0 ≤ H1.length := by first | exact Nat.zero_le _ | simp) : Ok P m0 N c Q ρ H :=
  fun S fz β w a hr => wp_mono (h S fz β w a hr) fun _ _ _ ⟨fz', _, _, _, hrel, he, hent⟩ => by subst he; exact ⟨fz', _, _, _, hrel.ent hent hm, k⟩

/-- A region whose outcome is told: by cases inside. -/
theorem ok_regJ (E : TEnv P) (new : Fr) (old keep : List Nat) (cs : List CO) {id : Nat} {ops : Array Oper} (h : ∃ ρ' H' ob, evK E N keep ops.toList ρ H cs = some (ρ', H', ob) ∧ ob ∧ Ent ρ' H' (new ++ keepF old ρ) H) (k : Q .normal (new ++ keepF old ρ) H)
    (hm : m0 ≤ H.length := by first | exact Nat.zero_le _ | simp) : Ok P m0 N (.region id ops false) Q ρ H := by
  obtain ⟨ρ', H', ob, h1, h2, h3⟩ := h
  exact ok_ent_q (ok_reg E keep cs h1 h2 ⟨rfl, h3⟩) k hm

theorem ok_drJ (E : TEnv P) (hP : P.follows .mixedOrders = true) (new : Fr) (old keep : List Nat) (p : Nat) (cs : List CO) {id : Nat} {ops : Array Oper} (hord : orderOk ops.toList p = true) (hnd : nodupF ρ = true) (h : ∃ ρ' H' ob, evD E N p keep ops.toList ρ H cs = some (ρ', H', ob) ∧ ob ∧ Ent ρ' H' (new ++ keepF old ρ) H) (k : Q .normal (new ++ keepF old ρ) H)
    (hm : m0 ≤ H.length := by first | exact Nat.zero_le _ | simp) : Ok P m0 N (.region id ops true) Q ρ H := by
  obtain ⟨ρ', H', ob, h1, h2, h3⟩ := h
  exact ok_ent_q (ok_dr E hP keep p cs hord hnd h1 h2 ⟨rfl, h3⟩) k hm
/-- What is known between two statements is told. -/
theorem ok_mid {x y : Code} (ρ1 : Fr) (H1 : List Box) (h : Ok P m0 N x (thenA (fun ρ' H' => Ent ρ' H' ρ1 H1) Q) ρ H) (k : Ok P m0 N y Q ρ1 H1) (hm : m0 ≤ H1.length := by first | exact Nat.zero_le _ | simp) : Ok P m0 N (.seq x y) Q ρ H :=
  ok_seq (ok_mono h fun e ρ' H' hq => by
    cases e with
    | normal => exact ok_ent hq k hm
    | _ => exact hq)

end Go.Proofs.YtgapiecbinplfaaGreat
/- The types and functions of the program of this seat, as the framework sees them. -/
namespace Go.Proofs.YtgapiecbinplfaaGreat
open Go.RowKit

theorem nilv {fz : Fz} {β : List Value} {w : World} : RdA fz β w .nilsl (.slice none 0 0) := by simp only [RdA]
theorem nil_rd {α : Type} {fz : Fz} {w : World} {k : Nat} {R : α → List Value → Prop} : RdSl fz w k R (.slice none 0 0) [] := ⟨none, 0, rfl, Nat.le_refl _, by simp [maxLen], fun h => absurd rfl h⟩
theorem nil_sl {fz : Fz} {w : World} {t : Ty} : ElR fz w (.sl t) [] [.slice none 0 0] := elR_sl.2 nil_rd

theorem tdOk3 : TdOk Tryz.prog 3 ⟨false, 1, [.d .i (0 : Int)], []⟩ where
  isAgg := Tryz.isAgg3
  sizeOf := Tryz.sizeOf3
  zero := ⟨_, Tryz.zeroValue3, fun fz β w => by simp [RdL, RdA, ElR, Value.cells], fun h => by cases h⟩
  one := fun _ => rfl
  len := rfl
  fields := fun h => by cases h
theorem tdOk4 : TdOk Tryz.prog 4 ⟨false, 1, [.d .bool false], []⟩ where
  isAgg := Tryz.isAgg4
  sizeOf := Tryz.sizeOf4
  zero := ⟨_, Tryz.zeroValue4, fun fz β w => by simp [RdL, RdA, ElR, Value.cells], fun h => by cases h⟩
  one := fun _ => rfl
  len := rfl
  fields := fun h => by cases h
theorem tdOk5 : TdOk Tryz.prog 5 ⟨false, 1, [.d (.int .u8) (0 : Int)], []⟩ where
  isAgg := Tryz.isAgg5
  sizeOf := Tryz.sizeOf5
  zero := ⟨_, Tryz.zeroValue5, fun fz β w => by simp [RdL, RdA, ElR, Value.cells], fun h => by cases h⟩
  one := fun _ => rfl
  len := rfl
  fields := fun h => by cases h
theorem tdOk9 : TdOk Tryz.prog 9 ⟨false, 1, [.d .str []], []⟩ where
  isAgg := Tryz.isAgg9
  sizeOf := Tryz.sizeOf9
  zero := ⟨_, Tryz.zeroValue9, fun fz β w => by simp [RdL, RdA, ElR, Value.cells], fun h => by cases h⟩
  one := fun _ => rfl
  len := rfl
  fields := fun h => by cases h
theorem tdOk21 : TdOk Tryz.prog 21 ⟨false, 1, [.d (.int .i32) (0 : Int)], []⟩ where
  isAgg := Tryz.isAgg21
  sizeOf := Tryz.sizeOf21
  zero := ⟨_, Tryz.zeroValue21, fun fz β w => by simp [RdL, RdA, ElR, Value.cells], fun h => by cases h⟩
  one := fun _ => rfl
  len := rfl
  fields := fun h => by cases h
theorem tdOk22 : TdOk Tryz.prog 22 ⟨false, 1, [.nilsl], []⟩ where
  isAgg := Tryz.isAgg22
  sizeOf := Tryz.sizeOf22
  zero := ⟨_, Tryz.zeroValue22, fun fz β w => by simp [RdL, RdA, ElR, Value.cells], fun h => by cases h⟩
  one := fun _ => rfl
  len := rfl
  fields := fun h => by cases h
theorem tdOk23 : TdOk Tryz.prog 23 ⟨false, 1, [.nilsl], []⟩ where
  isAgg := Tryz.isAgg23
  sizeOf := Tryz.sizeOf23
  zero := ⟨_, Tryz.zeroValue23, fun fz β w => by simp [RdL, RdA, ElR, Value.cells], fun h => by cases h⟩
  one := fun _ => rfl
  len := rfl
  fields := fun h => by cases h
theorem tdOk25 : TdOk Tryz.prog 25 ⟨true, 2, [.nilsl, .nilsl], [0, 1]⟩ where
  isAgg := Tryz.isAgg25
  sizeOf := Tryz.sizeOf25
  zero := ⟨_, Tryz.zeroValue25, fun fz β w => by simp [RdL, RdA, ElR, Value.cells], fun _ parts => by kernel_rfl⟩
  one := by simp
  len := rfl
  fields := fun _ => ⟨_, Tryz.underlying25, rfl, by
    intro f hf w
    simp only [List.mem_cons, List.not_mem_nil, or_false] at hf
    rcases hf with rfl | rfl
    · exact ⟨Tryz.sizeOf22 w, Tryz.isAgg22 w⟩
    · exact ⟨Tryz.sizeOf23 w, Tryz.isAgg23 w⟩⟩
theorem tdOk26 : TdOk Tryz.prog 26 ⟨false, 1, [.nilsl], []⟩ where
  isAgg := Tryz.isAgg26
  sizeOf := Tryz.sizeOf26
  zero := ⟨_, Tryz.zeroValue26, fun fz β w => by simp [RdL, RdA, ElR, Value.cells], fun h => by cases h⟩
  one := fun _ => rfl
  len := rfl
  fields := fun h => by cases h
theorem tdOk27 : TdOk Tryz.prog 27 ⟨false, 1, [.nilsl], []⟩ where
  isAgg := Tryz.isAgg27
  sizeOf := Tryz.sizeOf27
  zero := ⟨_, Tryz.zeroValue27, fun fz β w => by simp [RdL, RdA, ElR, Value.cells], fun h => by cases h⟩
  one := fun _ => rfl
  len := rfl
  fields := fun h => by cases h
theorem tdOk30 : TdOk Tryz.prog 30 ⟨false, 1, [.nilsl], []⟩ where
  isAgg := Tryz.isAgg30
  sizeOf := Tryz.sizeOf30
  zero := ⟨_, Tryz.zeroValue30, fun fz β w => by simp [RdL, RdA, ElR, Value.cells], fun h => by cases h⟩
  one := fun _ => rfl
  len := rfl
  fields := fun h => by cases h
theorem tdOk36 : TdOk Tryz.prog 36 ⟨false, 1, [.nilsl], []⟩ where
  isAgg := Tryz.isAgg36
  sizeOf := Tryz.sizeOf36
  zero := ⟨_, Tryz.zeroValue36, fun fz β w => by simp [RdL, RdA, ElR, Value.cells], fun h => by cases h⟩
  one := fun _ => rfl
  len := rfl
  fields := fun h => by cases h
theorem tdOk38 : TdOk Tryz.prog 38 ⟨false, 1, [.nilsl], []⟩ where
  isAgg := Tryz.isAgg38
  sizeOf := Tryz.sizeOf38
  zero := ⟨_, Tryz.zeroValue38, fun fz β w => by simp [RdL, RdA, ElR, Value.cells], fun h => by cases h⟩
  one := fun _ => rfl
  len := rfl
  fields := fun h => by cases h
theorem tdOk44 : TdOk Tryz.prog 44 ⟨false, 1, [.nilsl], []⟩ where
  isAgg := Tryz.isAgg44
  sizeOf := Tryz.sizeOf44
  zero := ⟨_, Tryz.zeroValue44, fun fz β w => by simp [RdL, RdA, ElR, Value.cells], fun h => by cases h⟩
  one := fun _ => rfl
  len := rfl
  fields := fun h => by cases h
theorem tdOk51 : TdOk Tryz.prog 51 ⟨true, 3, [.nilsl, .nilsl, .nilsl], [0, 1, 2]⟩ where
  isAgg := Tryz.isAgg51
  sizeOf := Tryz.sizeOf51
  zero := ⟨_, Tryz.zeroValue51, fun fz β w => by simp [RdL, RdA, ElR, Value.cells], fun _ parts => by kernel_rfl⟩
  one := by simp
  len := rfl
  fields := fun _ => ⟨_, Tryz.underlying51, rfl, by
    intro f hf w
    simp only [List.mem_cons, List.not_mem_nil, or_false] at hf
    rcases hf with rfl | rfl | rfl
    · exact ⟨Tryz.sizeOf36 w, Tryz.isAgg36 w⟩
    · exact ⟨Tryz.sizeOf22 w, Tryz.isAgg22 w⟩
    · exact ⟨Tryz.sizeOf22 w, Tryz.isAgg22 w⟩⟩
theorem tdOk55 : TdOk Tryz.prog 55 ⟨true, 3, [.d .i (0 : Int), .nilsl, .nilsl], [0, 1, 2]⟩ where
  isAgg := Tryz.isAgg55
  sizeOf := Tryz.sizeOf55
  zero := ⟨_, Tryz.zeroValue55, fun fz β w => by simp [RdL, RdA, ElR, Value.cells], fun _ parts => by kernel_rfl⟩
  one := by simp
  len := rfl
  fields := fun _ => ⟨_, Tryz.underlying55, rfl, by
    intro f hf w
    simp only [List.mem_cons, List.not_mem_nil, or_false] at hf
    rcases hf with rfl | rfl | rfl
    · exact ⟨Tryz.sizeOf3 w, Tryz.isAgg3 w⟩
    · exact ⟨Tryz.sizeOf30 w, Tryz.isAgg30 w⟩
    · exact ⟨Tryz.sizeOf30 w, Tryz.isAgg30 w⟩⟩
theorem tdOk61 : TdOk Tryz.prog 61 ⟨false, 1, [.nilsl], []⟩ where
  isAgg := Tryz.isAgg61
  sizeOf := Tryz.sizeOf61
  zero := ⟨_, Tryz.zeroValue61, fun fz β w => by simp [RdL, RdA, ElR, Value.cells], fun h => by cases h⟩
  one := fun _ => rfl
  len := rfl
  fields := fun h => by cases h
theorem tdOk63 : TdOk Tryz.prog 63 ⟨true, 2, [.d .i (0 : Int), .nilsl], [0, 1]⟩ where
  isAgg := Tryz.isAgg63
  sizeOf := Tryz.sizeOf63
  zero := ⟨_, Tryz.zeroValue63, fun fz β w => by simp [RdL, RdA, ElR, Value.cells], fun _ parts => by kernel_rfl⟩
  one := by simp
  len := rfl
  fields := fun _ => ⟨_, Tryz.underlying63, rfl, by
    intro f hf w
    simp only [List.mem_cons, List.not_mem_nil, or_false] at hf
    rcases hf with rfl | rfl
    · exact ⟨Tryz.sizeOf3 w, Tryz.isAgg3 w⟩
    · exact ⟨Tryz.sizeOf36 w, Tryz.isAgg36 w⟩⟩
theorem tdOk77 : TdOk Tryz.prog 77 ⟨true, 2, [.nilsl, .nilsl], [0, 1]⟩ where
  isAgg := Tryz.isAgg77
  sizeOf := Tryz.sizeOf77
  zero := ⟨_, Tryz.zeroValue77, fun fz β w => by simp [RdL, RdA, ElR, Value.cells], fun _ parts => by kernel_rfl⟩
  one := by simp
  len := rfl
  fields := fun _ => ⟨_, Tryz.underlying77, rfl, by
    intro f hf w
    simp only [List.mem_cons, List.not_mem_nil, or_false] at hf
    rcases hf with rfl | rfl
    · exact ⟨Tryz.sizeOf36 w, Tryz.isAgg36 w⟩
    · exact ⟨Tryz.sizeOf22 w, Tryz.isAgg22 w⟩⟩
theorem tdOk81 : TdOk Tryz.prog 81 ⟨false, 1, [.nilfn], []⟩ where
  isAgg := Tryz.isAgg81
  sizeOf := Tryz.sizeOf81
  zero := ⟨_, Tryz.zeroValue81, fun fz β w => by simp [RdL, RdA, ElR, Value.cells], fun h => by cases h⟩
  one := fun _ => rfl
  len := rfl
  fields := fun h => by cases h
theorem tdOk88 : TdOk Tryz.prog 88 ⟨true, 3, [.d .i (0 : Int), .d .str [], .d .i (0 : Int)], [0, 1, 2]⟩ where
  isAgg := Tryz.isAgg88
  sizeOf := Tryz.sizeOf88
  zero := ⟨_, Tryz.zeroValue88, fun fz β w => by simp [RdL, RdA, ElR, Value.cells], fun _ parts => by kernel_rfl⟩
  one := by simp
  len := rfl
  fields := fun _ => ⟨_, Tryz.underlying88, rfl, by
    intro f hf w
    simp only [List.mem_cons, List.not_mem_nil, or_false] at hf
    rcases hf with rfl | rfl | rfl
    · exact ⟨Tryz.sizeOf3 w, Tryz.isAgg3 w⟩
    · exact ⟨Tryz.sizeOf9 w, Tryz.isAgg9 w⟩
    · exact ⟨Tryz.sizeOf3 w, Tryz.isAgg3 w⟩⟩
theorem tdOk92 : TdOk Tryz.prog 92 ⟨false, 1, [.nilfn], []⟩ where
  isAgg := Tryz.isAgg92
  sizeOf := Tryz.sizeOf92
  zero := ⟨_, Tryz.zeroValue92, fun fz β w => by simp [RdL, RdA, ElR, Value.cells], fun h => by cases h⟩
  one := fun _ => rfl
  len := rfl
  fields := fun h => by cases h
theorem tdOk93 : TdOk Tryz.prog 93 ⟨false, 1, [.top], []⟩ where
  isAgg := Tryz.isAgg93
  sizeOf := Tryz.sizeOf93
  zero := ⟨_, Tryz.zeroValue93, fun fz β w => by simp [RdL, RdA, ElR, Value.cells], fun h => by cases h⟩
  one := fun _ => rfl
  len := rfl
  fields := fun h => by cases h
theorem tdOk95 : TdOk Tryz.prog 95 ⟨true, 4, [.nilsl, .top, .d .i (0 : Int), .d .bool false], [0, 1, 2, 3]⟩ where
  isAgg := Tryz.isAgg95
  sizeOf := Tryz.sizeOf95
  zero := ⟨_, Tryz.zeroValue95, fun fz β w => ⟨_, _, rfl, nilv, _, _, rfl, by simp only [RdA], _, _, rfl, by simp only [RdA, ElR], _, _, rfl, by simp only [RdA, ElR], rfl⟩, fun _ parts => by kernel_rfl⟩
  one := by simp
  len := rfl
  fields := fun _ => ⟨_, Tryz.underlying95, rfl, by
    intro f hf w
    simp only [List.mem_cons, List.not_mem_nil, or_false] at hf
    rcases hf with rfl | rfl | rfl | rfl
    · exact ⟨Tryz.sizeOf30 w, Tryz.isAgg30 w⟩
    · exact ⟨Tryz.sizeOf93 w, Tryz.isAgg93 w⟩
    · exact ⟨Tryz.sizeOf3 w, Tryz.isAgg3 w⟩
    · exact ⟨Tryz.sizeOf4 w, Tryz.isAgg4 w⟩⟩
theorem tdOk96 : TdOk Tryz.prog 96 ⟨false, 1, [.nilfn], []⟩ where
  isAgg := Tryz.isAgg96
  sizeOf := Tryz.sizeOf96
  zero := ⟨_, Tryz.zeroValue96, fun fz β w => by simp [RdL, RdA, ElR, Value.cells], fun h => by cases h⟩
  one := fun _ => rfl
  len := rfl
  fields := fun h => by cases h
theorem tdOk101 : TdOk Tryz.prog 101 ⟨false, 1, [.nilfn], []⟩ where
  isAgg := Tryz.isAgg101
  sizeOf := Tryz.sizeOf101
  zero := ⟨_, Tryz.zeroValue101, fun fz β w => by simp [RdL, RdA, ElR, Value.cells], fun h => by cases h⟩
  one := fun _ => rfl
  len := rfl
  fields := fun h => by cases h
theorem tdOk102 : TdOk Tryz.prog 102 ⟨false, 1, [.nilfn], []⟩ where
  isAgg := Tryz.isAgg102
  sizeOf := Tryz.sizeOf102
  zero := ⟨_, Tryz.zeroValue102, fun fz β w => by simp [RdL, RdA, ElR, Value.cells], fun h => by cases h⟩
  one := fun _ => rfl
  len := rfl
  fields := fun h => by cases h
theorem tdOk105 : TdOk Tryz.prog 105 ⟨false, 1, [.nilfn], []⟩ where
  isAgg := Tryz.isAgg105
  sizeOf := Tryz.sizeOf105
  zero := ⟨_, Tryz.zeroValue105, fun fz β w => by simp [RdL, RdA, ElR, Value.cells], fun h => by cases h⟩
  one := fun _ => rfl
  len := rfl
  fields := fun h => by cases h
theorem tdOk106 : TdOk Tryz.prog 106 ⟨false, 1, [.nilfn], []⟩ where
  isAgg := Tryz.isAgg106
  sizeOf := Tryz.sizeOf106
  zero := ⟨_, Tryz.zeroValue106, fun fz β w => by simp [RdL, RdA, ElR, Value.cells], fun h => by cases h⟩
  one := fun _ => rfl
  len := rfl
  fields := fun h => by cases h
theorem tdOk111 : TdOk Tryz.prog 111 ⟨false, 1, [.top], []⟩ where
  isAgg := Tryz.isAgg111
  sizeOf := Tryz.sizeOf111
  zero := ⟨_, Tryz.zeroValue111, fun fz β w => by simp [RdL, RdA, ElR, Value.cells], fun h => by cases h⟩
  one := fun _ => rfl
  len := rfl
  fields := fun h => by cases h
theorem tdOk114 : TdOk Tryz.prog 114 ⟨false, 1, [.nilfn], []⟩ where
  isAgg := Tryz.isAgg114
  sizeOf := Tryz.sizeOf114
  zero := ⟨_, Tryz.zeroValue114, fun fz β w => by simp [RdL, RdA, ElR, Value.cells], fun h => by cases h⟩
  one := fun _ => rfl
  len := rfl
  fields := fun h => by cases h
theorem tdOk119 : TdOk Tryz.prog 119 ⟨false, 1, [.nilfn], []⟩ where
  isAgg := Tryz.isAgg119
  sizeOf := Tryz.sizeOf119
  zero := ⟨_, Tryz.zeroValue119, fun fz β w => by simp [RdL, RdA, ElR, Value.cells], fun h => by cases h⟩
  one := fun _ => rfl
  len := rfl
  fields := fun h => by cases h
theorem tdOk139 : TdOk Tryz.prog 139 ⟨false, 1, [.nilsl], []⟩ where
  isAgg := Tryz.isAgg139
  sizeOf := Tryz.sizeOf139
  zero := ⟨_, Tryz.zeroValue139, fun fz β w => by simp [RdL, RdA, ElR, Value.cells], fun h => by cases h⟩
  one := fun _ => rfl
  len := rfl
  fields := fun h => by cases h
theorem tdOk160 : TdOk Tryz.prog 160 ⟨false, 1, [.nilfn], []⟩ where
  isAgg := Tryz.isAgg160
  sizeOf := Tryz.sizeOf160
  zero := ⟨_, Tryz.zeroValue160, fun fz β w => by simp [RdL, RdA, ElR, Value.cells], fun h => by cases h⟩
  one := fun _ => rfl
  len := rfl
  fields := fun h => by cases h
theorem tdOk185 : TdOk Tryz.prog 185 ⟨true, 2, [.d .i (0 : Int), .nilsl], [0, 1]⟩ where
  isAgg := Tryz.isAgg185
  sizeOf := Tryz.sizeOf185
  zero := ⟨_, Tryz.zeroValue185, fun fz β w => by simp [RdL, RdA, ElR, Value.cells], fun _ parts => by kernel_rfl⟩
  one := by simp
  len := rfl
  fields := fun _ => ⟨_, Tryz.underlying185, rfl, by
    intro f hf w
    simp only [List.mem_cons, List.not_mem_nil, or_false] at hf
    rcases hf with rfl | rfl
    · exact ⟨Tryz.sizeOf3 w, Tryz.isAgg3 w⟩
    · exact ⟨Tryz.sizeOf36 w, Tryz.isAgg36 w⟩⟩
theorem tdOk198 : TdOk Tryz.prog 198 ⟨true, 4, [.nilsl, .nilsl, .nilsl, .nilsl], [0, 1, 2, 3]⟩ where
  isAgg := Tryz.isAgg198
  sizeOf := Tryz.sizeOf198
  zero := ⟨_, Tryz.zeroValue198, fun fz β w => by simp [RdL, RdA, ElR, Value.cells], fun _ parts => by kernel_rfl⟩
  one := by simp
  len := rfl
  fields := fun _ => ⟨_, Tryz.underlying198, rfl, by
    intro f hf w
    simp only [List.mem_cons, List.not_mem_nil, or_false] at hf
    rcases hf with rfl | rfl | rfl | rfl
    · exact ⟨Tryz.sizeOf36 w, Tryz.isAgg36 w⟩
    · exact ⟨Tryz.sizeOf30 w, Tryz.isAgg30 w⟩
    · exact ⟨Tryz.sizeOf30 w, Tryz.isAgg30 w⟩
    · exact ⟨Tryz.sizeOf30 w, Tryz.isAgg30 w⟩⟩
theorem tdOk216 : TdOk Tryz.prog 216 ⟨true, 5, [.nilsl, .nilsl, .nilsl, .nilsl, .nilsl], [0, 1, 2, 3, 4]⟩ where
  isAgg := Tryz.isAgg216
  sizeOf := Tryz.sizeOf216
  zero := ⟨_, Tryz.zeroValue216, fun fz β w => by simp [RdL, RdA, ElR, Value.cells], fun _ parts => by kernel_rfl⟩
  one := by simp
  len := rfl
  fields := fun _ => ⟨_, Tryz.underlying216, rfl, by
    intro f hf w
    simp only [List.mem_cons, List.not_mem_nil, or_false] at hf
    rcases hf with rfl | rfl | rfl | rfl | rfl
    · exact ⟨Tryz.sizeOf26 w, Tryz.isAgg26 w⟩
    · exact ⟨Tryz.sizeOf30 w, Tryz.isAgg30 w⟩
    · exact ⟨Tryz.sizeOf38 w, Tryz.isAgg38 w⟩
    · exact ⟨Tryz.sizeOf30 w, Tryz.isAgg30 w⟩
    · exact ⟨Tryz.sizeOf30 w, Tryz.isAgg30 w⟩⟩

def tdT : TypeId → Option TD
  | 3 => some ⟨false, 1, [.d .i (0 : Int)], []⟩
  | 4 => some ⟨false, 1, [.d .bool false], []⟩
  | 5 => some ⟨false, 1, [.d (.int .u8) (0 : Int)], []⟩
  | 9 => some ⟨false, 1, [.d .str []], []⟩
  | 21 => some ⟨false, 1, [.d (.int .i32) (0 : Int)], []⟩
  | 22 => some ⟨false, 1, [.nilsl], []⟩
  | 23 => some ⟨false, 1, [.nilsl], []⟩
  | 25 => some ⟨true, 2, [.nilsl, .nilsl], [0, 1]⟩
  | 26 => some ⟨false, 1, [.nilsl], []⟩
  | 27 => some ⟨false, 1, [.nilsl], []⟩
  | 30 => some ⟨false, 1, [.nilsl], []⟩
  | 36 => some ⟨false, 1, [.nilsl], []⟩
  | 38 => some ⟨false, 1, [.nilsl], []⟩
  | 44 => some ⟨false, 1, [.nilsl], []⟩
  | 51 => some ⟨true, 3, [.nilsl, .nilsl, .nilsl], [0, 1, 2]⟩
  | 55 => some ⟨true, 3, [.d .i (0 : Int), .nilsl, .nilsl], [0, 1, 2]⟩
  | 61 => some ⟨false, 1, [.nilsl], []⟩
  | 63 => some ⟨true, 2, [.d .i (0 : Int), .nilsl], [0, 1]⟩
  | 77 => some ⟨true, 2, [.nilsl, .nilsl], [0, 1]⟩
  | 81 => some ⟨false, 1, [.nilfn], []⟩
  | 88 => some ⟨true, 3, [.d .i (0 : Int), .d .str [], .d .i (0 : Int)], [0, 1, 2]⟩
  | 92 => some ⟨false, 1, [.nilfn], []⟩
  | 93 => some ⟨false, 1, [.top], []⟩
  | 95 => some ⟨true, 4, [.nilsl, .top, .d .i (0 : Int), .d .bool false], [0, 1, 2, 3]⟩
  | 96 => some ⟨false, 1, [.nilfn], []⟩
  | 101 => some ⟨false, 1, [.nilfn], []⟩
  | 102 => some ⟨false, 1, [.nilfn], []⟩
  | 105 => some ⟨false, 1, [.nilfn], []⟩
  | 106 => some ⟨false, 1, [.nilfn], []⟩
  | 111 => some ⟨false, 1, [.top], []⟩
  | 114 => some ⟨false, 1, [.nilfn], []⟩
  | 119 => some ⟨false, 1, [.nilfn], []⟩
  | 139 => some ⟨false, 1, [.nilsl], []⟩
  | 160 => some ⟨false, 1, [.nilfn], []⟩
  | 185 => some ⟨true, 2, [.d .i (0 : Int), .nilsl], [0, 1]⟩
  | 198 => some ⟨true, 4, [.nilsl, .nilsl, .nilsl, .nilsl], [0, 1, 2, 3]⟩
  | 216 => some ⟨true, 5, [.nilsl, .nilsl, .nilsl, .nilsl, .nilsl], [0, 1, 2, 3, 4]⟩
  | _ => none
theorem tdT_ok : ∀ t d, tdT t = some d → TdOk Tryz.prog t d := by
  intro t d h
  unfold tdT at h
  split at h
  all_goals first | (cases h; done) | skip
  · cases h; exact tdOk3
  · cases h; exact tdOk4
  · cases h; exact tdOk5
  · cases h; exact tdOk9
  · cases h; exact tdOk21
  · cases h; exact tdOk22
  · cases h; exact tdOk23
  · cases h; exact tdOk25
  · cases h; exact tdOk26
  · cases h; exact tdOk27
  · cases h; exact tdOk30
  · cases h; exact tdOk36
  · cases h; exact tdOk38
  · cases h; exact tdOk44
  · cases h; exact tdOk51
  · cases h; exact tdOk55
  · cases h; exact tdOk61
  · cases h; exact tdOk63
  · cases h; exact tdOk77
  · cases h; exact tdOk81
  · cases h; exact tdOk88
  · cases h; exact tdOk92
  · cases h; exact tdOk93
  · cases h; exact tdOk95
  · cases h; exact tdOk96
  · cases h; exact tdOk101
  · cases h; exact tdOk102
  · cases h; exact tdOk105
  · cases h; exact tdOk106
  · cases h; exact tdOk111
  · cases h; exact tdOk114
  · cases h; exact tdOk119
  · cases h; exact tdOk139
  · cases h; exact tdOk160
  · cases h; exact tdOk185
  · cases h; exact tdOk198
  · cases h; exact tdOk216

theorem elOk22 : ElOk Tryz.prog 22 36 .term where
  under := Tryz.underlying22
  info := ⟨Tryz.t36, .slice none 0 0, by kernel_rfl, by kernel_rfl, rfl, by decide, by decide, fun fz w => nil_sl⟩
theorem elOk23 : ElOk Tryz.prog 23 55 .rule where
  under := Tryz.underlying23
  info := ⟨Tryz.t55, .agg #[.int .i64 0, .slice none 0 0, .slice none 0 0], by kernel_rfl, by kernel_rfl, rfl, by decide, by decide, fun fz w => ⟨_, _, rfl, nil_rd, nil_rd⟩⟩
theorem elOk26 : ElOk Tryz.prog 26 4 .bool where
  under := Tryz.underlying26
  info := ⟨Tryz.t4, .bool false, by kernel_rfl, by kernel_rfl, rfl, by decide, by decide, fun fz w => rfl⟩
theorem elOk27 : ElOk Tryz.prog 27 5 (.int .u8) where
  under := Tryz.underlying27
  info := ⟨Tryz.t5, .int .u8 0, by kernel_rfl, by kernel_rfl, rfl, by decide, by decide, fun fz w => rfl⟩
theorem elOk30 : ElOk Tryz.prog 30 3 .i where
  under := Tryz.underlying30
  info := ⟨Tryz.t3, .int .i64 0, by kernel_rfl, by kernel_rfl, rfl, by decide, by decide, fun fz w => rfl⟩
theorem elOk36 : ElOk Tryz.prog 36 88 .cell where
  under := Tryz.underlying36
  info := ⟨Tryz.t88, .agg #[.int .i64 0, .string ⟨#[]⟩, .int .i64 0], by kernel_rfl, by kernel_rfl, rfl, by decide, by decide, fun fz w => rfl⟩
theorem elOk38 : ElOk Tryz.prog 38 30 .ints where
  under := Tryz.underlying38
  info := ⟨Tryz.t30, .slice none 0 0, by kernel_rfl, by kernel_rfl, rfl, by decide, by decide, fun fz w => nil_sl⟩
theorem elOk44 : ElOk Tryz.prog 44 51 .inst where
  under := Tryz.underlying44
  info := ⟨Tryz.t51, .agg #[.slice none 0 0, .slice none 0 0, .slice none 0 0], by kernel_rfl, by kernel_rfl, rfl, by decide, by decide, fun fz w => ⟨_, _, _, rfl, nil_rd, nil_rd, nil_rd⟩⟩
theorem elOk61 : ElOk Tryz.prog 61 77 .table where
  under := Tryz.underlying61
  info := ⟨Tryz.t77, .agg #[.slice none 0 0, .slice none 0 0], by kernel_rfl, by kernel_rfl, rfl, by decide, by decide, fun fz w => ⟨_, _, rfl, nil_rd, nil_rd⟩⟩
theorem elOk139 : ElOk Tryz.prog 139 185 .bind where
  under := Tryz.underlying139
  info := ⟨Tryz.t185, .agg #[.int .i64 0, .slice none 0 0], by kernel_rfl, by kernel_rfl, rfl, by decide, by decide, fun fz w => ⟨_, rfl, nil_rd⟩⟩
theorem elOk233 : ElOk Tryz.prog 233 21 (.int .i32) where
  under := Tryz.underlying233
  info := ⟨Tryz.t21, .int .i32 0, by kernel_rfl, by kernel_rfl, rfl, by decide, by decide, fun fz w => rfl⟩
def elT : TypeId → Option (TypeId × Ty)
  | 22 => some (36, .term)
  | 23 => some (55, .rule)
  | 26 => some (4, .bool)
  | 27 => some (5, (.int .u8))
  | 30 => some (3, .i)
  | 36 => some (88, .cell)
  | 38 => some (30, .ints)
  | 44 => some (51, .inst)
  | 61 => some (77, .table)
  | 139 => some (185, .bind)
  | 233 => some (21, (.int .i32))
  | _ => none
theorem elT_ok : ∀ t e τ, elT t = some (e, τ) → ElOk Tryz.prog t e τ := by
  intro t e τ h
  unfold elT at h
  split at h
  all_goals first | (cases h; done) | skip
  · cases h; exact elOk22
  · cases h; exact elOk23
  · cases h; exact elOk26
  · cases h; exact elOk27
  · cases h; exact elOk30
  · cases h; exact elOk36
  · cases h; exact elOk38
  · cases h; exact elOk44
  · cases h; exact elOk61
  · cases h; exact elOk139
  · cases h; exact elOk233

def ikT : TypeId → Option IntKind
  | 3 => some .i64
  | 5 => some .u8
  | 21 => some .i32
  | 166 => some .u64
  | _ => none
theorem ikT_ok : ∀ t k, ikT t = some k → Tryz.prog.underlying t = some (.int k) := by
  intro t k h
  unfold ikT at h
  split at h
  · cases h; exact Tryz.underlying3
  · cases h; exact Tryz.underlying5
  · cases h; exact Tryz.underlying21
  · cases h; exact Tryz.underlying166
  · cases h
def strT (t : TypeId) : Bool := t == 9
theorem strT_ok : ∀ t, strT t = true → Tryz.prog.underlying t = some .string := by
  intro t h
  have : t = 9 := by simpa [strT] using h
  subst this; exact Tryz.underlying9
def blT (t : TypeId) : Bool := t == 4
theorem blT_ok : ∀ t, blT t = true → Tryz.prog.underlying t = some .bool := by
  intro t h
  have : t = 4 := by simpa [blT] using h
  subst this; exact Tryz.underlying4
def cellT (t : TypeId) : Bool := t == 88
theorem cellT_ok : ∀ t, cellT t = true → ∀ a b : Cell, ∀ (w : World) (x y : Operand), (do eqGuard .eql t x y (.agg (cellVals a).toArray) (.agg (cellVals b).toArray); binOp .eql t (.agg (cellVals a).toArray) (.agg (cellVals b).toArray)).run Tryz.prog w = .ok (.bool (decide (a.kind = b.kind ∧ a.name = b.name ∧ a.n = b.n))) w ∧
    (do eqGuard .neq t x y (.agg (cellVals a).toArray) (.agg (cellVals b).toArray); binOp .neq t (.agg (cellVals a).toArray) (.agg (cellVals b).toArray)).run Tryz.prog w = .ok (.bool (!decide (a.kind = b.kind ∧ a.name = b.name ∧ a.n = b.n))) w := by
  intro t h a b w x y
  have : t = 88 := by simpa [cellT] using h
  subst this
  have hS : Tryz.prog.underlying 88 = some (.struct (Tryz.prog.fieldsOf 88)) := by kernel_rfl
  have hp : Tryz.prog.stoodInHeld 88 = false := by kernel_rfl
  have hg : Tryz.prog.eqGuardType Tryz.prog.depth 88 = false := by kernel_rfl
  have key : (Op.equalIn 10000 88 (.agg (cellVals a).toArray) (.agg (cellVals b).toArray)).run Tryz.prog w = .ok (decide (a.kind = b.kind ∧ a.name = b.name ∧ a.n = b.n)) w := by
    rw [show (10000 : Nat) = 9999 + 1 from rfl, run_equalIn_agg w 9999 88 _ _ hS hp]
    have u3 := Tryz.underlying3
    have u9 := Tryz.underlying9
    have a3 := Tryz.isAgg3
    have a9 := Tryz.isAgg9
    simp only [Program.fieldsOf, Tryz.underlying88]
    by_cases h1 : a.kind = b.kind <;> by_cases h2 : a.name = b.name <;> by_cases h3 : a.n = b.n <;>
      simp [Op.eqFields, part, cellVals, a3, a9, run_equalIn_int _ _ _ _ _ _ _ u3, run_equalIn_string _ _ _ _ _ u9, h1, h2, h3]
  constructor
  · simp only [Sem.run_bind, run_eqGuard_agg w .eql 88 x y _ _ hg, Result.andThen_ok, run_eql_struct, key]
  · simp only [Sem.run_bind, run_eqGuard_agg w .neq 88 x y _ _ hg, Result.andThen_ok, run_neq_struct, key]
def fnT0 : FuncId → Bool
  | 3 => true
  | 4 => true
  | 5 => true
  | 6 => true
  | 7 => true
  | 8 => true
  | 9 => true
  | 10 => true
  | 11 => true
  | 12 => true
  | 13 => true
  | 14 => true
  | 15 => true
  | 16 => true
  | 17 => true
  | 18 => true
  | 19 => true
  | 20 => true
  | 21 => true
  | 22 => true
  | 23 => true
  | 24 => true
  | 25 => true
  | 26 => true
  | _ => false
theorem fnT0_ok : ∀ f, fnT0 f = true → ∀ (args : Array Value) (w : World), (callFunc f args).run Tryz.prog w = .ok (.enter f args) w := by
  intro f h
  unfold fnT0 at h
  split at h
  all_goals first | (cases h; done) | skip
  · exact fun args w => Tryz.call3 args w
  · exact fun args w => Tryz.call4 args w
  · exact fun args w => Tryz.call5 args w
  · exact fun args w => Tryz.call6 args w
  · exact fun args w => Tryz.call7 args w
  · exact fun args w => Tryz.call8 args w
  · exact fun args w => Tryz.call9 args w
  · exact fun args w => Tryz.call10 args w
  · exact fun args w => Tryz.call11 args w
  · exact fun args w => Tryz.call12 args w
  · exact fun args w => Tryz.call13 args w
  · exact fun args w => Tryz.call14 args w
  · exact fun args w => Tryz.call15 args w
  · exact fun args w => Tryz.call16 args w
  · exact fun args w => Tryz.call17 args w
  · exact fun args w => Tryz.call18 args w
  · exact fun args w => Tryz.call19 args w
  · exact fun args w => Tryz.call20 args w
  · exact fun args w => Tryz.call21 args w
  · exact fun args w => Tryz.call22 args w
  · exact fun args w => Tryz.call23 args w
  · exact fun args w => Tryz.call24 args w
  · exact fun args w => Tryz.call25 args w
  · exact fun args w => Tryz.call26 args w
def fnT1 : FuncId → Bool
  | 27 => true
  | 28 => true
  | 29 => true
  | 30 => true
  | 31 => true
  | 32 => true
  | 33 => true
  | 34 => true
  | 35 => true
  | 36 => true
  | 37 => true
  | 38 => true
  | 39 => true
  | 40 => true
  | 41 => true
  | 42 => true
  | 43 => true
  | 44 => true
  | 45 => true
  | 46 => true
  | 47 => true
  | 48 => true
  | 49 => true
  | 50 => true
  | _ => false
theorem fnT1_ok : ∀ f, fnT1 f = true → ∀ (args : Array Value) (w : World), (callFunc f args).run Tryz.prog w = .ok (.enter f args) w := by
  intro f h
  unfold fnT1 at h
  split at h
  all_goals first | (cases h; done) | skip
  · exact fun args w => Tryz.call27 args w
  · exact fun args w => Tryz.call28 args w
  · exact fun args w => Tryz.call29 args w
  · exact fun args w => Tryz.call30 args w
  · exact fun args w => Tryz.call31 args w
  · exact fun args w => Tryz.call32 args w
  · exact fun args w => Tryz.call33 args w
  · exact fun args w => Tryz.call34 args w
  · exact fun args w => Tryz.call35 args w
  · exact fun args w => Tryz.call36 args w
  · exact fun args w => Tryz.call37 args w
  · exact fun args w => Tryz.call38 args w
  · exact fun args w => Tryz.call39 args w
  · exact fun args w => Tryz.call40 args w
  · exact fun args w => Tryz.call41 args w
  · exact fun args w => Tryz.call42 args w
  · exact fun args w => Tryz.call43 args w
  · exact fun args w => Tryz.call44 args w
  · exact fun args w => Tryz.call45 args w
  · exact fun args w => Tryz.call46 args w
  · exact fun args w => Tryz.call47 args w
  · exact fun args w => Tryz.call48 args w
  · exact fun args w => Tryz.call49 args w
  · exact fun args w => Tryz.call50 args w
def fnT2 : FuncId → Bool
  | 51 => true
  | 52 => true
  | 53 => true
  | 54 => true
  | 55 => true
  | 56 => true
  | 57 => true
  | 58 => true
  | 59 => true
  | 60 => true
  | 61 => true
  | 62 => true
  | 63 => true
  | 64 => true
  | 65 => true
  | 66 => true
  | 67 => true
  | 68 => true
  | 69 => true
  | 70 => true
  | 71 => true
  | 72 => true
  | 73 => true
  | 74 => true
  | _ => false
theorem fnT2_ok : ∀ f, fnT2 f = true → ∀ (args : Array Value) (w : World), (callFunc f args).run Tryz.prog w = .ok (.enter f args) w := by
  intro f h
  unfold fnT2 at h
  split at h
  all_goals first | (cases h; done) | skip
  · exact fun args w => Tryz.call51 args w
  · exact fun args w => Tryz.call52 args w
  · exact fun args w => Tryz.call53 args w
  · exact fun args w => Tryz.call54 args w
  · exact fun args w => Tryz.call55 args w
  · exact fun args w => Tryz.call56 args w
  · exact fun args w => Tryz.call57 args w
  · exact fun args w => Tryz.call58 args w
  · exact fun args w => Tryz.call59 args w
  · exact fun args w => Tryz.call60 args w
  · exact fun args w => Tryz.call61 args w
  · exact fun args w => Tryz.call62 args w
  · exact fun args w => Tryz.call63 args w
  · exact fun args w => Tryz.call64 args w
  · exact fun args w => Tryz.call65 args w
  · exact fun args w => Tryz.call66 args w
  · exact fun args w => Tryz.call67 args w
  · exact fun args w => Tryz.call68 args w
  · exact fun args w => Tryz.call69 args w
  · exact fun args w => Tryz.call70 args w
  · exact fun args w => Tryz.call71 args w
  · exact fun args w => Tryz.call72 args w
  · exact fun args w => Tryz.call73 args w
  · exact fun args w => Tryz.call74 args w
def fnT3 : FuncId → Bool
  | 75 => true
  | 76 => true
  | 77 => true
  | 78 => true
  | 79 => true
  | 80 => true
  | 81 => true
  | 82 => true
  | 83 => true
  | 84 => true
  | 85 => true
  | 86 => true
  | 87 => true
  | 88 => true
  | 89 => true
  | 90 => true
  | 91 => true
  | 92 => true
  | 93 => true
  | 94 => true
  | 95 => true
  | 96 => true
  | 97 => true
  | 98 => true
  | _ => false
theorem fnT3_ok : ∀ f, fnT3 f = true → ∀ (args : Array Value) (w : World), (callFunc f args).run Tryz.prog w = .ok (.enter f args) w := by
  intro f h
  unfold fnT3 at h
  split at h
  all_goals first | (cases h; done) | skip
  · exact fun args w => Tryz.call75 args w
  · exact fun args w => Tryz.call76 args w
  · exact fun args w => Tryz.call77 args w
  · exact fun args w => Tryz.call78 args w
  · exact fun args w => Tryz.call79 args w
  · exact fun args w => Tryz.call80 args w
  · exact fun args w => Tryz.call81 args w
  · exact fun args w => Tryz.call82 args w
  · exact fun args w => Tryz.call83 args w
  · exact fun args w => Tryz.call84 args w
  · exact fun args w => Tryz.call85 args w
  · exact fun args w => Tryz.call86 args w
  · exact fun args w => Tryz.call87 args w
  · exact fun args w => Tryz.call88 args w
  · exact fun args w => Tryz.call89 args w
  · exact fun args w => Tryz.call90 args w
  · exact fun args w => Tryz.call91 args w
  · exact fun args w => Tryz.call92 args w
  · exact fun args w => Tryz.call93 args w
  · exact fun args w => Tryz.call94 args w
  · exact fun args w => Tryz.call95 args w
  · exact fun args w => Tryz.call96 args w
  · exact fun args w => Tryz.call97 args w
  · exact fun args w => Tryz.call98 args w
def fnT4 : FuncId → Bool
  | 99 => true
  | 100 => true
  | 101 => true
  | 102 => true
  | 103 => true
  | 104 => true
  | 105 => true
  | 106 => true
  | 107 => true
  | 108 => true
  | 109 => true
  | 110 => true
  | 111 => true
  | 112 => true
  | 113 => true
  | 114 => true
  | 115 => true
  | 116 => true
  | 117 => true
  | 118 => true
  | 119 => true
  | 120 => true
  | 121 => true
  | 122 => true
  | _ => false
theorem fnT4_ok : ∀ f, fnT4 f = true → ∀ (args : Array Value) (w : World), (callFunc f args).run Tryz.prog w = .ok (.enter f args) w := by
  intro f h
  unfold fnT4 at h
  split at h
  all_goals first | (cases h; done) | skip
  · exact fun args w => Tryz.call99 args w
  · exact fun args w => Tryz.call100 args w
  · exact fun args w => Tryz.call101 args w
  · exact fun args w => Tryz.call102 args w
  · exact fun args w => Tryz.call103 args w
  · exact fun args w => Tryz.call104 args w
  · exact fun args w => Tryz.call105 args w
  · exact fun args w => Tryz.call106 args w
  · exact fun args w => Tryz.call107 args w
  · exact fun args w => Tryz.call108 args w
  · exact fun args w => Tryz.call109 args w
  · exact fun args w => Tryz.call110 args w
  · exact fun args w => Tryz.call111 args w
  · exact fun args w => Tryz.call112 args w
  · exact fun args w => Tryz.call113 args w
  · exact fun args w => Tryz.call114 args w
  · exact fun args w => Tryz.call115 args w
  · exact fun args w => Tryz.call116 args w
  · exact fun args w => Tryz.call117 args w
  · exact fun args w => Tryz.call118 args w
  · exact fun args w => Tryz.call119 args w
  · exact fun args w => Tryz.call120 args w
  · exact fun args w => Tryz.call121 args w
  · exact fun args w => Tryz.call122 args w
def fnT5 : FuncId → Bool
  | 123 => true
  | 124 => true
  | 125 => true
  | 126 => true
  | 127 => true
  | 128 => true
  | 129 => true
  | 130 => true
  | 131 => true
  | 132 => true
  | 133 => true
  | 134 => true
  | 135 => true
  | 136 => true
  | 137 => true
  | 138 => true
  | 139 => true
  | 140 => true
  | 141 => true
  | 142 => true
  | 143 => true
  | 144 => true
  | 145 => true
  | 146 => true
  | _ => false
theorem fnT5_ok : ∀ f, fnT5 f = true → ∀ (args : Array Value) (w : World), (callFunc f args).run Tryz.prog w = .ok (.enter f args) w := by
  intro f h
  unfold fnT5 at h
  split at h
  all_goals first | (cases h; done) | skip
  · exact fun args w => Tryz.call123 args w
  · exact fun args w => Tryz.call124 args w
  · exact fun args w => Tryz.call125 args w
  · exact fun args w => Tryz.call126 args w
  · exact fun args w => Tryz.call127 args w
  · exact fun args w => Tryz.call128 args w
  · exact fun args w => Tryz.call129 args w
  · exact fun args w => Tryz.call130 args w
  · exact fun args w => Tryz.call131 args w
  · exact fun args w => Tryz.call132 args w
  · exact fun args w => Tryz.call133 args w
  · exact fun args w => Tryz.call134 args w
  · exact fun args w => Tryz.call135 args w
  · exact fun args w => Tryz.call136 args w
  · exact fun args w => Tryz.call137 args w
  · exact fun args w => Tryz.call138 args w
  · exact fun args w => Tryz.call139 args w
  · exact fun args w => Tryz.call140 args w
  · exact fun args w => Tryz.call141 args w
  · exact fun args w => Tryz.call142 args w
  · exact fun args w => Tryz.call143 args w
  · exact fun args w => Tryz.call144 args w
  · exact fun args w => Tryz.call145 args w
  · exact fun args w => Tryz.call146 args w
def fnT6 : FuncId → Bool
  | 147 => true
  | 148 => true
  | 149 => true
  | 150 => true
  | 151 => true
  | 152 => true
  | 153 => true
  | 154 => true
  | 155 => true
  | 156 => true
  | 157 => true
  | 158 => true
  | 159 => true
  | 160 => true
  | 161 => true
  | 162 => true
  | 163 => true
  | 164 => true
  | 165 => true
  | 166 => true
  | 167 => true
  | 168 => true
  | 169 => true
  | 170 => true
  | _ => false
theorem fnT6_ok : ∀ f, fnT6 f = true → ∀ (args : Array Value) (w : World), (callFunc f args).run Tryz.prog w = .ok (.enter f args) w := by
  intro f h
  unfold fnT6 at h
  split at h
  all_goals first | (cases h; done) | skip
  · exact fun args w => Tryz.call147 args w
  · exact fun args w => Tryz.call148 args w
  · exact fun args w => Tryz.call149 args w
  · exact fun args w => Tryz.call150 args w
  · exact fun args w => Tryz.call151 args w
  · exact fun args w => Tryz.call152 args w
  · exact fun args w => Tryz.call153 args w
  · exact fun args w => Tryz.call154 args w
  · exact fun args w => Tryz.call155 args w
  · exact fun args w => Tryz.call156 args w
  · exact fun args w => Tryz.call157 args w
  · exact fun args w => Tryz.call158 args w
  · exact fun args w => Tryz.call159 args w
  · exact fun args w => Tryz.call160 args w
  · exact fun args w => Tryz.call161 args w
  · exact fun args w => Tryz.call162 args w
  · exact fun args w => Tryz.call163 args w
  · exact fun args w => Tryz.call164 args w
  · exact fun args w => Tryz.call165 args w
  · exact fun args w => Tryz.call166 args w
  · exact fun args w => Tryz.call167 args w
  · exact fun args w => Tryz.call168 args w
  · exact fun args w => Tryz.call169 args w
  · exact fun args w => Tryz.call170 args w
def fnT7 : FuncId → Bool
  | 171 => true
  | 172 => true
  | 173 => true
  | 174 => true
  | 175 => true
  | 176 => true
  | 177 => true
  | 178 => true
  | 179 => true
  | 180 => true
  | 181 => true
  | 182 => true
  | 183 => true
  | 184 => true
  | 185 => true
  | 186 => true
  | 187 => true
  | 188 => true
  | 189 => true
  | 190 => true
  | 191 => true
  | 192 => true
  | 193 => true
  | 194 => true
  | _ => false
theorem fnT7_ok : ∀ f, fnT7 f = true → ∀ (args : Array Value) (w : World), (callFunc f args).run Tryz.prog w = .ok (.enter f args) w := by
  intro f h
  unfold fnT7 at h
  split at h
  all_goals first | (cases h; done) | skip
  · exact fun args w => Tryz.call171 args w
  · exact fun args w => Tryz.call172 args w
  · exact fun args w => Tryz.call173 args w
  · exact fun args w => Tryz.call174 args w
  · exact fun args w => Tryz.call175 args w
  · exact fun args w => Tryz.call176 args w
  · exact fun args w => Tryz.call177 args w
  · exact fun args w => Tryz.call178 args w
  · exact fun args w => Tryz.call179 args w
  · exact fun args w => Tryz.call180 args w
  · exact fun args w => Tryz.call181 args w
  · exact fun args w => Tryz.call182 args w
  · exact fun args w => Tryz.call183 args w
  · exact fun args w => Tryz.call184 args w
  · exact fun args w => Tryz.call185 args w
  · exact fun args w => Tryz.call186 args w
  · exact fun args w => Tryz.call187 args w
  · exact fun args w => Tryz.call188 args w
  · exact fun args w => Tryz.call189 args w
  · exact fun args w => Tryz.call190 args w
  · exact fun args w => Tryz.call191 args w
  · exact fun args w => Tryz.call192 args w
  · exact fun args w => Tryz.call193 args w
  · exact fun args w => Tryz.call194 args w
def fnT8 : FuncId → Bool
  | 195 => true
  | 196 => true
  | 197 => true
  | 198 => true
  | 199 => true
  | 200 => true
  | 201 => true
  | 202 => true
  | 203 => true
  | 204 => true
  | 205 => true
  | 206 => true
  | 207 => true
  | 208 => true
  | 209 => true
  | 210 => true
  | 211 => true
  | 212 => true
  | 213 => true
  | 214 => true
  | 215 => true
  | 216 => true
  | 228 => true
  | 229 => true
  | _ => false
theorem fnT8_ok : ∀ f, fnT8 f = true → ∀ (args : Array Value) (w : World), (callFunc f args).run Tryz.prog w = .ok (.enter f args) w := by
  intro f h
  unfold fnT8 at h
  split at h
  all_goals first | (cases h; done) | skip
  · exact fun args w => Tryz.call195 args w
  · exact fun args w => Tryz.call196 args w
  · exact fun args w => Tryz.call197 args w
  · exact fun args w => Tryz.call198 args w
  · exact fun args w => Tryz.call199 args w
  · exact fun args w => Tryz.call200 args w
  · exact fun args w => Tryz.call201 args w
  · exact fun args w => Tryz.call202 args w
  · exact fun args w => Tryz.call203 args w
  · exact fun args w => Tryz.call204 args w
  · exact fun args w => Tryz.call205 args w
  · exact fun args w => Tryz.call206 args w
  · exact fun args w => Tryz.call207 args w
  · exact fun args w => Tryz.call208 args w
  · exact fun args w => Tryz.call209 args w
  · exact fun args w => Tryz.call210 args w
  · exact fun args w => Tryz.call211 args w
  · exact fun args w => Tryz.call212 args w
  · exact fun args w => Tryz.call213 args w
  · exact fun args w => Tryz.call214 args w
  · exact fun args w => Tryz.call215 args w
  · exact fun args w => Tryz.call216 args w
  · exact fun args w => Tryz.call228 args w
  · exact fun args w => Tryz.call229 args w
def fnT9 : FuncId → Bool
  | 230 => true
  | 231 => true
  | 239 => true
  | 240 => true
  | 258 => true
  | 264 => true
  | 279 => true
  | _ => false
theorem fnT9_ok : ∀ f, fnT9 f = true → ∀ (args : Array Value) (w : World), (callFunc f args).run Tryz.prog w = .ok (.enter f args) w := by
  intro f h
  unfold fnT9 at h
  split at h
  all_goals first | (cases h; done) | skip
  · exact fun args w => Tryz.call230 args w
  · exact fun args w => Tryz.call231 args w
  · exact fun args w => Tryz.call239 args w
  · exact fun args w => Tryz.call240 args w
  · exact fun args w => Tryz.call258 args w
  · exact fun args w => Tryz.call264 args w
  · exact fun args w => Tryz.call279 args w
def fnT (f : FuncId) : Bool := fnT0 f || fnT1 f || fnT2 f || fnT3 f || fnT4 f || fnT5 f || fnT6 f || fnT7 f || fnT8 f || fnT9 f
theorem fnT_ok : ∀ f, fnT f = true → ∀ (args : Array Value) (w : World), (callFunc f args).run Tryz.prog w = .ok (.enter f args) w := by
  intro f h
  simp only [fnT, Bool.or_eq_true] at h
  rcases h with (((((((((h | h) | h) | h) | h) | h) | h) | h) | h) | h)
  · exact fnT0_ok f h
  · exact fnT1_ok f h
  · exact fnT2_ok f h
  · exact fnT3_ok f h
  · exact fnT4_ok f h
  · exact fnT5_ok f h
  · exact fnT6_ok f h
  · exact fnT7_ok f h
  · exact fnT8_ok f h
  · exact fnT9_ok f h

def E : TEnv Tryz.prog where
  td := tdT
  tdok := tdT_ok
  el := elT
  elok := elT_ok
  ik := ikT
  ikok := ikT_ok
  bl := blT
  blok := blT_ok
  str := strT
  strok := strT_ok
  cell := cellT
  cellok := cellT_ok
  fnb := fnT
  fnok := fnT_ok
end Go.Proofs.YtgapiecbinplfaaGreat
/- What a walk unfolds. -/
namespace Go.Proofs.YtgapiecbinplfaaGreat
open Go.RowKit

attribute [simp] inB inC inM inR inS op1x cvOp evK evD runOps runPure stepP purish mkF opTmps tmpsOf Op.operands guardA put1 opKind op1 valOp stOp callOp callArgs look del evA evL evP cAV binA intCmpB intArB froz boundA tdT elT ikT strT blT cellT fnT fnT0 fnT1 fnT2 fnT3 fnT4 fnT5 fnT6 fnT7 fnT8 fnT9 keepF E frame0 thenA blockA avOf Ty.agg Ty.size scop scopL Box.scop Box.live Box.isO ofAV ofCells elems AV.cs frozA snapF snapH snap snapL Box.snap storeC AV.one setRange putCells putH renL ren Box.ren DV.av Ty.cells guardTmp Ty.dflt cutL

/-- A number of a row. -/
def gi (l : List Int) (i : Int) : Int := l.getD i.toNat 0
@[simp] theorem at0_int (k : IntKind) (l : List Int) (i : Int) : (at0 (Ty.int k) l i : Int) = gi l i := rfl
theorem gi_lt {l : List Int} {i : Nat} (h : i < l.length) : gi l (i : Int) = l[i] := by simp [gi, h]

/-- A cell, a term, a rule, an instance of a row. -/
def gc (l : List Cell) (i : Int) : Cell := l.getD i.toNat ⟨0, [], 0⟩
def gt (l : List Term) (i : Int) : Term := l.getD i.toNat []
def gr (l : List Rule) (i : Int) : Rule := l.getD i.toNat ⟨0, [], []⟩
def gin (l : List Inst) (i : Int) : Inst := l.getD i.toNat ⟨[], [], []⟩
@[simp] theorem at0_cell (l : List Cell) (i : Int) : (at0 Ty.cell l i : Cell) = gc l i := rfl
@[simp] theorem at0_term (l : List Term) (i : Int) : (at0 (Ty.sl Ty.cell) l i : Term) = gt l i := rfl
@[simp] theorem at0_rule (l : List Rule) (i : Int) : (at0 Ty.rule l i : Rule) = gr l i := rfl
@[simp] theorem at0_inst (l : List Inst) (i : Int) : (at0 Ty.inst l i : Inst) = gin l i := rfl
theorem gc_lt {l : List Cell} {i : Nat} (h : i < l.length) : gc l (i : Int) = l[i] := by simp [gc, h]
theorem gt_lt {l : List Term} {i : Nat} (h : i < l.length) : gt l (i : Int) = l[i] := by simp [gt, h]
theorem gr_lt {l : List Rule} {i : Nat} (h : i < l.length) : gr l (i : Int) = l[i] := by simp [gr, h]
theorem gin_lt {l : List Inst} {i : Nat} (h : i < l.length) : gin l (i : Int) = l[i] := by simp [gin, h]

/-- A program as a value. -/
def pav (g : Prg) : AV := .agg [.d .terms g.atoms, .d (.sl .rule) g.rules]
attribute [simp] pav

@[simp] theorem range_1 : List.range 1 = [0] := rfl
@[simp] theorem range_2 : List.range 2 = [0, 1] := rfl
@[simp] theorem range_3 : List.range 3 = [0, 1, 2] := rfl
@[simp] theorem range_4 : List.range 4 = [0, 1, 2, 3] := rfl
@[simp] theorem range_5 : List.range 5 = [0, 1, 2, 3, 4] := rfl
@[simp] theorem range_6 : List.range 6 = [0, 1, 2, 3, 4, 5] := rfl
@[simp] theorem range_7 : List.range 7 = [0, 1, 2, 3, 4, 5, 6] := rfl
@[simp] theorem range_8 : List.range 8 = [0, 1, 2, 3, 4, 5, 6, 7] := rfl

end Go.Proofs.YtgapiecbinplfaaGreat
/- What the functions compute: plain definitions. -/
namespace Go.Proofs.YtgapiecbinplfaaGreat
open Go.RowKit

def rRow : List Int → List Int → Int
  | x :: xs, y :: ys => if x = y then rRow xs ys else IntKind.i64.wrap (x - y)
  | xs, ys => IntKind.i64.wrap ((xs.length : Int) - ys.length)

theorem rRow_end : ∀ {xs ys : List Int}, xs.length = 0 ∨ ys.length = 0 → rRow xs ys = IntKind.i64.wrap ((xs.length : Int) - ys.length)
  | [], _, _ => by simp [rRow]
  | _ :: _, [], _ => by simp [rRow]
  | _ :: _, _ :: _, h => by simp at h

instance : DecidableEq Cell := fun a b =>
  if h : a.kind = b.kind ∧ a.name = b.name ∧ a.n = b.n then isTrue (by cases a; cases b; simp at h; obtain ⟨rfl, rfl, rfl⟩ := h; rfl) else isFalse (by rintro rfl; simp at h)
theorem cell_ext {a b : Cell} : (a.kind = b.kind ∧ a.name = b.name ∧ a.n = b.n) ↔ a = b := by
  constructor
  · intro h; cases a; cases b; simp at h; obtain ⟨rfl, rfl, rfl⟩ := h; rfl
  · rintro rfl; simp

/-- All that stand ahead of the end. -/
theorem take_ne {α : Type} {a b : List α} {i : Nat} (ha : i < a.length) (hb : i < b.length) (h : a.take i = b.take i) (hx : a[i] = b[i]) : a.take (i + 1) = b.take (i + 1) := by
  rw [List.take_succ_eq_append_getElem ha, List.take_succ_eq_append_getElem hb, h, hx]
theorem take_end {α : Type} {a b : List α} {i : Nat} (hl : a.length = b.length) (hi : ¬ i < a.length) (h : a.take i = b.take i) : a = b := by
  rw [List.take_of_length_le (by omega), List.take_of_length_le (by omega)] at h; exact h

def cmpI (x y : Int) : Int := if x < y then -1 else if y < x then 1 else 0

def rOrder (a b : Rule) : Int := if a.head ≠ b.head then IntKind.i64.wrap (a.head - b.head) else if rRow a.pos b.pos ≠ 0 then rRow a.pos b.pos else rRow a.neg b.neg

/-- Numbers from 0 to one, rising. -/
def SetOk (l : List Int) (n : Int) (k : Nat) : Prop := ∀ i : Nat, i < k → 0 ≤ gi l i ∧ gi l i < n ∧ (0 < i → gi l ((i : Int) - 1) < gi l i)
instance (l : List Int) (n : Int) (k : Nat) : Decidable (SetOk l n k) := by unfold SetOk; infer_instance
def setOk (l : List Int) (n : Int) : Bool := decide (SetOk l n l.length)

def okB (b : UInt8) : Bool := decide (32 ≤ b.toNat ∧ b.toNat ≤ 126 ∧ b.toNat ≠ 39)
def nameOk (s : List UInt8) : Bool := decide (1 ≤ s.length ∧ s.length ≤ 12) && s.all okB
def cellOk (c : Cell) : Bool :=
  if c.kind = 1 then decide (c.name = [] ∧ 0 ≤ c.n ∧ c.n ≤ 999)
  else if c.kind = 2 then decide (c.name = [] ∧ -2147483647 ≤ c.n ∧ c.n ≤ 2147483647)
  else if c.kind = 3 then nameOk c.name && decide (0 ≤ c.n ∧ c.n ≤ 6)
  else false
def openOf (c : Cell) (o : Int) : Int := o - 1 + (if c.kind = 3 then c.n else 0)
def endR : List Cell → Int → Nat → Int
  | [], _, _ => -1
  | c :: cs, o, k => if cellOk c = false then -1 else if openOf c o = 0 then (k : Int) + 1 else endR cs (openOf c o) (k + 1)
def rightT (t : List Cell) : Bool := decide (1 ≤ t.length ∧ t.length ≤ 200) && decide (endR t 1 0 = t.length)
def atomT (t : List Cell) : Bool := rightT t && decide ((gc t 0).kind = 3)
def varsStep (l : List Int) (c : Cell) : List Int := if c.kind = 1 ∧ ¬ c.n ∈ l then l ++ [c.n] else l
def varsT (t : List Cell) : List Int := t.foldl varsStep []
def groundT (t : List Cell) : Bool := decide ((varsT t).length = 0)

def cellLess (x y : Cell) : Bool := decide (x.kind < y.kind) || (decide (x.kind = y.kind) && (decide (x.n < y.n) || (decide (x.n = y.n) && Op.bytesLess x.name y.name)))
/-- An order of terms: the first cell that differs. -/
def cmpT : List Cell → List Cell → Int
  | x :: xs, y :: ys => if x = y then cmpT xs ys else if cellLess x y = true then -1 else 1
  | _, _ => 0
theorem cmpT_end : ∀ {xs ys : List Cell}, xs.length = 0 ∨ ys.length = 0 → cmpT xs ys = 0
  | [], _, _ => by simp [cmpT]
  | _ :: _, [], _ => by simp [cmpT]
  | _ :: _, _ :: _, h => by simp at h

/-- Names are no longer than any row. -/
def NmOk (t : List Cell) : Prop := ∀ c ∈ t, c.name.length ≤ 9223372036854775807

theorem cellOk_n {c : Cell} (h : cellOk c = true) (hk : c.kind = 3) : 0 ≤ c.n ∧ c.n ≤ 6 := by
  simp [cellOk, hk] at h; exact h.2
theorem rightT_len {t : List Cell} (h : rightT t = true) : 0 < t.length ∧ t.length ≤ 200 := by
  simp [rightT] at h; omega

theorem atomT_len {t : List Cell} (h : atomT t = true) : 0 < t.length ∧ t.length ≤ 200 := by
  simp [atomT] at h; exact rightT_len h.1
theorem vars_len (t : List Cell) (l : List Int) : (t.foldl varsStep l).length ≤ l.length + t.length := by
  induction t generalizing l with
  | nil => simp
  | cons c t ih =>
    simp only [List.foldl_cons, List.length_cons]
    refine Nat.le_trans (ih _) ?_
    unfold varsStep; split <;> simp <;> omega
theorem varsT_len (t : List Cell) : (varsT t).length ≤ t.length := by
  have := vars_len t []; simpa [varsT] using this
theorem varsT_step {t : List Cell} {i : Nat} (h : i < t.length) : varsT (t.take (i + 1)) = varsStep (varsT (t.take i)) (gc t i) := by
  rw [List.take_succ_eq_append_getElem h, varsT, List.foldl_append, gc_lt h]; rfl

/-- Is a program no greater than the statements look at? -/
def SmallP (g : Prg) : Prop := g.atoms.length ≤ 80 ∧ g.rules.length ≤ 200 ∧ (∀ i : Nat, i < g.atoms.length → (gt g.atoms i).length ≤ 200) ∧ ∀ i : Nat, i < g.rules.length → (gr g.rules i).pos.length ≤ 80 ∧ (gr g.rules i).neg.length ≤ 80
instance (g : Prg) : Decidable (SmallP g) := by unfold SmallP; infer_instance
def greatP (g : Prg) : Bool := !decide (SmallP g)

def AtomsOk (l : List Term) (k : Nat) : Prop := ∀ i : Nat, i < k → atomT (gt l i) = true ∧ groundT (gt l i) = true ∧ (0 < i → cmpT (gt l ((i : Int) - 1)) (gt l i) < 0)
instance (l : List Term) (k : Nat) : Decidable (AtomsOk l k) := by unfold AtomsOk; infer_instance
def RulesOk (l : List Rule) (n : Int) (k : Nat) : Prop := ∀ i : Nat, i < k → 0 ≤ (gr l i).head ∧ (gr l i).head < n ∧ setOk (gr l i).pos n = true ∧ setOk (gr l i).neg n = true ∧ (0 < i → rOrder (gr l ((i : Int) - 1)) (gr l i) < 0)
instance (l : List Rule) (n : Int) (k : Nat) : Decidable (RulesOk l n k) := by unfold RulesOk; infer_instance
/-- Is a program right? -/
def rightP (g : Prg) : Bool := decide (AtomsOk g.atoms g.atoms.length) && decide (RulesOk g.rules g.atoms.length g.rules.length)

/-- The rules of an atom. -/
def ofR (l : List Rule) (n : Int) (k : Nat) : List Int := ((List.range k).filter fun i : Nat => decide ((gr l (i : Int)).head = n)).map fun i : Nat => (i : Int)
theorem ofR_step (l : List Rule) (n : Int) (k : Nat) : ofR l n (k + 1) = ofR l n k ++ (if (gr l (k : Int)).head = n then [(k : Int)] else []) := by
  unfold ofR
  rw [List.range_succ, List.filter_append, List.map_append]
  congr 1
  by_cases h : (gr l (k : Int)).head = n <;> simp [h]
theorem ofR_len (l : List Rule) (n : Int) (k : Nat) : (ofR l n k).length ≤ k := by
  unfold ofR; rw [List.length_map]; exact Nat.le_trans (List.length_filter_le _ _) (by simp)

end Go.Proofs.YtgapiecbinplfaaGreat
