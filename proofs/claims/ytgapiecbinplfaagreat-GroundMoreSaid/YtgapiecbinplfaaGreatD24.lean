/- Own framework, walks and plain laws behind the laws of this seat, part D24: lemmas, no statement of the seat. -/
import Derived.Test.YtgapiecbinplfaaGreatD23
set_option linter.all false
/- No rule of an atom that a cut has is left out, nor any literal; more instances have all of fewer. -/
namespace Go.Proofs.YtgapiecbinplfaaGreat
open Go.RowKit

theorem ofR_filter (l : List Rule) (n : Int) : ∀ k, k ≤ l.length → (ofR l n k).map (gr l) = (l.take k).filter fun r : Rule => decide (r.head = n)
  | 0, _ => by simp [ofR]
  | k + 1, h => by
    rw [ofR_step, List.map_append, ofR_filter l n k (by omega), List.take_succ_eq_append_getElem (by omega), List.filter_append, gr_lt (by omega)]
    congr 1
    by_cases c : l[k].head = n
    · simp [c, gr_lt (show k < l.length by omega)]
    · simp [c]
theorem ofR_all (l : List Rule) (n : Int) : (ofR l n l.length).map (gr l) = l.filter fun r : Rule => decide (r.head = n) := by
  rw [ofR_filter l n _ (Nat.le_refl _), List.take_length]
theorem cut_rules {g : Prg} (hr : RightP g) {q : Int} (hq : InP g q) {i : Nat} (hi : i < (leadsR g q).length) :
    ((cutR g q).rules.filter fun r : Rule => decide (r.head = (i : Int))) = (g.rules.filter fun r : Rule => decide (r.head = gi (leadsR g q) i)).map (anewRule (leadsR g q)) := by
  have h := shut_leads hr hq
  have hm : gi (leadsR g q) i ∈ leadsR g q := by rw [gi_lt hi]; exact List.getElem_mem _
  have hp : placeI (leadsR g q) (gi (leadsR g q) i) = i := by rw [gi_lt hi]; exact place_at h.ris hi
  rw [cutR_in hq]
  simp only [onlyR]
  rw [List.filter_map, List.filter_filter]
  congr 1
  refine List.filter_congr fun r _ => ?_
  rw [Bool.eq_iff_iff]
  simp only [Function.comp_apply, Bool.and_eq_true, decide_eq_true_eq]
  simp only [anewRule]
  constructor
  · rintro ⟨e, hh⟩
    exact place_inj h.ris hh hm (by rw [e, hp])
  · intro e
    rw [e]; exact ⟨hp, hm⟩
theorem cut_of {g : Prg} (hr : RightP g) {q : Int} (hq : InP g q) {i : Nat} (hi : i < (leadsR g q).length) :
    (ofR (cutR g q).rules i (cutR g q).rules.length).map (gr (cutR g q).rules) = ((ofR g.rules (gi (leadsR g q) i) g.rules.length).map (gr g.rules)).map (anewRule (leadsR g q)) := by
  rw [ofR_all, ofR_all, cut_rules hr hq hi]
theorem cut_of_len {g : Prg} (hr : RightP g) {q : Int} (hq : InP g q) {i : Nat} (hi : i < (leadsR g q).length) :
    (ofR (cutR g q).rules i (cutR g q).rules.length).length = (ofR g.rules (gi (leadsR g q) i) g.rules.length).length := by
  have := congrArg List.length (cut_of hr hq hi)
  simpa using this
theorem cut_of_inst {g : Prg} (hr : RightP g) {q : Int} (hq : InP g q) {i : Nat} (hi : i < (leadsR g q).length) {j : Nat} (hj : j < (ofR (cutR g q).rules i (cutR g q).rules.length).length) :
    instR (cutR g q) (gr (cutR g q).rules (gi (ofR (cutR g q).rules i (cutR g q).rules.length) j)) = instR g (gr g.rules (gi (ofR g.rules (gi (leadsR g q) i) g.rules.length) j)) := by
  have h := shut_leads hr hq
  have hl := cut_of_len hr hq hi
  have e := cut_of hr hq hi
  have hj2 : j < (ofR g.rules (gi (leadsR g q) i) g.rules.length).length := by omega
  have e1 : gr (cutR g q).rules (gi (ofR (cutR g q).rules i (cutR g q).rules.length) j) = anewRule (leadsR g q) (gr g.rules (gi (ofR g.rules (gi (leadsR g q) i) g.rules.length) j)) := by
    have := congrArg (fun l => l[j]?) e
    simp only [List.getElem?_map, List.getElem?_eq_getElem hj, List.getElem?_eq_getElem hj2, Option.map_some, Option.some.injEq] at this
    rw [gi_lt hj, gi_lt hj2]; exact this
  obtain ⟨h0, h1, h2⟩ := ofR_in hj2
  have hm : gr g.rules (gi (ofR g.rules (gi (leadsR g q) i) g.rules.length) j) ∈ g.rules := by
    have h3 : (gi (ofR g.rules (gi (leadsR g q) i) g.rules.length) j).toNat < g.rules.length := by omega
    rw [show gi (ofR g.rules (gi (leadsR g q) i) g.rules.length) j = (((gi (ofR g.rules (gi (leadsR g q) i) g.rules.length) j).toNat : Nat) : Int) by omega, gr_lt h3]
    exact List.getElem_mem _
  rw [e1, cutR_in hq]
  refine only_inst h hm ?_
  rw [h2, gi_lt hi]; exact List.getElem_mem _

/-! ### more instances -/
def normI (x : Inst) : Inst := ⟨x.head, setBy cmpG x.pos, setBy cmpG x.neg⟩
theorem places_norm {ts l : List Term} (hr : Ris cmpG ts) (h : ∀ t ∈ l, t ∈ ts) : (placesG ts l).map (gt ts) = setBy cmpG l := by
  obtain ⟨h1, h2⟩ := places_inst hr h
  have hs := setOk_iff.1 (places_ok hr h)
  exact setBy_eq cmpG_ord (fun _ _ => trivial) (ris_gt hr hs.2 hs.1) h2
theorem inst_norm {l : List Inst} {x : Inst} (hx : x ∈ l) : instR (fromG l) (ruleG (setBy cmpG (allG l)) x) = normI x := by
  have h1 := (setG_ris (allG l)).1
  have e : (fromG l).atoms = setBy cmpG (allG l) := rfl
  simp only [instR, ruleG, normI, e]
  rw [(find_in h1 (mem_allG hx (t := x.head) (by simp [instAll]))).2.2, places_norm h1 (fun t ht => mem_allG hx (by simp [instAll, ht])), places_norm h1 (fun t ht => mem_allG hx (by simp [instAll, ht]))]
theorem more_rule {m n : List Inst} (h : ∀ x ∈ m, x ∈ n) {r : Rule} (hr : r ∈ (fromG m).rules) : ∃ r2 ∈ (fromG n).rules, instR (fromG m) r = instR (fromG n) r2 := by
  obtain ⟨_, h4, _⟩ := setBy_ris gOrder_ord (l := m.map (ruleG (setBy cmpG (allG m)))) (fun _ _ => trivial)
  obtain ⟨_, h5, _⟩ := setBy_ris gOrder_ord (l := n.map (ruleG (setBy cmpG (allG n)))) (fun _ _ => trivial)
  obtain ⟨x, hx, rfl⟩ := List.mem_map.1 ((h4 r).1 hr)
  exact ⟨ruleG (setBy cmpG (allG n)) x, (h5 _).2 (List.mem_map.2 ⟨x, h x hx, rfl⟩), by rw [inst_norm hx, inst_norm (h x hx)]⟩
theorem more_atom {m n : List Inst} (h : ∀ x ∈ m, x ∈ n) {t : Term} (ht : t ∈ (fromG m).atoms) : t ∈ (fromG n).atoms := by
  have h1 := (setG_ris (allG m)).2 t
  obtain ⟨x, hx, ht⟩ := List.mem_flatMap.1 (h1.1 ht)
  exact mem_allG (h x hx) ht
end Go.Proofs.YtgapiecbinplfaaGreat
/- A statement whose order is open and that makes one new variable: the variable may be made at any time. -/
namespace Go.Proofs.YtgapiecbinplfaaGreat
open Go.RowKit

variable {P : Program}

def CO.isPure : CO → Bool
  | .pure _ => true
  | _ => false
def isAlloc (o : Oper) : Bool :=
  match o.op, o.guard with
  | .alloc _, none => true
  | _, _ => false
def stepA (E : TEnv P) (all : List Oper) (o : Oper) (ρ : Fr) (H : List Box) (cs : List CO) : Option (AV × Prop × List CO) :=
  if isAlloc o = true then some (.ptr H.length 0, True, cs) else if cs.all CO.isPure = true then stepP E all o ρ H cs else none
/-- Some operations that only reckon: what they give, one by one. -/
def runPureA (E : TEnv P) (N : Nat) (all : List Oper) : List Oper → Fr → List Box → List CO → Option (List AV × Fr × Prop × List CO)
  | [], ρ, _, cs => some ([], ρ, True, cs)
  | o :: rest, ρ, H, cs => match o.dst with
    | some d => if d < N then (match stepA E all o ρ H cs with
      | some (x, ob, cs') => match runPureA E N all rest ((d, x) :: del ρ d) H cs' with
        | some (xs, ρ', ob', cs'') => some (x :: xs, ρ', ob ∧ ob', cs'')
        | none => none
      | none => none) else none
    | none => none

def zeroBox (E : TEnv P) (all : List Oper) (i0 : Nat) : Option Box :=
  match all[i0]? with
  | some o => match o.op with
    | .alloc e => (E.td e).map fun d => .cells d.zero
    | _ => none
  | none => none
/-- The new variable is named by nothing ahead of the tail. -/
def allocOk (all : List Oper) (p i0 : Nat) : Bool :=
  match all[i0]? with
  | some o => isAlloc o && decide (i0 < p) && (match o.dst with
    | some d => (List.range p).all fun j => decide (j = i0) || (match all[j]? with
      | some x => !isAlloc x && !(names all x).contains d
      | none => true)
    | none => false)
  | none => false

/-- The step turns nothing of what may be known, whatever boxes there are. -/
def MonoG (fz : Fz) (w : World) (fz' : Fz) (w' : World) : Prop :=
  Later fz w fz' w' ∧ ∀ S m0 N β a ρ H, Rel S m0 N fz β w a ρ H → Rel S m0 N fz' β w' a ρ H

section
variable {fz fz' : Fz} {β β' : List Value} {w w' : World} {m0 N : Nat} {a : Act} {ρ : Fr} {H : List Box} {S : Start}

theorem purish_build {op : Op} (h : purish op = true) (hk : opKind op = 1) : ∃ t n parts, op = .buildSlice t n parts := by
  unfold purish at h
  split at h
  · exact ⟨_, _, _, rfl⟩
  · rw [hk] at h
    exact absurd h (by decide)
theorem op1_pureG (E : TEnv P) (h : Rel S m0 N fz β w a ρ H) {o : Oper} {cs cs' : List CO} {r : Res} (hs : op1 E true ρ H o.op cs = some (r, cs')) (hob : r.ob) (hH : r.H = H) (hp : purish o.op = true) (hcs : cs.all CO.isPure = true)
    {K : Act → World → Prop} {Q : Exit → Act → World → Prop} (hK : ∀ fz' w' v, MonoG fz w fz' w' → (∀ x, r.x = some x → RdA fz' β w' x v) → K (a.put o.dst v) w') : o.wp P a w K Q := by
  unfold op1 at hs
  split at hs
  · rw [Option.map_eq_some_iff] at hs
    obtain ⟨⟨x, ob⟩, hv, he⟩ := hs
    cases he
    obtain ⟨v, h1, h2⟩ := valOp_ok E h.fr h.bx hv hob
    exact wp_value h1 (hK fz w v ⟨Later.refl _ _, fun _ _ _ _ _ _ _ h => h⟩ (fun x hx => by cases hx; exact h2))
  · rename_i hk
    rw [Option.map_eq_some_iff] at hs
    obtain ⟨r', hv, he⟩ := hs
    cases he
    -- a slice literal, taken as data
    obtain ⟨t, n, parts, ho⟩ := purish_build hp hk
    rw [ho] at hv
    simp only [stOp] at hv
    split at hv
    · rename_i e τ l he hl
      split at hv
      · rename_i xs hx
        split at hv
        · rename_i hc
          obtain ⟨vals, h1, h2, h3⟩ := run_buildSlice E h.fr h.bx he hl hx hc.1 hc.2
          have hrun : (execOp a.eval o).run P w = .ok (.value (.slice (some ⟨w.heap.size, 0, none⟩) n n)) (w.alloc (.cells vals e)) := by
            have := run_v h1
            simpa only [execOp, ho] using this
          have hm : xs.length ≤ maxLen := by rw [h3]; have := hc.2; simp only [maxLen]; omega
          simp only [if_true] at hv
          cases hv
          obtain ⟨hl, _, h5⟩ := h.newData (vals := vals.toList) e h2 hm
          refine wp_value hrun (hK _ _ _ ⟨hl, fun S m0 N β a ρ H hr => (hr.newData (vals := vals.toList) e h2 hm).2.1⟩ (fun x hx => ?_))
          cases hx
          rw [h3] at h5
          exact h5
        · cases hv
      · cases hv
    · cases hv
  · split at hs
    · rename_i f ars ts c cs'' hop
      rw [Option.map_eq_some_iff] at hs
      obtain ⟨r', hv, he⟩ := hs
      cases he
      have run : ∀ (g : Nat) (caps : List Value), a.eval f = .func (.func g) #[] caps.toArray → E.fnb g = true → (execOp a.eval o).run P w = .ok (.enter g ((ars.toList.map a.eval) ++ caps).toArray) w := by
        intro g caps hf hg
        have := E.fnok g hg ((ars.toList.map a.eval) ++ caps).toArray w
        have e : (ars.map a.eval ++ caps.toArray) = ((ars.toList.map a.eval) ++ caps).toArray := by apply Array.ext'; simp
        simp only [execOp, hop, resolve, hf, Deferred.ofValue, Sem.run_bind, Sem.run_pure, Result.andThen_ok, invoke, Array.empty_append]
        rw [e]; exact this
      cases c with
      | pure r0 =>
        simp only [callOp] at hv
        split at hv
        · rename_i g l hc
          split at hv
          · rename_i hcond
            cases hv
            obtain ⟨caps, hf, hr⟩ := callArgs_ok h hc
            unfold Oper.wp
            rw [run g caps hf hcond.1]
            refine (h.callPure hob ⟨hcond.2.1, hcond.2.2⟩ hr).mono fun e w' ⟨v, fz', he, hv, hb', ha', hz'⟩ => ?_
            subst he
            exact hK fz' w' v ⟨ha'.later, fun S m0 N β a ρ H hr => hr.afterPure hb' ha' hz'⟩ (fun x hx => by cases hx; exact hv)
          · cases hv
        · cases hv
      | full σ args0 Hin r0 Hout => simp [CO.isPure] at hcs
      | own bx => simp [CO.isPure] at hcs
    · cases hs
end

/-- What the operations give one by one, each told by its place. -/
theorem runPure_seqA (E : TEnv P) {N : Nat} {all : List Oper} {H : List Box} {ρ0 : Fr} {p : Nat} : ∀ {l : List Oper} {k : Nat} {ρk : Fr} {cs cs' : List CO} {Xpre X : List AV} {ρp : Fr} {ob : Prop},
    (∀ j, l[j]? = if k + j < p then all[k + j]? else none) → k + l.length = p → Xpre.length = k → runPureA E N all l ρk H cs = some (X, ρp, ob, cs') → ob →
    (∀ t, look ρk t = curOf all Xpre ρ0 (fun _ => true) k t) →
    X.length = l.length ∧ (∀ t, look ρp t = curOf all (Xpre ++ X) ρ0 (fun _ => true) p t) ∧
    ∀ i, k ≤ i → i < p → ∃ o d x ρi csi csi' obi, all[i]? = some o ∧ o.dst = some d ∧ d < N ∧ (Xpre ++ X)[i]? = some x ∧ stepA E all o ρi H csi = some (x, obi, csi') ∧ obi ∧
      ∀ t, look ρi t = curOf all (Xpre ++ X) ρ0 (fun _ => true) i t
  | [], k, ρk, cs, cs', Xpre, X, ρp, ob, hl, hk, hX, hr, hob, hc => by
    simp only [runPureA, Option.some.injEq, Prod.mk.injEq] at hr
    obtain ⟨rfl, rfl, rfl, rfl⟩ := hr
    simp only [List.length_nil, Nat.add_zero] at hk
    subst hk
    exact ⟨rfl, by simpa using hc, fun i h1 h2 => by omega⟩
  | o :: l, k, ρk, cs, cs', Xpre, X, ρp, ob, hl, hk, hX, hr, hob, hc => by
    simp only [runPureA] at hr
    split at hr
    · rename_i d hd
      split at hr
      · rename_i hdN
        split at hr
        · rename_i x obi csi' hst
          split at hr
          · rename_i xs ρ1 ob1 cs1 hrest
            cases hr
            have hkp : k < p := by simp at hk; omega
            have ho : all[k]? = some o := by have := hl 0; simpa [hkp] using this.symm
            have hdst : dstAt all k = some d := by simp [dstAt, ho, hd]
            have key : ∀ (Y : List AV) t, curOf all (Xpre ++ Y) ρ0 (fun _ => true) k t = curOf all Xpre ρ0 (fun _ => true) k t := by
              intro Y t
              unfold curOf
              split
              · rename_i j hj
                obtain ⟨h1, _⟩ := lastW_some hj
                rw [List.getElem?_append_left (by omega)]
              · rfl
            have hc' : ∀ t, look ((d, x) :: del ρk d) t = curOf all (Xpre ++ [x]) ρ0 (fun _ => true) (k + 1) t := by
              intro t
              rw [look_put]
              by_cases ht : t = d
              · subst ht
                rw [if_pos rfl]
                simp only [curOf, lastW]
                rw [if_pos ⟨trivial, hdst⟩]
                simp [← hX]
              · rw [if_neg ht, hc t, ← key [x] t]
                simp only [curOf, lastW]
                rw [if_neg (fun e => by have h2 := e.2; rw [hdst] at h2; exact ht (by injection h2 with h2; exact h2.symm))]
            obtain ⟨h1, h2, h3⟩ := runPure_seqA E (p := p) (ρ0 := ρ0) (k := k + 1) (Xpre := Xpre ++ [x]) (fun j => by have := hl (j + 1); rw [show k + 1 + j = k + (j + 1) by omega]; simpa using this)
              (by simp at hk ⊢; omega) (by simp [hX]) hrest hob.2 hc'
            rw [List.append_assoc, List.singleton_append] at h2 h3
            refine ⟨by simp [h1], h2, fun i hi hip => ?_⟩
            by_cases hik : i = k
            · subst hik
              refine ⟨o, d, x, ρk, cs, csi', obi, ho, hd, hdN, ?_, hst, hob.1, fun t => ?_⟩
              · rw [List.getElem?_append_right (by omega)]; simp [hX]
              · rw [hc t, key]
            · exact h3 i (by omega) hip
          · cases hr
        · cases hr
      · cases hr
    · cases hr

theorem nodupF_pureA (E : TEnv P) {N : Nat} {all : List Oper} {H : List Box} : ∀ {l : List Oper} {ρ : Fr} {cs cs' : List CO} {X : List AV} {ρp : Fr} {ob : Prop},
    runPureA E N all l ρ H cs = some (X, ρp, ob, cs') → nodupF ρ = true → nodupF ρp = true
  | [], ρ, cs, cs', X, ρp, ob, hr, h => by
    simp only [runPureA, Option.some.injEq, Prod.mk.injEq] at hr
    obtain ⟨_, rfl, _⟩ := hr
    exact h
  | o :: l, ρ, cs, cs', X, ρp, ob, hr, h => by
    simp only [runPureA] at hr
    split at hr
    · split at hr
      · split at hr
        · split at hr
          · rename_i hrest
            cases hr
            exact nodupF_pureA E hrest (nodupF_put h)
          · cases hr
        · cases hr
      · cases hr
    · cases hr

section
variable {m0 N : Nat} {ρ ρ' ρp : Fr} {H H' : List Box} {S : Start} {ops : Array Oper} {p i0 : Nat} {X : List AV} {ob obt : Prop} {csp cs : List CO} {Qw : Exit → Act → World → Prop} {Z : Box}

theorem allocOk_iff {all : List Oper} (h : allocOk all p i0 = true) : ∃ o d, all[i0]? = some o ∧ isAlloc o = true ∧ o.dst = some d ∧ i0 < p ∧ ∀ j x, j < p → j ≠ i0 → all[j]? = some x → isAlloc x = false ∧ d ∉ names all x := by
  unfold allocOk at h
  split at h
  · rename_i o ho
    simp only [Bool.and_eq_true, decide_eq_true_eq] at h
    obtain ⟨⟨h1, h2⟩, h3⟩ := h
    split at h3
    · rename_i d hd
      refine ⟨o, d, ho, h1, hd, h2, fun j x hj hji hx => ?_⟩
      have := List.all_eq_true.1 h3 j (by simpa using hj)
      simp only [hx, Bool.or_eq_true, decide_eq_true_eq, Bool.and_eq_true, Bool.not_eq_true'] at this
      rcases this with h | h
      · exact absurd h hji
      · exact ⟨h.1, fun hm => by have := h.2; simp [hm] at this⟩
    · cases h3
  · cases h

def filtF (dom : Nat → Bool) (F : Fr) : Fr := F.filter fun q => dom q.1
def notD (d : Nat) : Nat → Bool := fun t => decide (t ≠ d)
def allD : Nat → Bool := fun _ => true
theorem mem_filt {F : Fr} {dom : Nat → Bool} {t : Nat} {x : AV} : (t, x) ∈ filtF dom F ↔ (t, x) ∈ F ∧ dom t = true := by simp [filtF, List.mem_filter]

theorem draw_anyA (E : TEnv P) (hord : OrdOk ops.toList p) (hnd : nodupF ρ = true) (hal : allocOk ops.toList p i0 = true) (hz : zeroBox E ops.toList i0 = some Z)
    (hpure : runPureA E N ops.toList (ops.toList.take p) ρ H cs = some (X, ρp, ob, csp)) (hob : ob)
    (htail : runOps E N false ops.toList (ops.toList.drop p) ρp (H ++ [Z]) csp = some (ρ', H', obt)) (hobt : obt)
    (hk : ∀ fz' β' w' a', Rel S m0 N fz' β' w' a' ρ' H' → Qw .normal a' w') (keys : List Nat) (hkeys : ∀ t, (look ρ t ≠ none → t ∈ keys) ∧ ∀ i, dstAt ops.toList i = some t → t ∈ keys) {d0 : Nat} (hd0 : dstAt ops.toList i0 = some d0) :
    ∀ {fuel : Nat} {listed : Array Bool} {fz : Fz} {β : List Value} {w : World} {a : Act}, listed.size = ops.size → (∀ i, p ≤ i → i < ops.size → Ltd listed i = false) → Closed ops.toList listed →
      cntN (Ltd listed) ops.size ≤ fuel → Rel S m0 N fz β w a (filtF (notD d0) (mkC (curOf ops.toList X ρ (Ltd listed) p) keys)) H →
      (Ltd listed i0 = true → ∃ g, Rel S m0 N fz (β ++ [g]) w a (filtF allD (mkC (curOf ops.toList X ρ (Ltd listed) p) keys)) (H ++ [Z])) → wpAny P .any ops Qw fuel listed a w := by
  have hple : p ≤ ops.size := by simpa using hord.le
  obtain ⟨hXl, hfin, hseq⟩ := runPure_seqA E (ρ0 := ρ) (p := p) (k := 0) (Xpre := []) (fun j => by
      rw [List.getElem?_take]; simp) (by simp; omega) rfl hpure hob (fun t => by simp [curOf, lastW])
  simp only [List.nil_append] at hfin hseq
  have hndp := nodupF_pureA E hpure hnd
  obtain ⟨o0, d0', ho0, hisa, hdst0, hi0p, hother⟩ := allocOk_iff hal
  have e0 : d0' = d0 := by
    have : dstAt ops.toList i0 = some d0' := by simp [dstAt, ho0, hdst0]
    rw [this] at hd0; injection hd0
  subst e0
  -- when all that only reckon are done
  have full : ∀ {fuel : Nat} {listed : Array Bool} {fz : Fz} {β : List Value} {w : World} {a : Act}, listed.size = ops.size → (∀ i, i < ops.size → (Ltd listed i = true ↔ i < p)) → Closed ops.toList listed →
      cntN (Ltd listed) ops.size ≤ fuel → (∃ g, Rel S m0 N fz (β ++ [g]) w a (filtF allD (mkC (curOf ops.toList X ρ (Ltd listed) p) keys)) (H ++ [Z])) → wpAny P .any ops Qw fuel listed a w := by
    intro fuel listed fz β w a hsz hl hc hf ⟨g, h⟩
    have hcnt : ops.size - p ≤ fuel := by
      refine Nat.le_trans ?_ hf
      have : ∀ n, n ≤ ops.size → n - p ≤ cntN (Ltd listed) n := by
        intro n hn
        induction n with
        | zero => simp
        | succ n ih =>
          simp only [cntN]
          have := ih (by omega)
          by_cases hnp : n < p
          · omega
          · have : ¬ (Ltd listed n = true) := fun e => hnp ((hl n (by omega)).1 e)
            rw [if_neg this]; omega
      exact this _ (Nat.le_refl _)
    refine draw_tail E hord hk (Nat.le_refl _) hple hsz hl hc hcnt htail hobt (h.of fun t x hm => ?_)
    have hx := nodupF_look hndp hm
    rw [hfin t] at hx
    have hcur : curOf ops.toList X ρ (Ltd listed) p t = some x := by
      rw [← hx]
      unfold curOf
      rw [lastW_congr (L' := fun _ => true) (fun j hj _ => (hl j (by omega)).2 hj)]
    refine mem_filt.2 ⟨mkC_in ?_ hcur, rfl⟩
    unfold curOf at hx
    split at hx
    · rename_i j hj
      exact (hkeys t).2 j (lastW_some hj).2.1
    · exact (hkeys t).1 (by rw [hx]; simp)
  intro fuel
  induction fuel with
  | zero =>
    intro listed fz β w a hsz hl hc hf h hB
    have hall : ∀ i, i < ops.size → Ltd listed i = true := cntN_zero (by omega)
    have hpn : p = ops.size := Nat.le_antisymm hple (Nat.le_of_not_lt fun hlt => by have := hl p (Nat.le_refl _) hlt; rw [hall p hlt] at this; cases this)
    refine full hsz (fun i hi => ⟨fun _ => ?_, fun _ => hall i hi⟩) hc hf (hB (hall i0 (by omega)))
    rw [hpn]; exact hi
  | succ fuel ih =>
    intro listed fz β w a hsz hl hc hf h hB
    by_cases hdone : ∀ i, i < p → Ltd listed i = true
    · exact full hsz (fun i hi => ⟨fun e => Nat.lt_of_not_le fun hpi => (by rw [hl i hpi hi] at e; cases e), fun hip => hdone i hip⟩) hc hf (hB (hdone i0 hi0p))
    · refine ⟨fun hnil => absurd (fun i hip => ready_nil hord hsz hnil i (by omega)) hdone, fun i hi => ?_⟩
      obtain ⟨h1, h2, o, ho, hd⟩ := (ready_mem hsz).1 hi
      have hip : i < p := by
        refine Nat.lt_of_not_le fun hpi => hdone fun j hj => ?_
        exact reach_listed hc (hord.tail i j hpi (by simpa using h1) (by omega)) ⟨o, ho, hd⟩
      obtain ⟨o', d, x, ρi, csi, csi', obi, ho', hdst, hdN, hXi, hst, hobi, hlook⟩ := hseq i (Nat.zero_le _) hip
      rw [ho] at ho'; cases ho'
      have hoa : ops[i]? = some o := by simpa using ho
      have hdsti : dstAt ops.toList i = some d := by simp [dstAt, ho, hdst]
      -- who writes a slot that o names
      have hW : ∀ t ∈ names ops.toList o, ∀ j, j < p → ((Ltd listed j = true ∧ dstAt ops.toList j = some t) ↔ (j < i ∧ dstAt ops.toList j = some t)) := by
        intro t ht j hj
        have hjo : ∃ oj, ops.toList[j]? = some oj := ⟨ops.toList[j]'(by simp; omega), List.getElem?_eq_getElem _⟩
        obtain ⟨oj, hoj⟩ := hjo
        constructor
        · rintro ⟨e1, e2⟩
          refine ⟨Nat.lt_of_not_le fun hij => ?_, e2⟩
          have e3 : oj.dst = some t := by simpa [dstAt, hoj] using e2
          rcases Nat.eq_or_lt_of_le hij with hij | hij
          · subst hij; rw [h2] at e1; cases e1
          · have := hord.clash i j o oj hij ho hoj (by simp [clashO, e3, ht])
            have := hc j oj hoj e1 i this
            rw [h2] at this; cases this
        · rintro ⟨e1, e2⟩
          have e3 : oj.dst = some t := by simpa [dstAt, hoj] using e2
          have := hord.clash j i oj o e1 hoj ho (by simp [clashO, e3, ht])
          exact ⟨hd j this, e2⟩
      have hcur : ∀ t ∈ names ops.toList o, curOf ops.toList X ρ (Ltd listed) p t = look ρi t := by
        intro t ht
        rw [hlook t]
        unfold curOf
        rw [lastW_same (hW t ht) (by omega)]
      obtain ⟨s1, s2⟩ := Ltd_set (listed := listed) (i := i) (by omega)
      have hcnt : cntN (Ltd (listed.setIfInBounds i true)) ops.size ≤ fuel := by
        have := cntN_set (f := Ltd listed) (g := Ltd (listed.setIfInBounds i true)) s1 h2 s2 h1
        omega
      have hlp : ∀ j, p ≤ j → j < ops.size → Ltd (listed.setIfInBounds i true) j = false := fun j hj hjn => by
        rw [s1 j (by omega)]; exact hl j hj hjn
      have frame : ∀ {β2 : List Value} {fz' : Fz} {w' : World} {v : Value} (dom1 dom2 : Nat → Bool), (∀ t, t ≠ d → dom2 t = true → dom1 t = true) →
          FrR fz' β2 w' N a (filtF dom1 (mkC (curOf ops.toList X ρ (Ltd listed) p) keys)) → (dom2 d = true → RdA fz' β2 w' x v) →
          FrR fz' β2 w' N (a.put o.dst v) (filtF dom2 (mkC (curOf ops.toList X ρ (Ltd (listed.setIfInBounds i true)) p) keys)) := by
        intro β2 fz' w' v dom1 dom2 hdom hfr hx
        rw [hdst]
        refine ⟨hfr.1, by simp [Act.put, hfr.2.1], fun t y hty => ?_⟩
        obtain ⟨hty, hdt⟩ := mem_filt.1 hty
        have hy := mkC_mem hty
        by_cases htd : t = d
        · subst htd
          have hlast : lastW (dstAt ops.toList) (Ltd (listed.setIfInBounds i true)) t p = some i := by
            refine lastW_last hip s2 hdsti (fun j hij hjp hj => ?_)
            rw [s1 j (by omega)] at hj
            have := ((hW t (by simp [names, hdst]) j hjp).1 hj).1
            omega
          unfold curOf at hy
          rw [hlast] at hy
          simp only [hXi, Option.some.injEq] at hy
          subst hy
          refine ⟨hdN, ?_⟩
          have : (a.put (some t) v).tmps.getD t undef = v := by
            simp [Act.put, Array.getD_eq_getD_getElem?, Array.getElem?_setIfInBounds, hfr.2.1, hdN]
          rw [this]; exact hx hdt
        · have hsame : curOf ops.toList X ρ (Ltd (listed.setIfInBounds i true)) p t = curOf ops.toList X ρ (Ltd listed) p t := by
            unfold curOf
            rw [lastW_congr (L' := Ltd listed) (fun j hj hjt => ?_)]
            by_cases hji : j = i
            · subst hji; rw [hdsti] at hjt; exact absurd (by injection hjt with e; exact e.symm) htd
            · exact s1 j hji
          rw [hsame] at hy
          have hmem : (t, y) ∈ mkC (curOf ops.toList X ρ (Ltd listed) p) keys := by
            refine mkC_in ?_ hy
            unfold curOf at hy
            split at hy
            · rename_i j hj; exact (hkeys t).2 j (lastW_some hj).2.1
            · exact (hkeys t).1 (by rw [hy]; simp)
          obtain ⟨e1, e2⟩ := hfr.2.2 t y (mem_filt.2 ⟨hmem, hdom t htd hdt⟩)
          refine ⟨e1, ?_⟩
          have : (a.put (some d) v).tmps.getD t undef = a.tmps.getD t undef := by
            simp only [Act.put, Array.getD_eq_getD_getElem?, Array.getElem?_setIfInBounds]
            rw [if_neg (Ne.symm htd)]
          rw [this]; exact e2
      by_cases hi0 : i = i0
      · -- the new variable
        subst hi0
        have eo : o = o0 := Option.some.inj (ho.symm.trans ho0)
        subst eo
        have ed : d = d0' := Option.some.inj (hdst.symm.trans hdst0)
        subst ed
        unfold stepA at hst
        rw [if_pos hisa] at hst
        cases hst
        have hae : ∃ e, o.op = .alloc e ∧ o.guard = none := by
          unfold isAlloc at hisa
          split at hisa
          · rename_i e h3 h4; exact ⟨e, h3, h4⟩
          · cases hisa
        obtain ⟨e, hoe, hog⟩ := hae
        unfold wpOp
        rw [hoa]
        change if Region.wanted o (yielded ops a.tmps) = true then _ else _
        rw [if_pos (guardA_ok h.fr (by unfold guardA; rw [hog]))]
        left
        simp only [zeroBox, ho, hoe, Option.map_eq_some_iff] at hz
        obtain ⟨td, htd, rfl⟩ := hz
        obtain ⟨z, hz1, hz2, _⟩ := (E.tdok e td htd).zero
        have hrun : (execOp a.eval o).run P w = .ok (.value (.pointer (some ⟨w.heap.size, 0, none⟩))) (w.alloc (.cells z.cells e)) := by
          simp [execOp, hoe, Instr.alloc, hz1, newVar, newRow]
        refine wp_value hrun ?_
        have hA := h.newFz (fz' := fz) (.cells z.cells e) (fun _ _ h => .inl h) (fun _ _ h => h)
        have hN := h.newVar (cs := td.zero) (vs := z.cells.toList) e (hz2 fz β w)
        refine ih (β := β) (fz := fz) (by simpa using hsz) hlp (closed_set (by omega) hc ho hd) hcnt ?_ (fun _ => ⟨.pointer (some ⟨w.heap.size, 0, none⟩), ?_⟩)
        · exact ⟨frame _ _ (fun t _ h => h) hA.fr (fun h => by simp [notD] at h), hA.bx, hA.mine, hA.anc, hA.fzok, hA.pre⟩
        · refine ⟨frame _ _ (fun t h _ => by simpa [notD] using h) hN.fr (fun _ => ?_), hN.bx, hN.mine, hN.anc, hN.fzok, hN.pre⟩
          simp only [RdA]
          exact ⟨w.heap.size, by unfold BAt; rw [← h.bx.len]; simp, rfl⟩
      · obtain ⟨hna, hnd0⟩ := hother i o hip hi0 ho
        have hdd : d ≠ d0' := fun e => hnd0 (by rw [← e]; simp [names, hdst])
        have hin : ∀ t x, t ∈ names ops.toList o → look ρi t = some x → (t, x) ∈ filtF (notD d0') (mkC (curOf ops.toList X ρ (Ltd listed) p) keys) := by
          intro t x ht hx
          have hc2 := (hcur t ht).trans hx
          refine mem_filt.2 ⟨mkC_in ?_ hc2, by simp [notD]; intro e; exact hnd0 (e ▸ ht)⟩
          unfold curOf at hc2
          split at hc2
          · rename_i j hj; exact (hkeys t).2 j (lastW_some hj).2.1
          · exact (hkeys t).1 (by rw [hc2]; simp)
        have hafter : ∀ {fz' : Fz} {w' : World} {v : Value}, MonoG fz w fz' w' → RdA fz' β w' x v → wpAny P .any ops Qw fuel (listed.setIfInBounds i true) (a.put o.dst v) w' := by
          intro fz' w' v hm hx
          have hA := hm.2 S m0 N β a _ H h
          refine ih (β := β) (fz := fz') (by simpa using hsz) hlp (closed_set (by omega) hc ho hd) hcnt ?_ (fun hl0 => ?_)
          · exact ⟨frame _ _ (fun t _ h => h) hA.fr (fun _ => hx), hA.bx, hA.mine, hA.anc, hA.fzok, hA.pre⟩
          · rw [s1 i0 (Ne.symm hi0)] at hl0
            obtain ⟨g, hg⟩ := hB hl0
            have hC := hm.2 S m0 N _ a _ _ hg
            exact ⟨g, frame _ _ (fun t _ h => h) hC.fr (fun _ => RdA.ext (Ext.snoc _ _) _ _ hx), hC.bx, hC.mine, hC.anc, hC.fzok, hC.pre⟩
        unfold wpOp
        rw [hoa]
        change if Region.wanted o (yielded ops a.tmps) = true then _ else _
        unfold stepA at hst
        rw [if_neg (by rw [hna]; simp)] at hst
        split at hst
        · rename_i hcsp
          unfold stepP at hst
          have hgsame : guardA ops.toList (mkF (guardTmp ops.toList o) ρi) o.guard = guardA ops.toList ρi o.guard := guardA_same fun t ht => look_mkF ht
          have hrelg : Rel S m0 N fz β w a (mkF (guardTmp ops.toList o) ρi) H := h.of fun t y hm => by
            obtain ⟨e1, e2⟩ := mkF_mem hm
            exact hin t y (List.mem_append_left _ (List.mem_append_right _ e1)) e2
          split at hst
          · rename_i hg
            cases hst
            rw [← hgsame] at hg
            rw [if_neg (by rw [guardA_ok hrelg.fr hg]; simp)]
            exact hafter ⟨Later.refl _ _, fun _ _ _ _ _ _ _ h => h⟩ undef_ok
          · rename_i hg
            rw [← hgsame] at hg
            rw [if_pos (guardA_ok hrelg.fr hg)]
            split at hst
            · rename_i hpur
              split at hst
              · rename_i r cs' hop
                split at hst
                · rename_i y hy
                  cases hst
                  have hrelo : Rel S m0 N fz β w a (mkF (opTmps o.op) ρi) H := h.of fun t z hm => by
                    obtain ⟨e1, e2⟩ := mkF_mem hm
                    exact hin t z (List.mem_append_left _ (List.mem_append_left _ e1)) e2
                  exact .inl (op1_pureG E hrelo hop hobi.1 hobi.2 hpur hcsp fun fz' w' v hm hx => hafter hm (hx _ hy))
                · cases hst
              · cases hst
            · cases hst
          · cases hst
        · cases hst
end
variable {m0 N : Nat} {ρ ρ' ρp : Fr} {H H' : List Box}
/-- A region whose order is open: the first p operations only reckon; the others stand behind them in the order of the text. -/
theorem ok_drawA (E : TEnv P) (hP : P.follows .mixedOrders = true) {Q : Exit → Fr → List Box → Prop} (keep : List Nat) (p i0 : Nat) (cs : List CO) {id : Nat} {ops : Array Oper} {X : List AV} {csp : List CO} {ob obt : Prop}
    (hord : orderOk ops.toList p = true) (hnd : nodupF ρ = true) {Z : Box} (hal : allocOk ops.toList p i0 = true) (hz : zeroBox E ops.toList i0 = some Z)
    (hpure : runPureA E N ops.toList (ops.toList.take p) ρ H cs = some (X, ρp, ob, csp)) (hob : ob)
    (htail : runOps E N false ops.toList (ops.toList.drop p) ρp (H ++ [Z]) csp = some (ρ', H', obt)) (hobt : obt) (k : Q .normal (keepF keep ρ') H') : Ok P m0 N (.region id ops true) Q ρ H := by
  intro S fz β w a h
  refine wp_region_any hP ?_
  obtain ⟨o0, d0, ho0, _, hdst0, _, _⟩ := allocOk_iff hal
  refine draw_anyA E (orderOk_iff hord) hnd hal hz hpure hob htail hobt (fun fz' β' w' a' hrel => ⟨fz', β', _, _, hrel.keep keep, k⟩) (ρ.map (·.1) ++ ops.toList.filterMap (·.dst)) (fun t => ⟨fun ht => ?_, fun i hi => ?_⟩) (d0 := d0) (by simp [dstAt, ho0, hdst0])
    (by simp) (fun i _ hi => ?_) (fun i o ho hl => ?_) ?_ (h.drew.of fun t x hm => ?_) (fun hl0 => ?_)
  · cases hl : look ρ t with
    | none => exact absurd hl ht
    | some x => exact List.mem_append_left _ (List.mem_map.2 ⟨(t, x), look_mem hl, rfl⟩)
  · refine List.mem_append_right _ (List.mem_filterMap.2 ?_)
    unfold dstAt at hi
    cases ho : ops.toList[i]? with
    | none => simp [ho] at hi
    | some o => simp [ho] at hi; exact ⟨o, List.mem_of_getElem? ho, hi⟩
  · simp [Ltd, Array.getD_eq_getD_getElem?, hi]
  · have hi := (List.getElem?_eq_some_iff.1 ho).1
    simp only [Ltd, Array.getD_eq_getD_getElem?, Array.getElem?_replicate] at hl
    split at hl <;> simp at hl
  · have : ∀ n, cntN (Ltd (Array.replicate ops.size false)) n ≤ n := by
      intro n
      induction n with
      | zero => simp [cntN]
      | succ n ih => simp only [cntN]; split <;> omega
    exact this _
  · have hx := mkC_mem (mem_filt.1 hm).1
    have hL : ∀ j, Ltd (Array.replicate ops.size false) j = false := by
      intro j
      simp only [Ltd, Array.getD_eq_getD_getElem?, Array.getElem?_replicate]
      split <;> rfl
    unfold curOf at hx
    split at hx
    · rename_i j hj
      have := (lastW_some hj).2.2
      rw [hL j] at this; cases this
    · exact look_mem hx
  · exfalso
    simp only [Ltd, Array.getD_eq_getD_getElem?, Array.getElem?_replicate] at hl0
    split at hl0 <;> simp at hl0

/-- A region whose order is open, with one new variable in its front. -/
def evDA (E : TEnv P) (N p i0 : Nat) (keep : List Nat) (ops : List Oper) (ρ : Fr) (H : List Box) (cs : List CO) : Option (Fr × List Box × Prop) :=
  match runPureA E N ops (ops.take p) ρ H cs, zeroBox E ops i0 with
  | some (_, ρp, ob, csp), some Z => match runOps E N false ops (ops.drop p) ρp (H ++ [Z]) csp with
    | some (ρ', H', obt) => some (keepF keep ρ', H', ob ∧ obt)
    | none => none
  | _, _ => none
theorem ok_drA (E : TEnv P) (hP : P.follows .mixedOrders = true) {Q : Exit → Fr → List Box → Prop} (keep : List Nat) (p i0 : Nat) (cs : List CO) {id : Nat} {ops : Array Oper} {ob : Prop} (hord : orderOk ops.toList p = true) (hal : allocOk ops.toList p i0 = true) (hnd : nodupF ρ = true)
    (hr : evDA E N p i0 keep ops.toList ρ H cs = some (ρ', H', ob)) (hob : ob) (k : Q .normal ρ' H') : Ok P m0 N (.region id ops true) Q ρ H := by
  unfold evDA at hr
  split at hr
  · rename_i X ρ1 ob1 cs1 Z h1 h2
    split at hr
    · rename_i ρ2 H2 ob2 h3
      cases hr
      exact ok_drawA E hP keep p i0 cs hord hnd hal h2 h1 hob.1 h3 hob.2 k
    · cases hr
  · cases hr
end Go.Proofs.YtgapiecbinplfaaGreat
/- Walks: layer 16's laws: GroundCut. Printed by walk.py from annotations. -/
namespace Go.Proofs.YtgapiecbinplfaaGreat
open Go.RowKit


attribute [simp] evDA runPureA stepA isAlloc CO.isPure zeroBox
theorem nm_cut {g : Prg} (hr : RightP g) (hg : ∀ t ∈ g.atoms, NmOk t) {q : Int} (hq : InP g q) : ∀ t ∈ (cutR g q).atoms, NmOk t := by
  rw [cut_atoms hq]
  intro t ht
  obtain ⟨k, hk, rfl⟩ := List.mem_map.1 ht
  exact hg _ (gt_memI ((shut_leads hr hq).rng k hk))
theorem rightR_ctr4 {g : Prg} (hr : RightP g) (hN : g.atoms.length ≤ 1000000) (hR : g.rules.length ≤ 1000000) (hn : ∀ t ∈ g.atoms, NmOk t) : Ctr Tryz.prog 40 [pav g] [] (.d .bool true) [] := by
  have h := rightP_ctr g hN hR fun i hi => hn _ (by rw [gt_lt hi]; exact List.getElem_mem _)
  rwa [(rightP_iff hN).2 hr] at h
/-- Where the one atom stands in its cut. -/
theorem cut_place {g : Prg} (h : greatP g = false) (hr : RightP g) {q : Int} (hq : InP g q) : ∃ a : Nat, a < (cutR g q).atoms.length ∧ gi (leadsR g q) a = q ∧ Ctr Tryz.prog 32 [pav (cutR g q), .d .term (gt g.atoms q)] [] (.d .i (a : Int)) [] := by
  have hs := shut_leads hr hq
  have hz := cut_size h hr hq
  obtain ⟨a, ha, _, e2⟩ := place_in hs.ris (leads_pos hr hq)
  have hg : gi (leadsR g q) a = q := by rw [gi_lt ha]; exact e2
  have ha2 : a < (cutR g q).atoms.length := by rw [cut_len hq]; exact ha
  refine ⟨a, ha2, hg, ?_⟩
  have h2 := findG_ctr (cutR g q) (gt (cutR g q).atoms a) (by omega)
  rw [find_place (cut_right hr hq) ⟨by omega, by omega⟩] at h2
  rwa [cut_atom hq ha, hg] at h2
theorem cut_same {g : Prg} (h : greatP g = false) (hr : RightP g) {q : Int} (hq : InP g q) {a : Nat} (ha : a < (cutR g q).atoms.length) (e : gi (leadsR g q) a = q) : Ctr Tryz.prog 33 [pav (cutR g q), .d .i (a : Int)] [] (pav (cutR g q)) [] := by
  have := cut_ctr5 h hr hq ha
  rwa [e] at this
/-- The rules of an atom of a cut, and those of the program. -/
theorem cut_both {g : Prg} (h : greatP g = false) (hr : RightP g) {q : Int} (hq : InP g q) {i : Nat} (hi : i < (cutR g q).atoms.length) : ∃ la lb : List Int,
    Ctr Tryz.prog 27 [pav (cutR g q), .d .i (i : Int)] [] (.d .ints la) [] ∧ Ctr Tryz.prog 27 [pav g, .d .i (gi (leadsR g q) i)] [] (.d .ints lb) [] ∧ la.length = lb.length ∧ la.length ≤ 1000 ∧
    ∀ j : Nat, j < la.length → (0 ≤ gi la j ∧ gi la j < (cutR g q).rules.length) ∧ (0 ≤ gi lb j ∧ gi lb j < g.rules.length) ∧
      Ctr Tryz.prog 46 [pav (cutR g q), avOf .rule (gr (cutR g q).rules (gi la j))] [] (avOf .inst (instR g (gr g.rules (gi lb j)))) [] ∧
      Ctr Tryz.prog 46 [pav g, avOf .rule (gr g.rules (gi lb j))] [] (avOf .inst (instR g (gr g.rules (gi lb j)))) [] := by
  have hz := cut_size h hr hq
  have hs := small_of h
  have hi2 : i < (leadsR g q).length := by rw [← cut_len hq]; exact hi
  refine ⟨_, _, ofR_ctr (cutR g q) (i : Int) (by omega), ofR_ctr g (gi (leadsR g q) i) (by have := hs.2.1; omega), cut_of_len hr hq hi2, by have := ofR_len (cutR g q).rules i (cutR g q).rules.length; omega, fun j hj => ?_⟩
  have h1 := ofR_in hj
  have h2 := ofR_in (l := g.rules) (n := gi (leadsR g q) i) (k := j) (by rw [← cut_of_len hr hq hi2]; exact hj)
  refine ⟨⟨h1.1, h1.2.1⟩, ⟨h2.1, h2.2.1⟩, ?_, inst_ctr2 hr (by have := hs.1; omega) (gr_memI ⟨h2.1, h2.2.1⟩)⟩
  have := inst_ctr2 (cut_right hr hq) (by omega) (gr_memI ⟨h1.1, h1.2.1⟩)
  rwa [cut_of_inst hr hq hi2 hj] at this
theorem all_self (l : List Term) : Ctr Tryz.prog 47 [.d .terms l, .d .terms l] [] (.d .bool true) [] := by
  have h := sameAll_ctr l l
  rwa [decide_eq_true rfl] at h
theorem term_self (t : Term) : Ctr Tryz.prog 30 [.d .term t, .d .term t] [] (.d .bool true) [] := by
  have h := same_ctr t t
  rwa [decide_eq_true rfl] at h

set_option maxRecDepth 8000 in
set_option maxHeartbeats 4000000 in
theorem cutLaw_ctr (g : Prg) (n : Int) (hg : ∀ t ∈ g.atoms, NmOk t) (hn : 0 ≤ n ∧ n ≤ 255) : Ctr Tryz.prog 10 [pav g, .d (.int .u8) n] [] (.d .bool true) [] := by
  refine ctr_pure E Tryz.func10 rfl Tryz.ntmps10 Tryz.results10 (Nat.le_of_ble_eq_true rfl) rfl ?_
  simp only [pav]
  have k0 := greatP_ctr g
  have k1 := fun h => rightR_ctr2 (g := g) h hg
  have wn : IntKind.i64.wrap n = n := wrap_i64 (by omega) (by omega)
  repeat refine ok_seq ?_
  refine ok_reg E [1, 2] [] (by simp [-Option.some.injEq, -Prod.mk.injEq]; rfl) (by first | trivial | omega | simp | (simp; omega)) ?_
  repeat refine ok_seq ?_
  refine ok_reg E [1, 2, 5] [.pure (.d .bool true)] (by simp [-Option.some.injEq, -Prod.mk.injEq]; rfl) (by (have q100 := head16_ctr; (try simp at q100); simp [q100])) ?_
  repeat refine ok_seq ?_
  refine ok_regJ E [(29, .d .bool (decide (greatP g = true ∨ rightP g = false ∨ g.atoms.length = 0)))] [1, 2, 5] [1, 2, 5, 29] [.pure (.d .bool (greatP g)), .pure (.d .bool (rightP g))] ?_ ?_
  · skip
    by_cases q0 : greatP g = true
    · refine ⟨_, _, _, by simp [q0, -Option.some.injEq, -Prod.mk.injEq]; rfl, (by first | (have q100 := k0; (try simp at q100); (try simp [q0] at q100); (try simp [q1] at q100); have q101 := k1 (by simpa using q0); (try simp at q101); (try simp [q0] at q101); (try simp [q1] at q101); simp [q100, q101]) | (have q100 := k0; (try simp at q100); (try simp [q0] at q100); (try simp [q1] at q100); simp [q100])), by constructor <;> simp [EntF, EntH, EntB, Conv, scop, q0] <;> first | omega | (rw [Bool.eq_iff_iff]; simp; omega)⟩
    by_cases q1 : rightP g = true
    rotate_left
    · refine ⟨_, _, _, by simp [q0, q1, -Option.some.injEq, -Prod.mk.injEq]; rfl, (by first | (have q100 := k0; (try simp at q100); (try simp [q0] at q100); (try simp [q1] at q100); have q101 := k1 (by simpa using q0); (try simp at q101); (try simp [q0] at q101); (try simp [q1] at q101); simp [q100, q101]) | (have q100 := k0; (try simp at q100); (try simp [q0] at q100); (try simp [q1] at q100); simp [q100])), by constructor <;> simp [EntF, EntH, EntB, Conv, scop, q0, q1] <;> first | omega | (rw [Bool.eq_iff_iff]; simp; omega)⟩
    refine ⟨_, _, _, by simp [q0, q1, -Option.some.injEq, -Prod.mk.injEq]; rfl, (by first | (have q100 := k0; (try simp at q100); (try simp [q0] at q100); (try simp [q1] at q100); have q101 := k1 (by simpa using q0); (try simp at q101); (try simp [q0] at q101); (try simp [q1] at q101); simp [q100, q101]) | (have q100 := k0; (try simp at q100); (try simp [q0] at q100); (try simp [q1] at q100); simp [q100])), by constructor <;> simp [EntF, EntH, EntB, Conv, scop, q0, q1] <;> first | omega | (rw [Bool.eq_iff_iff]; simp; omega)⟩
  repeat refine ok_seq ?_
  refine ok_if rfl (fun c1 => ?_) (fun c1 => ?_)
  · try simp at c1
    all_goals
      skip
      repeat refine ok_seq ?_
      refine ok_reg E [4] [] (by simp [-Option.some.injEq, -Prod.mk.injEq]; rfl) (by first | trivial | omega | simp | (simp; omega)) ?_
      refine ok_ret ⟨.inr rfl, ?_⟩
      -- ret1
      simp [resAll, resL, resA, frozE]
  · try simp at c1
    all_goals
      have hr := right_of c1.1 c1.2.1
      have hs := small_of c1.1
      have hs1 := hs.1
      have hs2 := hs.2.1
      have hap : 0 < g.atoms.length := List.length_pos_iff.2 c1.2.2
      obtain ⟨q, hq⟩ : ∃ q, n.tmod (g.atoms.length : Int) = q := ⟨_, rfl⟩
      have hqi : InP g q := by rw [← hq]; exact tmod_in hn.1 hap
      have hqi1 := hqi.1
      have hqi2 := hqi.2
      have w1 : max q 0 = q := by omega
      have k2 := cut_ctr2 q c1.1 hr
      have hsz := cut_size c1.1 hr hqi
      have hcr := cut_right hr hqi
      obtain ⟨a, ha, ea, k3⟩ := cut_place c1.1 hr hqi
      have k4 := rightG_ctr3 hcr
      have k5 := rightR_ctr4 hcr (by omega) (by omega) (nm_cut hr hg hqi)
      have k6 := cut_same c1.1 hr hqi ha ea
      have k7 := same_self (cutR g q) (by omega)
      have f1 : ¬ (a : Int) < 0 := by omega
      refine ok_skip ?_
      repeat refine ok_seq ?_
      refine ok_reg E [2, 5, 6] [] (by simp [wn, hq, -Option.some.injEq, -Prod.mk.injEq]; rfl) (by first | trivial | omega | simp | (simp; omega)) ?_
      repeat refine ok_seq ?_
      refine ok_reg E [2, 5, 6, 7] [.pure (pav (cutR g q))] (by simp [-Option.some.injEq, -Prod.mk.injEq]; rfl) (by (have q100 := k2; (try simp at q100); simp [q100])) ?_
      repeat refine ok_seq ?_
      refine ok_dr E rfl [2, 5, 7, 8] 8 [.pure (.d .i (a : Int))] (by decide) (by simp [nodupF]) (by simp [w1, -Option.some.injEq, -Prod.mk.injEq]; rfl) (by ((try simp at k3); simp [k3]; omega)) ?_
      repeat refine ok_seq ?_
      refine ok_dr E rfl [2, 5, 7, 66] 20 [.pure (.d .bool true), .pure (.d .bool true), .pure (pav (cutR g q)), .pure (.d .bool true)] (by decide) (by simp [nodupF]) (by simp [f1, -Option.some.injEq, -Prod.mk.injEq]; rfl) (by (have q100 := k4; (try simp at q100); have q101 := k5; (try simp at q101); have q102 := k6; (try simp at q102); have q103 := k7; (try simp at q103); simp [q100, q101, q102, q103])) ?_
      repeat refine ok_seq ?_
      refine ok_if rfl (fun c2 => ?_) (fun c2 => ?_)
      · exfalso; simp at c2
      · try simp at c2
        all_goals
          refine ok_skip ?_
          repeat refine ok_seq ?_
          refine ok_reg E [2, 5, 7, 9] [] (by simp [-Option.some.injEq, -Prod.mk.injEq]; rfl) (by first | trivial | omega | simp | (simp; omega)) ?_
          repeat refine ok_seq ?_
          refine ok_block ?_
          repeat refine ok_seq ?_
          refine ok_loop (σ := Nat) (fun i => [(2, .ptr 0 0), (5, .d .bool true), (7, .ptr 1 0), (9, .d .i (i : Int))]) (fun i => [.cells [.d .terms g.atoms, .d (.sl .rule) g.rules], .cells [.d .terms (cutR g q).atoms, .d (.sl .rule) (cutR g q).rules]]) (fun i => i ≤ (cutR g q).atoms.length) (fun i => (cutR g q).atoms.length - i) 0 (by simp) ?_ ?_
          · constructor <;> simp [EntF, EntH, EntB, Conv, scop]
          rintro i hi
          repeat refine ok_seq ?_
          refine ok_reg E [2, 5, 7, 9, 71] [] (by simp [-Option.some.injEq, -Prod.mk.injEq]; rfl) (by first | trivial | omega | simp | (simp; omega)) ?_
          repeat refine ok_seq ?_
          refine ok_if rfl (fun c3 => ?_) (fun c3 => ?_)
          · try simp at c3
            all_goals
              have k8 := find_ctr4 c1.1 hr hqi c3
              have hf := (cut_rng hr hqi c3).2.1
              have f2 : ¬ gi (leadsR g q) i < 0 := by omega
              obtain ⟨la, lb, k9, k10, hlen, hll, hboth⟩ := cut_both c1.1 hr hqi c3
              refine ok_skip ?_
              repeat refine ok_seq ?_
              refine ok_block ?_
              repeat refine ok_seq ?_
              refine ok_dr E rfl [2, 5, 7, 9, 10] 8 [.pure (.d .i (gi (leadsR g q) i))] (by decide) (by simp [nodupF]) (by simp [-Option.some.injEq, -Prod.mk.injEq]; rfl) (by ((try simp at k8); simp [k8, c3])) ?_
              repeat refine ok_seq ?_
              refine ok_reg E [2, 5, 7, 9, 10, 82] [] (by simp [f2, -Option.some.injEq, -Prod.mk.injEq]; rfl) (by first | trivial | omega | simp | (simp; omega)) ?_
              repeat refine ok_seq ?_
              refine ok_if rfl (fun c4 => ?_) (fun c4 => ?_)
              · exfalso; simp [f2] at c4
              · try simp at c4
                all_goals
                  refine ok_skip ?_
                  repeat refine ok_seq ?_
                  refine ok_reg E [2, 5, 7, 9, 10, 11] [.pure (.d .ints la)] (by simp [-Option.some.injEq, -Prod.mk.injEq]; rfl) (by (have q100 := k9; (try simp at q100); simp [q100])) ?_
                  repeat refine ok_seq ?_
                  refine ok_reg E [2, 5, 7, 9, 11, 12] [.pure (.d .ints lb)] (by simp [-Option.some.injEq, -Prod.mk.injEq]; rfl) (by (have q100 := k10; (try simp at q100); simp [q100])) ?_
                  repeat refine ok_seq ?_
                  refine ok_reg E [2, 5, 7, 9, 11, 12, 93] [] (by simp [hlen, -Option.some.injEq, -Prod.mk.injEq]; rfl) (by first | trivial | omega | simp | (simp; omega)) ?_
                  repeat refine ok_seq ?_
                  refine ok_if rfl (fun c5 => ?_) (fun c5 => ?_)
                  · exfalso; simp [hlen] at c5
                  · try simp at c5
                    all_goals
                      refine ok_skip ?_
                      repeat refine ok_seq ?_
                      refine ok_reg E [2, 5, 7, 9, 11, 12, 13] [] (by simp [-Option.some.injEq, -Prod.mk.injEq]; rfl) (by first | trivial | omega | simp | (simp; omega)) ?_
                      repeat refine ok_seq ?_
                      refine ok_block ?_
                      repeat refine ok_seq ?_
                      refine ok_loop (σ := Nat) (fun j => [(2, .ptr 0 0), (5, .d .bool true), (7, .ptr 1 0), (9, .d .i (i : Int)), (11, .d .ints la), (12, .d .ints lb), (13, .d .i (j : Int))]) (fun j => [.cells [.d .terms g.atoms, .d (.sl .rule) g.rules], .cells [.d .terms (cutR g q).atoms, .d (.sl .rule) (cutR g q).rules]]) (fun j => j ≤ la.length) (fun j => la.length - j) 0 (by simp) ?_ ?_
                      · constructor <;> simp [EntF, EntH, EntB, Conv, scop]
                      rintro j hj
                      repeat refine ok_seq ?_
                      refine ok_reg E [2, 5, 7, 9, 11, 12, 13, 97] [] (by simp [-Option.some.injEq, -Prod.mk.injEq]; rfl) (by first | trivial | omega | simp | (simp; omega)) ?_
                      repeat refine ok_seq ?_
                      refine ok_if rfl (fun c6 => ?_) (fun c6 => ?_)
                      · try simp at c6
                        all_goals
                          obtain ⟨hja, hjb, k11, k12⟩ := hboth j c6
                          have f3 : ¬ gi la j < 0 := by omega
                          have f4 : ¬ ((cutR g q).rules.length : Int) ≤ gi la j := by omega
                          have f5 : ¬ gi lb j < 0 := by omega
                          have f6 : ¬ (g.rules.length : Int) ≤ gi lb j := by omega
                          have w2 : max (gi la j) 0 = gi la j := by omega
                          have w3 : max (gi lb j) 0 = gi lb j := by omega
                          have hjl : j < lb.length := by omega
                          have k13 := term_self (instR g (gr g.rules (gi lb j))).head
                          have k14 := all_self (instR g (gr g.rules (gi lb j))).pos
                          have k15 := all_self (instR g (gr g.rules (gi lb j))).neg
                          refine ok_skip ?_
                          repeat refine ok_seq ?_
                          refine ok_block ?_
                          repeat refine ok_seq ?_
                          refine ok_dr E rfl [2, 5, 7, 9, 11, 12, 13, 131] 32 [] (by decide) (by simp [nodupF]) (by simp [f3, f4, f5, f6, -Option.some.injEq, -Prod.mk.injEq]; rfl) (by (simp [c6, hjl])) ?_
                          repeat refine ok_seq ?_
                          refine ok_if rfl (fun c7 => ?_) (fun c7 => ?_)
                          · exfalso; simp at c7
                          · try simp at c7
                            all_goals
                              refine ok_skip ?_
                              repeat refine ok_seq ?_
                              refine ok_drA E rfl [2, 5, 7, 9, 11, 12, 13, 14] 11 10 [.pure (avOf .inst (instR g (gr g.rules (gi lb j))))] (by decide) (by decide) (by simp [nodupF]) (by simp [w2, -Option.some.injEq, -Prod.mk.injEq]; rfl) (by ((try simp at k11); simp [k11, c6]; omega)) ?_
                              repeat refine ok_seq ?_
                              refine ok_drA E rfl [2, 5, 7, 9, 11, 12, 13, 14, 15] 11 10 [.pure (avOf .inst (instR g (gr g.rules (gi lb j))))] (by decide) (by decide) (by simp [nodupF]) (by simp [w3, -Option.some.injEq, -Prod.mk.injEq]; rfl) (by ((try simp at k12); simp [k12, hjl]; omega)) ?_
                              repeat refine ok_seq ?_
                              refine ok_reg E [2, 5, 7, 9, 11, 12, 13, 173] [.pure (.d .bool true), .pure (.d .bool true), .pure (.d .bool true)] (by simp [-Option.some.injEq, -Prod.mk.injEq]; rfl) (by (have q100 := k13; (try simp at q100); have q101 := k14; (try simp at q101); have q102 := k15; (try simp at q102); simp [q100, q101, q102])) ?_
                              repeat refine ok_seq ?_
                              refine ok_if rfl (fun c8 => ?_) (fun c8 => ?_)
                              · exfalso; simp at c8
                              · try simp at c8
                                all_goals
                                  refine ok_skip ?_
                                  repeat refine ok_seq ?_
                                  refine ok_reg E [2, 5, 7, 9, 11, 12, 13] [] (by simp [-Option.some.injEq, -Prod.mk.injEq]; rfl) (by first | trivial | omega | simp | (simp; omega)) ?_
                                  -- end21
                                  exact ⟨j + 1, by omega, by omega, by constructor <;> simp (disch := omega) [EntF, EntH, EntB, Conv, ConvL, scop, scopL, wrap_i64]⟩
                      · try simp at c6
                        all_goals
                          skip
                          refine ok_exit ?_
                          repeat refine ok_seq ?_
                          refine ok_reg E [2, 5, 7, 9] [] (by simp [-Option.some.injEq, -Prod.mk.injEq]; rfl) (by first | trivial | omega | simp | (simp; omega)) ?_
                          -- end01
                          exact ⟨i + 1, by omega, by omega, by constructor <;> simp (disch := omega) [EntF, EntH, EntB, Conv, ConvL, scop, scopL, wrap_i64]⟩
          · try simp at c3
            all_goals
              skip
              refine ok_exit ?_
              repeat refine ok_seq ?_
              refine ok_reg E [4] [] (by simp [-Option.some.injEq, -Prod.mk.injEq]; rfl) (by first | trivial | omega | simp | (simp; omega)) ?_
              refine ok_ret ⟨.inr rfl, ?_⟩
              -- ret2
              simp [resAll, resL, resA, frozE]

end Go.Proofs.YtgapiecbinplfaaGreat
