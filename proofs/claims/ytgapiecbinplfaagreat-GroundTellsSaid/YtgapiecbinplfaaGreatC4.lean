/- Own framework, walks and plain laws behind the law Tells, part 4. -/
import Derived.Test.YtgapiecbinplfaaGreatC3
import Derived.IntWalk
/- A function meets its contract, if its body does. -/
namespace Go.Proofs.YtgapiecbinplfaaGreat
open Go.RowKit

variable {P : Program} {m0 N : Nat} {ρ ρ' : Fr} {H H' : List Box} {Q : Exit → Fr → List Box → Prop}

/-- The cells of rows of the call's own are frozen at its end. -/
def fzEnd (n : Nat) (fz : Fz) (β : List Value) (H : List Box) : Fz := fun b o =>
  fz b o ∨ ∃ (i : Nat) (g : Value) (e : TypeId) (t : Ty) (xs : List t.den), n ≤ i ∧ β[i]? = some g ∧ H[i]? = some (.mrow e t xs) ∧ blkOf g = some b ∧ o < xs.length * t.size

section
variable {fz : Fz} {β : List Value} {w : World} {a : Act} {S : Start}

theorem later_end (n : Nat) (fz : Fz) (β : List Value) (H : List Box) (w : World) : Later fz w (fzEnd n fz β H) w := fun _ _ h => ⟨.inl h, rfl⟩

theorem frozE_ok (hb : BoxesOk fz β w H) {n : Nat} {x : AV} {v : Value} (h : RdA fz β w x v) : RdA (fzEnd n fz β H) β w (frozE n H x) v := by
  have hl := later_end n fz β H w
  cases x with
  | orow b =>
    have := (froz_ok hb h).mono hl
    exact this
  | mrow b =>
    simp only [frozE]
    split
    · rename_i hn
      split
      · rename_i e t xs hx
        simp only [RdA] at h ⊢
        obtain ⟨blk, c, vals, rfl, h1, h2, hh, ⟨rest, front, h3, h4⟩, hz⟩ := hb.ok b v _ h hx
        refine ⟨_, rfl, some ⟨blk, 0, none⟩, c, rfl, h1, h2, fun hne => ⟨blk, 0, rfl, fun i hi => ?_⟩⟩
        have hel := (ElsR.mono hl _ _ h4).get i hi
        have hlen := h4.length
        have hle : i * t.size + t.size ≤ xs.length * t.size := by
          have : (i + 1) * t.size ≤ xs.length * t.size := Nat.mul_le_mul_right _ hi
          rwa [Nat.add_mul, Nat.one_mul] at this
        refine ⟨_, hel.length, fun j hj => ?_, hel⟩
        have hj' : j < t.size := by rw [hel.length] at hj; exact hj
        refine ⟨.inr ⟨b, _, e, t, xs, hn, h, hx, rfl, by omega⟩, ?_⟩
        rw [cell_of_row w blk _ vals e (0, 0) hh, Nat.zero_add]
        have hh2 : front[i * t.size + j]? = some (((front.drop (i * t.size)).take t.size)[j]'hj) := by
          rw [List.getElem?_eq_getElem (by omega)]; simp [List.getElem_take, List.getElem_drop]
        have : vals.toList[i * t.size + j]? = front[i * t.size + j]? := by rw [h3, List.getElem?_append_left (by omega)]
        rw [← hh2, ← this]; simp
      · exact h.mono hl
    · exact h.mono hl
  | msl b k p m =>
    simp only [frozE]
    split
    · rename_i hn
      split
      · rename_i e t xs hx
        split
        · rename_i hkm
          obtain ⟨hk, hm⟩ := hkm
          simp only [RdA] at h ⊢
          obtain ⟨blk0, m0, c0, ad, c2, hg, rfl, hc1, hc2, hp⟩ := h
          obtain ⟨blk, c, vals, hg', h1, h2, hh, ⟨rest, front, h3, h4⟩, hz⟩ := hb.ok b _ _ hg hx
          cases hg'
          have hlm : ((xs.drop p).take m).length = m := by simp; omega
          refine ⟨_, rfl, ad, c2, by rw [hlm], by omega, hc2, fun hne => ?_⟩
          have hpos : 0 < m := by rw [← hlm]; exact List.length_pos_iff.2 hne
          refine ⟨blk0, p * k, hp hpos, fun i hi => ?_⟩
          rw [hlm] at hi
          have hel := (ElsR.mono hl _ _ h4).get (p + i) (by omega)
          have hlen := h4.length
          have hle : (p + i) * t.size + t.size ≤ xs.length * t.size := by
            have : (p + i + 1) * t.size ≤ xs.length * t.size := Nat.mul_le_mul_right _ (by omega)
            rwa [Nat.add_mul, Nat.one_mul] at this
          have hpi : p * k + i * t.size = (p + i) * t.size := by rw [hk, Nat.add_mul]
          refine ⟨_, hel.length, fun j hj => ?_, ?_⟩
          · have hj' : j < t.size := by rw [hel.length] at hj; exact hj
            rw [hpi]
            refine ⟨.inr ⟨b, _, e, t, xs, hn, hg, hx, rfl, by omega⟩, ?_⟩
            rw [cell_of_row w blk0 _ vals e (0, 0) hh]
            have hh2 : front[(p + i) * t.size + j]? = some (((front.drop ((p + i) * t.size)).take t.size)[j]'hj) := by
              rw [List.getElem?_eq_getElem (by omega)]; simp [List.getElem_take, List.getElem_drop]
            have : vals.toList[(p + i) * t.size + j]? = front[(p + i) * t.size + j]? := by rw [h3, List.getElem?_append_left (by omega)]
            rw [← hh2, ← this]; simp
          · have : ((xs.drop p).take m)[i]'(by rw [hlm]; exact hi) = xs[p + i]'(by omega) := by simp
            rw [this]; exact hel
        · exact h.mono hl
      · exact h.mono hl
    · exact h.mono hl
  | _ => exact h.mono hl

theorem frozEL_ok (hb : BoxesOk fz β w H) {n : Nat} : ∀ {xs : List AV} {vs : List Value}, RdL fz β w xs vs → RdL (fzEnd n fz β H) β w (xs.map (frozE n H)) vs
  | [], _, h => h
  | c :: cs, vs, h => by
    simp only [RdL] at h
    obtain ⟨v, r, h1, h2, h3⟩ := h
    simp only [List.map_cons, RdL]
    exact ⟨v, r, h1, frozE_ok hb h2, frozEL_ok hb h3⟩

def resOne (tmps : Array Value) : ResultVar → Sem Value
  | .tmp t => pure (tmps.getD t undef)
  | .cell a t => do loadVar t (← asAddr (tmps.getD a undef))

theorem results_eq (fn : Func) (tmps : Array Value) : results fn tmps = (do let vs ← fn.results.mapM (resOne tmps); pure (if h : vs.size = 1 then vs[0] else .tuple vs)) := by
  unfold results
  congr 1

theorem resA_ok (E : TEnv P) (h : Rel S m0 N fz β w a ρ H) {n : Nat} {rv : ResultVar} {x : AV} (hr : resA E.td n H ρ rv = some x) :
    ∃ v, (resOne a.tmps rv).run P w = .ok v w ∧ RdA (fzEnd n fz β H) β w x v := by
  cases rv with
  | tmp t =>
    simp only [resA, Option.map_eq_some_iff] at hr
    obtain ⟨y, hy, rfl⟩ := hr
    exact ⟨_, rfl, frozE_ok h.bx (h.fr.2.2 t y (look_mem hy)).2⟩
  | cell t T =>
    simp only [resA] at hr
    split at hr
    · rename_i b o d hy hd
      have hdo := E.tdok T d hd
      have h2 := (h.fr.2.2 t _ (look_mem hy)).2
      simp only [RdA] at h2
      obtain ⟨blk, hbt, hv⟩ := h2
      simp only [resOne, hv, asAddr]
      split at hr
      · rename_i cs hcs
        obtain ⟨blk', vs, e, hg, hheap, hl, _⟩ := h.bx.ok b _ _ hbt hcs
        cases hg
        have hcell : ∀ j v, vs.toList[j]? = some v → w.cell? ⟨blk, j, none⟩ = some v := fun j v hj => by
          rw [cell_of_row w blk j vs e (0, 0) hheap]; simpa using hj
        split at hr
        · rename_i ha
          split at hr
          · rename_i hlen
            cases hr
            have hvl := hl.length
            have hsl : ((vs.toList.drop o).take d.size).length = d.size := by simp; simp at hvl; omega
            have hld := run_loadVar_agg hdo ha (w := w) (p := ⟨blk, o, none⟩) hsl (fun j v hj => by
              rw [addr_add]
              refine hcell _ _ ?_
              rw [List.getElem?_take] at hj
              split at hj
              · simpa using hj
              · cases hj)
            refine ⟨_, by simpa [Instr.loadAt, Instr.sureAddr] using hld, ?_⟩
            simp only [RdA]; exact ⟨_, rfl, frozEL_ok h.bx ((hl.drop o).take d.size)⟩
          · cases hr
        · rename_i ha
          rw [Option.map_eq_some_iff] at hr
          obtain ⟨y, hy', rfl⟩ := hr
          obtain ⟨v, hv', hra⟩ := hl.get o y hy'
          have hld := run_loadVar_one hdo (by simpa using ha) (hcell _ _ hv')
          exact ⟨v, by simpa [Instr.loadAt, Instr.sureAddr] using hld, frozE_ok h.bx hra⟩
      · cases hr
    · cases hr

theorem resL_ok (E : TEnv P) (h : Rel S m0 N fz β w a ρ H) {n : Nat} : ∀ {rs : List ResultVar} {l : List AV}, resL E.td n H ρ rs = some l →
    ∃ vs, (rs.mapM (resOne a.tmps)).run P w = .ok vs w ∧ RdL (fzEnd n fz β H) β w l vs ∧ vs.length = rs.length
  | [], l, hr => by
    simp only [resL, Option.some.injEq] at hr; subst hr
    exact ⟨[], by simp, by simp [RdL], rfl⟩
  | rv :: rs, l, hr => by
    simp only [resL] at hr
    split at hr
    · rename_i x l' h1 h2
      cases hr
      obtain ⟨v, h3, h4⟩ := resA_ok E h h1
      obtain ⟨vs, h5, h6, h7⟩ := resL_ok E h h2
      refine ⟨v :: vs, ?_, by simp only [RdL]; exact ⟨v, vs, rfl, h4, h6⟩, by simp [h7]⟩
      rw [List.mapM_cons]
      simp only [Sem.run_bind, h3, Result.andThen_ok, h5, Sem.run_pure]
    · cases hr

theorem results_ok (E : TEnv P) (h : Rel S m0 N fz β w a ρ H) {n : Nat} {fn : Func} {x : AV} (hr : resAll E.td n H ρ fn.results.toList = some x) :
    ∃ v, (results fn a.tmps).run P w = .ok v w ∧ RdA (fzEnd n fz β H) β w x v := by
  unfold resAll at hr
  have key : ∀ l, resL E.td n H ρ fn.results.toList = some l → ∃ vs, (results fn a.tmps).run P w = .ok (if h : vs.toArray.size = 1 then vs.toArray[0] else .tuple vs.toArray) w ∧ RdL (fzEnd n fz β H) β w l vs := by
    intro l hl
    obtain ⟨vs, h1, h2, h3⟩ := resL_ok E h hl
    refine ⟨vs, ?_, h2⟩
    rw [results_eq, Array.mapM_eq_mapM_toList]
    simp only [Sem.run_bind, Sem.run_map, h1, Result.andThen_ok, Sem.run_pure]
  split at hr
  · rename_i y hl
    cases hr
    obtain ⟨vs, h1, h2⟩ := key _ hl
    simp only [RdL] at h2
    obtain ⟨v, r, rfl, h3, rfl⟩ := h2
    exact ⟨v, by rw [h1]; simp, h3⟩
  · rename_i l hne hl
    cases hr
    obtain ⟨vs, h1, h2⟩ := key _ hl
    have hlen := h2.length
    have : ¬ vs.toArray.size = 1 := by
      intro e
      simp at e
      match l, hlen with
      | [y], _ => exact hne y rfl
      | [], hl0 => simp at hl0; subst hl0; simp at e
      | _ :: _ :: _, hl2 => simp at hl2; omega
    rw [dif_neg this] at h1
    exact ⟨_, h1, by simp only [RdA]; exact ⟨vs, rfl, h2⟩⟩
  · cases hr

theorem endH_get {n : Nat} {H : List Box} : ∀ {k : Nat} {L : List Box} {i : Nat} {x : Box}, (endH n H k L)[i]? = some x → i < k ∧ ∃ y : Box, L[i]? = some y ∧ ((∃ cs, y = .cells cs ∧ x = .cells (cs.map (frozE n H))) ∨ ((∀ cs, y ≠ .cells cs) ∧ x = y))
  | 0, L, i, x, h => by simp [endH] at h
  | k + 1, [], i, x, h => by simp [endH] at h
  | k + 1, y :: r, 0, x, h => by
    refine ⟨by omega, y, rfl, ?_⟩
    cases y with
    | cells cs => simp [endH] at h; exact .inl ⟨cs, rfl, h.symm⟩
    | _ => simp [endH] at h; exact .inr ⟨(fun cs e => by cases e), h.symm⟩
  | k + 1, y :: r, i + 1, x, h => by
    have : (endH n H (k + 1) (y :: r))[i + 1]? = (endH n H k r)[i]? := by cases y <;> simp [endH]
    rw [this] at h
    obtain ⟨h1, z, h2, h3⟩ := endH_get h
    exact ⟨by omega, z, by simpa using h2, h3⟩

theorem frame0_mem : ∀ {xs : List AV} {i t : Nat} {x : AV}, (t, x) ∈ frame0 i xs → i ≤ t ∧ xs[t - i]? = some x
  | y :: ys, i, t, x, h => by
    simp only [frame0] at h
    rcases List.mem_cons.1 h with h | h
    · cases h; exact ⟨Nat.le_refl _, by simp⟩
    · obtain ⟨h1, h2⟩ := frame0_mem h
      exact ⟨by omega, by rw [show t - i = (t - (i + 1)) + 1 by omega]; simpa using h2⟩

/-- What a body must come to. -/
def Ends (E : TEnv P) (n : Nat) (rs : List ResultVar) (r : AV) (Hout : List Box) (e : Exit) (ρ : Fr) (H : List Box) : Prop :=
  (e = .normal ∨ e = .ret) ∧ resAll E.td n H ρ rs = some r ∧ endH n H n H = Hout ∧ n ≤ H.length ∧ scop n r = true

/-- THE FUNCTION. -/
theorem ctr_of (E : TEnv P) {f : FuncId} {fn : Func} {c : Code} (hf : P.funcs[f]? = some fn) (hb : fn.body = some c) {args : List AV} {Hin Hout : List Box} {r : AV} (hN : fn.ntmps = N) (hargs : args.length ≤ N)
    (hO : ∀ x ∈ Hin, x.isO = false) (hout : ∀ x ∈ Hout, x.scop Hin.length = true ∧ x.live = true) (hlen : Hout.length = Hin.length) (hin : ∀ x ∈ Hin, x.live = true)
    (h : Ok P Hin.length N c (Ends E Hin.length fn.results.toList r Hout) (frame0 0 args) Hin) : Ctr P f args Hin r Hout := by
  intro fz β w vs hbx hfz hr
  refine calls_of_wp hf hb ?_
  have hvl := hr.length
  let S : Start := ⟨w, fz, OwnOf β, β⟩
  have hrel : Rel S Hin.length N fz β w { tmps := vs.toArray ++ Array.replicate (fn.ntmps - vs.toArray.size) undef, defers := [] } (frame0 0 args) Hin := by
    refine ⟨⟨rfl, by simp [hN]; omega, fun t x hm => ?_⟩, hbx, fun i g x hg hx hl k hk => .inr ⟨i, g, hg, hk⟩, ⟨rfl, rfl, rfl, Nat.le_refl _, Nat.le_refl _, fun _ _ _ => rfl, Later.refl _ _, fun b o hz => .inl hz⟩, hfz, ⟨hbx.len, Nat.le_refl _, fun i _ => rfl, fun i x _ hx => hO x (List.mem_of_getElem? hx)⟩⟩
    obtain ⟨_, h2⟩ := frame0_mem hm
    simp only [Nat.sub_zero] at h2
    obtain ⟨v, hv, hra⟩ := hr.get t x h2
    have htl := (List.getElem?_eq_some_iff.1 hv).1
    refine ⟨by omega, ?_⟩
    have : (vs.toArray ++ Array.replicate (fn.ntmps - vs.toArray.size) undef).getD t undef = v := by
      rw [Array.getD_eq_getD_getElem?, Array.getElem?_append_left (by simpa using htl)]
      simp [hv]
    simp only [this]; exact hra
  refine wp_mono (h S fz β w _ hrel) fun e a' w' ⟨fz', β', ρ', H', hrel', he, hres, hend, hle, hsc⟩ => ?_
  obtain ⟨v, h1, h2⟩ := results_ok E hrel' hres
  have hpre := hrel'.pre
  have hsame : ∀ i, i < Hin.length → β'[i]? = β[i]? := hpre.same
  have hβn : ∀ i, i < Hin.length → β[i]? = β'[(List.range Hin.length).getD i 0]? := fun i hi => by simp [List.getD, hi, hsame i hi]
  have hfin : ∃ fz'', RdA fz'' β w' r v ∧ BoxesOk fz'' β w' Hout ∧ Anc ⟨w, fz, OwnOf β, β⟩ fz'' w' ∧ FzOk fz'' w' := by
    refine ⟨fzEnd Hin.length fz' β' H', ren_in hβn r v hsc (by rw [ren_same r hsc]; exact h2), ⟨by rw [hlen]; exact hbx.len, hbx.one, fun i g x hg hx => ?_, fun i j gi gj xi xj hij hgi hgj hxi hxj li lj => ?_⟩, ?_, ?_⟩
    · have hx' := hx
      rw [← hend] at hx
      obtain ⟨hi, y, hy, hc⟩ := endH_get hx
      have hg' : β'[i]? = some g := by rw [hsame i hi]; exact hg
      have hbox := hrel'.bx.ok i g y hg' hy
      have hs := hout x (List.mem_of_getElem? hx')
      have hnot : ∀ k o, y.live = true → blkOf g = some k → fzEnd Hin.length fz' β' H' k o → fz' k o := by
        intro k o hl hk hz
        rcases hz with hz | ⟨j, g', e', t, xs, hj, hg2, hx2, hk2, _⟩
        · exact hz
        · exact absurd hk2 (hrel'.bx.apart i j g g' y _ (by omega) hg' hg2 hy hx2 hl rfl k hk)
      rcases hc with ⟨cs, rfl, rfl⟩ | ⟨hnc, rfl⟩
      · obtain ⟨blk, us, e', rfl, hh, hl, hz⟩ := hbox
        refine ⟨blk, us, e', rfl, hh, renL_in hβn _ _ hs.1 (by rw [renL_same _ hs.1]; exact frozEL_ok hrel'.bx hl), fun o hz' => hz o (hnot blk o rfl rfl hz')⟩
      · have hk := hbox.keep (w' := w') (fz' := fzEnd Hin.length fz' β' H') (fun _ _ => rfl) (later_end _ _ _ _ _) (fun k o hk hz => hnot k o hs.2 hk hz)
        cases x with
        | cells cs => exact absurd rfl (hnc cs)
        | _ => exact hk
    · rw [← hend] at hxi hxj
      obtain ⟨hi, yi, a1, a2⟩ := endH_get hxi
      obtain ⟨hj, yj, b1, b2⟩ := endH_get hxj
      have l : ∀ (x y : Box), x.live = true → ((∃ cs, y = .cells cs ∧ x = .cells (cs.map (frozE Hin.length H'))) ∨ ((∀ cs, y ≠ .cells cs) ∧ x = y)) → y.live = true := by
        intro x y hl hh
        rcases hh with ⟨cs, rfl, rfl⟩ | ⟨_, rfl⟩
        · rfl
        · exact hl
      exact hrel'.bx.apart i j gi gj yi yj hij (by rw [hsame i hi]; exact hgi) (by rw [hsame j hj]; exact hgj) a1 b1 (l _ _ li a2) (l _ _ lj b2)
    · have ha := hrel'.anc
      refine ⟨ha.os, ha.tape, ha.output, ha.drawn, ha.size, ha.block, ha.later.trans (later_end _ _ _ _ _), fun b o hz => ?_⟩
      rcases hz with hz | ⟨j, g', e', t, xs, hj, hg2, hx2, hk2, _⟩
      · exact ha.news b o hz
      · rcases hrel'.mine j g' _ hg2 hx2 rfl b hk2 with h' | h'
        · exact .inr (.inl h')
        · exact .inr (.inr h')
    · intro b o hz
      rcases hz with hz | ⟨j, g', e', t, xs, hj, hg2, hx2, hk2, _⟩
      · exact hrel'.fzok b o hz
      · exact (hrel'.bx.ok j g' _ hg2 hx2).lt rfl hk2
  obtain ⟨fz'', e2⟩ := hfin
  rcases he with rfl | rfl
  · exact ⟨hrel'.fr.1, v, h1, v, fz'', rfl, e2⟩
  · exact ⟨hrel'.fr.1, v, h1, v, fz'', rfl, e2⟩

end
end Go.Proofs.YtgapiecbinplfaaGreat
/- A statement whose order is open: operations that only reckon, in any order, and behind them some whose order is forced. -/
namespace Go.Proofs.YtgapiecbinplfaaGreat
open Go.RowKit

variable {P : Program}

def tmpsOf : List Operand → List Nat
  | [] => []
  | .tmp t :: r => t :: tmpsOf r
  | _ :: r => tmpsOf r
def opTmps (op : Op) : List Nat := tmpsOf op.operands.toList
/-- What is known of some slots. -/
def mkF : List Nat → Fr → Fr
  | [], _ => []
  | t :: ts, ρ => match look ρ t with
    | some x => (t, x) :: mkF ts ρ
    | none => mkF ts ρ

/-- Is an operation one that may be carried out at any time? -/
def purish (op : Op) : Bool :=
  match op with
  | .buildSlice .. => true
  | op => opKind op != 1

def stepP (E : TEnv P) (all : List Oper) (o : Oper) (ρ : Fr) (H : List Box) (cs : List CO) : Option (AV × Prop × List CO) :=
  match guardA all ρ o.guard with
  | some false => some (.tup [], True, cs)
  | some true => if purish o.op = true then (match op1 E true (mkF (opTmps o.op) ρ) H o.op cs with
    | some (r, cs') => match r.x with
      | some x => some (x, r.ob ∧ r.H = H, cs')
      | none => none
    | none => none) else none
  | none => none

/-- Some operations that only reckon: what they give, one by one. -/
def runPure (E : TEnv P) (N : Nat) (all : List Oper) : List Oper → Fr → List Box → List CO → Option (List AV × Fr × Prop × List CO)
  | [], ρ, _, cs => some ([], ρ, True, cs)
  | o :: rest, ρ, H, cs => match o.dst with
    | some d => if d < N then (match stepP E all o ρ H cs with
      | some (x, ob, cs') => match runPure E N all rest ((d, x) :: del ρ d) H cs' with
        | some (xs, ρ', ob', cs'') => some (x :: xs, ρ', ob ∧ ob', cs'')
        | none => none
      | none => none) else none
    | none => none

/-- The step turns nothing of what may be known. -/
def Mono (fz : Fz) (β : List Value) (w : World) (fz' : Fz) (w' : World) (H : List Box) : Prop :=
  Later fz w fz' w' ∧ ∀ S m0 N a ρ, Rel S m0 N fz β w a ρ H → Rel S m0 N fz' β w' a ρ H

section
variable {fz fz' : Fz} {β β' : List Value} {w w' : World} {m0 N : Nat} {a : Act} {ρ : Fr} {H : List Box} {S : Start}

theorem op1_pure (E : TEnv P) (h : Rel S m0 N fz β w a ρ H) {o : Oper} {cs cs' : List CO} {r : Res} (hs : op1 E true ρ H o.op cs = some (r, cs')) (hob : r.ob) (hH : r.H = H) (hp : purish o.op = true)
    {K : Act → World → Prop} {Q : Exit → Act → World → Prop} (hK : ∀ fz' w' v, Mono fz β w fz' w' H → (∀ x, r.x = some x → RdA fz' β w' x v) → K (a.put o.dst v) w') : o.wp P a w K Q := by
  unfold op1 at hs
  split at hs
  · rw [Option.map_eq_some_iff] at hs
    obtain ⟨⟨x, ob⟩, hv, he⟩ := hs
    cases he
    obtain ⟨v, h1, h2⟩ := valOp_ok E h.fr h.bx hv hob
    exact wp_value h1 (hK fz w v ⟨Later.refl _ _, fun _ _ _ _ _ h => h⟩ (fun x hx => by cases hx; exact h2))
  · rename_i hk
    rw [Option.map_eq_some_iff] at hs
    obtain ⟨r', hv, he⟩ := hs
    cases he
    -- a slice literal, taken as data
    cases ho : o.op with
    | buildSlice t n parts =>
      rw [ho] at hv
      simp only [stOp] at hv
      split at hv
      · rename_i e τ l he hl
        split at hv
        · rename_i xs hx
          split at hv
          · rename_i hc
            obtain ⟨vals, h1, h2, h3⟩ := run_buildSlice E h.fr h.bx he hl hx hc.1 hc.2
            have hrun : (execOp a.eval o).run P w = .ok (.value (.slice (some ⟨w.heap.size, 0, none⟩) n n)) (w.alloc (.cells vals e)) := by
              have := run_v h1
              simpa only [execOp, ho] using this
            have hm : xs.length ≤ maxLen := by rw [h3]; have := hc.2; simp only [maxLen]; omega
            simp only [if_true] at hv
            cases hv
            obtain ⟨hl, _, h5⟩ := h.newData (vals := vals.toList) e h2 hm
            refine wp_value hrun (hK _ _ _ ⟨hl, fun S m0 N a ρ hr => (hr.newData (vals := vals.toList) e h2 hm).2.1⟩ (fun x hx => ?_))
            cases hx
            rw [h3] at h5
            exact h5
          · cases hv
        · cases hv
      · cases hv
    | _ => rw [ho] at hp hk; simp [purish, hk] at hp
  · split at hs
    · rename_i f as ts c cs'' hop
      rw [Option.map_eq_some_iff] at hs
      obtain ⟨r', hv, he⟩ := hs
      cases he
      have run : ∀ (g : Nat) (caps : List Value), a.eval f = .func (.func g) #[] caps.toArray → E.fnb g = true → (execOp a.eval o).run P w = .ok (.enter g ((as.toList.map a.eval) ++ caps).toArray) w := by
        intro g caps hf hg
        have := E.fnok g hg ((as.toList.map a.eval) ++ caps).toArray w
        have e : (as.map a.eval ++ caps.toArray) = ((as.toList.map a.eval) ++ caps).toArray := by apply Array.ext'; simp
        simp only [execOp, hop, resolve, hf, Deferred.ofValue, Sem.run_bind, Sem.run_pure, Result.andThen_ok, invoke, Array.empty_append]
        rw [e]; exact this
      cases c with
      | pure r0 =>
        simp only [callOp] at hv
        split at hv
        · rename_i g l hc
          split at hv
          · rename_i hcond
            cases hv
            obtain ⟨caps, hf, hr⟩ := callArgs_ok h hc
            unfold Oper.wp
            rw [run g caps hf hcond.1]
            refine (h.callPure hob ⟨hcond.2.1, hcond.2.2⟩ hr).mono fun e w' ⟨v, fz', he, hv, hb', ha', hz'⟩ => ?_
            subst he
            exact hK fz' w' v ⟨ha'.later, fun S m0 N a ρ hr => hr.afterPure hb' ha' hz'⟩ (fun x hx => by cases hx; exact hv)
          · cases hv
        · cases hv
      | full σ args0 Hin r0 Hout =>
        simp only [callOp] at hv
        split at hv
        · rename_i g l hc
          split at hv
          · rename_i hcond
            cases hv
            obtain ⟨caps, hf, hr⟩ := callArgs_ok h hc
            obtain ⟨h1, h2, h3, h4⟩ := hob
            unfold Oper.wp
            rw [run g caps hf hcond]
            rw [h2] at hr
            refine (h.call h1 h3 h4 hr).mono fun e w' ⟨v, fz', he, hv, hb', ha', hz'⟩ => ?_
            subst he
            refine hK fz' w' v ⟨ha'.later, fun S m0 N a ρ hr => ?_⟩ (fun x hx => by cases hx; exact hv)
            have := hr.after h3 ⟨h4.1, h4.2.1⟩ hb' ha' hz'
            rwa [show putH H σ (Hout.map (Box.ren σ)) = H from hH] at this
          · cases hv
        · cases hv
      | own bx =>
        simp only [callOp] at hv
        split at hv
        · split at hv
          · cases hv
            have := congrArg List.length hH
            simp at this
          · cases hv
        · cases hv
    · cases hs

theorem mkF_mem : ∀ {ts : List Nat} {ρ : Fr} {t : Nat} {x : AV}, (t, x) ∈ mkF ts ρ → t ∈ ts ∧ look ρ t = some x
  | u :: ts, ρ, t, x, h => by
    simp only [mkF] at h
    split at h
    · rename_i y hy
      rcases List.mem_cons.1 h with h | h
      · cases h; exact ⟨List.mem_cons_self, hy⟩
      · exact ⟨List.mem_cons_of_mem _ (mkF_mem h).1, (mkF_mem h).2⟩
    · exact ⟨List.mem_cons_of_mem _ (mkF_mem h).1, (mkF_mem h).2⟩
theorem mkF_look : ∀ {ts : List Nat} {ρ : Fr} {t : Nat} {x : AV}, t ∈ ts → look ρ t = some x → (t, x) ∈ mkF ts ρ
  | u :: ts, ρ, t, x, h, hl => by
    simp only [mkF]
    rcases List.mem_cons.1 h with h | h
    · subst h; rw [hl]; exact List.mem_cons_self
    · split
      · exact List.mem_cons_of_mem _ (mkF_look h hl)
      · exact mkF_look h hl

theorem look_del : ∀ {ρ : Fr} {t d : Nat}, look (del ρ d) t = if t = d then none else look ρ t
  | [], t, d => by simp [del, look]
  | (k, y) :: r, t, d => by
    simp only [del]
    split
    · rename_i hk
      subst hk
      rw [look_del]
      simp only [look]
      by_cases h : t = k
      · rw [if_pos h, if_pos h]
      · rw [if_neg h, if_neg h, if_neg h]
    · rename_i hk
      simp only [look]
      rw [look_del]
      by_cases h : t = k
      · subst h; rw [if_pos rfl, if_neg hk, if_pos rfl]
      · rw [if_neg h, if_neg h]
theorem look_put {ρ : Fr} {t d : Nat} {x : AV} : look ((d, x) :: del ρ d) t = if t = d then some x else look ρ t := by
  simp only [look]
  rw [look_del]
  by_cases h : t = d
  · rw [if_pos h, if_pos h]
  · rw [if_neg h, if_neg h, if_neg h]
end

/-! THE ORDER -/

def depsOf (o : Oper) : List Nat := (o.after.toList.filter (Region.binds .any)).map (·.on)
/-- The slots that an operation names. -/
def guardTmp (all : List Oper) (o : Oper) : List Nat :=
  match o.guard with
  | some (j, _) => ((all[j]?).bind (·.dst)).toList
  | none => []
def names (all : List Oper) (o : Oper) : List Nat := opTmps o.op ++ guardTmp all o ++ o.dst.toList
def clashO (all : List Oper) (x y : Oper) : Bool :=
  (match x.dst with | some d => (names all y).contains d | none => false) || (match y.dst with | some d => (names all x).contains d | none => false)
def reach (all : List Oper) : Nat → Nat → Nat → Bool
  | 0, _, _ => false
  | f + 1, k, i => match all[k]? with
    | some o => (depsOf o).any fun d => d == i || reach all f d i
    | none => false

/-- The first p operations may stand in any order, the others behind them in theirs. -/
def orderOk (all : List Oper) (p : Nat) : Bool :=
  ((List.range all.length).all fun i => match all[i]? with | some o => (depsOf o).all (· < i) | none => true) &&
  ((List.range all.length).all fun j => (List.range j).all fun i => match all[i]?, all[j]? with
    | some x, some y => !clashO all x y || (depsOf y).contains i
    | _, _ => true) &&
  ((List.range all.length).all fun k => decide (k < p) || (List.range k).all fun i => reach all all.length k i) && decide (p ≤ all.length)

structure OrdOk (all : List Oper) (p : Nat) : Prop where
  back : ∀ i o, all[i]? = some o → ∀ d ∈ depsOf o, d < i
  clash : ∀ i j x y, i < j → all[i]? = some x → all[j]? = some y → clashO all x y = true → i ∈ depsOf y
  tail : ∀ k i, p ≤ k → k < all.length → i < k → reach all all.length k i = true
  le : p ≤ all.length

theorem orderOk_iff {all : List Oper} {p : Nat} (h : orderOk all p = true) : OrdOk all p := by
  unfold orderOk at h
  simp only [Bool.and_eq_true, List.all_eq_true, List.mem_range, decide_eq_true_eq, Bool.or_eq_true] at h
  obtain ⟨⟨⟨h1, h2⟩, h3⟩, h4⟩ := h
  refine ⟨fun i o ho d hd => ?_, fun i j x y hij hx hy hc => ?_, fun k i hk hkl hi => ?_, h4⟩
  · have := h1 i (List.getElem?_eq_some_iff.1 ho).1
    rw [ho] at this
    simpa using List.all_eq_true.1 this d hd
  · have := h2 j (List.getElem?_eq_some_iff.1 hy).1 i hij
    rw [hx, hy] at this
    simpa [hc] using this
  · rcases h3 k hkl with h | h
    · omega
    · exact h i hi

end Go.Proofs.YtgapiecbinplfaaGreat
/- A statement whose order is open: whatever order is drawn, it comes to what the text's order comes to. -/
namespace Go.Proofs.YtgapiecbinplfaaGreat
open Go.RowKit

variable {P : Program}

def dstAt (all : List Oper) (i : Nat) : Option Nat := (all[i]?).bind (·.dst)

/-- Of the first i operations that are listed the last one that writes a slot. -/
def lastW (dst : Nat → Option Nat) (L : Nat → Bool) (t : Nat) : Nat → Option Nat
  | 0 => none
  | i + 1 => if L i = true ∧ dst i = some t then some i else lastW dst L t i

theorem lastW_same {dst : Nat → Option Nat} {L : Nat → Bool} {t i : Nat} : ∀ {p : Nat}, (∀ j, j < p → ((L j = true ∧ dst j = some t) ↔ (j < i ∧ dst j = some t))) → i ≤ p → lastW dst L t p = lastW dst (fun _ => true) t i
  | 0, _, hi => by
    have : i = 0 := by omega
    subst this; rfl
  | p + 1, h, hi => by
    by_cases hip : i = p + 1
    · subst hip
      simp only [lastW]
      have h1 := h p (by omega)
      have ih : lastW dst L t p = lastW dst (fun _ => true) t p := by
        refine lastW_same (i := p) (fun j hj => ?_) (Nat.le_refl _)
        rw [h j (by omega)]
        constructor
        · rintro ⟨_, h⟩; exact ⟨hj, h⟩
        · rintro ⟨_, h⟩; exact ⟨by omega, h⟩
      by_cases hd : dst p = some t
      · rw [if_pos (h1.2 ⟨by omega, hd⟩), if_pos ⟨by first | rfl | trivial, hd⟩]
      · rw [if_neg (fun e => hd e.2), if_neg (fun e => hd e.2), ih]
    · have h1 := h p (by omega)
      rw [lastW, if_neg (fun e => by have := (h1.1 e).1; omega)]
      exact lastW_same (fun j hj => h j (by omega)) (by omega)

theorem lastW_last {dst : Nat → Option Nat} {L : Nat → Bool} {t i : Nat} : ∀ {p : Nat}, i < p → L i = true → dst i = some t → (∀ j, i < j → j < p → ¬ (L j = true ∧ dst j = some t)) → lastW dst L t p = some i
  | p + 1, hi, hL, hd, h => by
    rw [lastW]
    by_cases hip : i = p
    · subst hip; rw [if_pos ⟨hL, hd⟩]
    · rw [if_neg (h p (by omega) (by omega))]
      exact lastW_last (by omega) hL hd (fun j h1 h2 => h j h1 (by omega))

theorem lastW_congr {dst : Nat → Option Nat} {L L' : Nat → Bool} {t : Nat} : ∀ {p : Nat}, (∀ j, j < p → dst j = some t → L j = L' j) → lastW dst L t p = lastW dst L' t p
  | 0, _ => rfl
  | p + 1, h => by
    rw [lastW, lastW, lastW_congr (fun j hj => h j (by omega))]
    by_cases hd : dst p = some t
    · rw [h p (by omega) hd]
    · rw [if_neg (fun e => hd e.2), if_neg (fun e => hd e.2)]

theorem lastW_some {dst : Nat → Option Nat} {L : Nat → Bool} {t j : Nat} : ∀ {p : Nat}, lastW dst L t p = some j → j < p ∧ dst j = some t ∧ L j = true
  | p + 1, h => by
    rw [lastW] at h
    split at h
    · rename_i hc; cases h; exact ⟨by omega, hc.2, hc.1⟩
    · obtain ⟨h1, h2⟩ := lastW_some h; exact ⟨by omega, h2⟩

def curOf (all : List Oper) (X : List AV) (ρ : Fr) (L : Nat → Bool) (p t : Nat) : Option AV :=
  match lastW (dstAt all) L t p with
  | some i => X[i]?
  | none => look ρ t

/-- What the operations give one by one, each told by its place. -/
theorem runPure_seq (E : TEnv P) {N : Nat} {all : List Oper} {H : List Box} {ρ0 : Fr} {p : Nat} : ∀ {l : List Oper} {k : Nat} {ρk : Fr} {cs cs' : List CO} {Xpre X : List AV} {ρp : Fr} {ob : Prop},
    (∀ j, l[j]? = if k + j < p then all[k + j]? else none) → k + l.length = p → Xpre.length = k → runPure E N all l ρk H cs = some (X, ρp, ob, cs') → ob →
    (∀ t, look ρk t = curOf all Xpre ρ0 (fun _ => true) k t) →
    X.length = l.length ∧ (∀ t, look ρp t = curOf all (Xpre ++ X) ρ0 (fun _ => true) p t) ∧
    ∀ i, k ≤ i → i < p → ∃ o d x ρi csi csi' obi, all[i]? = some o ∧ o.dst = some d ∧ d < N ∧ (Xpre ++ X)[i]? = some x ∧ stepP E all o ρi H csi = some (x, obi, csi') ∧ obi ∧
      ∀ t, look ρi t = curOf all (Xpre ++ X) ρ0 (fun _ => true) i t
  | [], k, ρk, cs, cs', Xpre, X, ρp, ob, hl, hk, hX, hr, hob, hc => by
    simp only [runPure, Option.some.injEq, Prod.mk.injEq] at hr
    obtain ⟨rfl, rfl, rfl, rfl⟩ := hr
    simp only [List.length_nil, Nat.add_zero] at hk
    subst hk
    exact ⟨rfl, by simpa using hc, fun i h1 h2 => by omega⟩
  | o :: l, k, ρk, cs, cs', Xpre, X, ρp, ob, hl, hk, hX, hr, hob, hc => by
    simp only [runPure] at hr
    split at hr
    · rename_i d hd
      split at hr
      · rename_i hdN
        split at hr
        · rename_i x obi csi' hst
          split at hr
          · rename_i xs ρ1 ob1 cs1 hrest
            cases hr
            have hkp : k < p := by simp at hk; omega
            have ho : all[k]? = some o := by have := hl 0; simpa [hkp] using this.symm
            have hdst : dstAt all k = some d := by simp [dstAt, ho, hd]
            have key : ∀ (Y : List AV) t, curOf all (Xpre ++ Y) ρ0 (fun _ => true) k t = curOf all Xpre ρ0 (fun _ => true) k t := by
              intro Y t
              unfold curOf
              split
              · rename_i j hj
                obtain ⟨h1, _⟩ := lastW_some hj
                rw [List.getElem?_append_left (by omega)]
              · rfl
            have hc' : ∀ t, look ((d, x) :: del ρk d) t = curOf all (Xpre ++ [x]) ρ0 (fun _ => true) (k + 1) t := by
              intro t
              rw [look_put]
              by_cases ht : t = d
              · subst ht
                rw [if_pos rfl]
                simp only [curOf, lastW]
                rw [if_pos ⟨trivial, hdst⟩]
                simp [← hX]
              · rw [if_neg ht, hc t, ← key [x] t]
                simp only [curOf, lastW]
                rw [if_neg (fun e => by have h2 := e.2; rw [hdst] at h2; exact ht (by injection h2 with h2; exact h2.symm))]
            obtain ⟨h1, h2, h3⟩ := runPure_seq E (p := p) (ρ0 := ρ0) (k := k + 1) (Xpre := Xpre ++ [x]) (fun j => by have := hl (j + 1); rw [show k + 1 + j = k + (j + 1) by omega]; simpa using this)
              (by simp at hk ⊢; omega) (by simp [hX]) hrest hob.2 hc'
            rw [List.append_assoc, List.singleton_append] at h2 h3
            refine ⟨by simp [h1], h2, fun i hi hip => ?_⟩
            by_cases hik : i = k
            · subst hik
              refine ⟨o, d, x, ρk, cs, csi', obi, ho, hd, hdN, ?_, hst, hob.1, fun t => ?_⟩
              · rw [List.getElem?_append_right (by omega)]; simp [hX]
              · rw [hc t, key]
            · exact h3 i (by omega) hip
          · cases hr
        · cases hr
      · cases hr
    · cases hr

def mkC (f : Nat → Option AV) : List Nat → Fr
  | [] => []
  | t :: ts => match f t with
    | some x => (t, x) :: mkC f ts
    | none => mkC f ts
theorem mkC_mem {f : Nat → Option AV} : ∀ {ts : List Nat} {t : Nat} {x : AV}, (t, x) ∈ mkC f ts → f t = some x
  | u :: ts, t, x, h => by
    simp only [mkC] at h
    split at h
    · rename_i y hy
      rcases List.mem_cons.1 h with h | h
      · cases h; exact hy
      · exact mkC_mem h
    · exact mkC_mem h
theorem mkC_in {f : Nat → Option AV} : ∀ {ts : List Nat} {t : Nat} {x : AV}, t ∈ ts → f t = some x → (t, x) ∈ mkC f ts
  | u :: ts, t, x, h, hl => by
    simp only [mkC]
    rcases List.mem_cons.1 h with h | h
    · subst h; rw [hl]; exact List.mem_cons_self
    · split
      · exact List.mem_cons_of_mem _ (mkC_in h hl)
      · exact mkC_in h hl

theorem look_mkF : ∀ {ts : List Nat} {ρ : Fr} {t : Nat}, t ∈ ts → look (mkF ts ρ) t = look ρ t
  | u :: ts, ρ, t, h => by
    simp only [mkF]
    by_cases hu : t = u
    · subst hu
      cases hl : look ρ t with
      | some x => simp only [look]; rw [if_pos trivial]
      | none =>
        simp only
        clear h
        induction ts with
        | nil => rfl
        | cons v ts ih =>
          simp only [mkF]
          split
          · rename_i y hy
            simp only [look]
            split
            · rename_i hv; subst hv; rw [hl] at hy; cases hy
            · exact ih
          · exact ih
    · have ht : t ∈ ts := by rcases List.mem_cons.1 h with h | h; exact absurd h hu; exact h
      split
      · simp only [look]; rw [if_neg hu]; exact look_mkF ht
      · exact look_mkF ht

theorem guardA_same {all : List Oper} {ρ ρ' : Fr} {o : Oper} (h : ∀ t ∈ guardTmp all o, look ρ t = look ρ' t) : guardA all ρ o.guard = guardA all ρ' o.guard := by
  unfold guardA
  split
  · rfl
  · rename_i j want hg
    split
    · rename_i t ht
      rw [h t (by simp [guardTmp, hg, ht])]
    · rfl

/-- How many are not listed. -/
def cntN (f : Nat → Bool) : Nat → Nat
  | 0 => 0
  | n + 1 => (if f n = true then 0 else 1) + cntN f n
theorem cntN_set {f g : Nat → Bool} {i : Nat} (hg : ∀ j, j ≠ i → g j = f j) (hi : f i = false) (hgi : g i = true) : ∀ {n : Nat}, i < n → cntN g n + 1 = cntN f n
  | n + 1, h => by
    simp only [cntN]
    by_cases hin : i = n
    · subst hin
      have : ∀ m, m ≤ i → cntN g m = cntN f m := by
        intro m hm
        induction m with
        | zero => rfl
        | succ m ih => simp only [cntN]; rw [hg m (by omega), ih (by omega)]
      rw [hi, hgi, this i (Nat.le_refl _)]; simp; omega
    · rw [hg n (Ne.symm hin), ← cntN_set hg hi hgi (n := n) (by omega)]; omega
theorem cntN_zero {f : Nat → Bool} : ∀ {n : Nat}, cntN f n = 0 → ∀ i, i < n → f i = true
  | n + 1, h, i, hi => by
    simp only [cntN] at h
    by_cases hin : i = n
    · subst hin
      cases hf : f i with
      | true => rfl
      | false => rw [hf] at h; simp at h
    · exact cntN_zero (n := n) (by omega) i (by omega)

def nodupF : Fr → Bool
  | [] => true
  | (k, _) :: r => (look r k).isNone && nodupF r
theorem nodupF_look : ∀ {ρ : Fr} {t : Nat} {x : AV}, nodupF ρ = true → (t, x) ∈ ρ → look ρ t = some x
  | (k, y) :: r, t, x, h, hm => by
    simp only [nodupF, Bool.and_eq_true] at h
    simp only [look]
    rcases List.mem_cons.1 hm with hm | hm
    · cases hm; rw [if_pos rfl]
    · have := nodupF_look h.2 hm
      by_cases hk : t = k
      · subst hk; rw [this] at h; simp at h
      · rw [if_neg hk]; exact this
theorem nodupF_del : ∀ {ρ : Fr} {d : Nat}, nodupF ρ = true → nodupF (del ρ d) = true
  | [], _, _ => rfl
  | (k, y) :: r, d, h => by
    simp only [nodupF, Bool.and_eq_true] at h
    simp only [del]
    split
    · exact nodupF_del h.2
    · simp only [nodupF, Bool.and_eq_true]
      refine ⟨?_, nodupF_del h.2⟩
      rw [look_del]; split
      · rfl
      · exact h.1
theorem nodupF_put {ρ : Fr} {d : Nat} {x : AV} (h : nodupF ρ = true) : nodupF ((d, x) :: del ρ d) = true := by
  simp only [nodupF, Bool.and_eq_true]
  refine ⟨?_, nodupF_del h⟩
  rw [look_del, if_pos rfl]; rfl
theorem nodupF_pure (E : TEnv P) {N : Nat} {all : List Oper} {H : List Box} : ∀ {l : List Oper} {ρ : Fr} {cs cs' : List CO} {X : List AV} {ρp : Fr} {ob : Prop},
    runPure E N all l ρ H cs = some (X, ρp, ob, cs') → nodupF ρ = true → nodupF ρp = true
  | [], ρ, cs, cs', X, ρp, ob, hr, h => by
    simp only [runPure, Option.some.injEq, Prod.mk.injEq] at hr
    obtain ⟨_, rfl, _⟩ := hr
    exact h
  | o :: l, ρ, cs, cs', X, ρp, ob, hr, h => by
    simp only [runPure] at hr
    split at hr
    · split at hr
      · split at hr
        · split at hr
          · rename_i hrest
            cases hr
            exact nodupF_pure E hrest (nodupF_put h)
          · cases hr
        · cases hr
      · cases hr
    · cases hr

end Go.Proofs.YtgapiecbinplfaaGreat
/- THE RULE for a statement whose order is open. -/
namespace Go.Proofs.YtgapiecbinplfaaGreat
open Go.RowKit

variable {P : Program} {m0 N : Nat} {ρ ρ' ρp : Fr} {H H' : List Box}

def Ltd (listed : Array Bool) (i : Nat) : Bool := listed.getD i false

/-- No operation is listed whose own ones are not. -/
def Closed (all : List Oper) (listed : Array Bool) : Prop := ∀ i o, all[i]? = some o → Ltd listed i = true → ∀ d ∈ depsOf o, Ltd listed d = true

theorem ready_mem {ops : Array Oper} {listed : Array Bool} (hs : listed.size = ops.size) {i : Nat} : i ∈ Region.ready .any ops listed ↔ i < ops.size ∧ Ltd listed i = false ∧ ∃ o, ops.toList[i]? = some o ∧ ∀ d ∈ depsOf o, Ltd listed d = true := by
  unfold Region.ready
  simp only [List.mem_filter, List.mem_range, Bool.and_eq_true, Bool.not_eq_true']
  constructor
  · rintro ⟨h1, h2, h3⟩
    refine ⟨h1, ?_, ops[i], by simp [h1], fun d hd => ?_⟩
    · simp only [Ltd, Array.getD_eq_getD_getElem?] at h2 ⊢
      rw [Array.getElem?_eq_getElem (by omega)] at h2 ⊢
      simpa using h2
    · rw [Array.getElem?_eq_getElem h1] at h3
      simp only [Option.map_some, Option.getD_some] at h3
      simp only [depsOf, List.mem_map, List.mem_filter] at hd
      obtain ⟨e, ⟨he, hb⟩, rfl⟩ := hd
      have := Array.all_eq_true_iff_forall_mem.1 h3 e (by simpa using he)
      rw [hb] at this
      simp only [Bool.not_true, Bool.false_or] at this
      exact this
  · rintro ⟨h1, h2, o, ho, hd⟩
    refine ⟨h1, ?_, ?_⟩
    · simp only [Ltd, Array.getD_eq_getD_getElem?] at h2 ⊢
      rw [Array.getElem?_eq_getElem (by omega)] at h2 ⊢
      simpa using h2
    · have ho' : ops[i]? = some o := by simpa using ho
      rw [ho']
      simp only [Option.map_some, Option.getD_some]
      rw [Array.all_eq_true_iff_forall_mem]
      intro e he
      by_cases hb : Region.binds .any e = true
      · have := hd e.on (by simp only [depsOf, List.mem_map, List.mem_filter]; exact ⟨e, ⟨by simpa using he, hb⟩, rfl⟩)
        rw [hb, Bool.not_true, Bool.false_or]
        exact this
      · simp [hb]

theorem ready_nil {ops : Array Oper} {p : Nat} (ho : OrdOk ops.toList p) {listed : Array Bool} (hs : listed.size = ops.size) (h : Region.ready .any ops listed = []) : ∀ i, i < ops.size → Ltd listed i = true := by
  intro i
  induction i using Nat.strongRecOn with
  | _ i ih =>
    intro hi
    cases hl : Ltd listed i with
    | true => rfl
    | false =>
      have : i ∈ Region.ready .any ops listed := (ready_mem hs).2 ⟨hi, hl, ops[i], by simp [hi], fun d hd => ih d (ho.back i _ (by simp [hi]) d hd) (by have := ho.back i _ (by simp [hi]) d hd; omega)⟩
      rw [h] at this; cases this

theorem reach_listed {all : List Oper} {listed : Array Bool} (hc : Closed all listed) : ∀ {f k i : Nat}, reach all f k i = true → (∃ o, all[k]? = some o ∧ ∀ d ∈ depsOf o, Ltd listed d = true) → Ltd listed i = true
  | f + 1, k, i, h, ⟨o, ho, hd⟩ => by
    simp only [reach, ho] at h
    rw [List.any_eq_true] at h
    obtain ⟨d, hdm, h⟩ := h
    simp only [Bool.or_eq_true, beq_iff_eq] at h
    rcases h with h | h
    · subst h; exact hd d hdm
    · cases hx : all[d]? with
      | none => cases f <;> simp [reach, hx] at h
      | some o' => exact reach_listed hc h ⟨o', hx, hc d o' hx (hd d hdm)⟩

theorem Ltd_set {listed : Array Bool} {i : Nat} (hi : i < listed.size) : (∀ j, j ≠ i → Ltd (listed.setIfInBounds i true) j = Ltd listed j) ∧ Ltd (listed.setIfInBounds i true) i = true := by
  refine ⟨fun j hj => ?_, ?_⟩
  · simp only [Ltd, Array.getD_eq_getD_getElem?, Array.getElem?_setIfInBounds]
    rw [if_neg (Ne.symm hj)]
  · simp only [Ltd, Array.getD_eq_getD_getElem?, Array.getElem?_setIfInBounds]
    simp [hi]

theorem closed_set {all : List Oper} {listed : Array Bool} {i : Nat} (hi : i < listed.size) (hc : Closed all listed) {o : Oper} (ho : all[i]? = some o) (hd : ∀ d ∈ depsOf o, Ltd listed d = true) : Closed all (listed.setIfInBounds i true) := by
  obtain ⟨h1, h2⟩ := Ltd_set hi
  have up : ∀ d, Ltd listed d = true → Ltd (listed.setIfInBounds i true) d = true := fun d h => by
    by_cases hdi : d = i
    · subst hdi; exact h2
    · rw [h1 d hdi]; exact h
  intro j o' hj hl d hdm
  by_cases hji : j = i
  · subst hji; rw [ho] at hj; cases hj; exact up d (hd d hdm)
  · rw [h1 j hji] at hl; exact up d (hc j o' hj hl d hdm)

section
variable {S : Start} {ops : Array Oper} {p : Nat} {X : List AV} {ob obt : Prop} {csp cs : List CO} {Qw : Exit → Act → World → Prop}

/-- Behind the operations that only reckon: the others, one by one. -/
theorem draw_tail (E : TEnv P) (hord : OrdOk ops.toList p) (hk : ∀ fz' β' w' a', Rel S m0 N fz' β' w' a' ρ' H' → Qw .normal a' w') : ∀ {fuel k : Nat} {listed : Array Bool} {fz : Fz} {β : List Value} {w : World} {a : Act} {ρk : Fr} {Hk : List Box} {csk : List CO} {obk : Prop},
    p ≤ k → k ≤ ops.size → listed.size = ops.size → (∀ i, i < ops.size → (Ltd listed i = true ↔ i < k)) → Closed ops.toList listed → ops.size - k ≤ fuel →
    runOps E N false ops.toList (ops.toList.drop k) ρk Hk csk = some (ρ', H', obk) → obk → Rel S m0 N fz β w a ρk Hk → wpAny P .any ops Qw fuel listed a w := by
  intro fuel
  induction fuel with
  | zero =>
    intro k listed fz β w a ρk Hk csk obk hpk hkn hsz hl hc hf hr hob h
    have hkn' : k = ops.size := by omega
    subst hkn'
    refine ⟨?_, ?_⟩
    · apply List.eq_nil_iff_forall_not_mem.2
      intro i hi
      obtain ⟨h1, h2, _⟩ := (ready_mem hsz).1 hi
      rw [(hl i h1).2 h1] at h2; cases h2
    · rw [← Array.length_toList, List.drop_length] at hr
      simp only [runOps, Option.some.injEq, Prod.mk.injEq] at hr
      obtain ⟨rfl, rfl, _⟩ := hr
      exact hk fz β w a h
  | succ fuel ih =>
    intro k listed fz β w a ρk Hk csk obk hpk hkn hsz hl hc hf hr hob h
    refine ⟨fun hnil => ?_, fun i hi => ?_⟩
    · have hall := ready_nil hord hsz hnil
      have hkn' : k = ops.size := by
        refine Nat.le_antisymm hkn (Nat.le_of_not_lt fun hlt => ?_)
        have := (hl k hlt).1 (hall k hlt); omega
      subst hkn'
      rw [← Array.length_toList, List.drop_length] at hr
      simp only [runOps, Option.some.injEq, Prod.mk.injEq] at hr
      obtain ⟨rfl, rfl, _⟩ := hr
      exact hk fz β w a h
    · obtain ⟨h1, h2, o, ho, hd⟩ := (ready_mem hsz).1 hi
      have hik : i = k := by
        have hki : k ≤ i := Nat.le_of_not_lt fun hlt => by rw [(hl i h1).2 hlt] at h2; cases h2
        refine Nat.le_antisymm (Nat.le_of_not_lt fun hlt => ?_) hki
        have := reach_listed hc (hord.tail i k (by omega) (by simpa using h1) hlt) ⟨o, ho, hd⟩
        have := (hl k (by omega)).1 this
        omega
      subst hik
      have ho' : ops[i]? = some o := by simpa using ho
      have hdrop : ops.toList.drop i = o :: ops.toList.drop (i + 1) := by
        rw [List.drop_eq_getElem_cons (by simpa using h1)]
        congr 1
        have := (List.getElem?_eq_some_iff.1 ho).2
        exact this
      rw [hdrop] at hr
      obtain ⟨s1, s2⟩ := Ltd_set (listed := listed) (i := i) (by omega)
      have hl' : ∀ j, j < ops.size → (Ltd (listed.setIfInBounds i true) j = true ↔ j < i + 1) := by
        intro j hj
        by_cases hji : j = i
        · subst hji; rw [s2]; simp
        · rw [s1 j hji, hl j hj]; omega
      have hnext : ∀ {fz' : Fz} {β' : List Value} {w' : World} {a' : Act} {ρ2 : Fr} {H2 : List Box} {cs2 : List CO} {ob2 : Prop}, runOps E N false ops.toList (ops.toList.drop (i + 1)) ρ2 H2 cs2 = some (ρ', H', ob2) → ob2 → Rel S m0 N fz' β' w' a' ρ2 H2 →
          wpAny P .any ops Qw fuel (listed.setIfInBounds i true) a' w' := fun e1 e2 e3 =>
        ih (k := i + 1) (by omega) (by omega) (by simpa using hsz) hl' (closed_set (by omega) hc ho hd) (by omega) e1 e2 e3
      unfold wpOp
      rw [ho']
      simp only [runOps] at hr
      change if Region.wanted o (yielded ops a.tmps) = true then _ else _
      split at hr
      · rename_i hg
        rw [if_pos (guardA_ok h.fr hg)]
        split at hr
        · rename_i r cs' h3
          split at hr
          · rename_i ρ1 hp1
            split at hr
            · rename_i ρ2 H2 ob2 h4
              cases hr
              exact .inl (op1x_ok E h h3 hob.1 _ _ fun fz' β' w' v hrel hx => hnext h4 hob.2 (put1_ok hrel hx hp1))
            · cases hr
          · cases hr
        · cases hr
      · rename_i hg
        rw [if_neg (by rw [guardA_ok h.fr hg]; simp)]
        split at hr
        · rename_i d hdst
          split at hr
          · rename_i hdN
            refine hnext hr hob (fz' := fz) (β' := β) ?_
            rw [hdst]
            exact ⟨h.fr.put hdN undef_ok, h.bx, h.mine, h.anc, h.fzok, h.pre⟩
          · cases hr
        · rename_i hdst
          rw [hdst]
          exact hnext hr hob h
      · cases hr

theorem FrR.of {fz : Fz} {β : List Value} {w : World} {a : Act} {ρ1 ρ2 : Fr} (hf : FrR fz β w N a ρ1) (hs : ∀ t x, (t, x) ∈ ρ2 → (t, x) ∈ ρ1) : FrR fz β w N a ρ2 := ⟨hf.1, hf.2.1, fun t x h => hf.2.2 t x (hs t x h)⟩
theorem Rel.of {fz : Fz} {β : List Value} {w : World} {a : Act} {ρ1 ρ2 : Fr} (h : Rel S m0 N fz β w a ρ1 H) (hs : ∀ t x, (t, x) ∈ ρ2 → (t, x) ∈ ρ1) : Rel S m0 N fz β w a ρ2 H :=
  ⟨h.fr.of hs, h.bx, h.mine, h.anc, h.fzok, h.pre⟩

theorem draw_any (E : TEnv P) (hord : OrdOk ops.toList p) (hnd : nodupF ρ = true) (hpure : runPure E N ops.toList (ops.toList.take p) ρ H cs = some (X, ρp, ob, csp)) (hob : ob)
    (htail : runOps E N false ops.toList (ops.toList.drop p) ρp H csp = some (ρ', H', obt)) (hobt : obt)
    (hk : ∀ fz' β' w' a', Rel S m0 N fz' β' w' a' ρ' H' → Qw .normal a' w') (keys : List Nat) (hkeys : ∀ t, (look ρ t ≠ none → t ∈ keys) ∧ ∀ i, dstAt ops.toList i = some t → t ∈ keys) :
    ∀ {fuel : Nat} {listed : Array Bool} {fz : Fz} {β : List Value} {w : World} {a : Act}, listed.size = ops.size → (∀ i, p ≤ i → i < ops.size → Ltd listed i = false) → Closed ops.toList listed →
      cntN (Ltd listed) ops.size ≤ fuel → Rel S m0 N fz β w a (mkC (curOf ops.toList X ρ (Ltd listed) p) keys) H → wpAny P .any ops Qw fuel listed a w := by
  have hple : p ≤ ops.size := by simpa using hord.le
  obtain ⟨hXl, hfin, hseq⟩ := runPure_seq E (ρ0 := ρ) (p := p) (k := 0) (Xpre := []) (fun j => by
      rw [List.getElem?_take]; simp) (by simp; omega) rfl hpure hob (fun t => by simp [curOf, lastW])
  simp only [List.nil_append] at hfin hseq
  have hndp := nodupF_pure E hpure hnd
  -- when all that only reckon are done
  have full : ∀ {fuel : Nat} {listed : Array Bool} {fz : Fz} {β : List Value} {w : World} {a : Act}, listed.size = ops.size → (∀ i, i < ops.size → (Ltd listed i = true ↔ i < p)) → Closed ops.toList listed →
      cntN (Ltd listed) ops.size ≤ fuel → Rel S m0 N fz β w a (mkC (curOf ops.toList X ρ (Ltd listed) p) keys) H → wpAny P .any ops Qw fuel listed a w := by
    intro fuel listed fz β w a hsz hl hc hf h
    have hcnt : ops.size - p ≤ fuel := by
      refine Nat.le_trans ?_ hf
      have : ∀ n, n ≤ ops.size → n - p ≤ cntN (Ltd listed) n := by
        intro n hn
        induction n with
        | zero => simp
        | succ n ih =>
          simp only [cntN]
          have := ih (by omega)
          by_cases hnp : n < p
          · omega
          · have : ¬ (Ltd listed n = true) := fun e => hnp ((hl n (by omega)).1 e)
            rw [if_neg this]; omega
      exact this _ (Nat.le_refl _)
    refine draw_tail E hord hk (Nat.le_refl _) hple hsz hl hc hcnt htail hobt (h.of fun t x hm => ?_)
    have hx := nodupF_look hndp hm
    rw [hfin t] at hx
    have hcur : curOf ops.toList X ρ (Ltd listed) p t = some x := by
      rw [← hx]
      unfold curOf
      rw [lastW_congr (L' := fun _ => true) (fun j hj _ => (hl j (by omega)).2 hj)]
    refine mkC_in ?_ hcur
    unfold curOf at hx
    split at hx
    · rename_i j hj
      exact (hkeys t).2 j (lastW_some hj).2.1
    · exact (hkeys t).1 (by rw [hx]; simp)
  intro fuel
  induction fuel with
  | zero =>
    intro listed fz β w a hsz hl hc hf h
    have hall : ∀ i, i < ops.size → Ltd listed i = true := cntN_zero (by omega)
    have hpn : p = ops.size := Nat.le_antisymm hple (Nat.le_of_not_lt fun hlt => by have := hl p (Nat.le_refl _) hlt; rw [hall p hlt] at this; cases this)
    refine full hsz (fun i hi => ⟨fun _ => ?_, fun _ => hall i hi⟩) hc hf h
    rw [hpn]; exact hi
  | succ fuel ih =>
    intro listed fz β w a hsz hl hc hf h
    by_cases hdone : ∀ i, i < p → Ltd listed i = true
    · exact full hsz (fun i hi => ⟨fun e => Nat.lt_of_not_le fun hpi => (by rw [hl i hpi hi] at e; cases e), fun hip => hdone i hip⟩) hc hf h
    · refine ⟨fun hnil => absurd (fun i hip => ready_nil hord hsz hnil i (by omega)) hdone, fun i hi => ?_⟩
      obtain ⟨h1, h2, o, ho, hd⟩ := (ready_mem hsz).1 hi
      have hip : i < p := by
        refine Nat.lt_of_not_le fun hpi => hdone fun j hj => ?_
        exact reach_listed hc (hord.tail i j hpi (by simpa using h1) (by omega)) ⟨o, ho, hd⟩
      obtain ⟨o', d, x, ρi, csi, csi', obi, ho', hdst, hdN, hXi, hst, hobi, hlook⟩ := hseq i (Nat.zero_le _) hip
      rw [ho] at ho'; cases ho'
      have hoa : ops[i]? = some o := by simpa using ho
      have hdsti : dstAt ops.toList i = some d := by simp [dstAt, ho, hdst]
      -- who writes a slot that o names
      have hW : ∀ t ∈ names ops.toList o, ∀ j, j < p → ((Ltd listed j = true ∧ dstAt ops.toList j = some t) ↔ (j < i ∧ dstAt ops.toList j = some t)) := by
        intro t ht j hj
        have hjo : ∃ oj, ops.toList[j]? = some oj := ⟨ops.toList[j]'(by simp; omega), List.getElem?_eq_getElem _⟩
        obtain ⟨oj, hoj⟩ := hjo
        constructor
        · rintro ⟨e1, e2⟩
          refine ⟨Nat.lt_of_not_le fun hij => ?_, e2⟩
          have e3 : oj.dst = some t := by simpa [dstAt, hoj] using e2
          rcases Nat.eq_or_lt_of_le hij with hij | hij
          · subst hij; rw [h2] at e1; cases e1
          · have := hord.clash i j o oj hij ho hoj (by simp [clashO, e3, ht])
            have := hc j oj hoj e1 i this
            rw [h2] at this; cases this
        · rintro ⟨e1, e2⟩
          have e3 : oj.dst = some t := by simpa [dstAt, hoj] using e2
          have := hord.clash j i oj o e1 hoj ho (by simp [clashO, e3, ht])
          exact ⟨hd j this, e2⟩
      have hcur : ∀ t ∈ names ops.toList o, curOf ops.toList X ρ (Ltd listed) p t = look ρi t := by
        intro t ht
        rw [hlook t]
        unfold curOf
        rw [lastW_same (hW t ht) (by omega)]
      have hin : ∀ t x, t ∈ names ops.toList o → look ρi t = some x → (t, x) ∈ mkC (curOf ops.toList X ρ (Ltd listed) p) keys := by
        intro t x ht hx
        have hc2 := (hcur t ht).trans hx
        refine mkC_in ?_ hc2
        unfold curOf at hc2
        split at hc2
        · rename_i j hj; exact (hkeys t).2 j (lastW_some hj).2.1
        · exact (hkeys t).1 (by rw [hc2]; simp)
      obtain ⟨s1, s2⟩ := Ltd_set (listed := listed) (i := i) (by omega)
      -- the state behind it
      have hafter : ∀ {fz' : Fz} {w' : World} {v : Value}, Mono fz β w fz' w' H → RdA fz' β w' x v → wpAny P .any ops Qw fuel (listed.setIfInBounds i true) (a.put o.dst v) w' := by
        intro fz' w' v hm hx
        refine ih (β := β) (fz := fz') (by simpa using hsz) (fun j hj hjn => ?_) (closed_set (by omega) hc ho hd) ?_ ?_
        · rw [s1 j (by omega)]; exact hl j hj hjn
        · have := cntN_set (f := Ltd listed) (g := Ltd (listed.setIfInBounds i true)) s1 h2 s2 h1
          omega
        · have hrel := hm.2 S m0 N a _ h
          rw [hdst]
          refine ⟨⟨hrel.fr.1, by simp [Act.put, hrel.fr.2.1], fun t y hty => ?_⟩, hrel.bx, hrel.mine, hrel.anc, hrel.fzok, hrel.pre⟩
          have hy := mkC_mem hty
          by_cases htd : t = d
          · subst htd
            have hlast : lastW (dstAt ops.toList) (Ltd (listed.setIfInBounds i true)) t p = some i := by
              refine lastW_last hip s2 hdsti (fun j hij hjp hj => ?_)
              rw [s1 j (by omega)] at hj
              have := ((hW t (by simp [names, hdst]) j hjp).1 hj).1
              omega
            unfold curOf at hy
            rw [hlast] at hy
            simp only [hXi, Option.some.injEq] at hy
            subst hy
            refine ⟨hdN, ?_⟩
            have : (a.put (some t) v).tmps.getD t undef = v := by
              simp [Act.put, Array.getD_eq_getD_getElem?, Array.getElem?_setIfInBounds, hrel.fr.2.1, hdN]
            rw [this]; exact hx
          · have hsame : curOf ops.toList X ρ (Ltd (listed.setIfInBounds i true)) p t = curOf ops.toList X ρ (Ltd listed) p t := by
              unfold curOf
              rw [lastW_congr (L' := Ltd listed) (fun j hj hjt => ?_)]
              by_cases hji : j = i
              · subst hji; rw [hdsti] at hjt; exact absurd (by injection hjt with e; exact e.symm) htd
              · exact s1 j hji
            rw [hsame] at hy
            have hmem : (t, y) ∈ mkC (curOf ops.toList X ρ (Ltd listed) p) keys := by
              refine mkC_in ?_ hy
              unfold curOf at hy
              split at hy
              · rename_i j hj; exact (hkeys t).2 j (lastW_some hj).2.1
              · exact (hkeys t).1 (by rw [hy]; simp)
            obtain ⟨e1, e2⟩ := hrel.fr.2.2 t y hmem
            refine ⟨e1, ?_⟩
            have : (a.put (some d) v).tmps.getD t undef = a.tmps.getD t undef := by
              simp only [Act.put, Array.getD_eq_getD_getElem?, Array.getElem?_setIfInBounds]
              rw [if_neg (Ne.symm htd)]
            rw [this]; exact e2
      unfold wpOp
      rw [hoa]
      change if Region.wanted o (yielded ops a.tmps) = true then _ else _
      unfold stepP at hst
      have hgsame : guardA ops.toList (mkF (guardTmp ops.toList o) ρi) o.guard = guardA ops.toList ρi o.guard := guardA_same fun t ht => look_mkF ht
      have hrelg : Rel S m0 N fz β w a (mkF (guardTmp ops.toList o) ρi) H := h.of fun t y hm => by
        obtain ⟨e1, e2⟩ := mkF_mem hm
        exact hin t y (by simp [names, e1]) e2
      split at hst
      · rename_i hg
        cases hst
        rw [← hgsame] at hg
        rw [if_neg (by rw [guardA_ok hrelg.fr hg]; simp)]
        exact hafter ⟨Later.refl _ _, fun _ _ _ _ _ h => h⟩ undef_ok
      · rename_i hg
        rw [← hgsame] at hg
        rw [if_pos (guardA_ok hrelg.fr hg)]
        split at hst
        · rename_i hpur
          split at hst
          · rename_i r cs' hop
            split at hst
            · rename_i y hy
              cases hst
              have hrelo : Rel S m0 N fz β w a (mkF (opTmps o.op) ρi) H := h.of fun t z hm => by
                obtain ⟨e1, e2⟩ := mkF_mem hm
                exact hin t z (by simp [names, e1]) e2
              exact .inl (op1_pure E hrelo hop hobi.1 hobi.2 hpur fun fz' w' v hm hx => hafter hm (hx _ hy))
            · cases hst
          · cases hst
        · cases hst
      · cases hst
end

/-- A region whose order is open: the first p operations only reckon; the others stand behind them in the order of the text. -/
theorem ok_draw (E : TEnv P) (hP : P.follows .mixedOrders = true) {Q : Exit → Fr → List Box → Prop} (keep : List Nat) (p : Nat) (cs : List CO) {id : Nat} {ops : Array Oper} {X : List AV} {csp : List CO} {ob obt : Prop}
    (hord : orderOk ops.toList p = true) (hnd : nodupF ρ = true)
    (hpure : runPure E N ops.toList (ops.toList.take p) ρ H cs = some (X, ρp, ob, csp)) (hob : ob)
    (htail : runOps E N false ops.toList (ops.toList.drop p) ρp H csp = some (ρ', H', obt)) (hobt : obt) (k : Q .normal (keepF keep ρ') H') : Ok P m0 N (.region id ops true) Q ρ H := by
  intro S fz β w a h
  refine wp_region_any hP ?_
  refine draw_any E (orderOk_iff hord) hnd hpure hob htail hobt (fun fz' β' w' a' hrel => ⟨fz', β', _, _, hrel.keep keep, k⟩) (ρ.map (·.1) ++ ops.toList.filterMap (·.dst)) (fun t => ⟨fun ht => ?_, fun i hi => ?_⟩)
    (by simp) (fun i _ hi => ?_) (fun i o ho hl => ?_) ?_ (h.drew.of fun t x hm => ?_)
  · cases hl : look ρ t with
    | none => exact absurd hl ht
    | some x => exact List.mem_append_left _ (List.mem_map.2 ⟨(t, x), look_mem hl, rfl⟩)
  · refine List.mem_append_right _ (List.mem_filterMap.2 ?_)
    unfold dstAt at hi
    cases ho : ops.toList[i]? with
    | none => simp [ho] at hi
    | some o => simp [ho] at hi; exact ⟨o, List.mem_of_getElem? ho, hi⟩
  · simp [Ltd, Array.getD_eq_getD_getElem?, hi]
  · have hi := (List.getElem?_eq_some_iff.1 ho).1
    simp only [Ltd, Array.getD_eq_getD_getElem?, Array.getElem?_replicate] at hl
    split at hl <;> simp at hl
  · have : ∀ n, cntN (Ltd (Array.replicate ops.size false)) n ≤ n := by
      intro n
      induction n with
      | zero => simp [cntN]
      | succ n ih => simp only [cntN]; split <;> omega
    exact this _
  · have hx := mkC_mem hm
    have hL : ∀ j, Ltd (Array.replicate ops.size false) j = false := by
      intro j
      simp only [Ltd, Array.getD_eq_getD_getElem?, Array.getElem?_replicate]
      split <;> rfl
    unfold curOf at hx
    split at hx
    · rename_i j hj
      have := (lastW_some hj).2.2
      rw [hL j] at this; cases this
    · exact look_mem hx

end Go.Proofs.YtgapiecbinplfaaGreat
/- The rules as a walk uses them: one line a region. -/
namespace Go.Proofs.YtgapiecbinplfaaGreat
open Go.RowKit

variable {P : Program} {m0 N : Nat} {ρ ρ' ρp : Fr} {H H' : List Box} {Q : Exit → Fr → List Box → Prop}

/-- A region in the text's order, and what of it is kept. -/
def evK (E : TEnv P) (N : Nat) (keep : List Nat) (ops : List Oper) (ρ : Fr) (H : List Box) (cs : List CO) : Option (Fr × List Box × Prop) :=
  match runOps E N false ops ops ρ H cs with
  | some (ρ', H', ob) => some (keepF keep ρ', H', ob)
  | none => none

/-- A region whose order is open. -/
def evD (E : TEnv P) (N p : Nat) (keep : List Nat) (ops : List Oper) (ρ : Fr) (H : List Box) (cs : List CO) : Option (Fr × List Box × Prop) :=
  match runPure E N ops (ops.take p) ρ H cs with
  | some (_, ρp, ob, csp) => match runOps E N false ops (ops.drop p) ρp H csp with
    | some (ρ', H', obt) => some (keepF keep ρ', H', ob ∧ obt)
    | none => none
  | none => none

theorem ok_reg (E : TEnv P) (keep : List Nat) (cs : List CO) {id : Nat} {ops : Array Oper} {ob : Prop} (hr : evK E N keep ops.toList ρ H cs = some (ρ', H', ob)) (hob : ob) (k : Q .normal ρ' H') : Ok P m0 N (.region id ops false) Q ρ H := by
  unfold evK at hr
  split at hr
  · rename_i ρ1 H1 ob1 h1
    cases hr
    exact ok_region E keep cs h1 hob k
  · cases hr
theorem ok_nx (E : TEnv P) (keep : List Nat) (cs : List CO) {id : Nat} {ops : Array Oper} {y : Code} {ob : Prop} (hr : evK E N keep ops.toList ρ H cs = some (ρ', H', ob)) (hob : ob) (k : Ok P m0 N y Q ρ' H') : Ok P m0 N (.seq (.region id ops false) y) Q ρ H :=
  ok_seq (ok_reg E keep cs hr hob k)
theorem ok_dr (E : TEnv P) (hP : P.follows .mixedOrders = true) (keep : List Nat) (p : Nat) (cs : List CO) {id : Nat} {ops : Array Oper} {ob : Prop} (hord : orderOk ops.toList p = true) (hnd : nodupF ρ = true)
    (hr : evD E N p keep ops.toList ρ H cs = some (ρ', H', ob)) (hob : ob) (k : Q .normal ρ' H') : Ok P m0 N (.region id ops true) Q ρ H := by
  unfold evD at hr
  split at hr
  · rename_i X ρ1 ob1 cs1 h1
    split at hr
    · rename_i ρ2 H2 ob2 h2
      cases hr
      exact ok_draw E hP keep p cs hord hnd h1 hob.1 h2 hob.2 k
    · cases hr
  · cases hr
theorem ok_drn (E : TEnv P) (hP : P.follows .mixedOrders = true) (keep : List Nat) (p : Nat) (cs : List CO) {id : Nat} {ops : Array Oper} {y : Code} {ob : Prop} (hord : orderOk ops.toList p = true) (hnd : nodupF ρ = true)
    (hr : evD E N p keep ops.toList ρ H cs = some (ρ', H', ob)) (hob : ob) (k : Ok P m0 N y Q ρ' H') : Ok P m0 N (.seq (.region id ops true) y) Q ρ H :=
  ok_seq (ok_dr E hP keep p cs hord hnd hr hob k)

/-- A function that takes data and hands back data. -/
theorem ctr_pure (E : TEnv P) {f : FuncId} {fn : Func} {c : Code} {n : Nat} {rs : Array ResultVar} (hf : P.funcs[f]? = some fn) (hb : fn.body = some c) {args : List AV} {r : AV} (hN : fn.ntmps = n) (hrs : fn.results = rs) (hargs : args.length ≤ n) (hsc : scop 0 r = true)
    (h : Ok P 0 n c (fun e ρ H => (e = .normal ∨ e = .ret) ∧ resAll E.td 0 H ρ rs.toList = some r) (frame0 0 args) []) : Ctr P f args [] r [] := by
  refine ctr_of E hf hb hN hargs (by simp) (by simp) rfl (by simp) ?_
  rw [hrs]
  refine ok_mono h fun e ρ H hq => ⟨hq.1, hq.2, ?_, Nat.zero_le _, hsc⟩
  cases H <;> rfl

/-- The end of a function. -/
theorem ok_fin {E : TEnv P} {rs : List ResultVar} {r : AV} (h : resAll E.td 0 H ρ rs = some r) : Ok P m0 N .ret (fun e ρ H => (e = .normal ∨ e = .ret) ∧ resAll E.td 0 H ρ rs = some r) ρ H :=
  ok_ret ⟨.inr rfl, h⟩

/-- A whole number of the machine that fits stays as it is. -/
theorem wrap_i64 {n : Int} (h1 : -9223372036854775808 ≤ n) (h2 : n ≤ 9223372036854775807) : IntKind.wrap .i64 n = n := by
  exact IntWalk.i64_in n ⟨h1, h2⟩

theorem ok_lenN {c : Code} {τ : Ty} {xs : List τ.den} (t : Nat) (ht : look ρ t = some (.d (.sl τ) xs)) (h : xs.length ≤ 9223372036854775807 → Ok P m0 N c Q ρ H) : Ok P m0 N c Q ρ H :=
  ok_len t ht fun hl => h (by simp only [maxLen] at hl; omega)

theorem at0_lt {t : Ty} {xs : List t.den} {i : Nat} (h : i < xs.length) : at0 t xs (i : Int) = xs[i] := by
  simp [at0, List.getD, h]

theorem ok_ent_q {c : Code} {ρ1 : Fr} {H1 : List Box} (h : Ok P m0 N c (fun e ρ' H' => e = .normal ∧ Ent ρ' H' ρ1 H1) ρ H) (k : Q .normal ρ1 H1) (hm : m0 ≤ H1.length := by first | exact Nat.zero_le _ | simp) : Ok P m0 N c Q ρ H :=
  fun S fz β w a hr => wp_mono (h S fz β w a hr) fun _ _ _ ⟨fz', _, _, _, hrel, he, hent⟩ => by subst he; exact ⟨fz', _, _, _, hrel.ent hent hm, k⟩

/-- A region whose outcome is told: by cases inside. -/
theorem ok_regJ (E : TEnv P) (new : Fr) (old keep : List Nat) (cs : List CO) {id : Nat} {ops : Array Oper} (h : ∃ ρ' H' ob, evK E N keep ops.toList ρ H cs = some (ρ', H', ob) ∧ ob ∧ Ent ρ' H' (new ++ keepF old ρ) H) (k : Q .normal (new ++ keepF old ρ) H)
    (hm : m0 ≤ H.length := by first | exact Nat.zero_le _ | simp) : Ok P m0 N (.region id ops false) Q ρ H := by
  obtain ⟨ρ', H', ob, h1, h2, h3⟩ := h
  exact ok_ent_q (ok_reg E keep cs h1 h2 ⟨rfl, h3⟩) k hm

theorem ok_drJ (E : TEnv P) (hP : P.follows .mixedOrders = true) (new : Fr) (old keep : List Nat) (p : Nat) (cs : List CO) {id : Nat} {ops : Array Oper} (hord : orderOk ops.toList p = true) (hnd : nodupF ρ = true) (h : ∃ ρ' H' ob, evD E N p keep ops.toList ρ H cs = some (ρ', H', ob) ∧ ob ∧ Ent ρ' H' (new ++ keepF old ρ) H) (k : Q .normal (new ++ keepF old ρ) H)
    (hm : m0 ≤ H.length := by first | exact Nat.zero_le _ | simp) : Ok P m0 N (.region id ops true) Q ρ H := by
  obtain ⟨ρ', H', ob, h1, h2, h3⟩ := h
  exact ok_ent_q (ok_dr E hP keep p cs hord hnd h1 h2 ⟨rfl, h3⟩) k hm
/-- What is known between two statements is told. -/
theorem ok_mid {x y : Code} (ρ1 : Fr) (H1 : List Box) (h : Ok P m0 N x (thenA (fun ρ' H' => Ent ρ' H' ρ1 H1) Q) ρ H) (k : Ok P m0 N y Q ρ1 H1) (hm : m0 ≤ H1.length := by first | exact Nat.zero_le _ | simp) : Ok P m0 N (.seq x y) Q ρ H :=
  ok_seq (ok_mono h fun e ρ' H' hq => by
    cases e with
    | normal => exact ok_ent hq k hm
    | _ => exact hq)

end Go.Proofs.YtgapiecbinplfaaGreat
