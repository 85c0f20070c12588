/- Own framework, walks and plain laws behind the law Tells, part 3. -/
import Derived.Test.YtgapiecbinplfaaGreatC2
/- Operations that write, lay blocks, or call: the function, and that the model's run does what it says. -/
namespace Go.Proofs.YtgapiecbinplfaaGreat
open Go.RowKit

/-- What a call gives: of a function that takes no box its result; of any other which boxes, and so on. -/
inductive CO where
  | pure (r : AV)
  | full (σ : List Nat) (args : List AV) (Hin : List Box) (r : AV) (Hout : List Box)
  | own (bx : Box)

/-- How a row of one's own is named. -/
def Box.named (b : Nat) : Box → Option AV
  | .orow .. => some (.orow b)
  | .mrow .. => some (.mrow b)
  | _ => none

def putCells (cs : List AV) (o : Nat) (xc : List AV) : List AV := cs.take o ++ xc ++ cs.drop (o + xc.length)

/-- A value's cells, as a variable of a type takes them. -/
def storeC (d : TD) (x : AV) : Option (List AV) :=
  match x with
  | .agg xc => if d.agg = true ∧ xc.length = d.size ∧ xc.all AV.one = true then some xc else none
  | x => if d.agg = false ∧ x.one = true then some [x] else none

/-- A value whose growing rows are seen as what they hold. -/
def frozA (H : List Box) : AV → AV
  | .agg cs => .agg (cs.map (froz H))
  | x => froz H x

def elems (τ : Ty) (H : List Box) : List (Nat × AV) → Option (List τ.den)
  | [] => some []
  | (_, x) :: r => do some ((← ofAV τ (frozA H x)) :: (← elems τ H r))

def callArgs (ρ : Fr) (H : List Box) (f : Operand) (args : Array Operand) : Option (Nat × List AV) :=
  match evA ρ f, evL ρ args.toList with
  | some (.fn g caps), some l => some (g, l.map (froz H) ++ caps.map fun c => .ptr c.1 c.2)
  | _, _ => none

variable {P : Program}

def callOp (E : TEnv P) (ρ : Fr) (H : List Box) (f : Operand) (args : Array Operand) : CO → Option Res
  | .pure r => match callArgs ρ H f args with
    | some (g, l) => if E.fnb g = true ∧ scopL 0 l = true ∧ scop 0 r = true then some ⟨some r, ρ, H, Ctr P g l [] r []⟩ else none
    | none => none
  | .full σ args0 Hin r Hout => match callArgs ρ H f args with
    | some (g, l) => if E.fnb g = true then some ⟨some (ren σ r), ρ, putH H σ (Hout.map (Box.ren σ)),
        Ctr P g args0 Hin r Hout ∧ l = renL σ args0 ∧ Takes H σ Hin ∧ (Hout.length = Hin.length ∧ (∀ x ∈ Hout, x.scop σ.length = true ∧ x.live = true ∧ x.isO = false) ∧ scop σ.length r = true ∧ scopL σ.length args0 = true)⟩ else none
    | none => none
  | .own bx => match callArgs ρ H f args, bx.named H.length with
    | some (g, l), some x => if E.fnb g = true ∧ scopL 0 l = true then some ⟨some x, ρ, H ++ [bx], CtrO P g l bx⟩ else none
    | _, _ => none

/-- A row some of whose things are wiped. -/
def clr (τ : Ty) (xs : List τ.den) (i n : Nat) : List τ.den := xs.take i ++ List.replicate n τ.dflt ++ xs.drop (i + n)

/-- What an operation does that writes or lays blocks. 'frz': a slice literal is taken as data. -/
def stOp (E : TEnv P) (frz : Bool) (ρ : Fr) (H : List Box) : Op → Option Res
  | .alloc e => match E.td e with
    | some d => some ⟨some (.ptr H.length 0), ρ, H ++ [.cells d.zero], True⟩
    | none => none
  | .box e v => match E.td e, evA ρ v with
    | some d, some x => match storeC d x with
      | some xc => some ⟨some (.ptr H.length 0), ρ, H ++ [.cells xc], True⟩
      | none => none
    | _, _ => none
  | .buildSlice t n parts => match E.el t, evP ρ parts.toList with
    | some (e, τ), some l => match elems τ H l with
      | some xs => if l.map (·.1) = List.range n ∧ n ≤ 1000 then
          (if frz = true then some ⟨some (.d (.sl τ) xs), ρ, H, True⟩ else some ⟨some (.orow H.length), ρ, H ++ [.orow e τ xs], True⟩)
        else none
      | none => none
    | _, _ => none
  | .makeSlice t l c => match E.el t, evA ρ l, evA ρ c with
    | some (e, τ), some (.d (.int _) n), some (.d (.int _) m) => some ⟨some (.mrow H.length), ρ, H ++ [.mrow e τ (List.replicate n.toNat τ.dflt)], inM m n⟩
    | _, _, _ => none
  | .store t y z => match E.td t, evA ρ y, evA ρ z with
    | some d, some (.ptr b o), some x => match storeC d x, H[b]? with
      | some xc, some (.cells cs) => if o + xc.length ≤ cs.length then some ⟨none, ρ, H.set b (.cells (putCells cs o xc)), True⟩ else none
      | _, _ => none
    | some d, some (.mptr b k i o), some x => match storeC d (frozA H x), H[b]? with
      | some xc, some (.mrow e τ xs) => if k = τ.size ∧ o + xc.length ≤ k then
          (match ofCells τ (putCells ((τ.cells (at0 τ xs i)).map DV.av) o xc) with
           | some y => some ⟨none, ρ, H.set b (.mrow e τ (xs.set i y)), i < xs.length⟩
           | none => none) else none
      | _, _ => none
    | _, _, _ => none
  | .call { callee := .builtin .append, args := as, argTypes := ts } => match as.toList, ts.toList with
    | [y, z], [t, t'] => if t = t' then (match E.el t, evA ρ y, (evA ρ z).map (froz H) with
      | some (e, τ'), some (.orow b), some x => match H[b]? with
        | some (.orow e' τ xs) => if e' = e ∧ τ.size = τ'.size then
            (match asTy (.sl τ) x with
             | some ys => some ⟨some (.orow b), snapF b τ xs ρ, (snapH b τ xs H).set b (.orow e τ (xs ++ ys)), xs.length + ys.length ≤ big⟩
             | none => none) else none
        | _ => none
      | some (e, τ), some .nilsl, some x => match asTy (.sl τ) x with
        | some ys => some ⟨some (.orow H.length), snapF H.length τ [] ρ, (snapH H.length τ [] (H ++ [.orow e τ []])).set H.length (.orow e τ ys), ys.length ≤ big⟩
        | none => none
      | _, _, _ => none) else none
    | _, _ => none
  | .call { callee := .builtin .clear, args := as, argTypes := ts } => match as.toList, ts.toList with
    | [y], [t] => match E.el t, evA ρ y with
      | some (_, τ'), some (.msl b k i n) => match H[b]? with
        | some (.mrow e τ xs) => if k = τ.size ∧ τ' = τ then some ⟨some (.tup []), ρ, H.set b (.mrow e τ (clr τ xs i n)), i + n ≤ xs.length⟩ else none
        | _ => none
      | _, _ => none
    | _, _ => none
  | _ => none

section
variable {fz fz' : Fz} {β β' : List Value} {w w' : World} {m0 N : Nat} {a : Act} {ρ : Fr} {H : List Box} {S : Start}

theorem wp_value {o : Oper} {v : Value} {K : Act → World → Prop} {Q : Exit → Act → World → Prop} (h : (execOp a.eval o).run P w = .ok (.value v) w') (hK : K (a.put o.dst v) w') : o.wp P a w K Q := by
  unfold Oper.wp; rw [h]; exact hK
theorem wp_skipped {o : Oper} {K : Act → World → Prop} {Q : Exit → Act → World → Prop} (h : (execOp a.eval o).run P w = .ok .skip w') (hK : K (a.put o.dst undef) w') : o.wp P a w K Q := by
  unfold Oper.wp; rw [h]; exact hK

theorem storeC_ok (hone : ∀ (b : Nat) (g : Value), β[b]? = some g → g.oneCell' = true) {d : TD} (h1 : d.agg = false → d.size = 1) {x : AV} {xc : List AV} {v : Value} (h : storeC d x = some xc) (hr : RdA fz β w x v) :
    RdL fz β w xc v.cells.toList ∧ xc.length = d.size ∧ ∀ u ∈ v.cells.toList, u.oneCell' = true := by
  unfold storeC at h
  split at h
  · rename_i ys
    split at h
    · rename_i hc
      cases h
      simp only [RdA] at hr
      obtain ⟨vs, rfl, hl⟩ := hr
      refine ⟨hl, hc.2.1, fun u hu => ?_⟩
      simp only [Value.cells] at hu
      obtain ⟨i, hi, rfl⟩ := List.getElem_of_mem hu
      have hlen := hl.length
      have hi' : i < vs.length := hi
      obtain ⟨v', hv', hra⟩ := hl.get i _ (List.getElem?_eq_getElem (by omega))
      rw [List.getElem?_eq_getElem hi'] at hv'
      cases hv'
      exact hra.one hone (List.all_eq_true.1 hc.2.2 _ (List.getElem_mem _))
    · cases h
  · rename_i x hx
    split at h
    · rename_i hc
      cases h
      have ho := hr.one hone hc.2
      rw [Value.cells_one ho]
      refine ⟨?_, (h1 hc.1).symm, fun u hu => by simp at hu; subst hu; exact ho⟩
      simp only [RdL]; exact ⟨v, [], rfl, hr, rfl⟩
    · cases h

theorem frozA_ok (hb : BoxesOk fz β w H) {x : AV} {v : Value} (h : RdA fz β w x v) : RdA fz β w (frozA H x) v := by
  unfold frozA
  split
  · simp only [RdA] at h ⊢
    obtain ⟨vs, h1, h2⟩ := h
    exact ⟨vs, h1, frozL_ok hb h2⟩
  · exact froz_ok hb h

theorem ofAV_ok (hone : ∀ (b : Nat) (g : Value), β[b]? = some g → g.oneCell' = true) {t : Ty} {x : AV} {y : t.den} {v : Value} (h : ofAV t x = some y) (hr : RdA fz β w x v) : ElR fz w t y v.cells.toList := by
  unfold ofAV at h
  cases x with
  | agg cs =>
    simp only [RdA] at hr
    obtain ⟨vs, rfl, hl⟩ := hr
    exact ofCells_ok h hl
  | _ =>
    simp only [AV.cs] at h
    have he : ElR fz w t y [v] := ofCells_ok h (by simp only [RdL]; exact ⟨v, [], rfl, hr, rfl⟩)
    have := ElR_one he v (by simp)
    rw [Value.cells_one this]
    exact he

/-- Slice literals: the cells of the parts, one behind the other. -/
theorem fold_put : ∀ (us : List Value) (off j : Nat) (cells : Array Value), off + j + us.length ≤ cells.size →
    ((us.zipIdx j).foldl (fun cs p => cs.setIfInBounds (off + p.2) p.1) cells).toList = cells.toList.take (off + j) ++ us ++ cells.toList.drop (off + j + us.length)
  | [], off, j, cells, _ => by simp
  | u :: us, off, j, cells, h => by
    simp only [List.length_cons] at h
    rw [List.zipIdx_cons, List.foldl_cons, fold_put us off (j + 1) _ (by simp; omega)]
    rw [Array.toList_setIfInBounds]
    have := list_seg_step cells.toList (off + j) u us (by simp; omega)
    simpa [Nat.add_assoc] using this

theorem fill_rows {k : Nat} : ∀ (vs : List Value) (m : Nat) (cells : Array Value), (∀ v ∈ vs, v.cells.size = k) → (m + vs.length) * k ≤ cells.size →
    ∃ out, Instr.fill (fun i => some (i * k, k)) cells ((List.range' m vs.length).zip vs) = some out ∧
      out.toList = cells.toList.take (m * k) ++ vs.flatMap (fun v => v.cells.toList) ++ cells.toList.drop ((m + vs.length) * k)
  | [], m, cells, _, _ => ⟨cells, by simp [Instr.fill], by simp⟩
  | v :: vs, m, cells, h1, h2 => by
    have hv := h1 v (by simp)
    simp only [List.length_cons] at h2
    have hk : (m + (vs.length + 1)) * k = m * k + k + vs.length * k := by rw [Nat.add_mul, Nat.add_mul]; omega
    rw [hk] at h2
    simp only [List.length_cons, List.range'_succ, List.zip_cons_cons, Instr.fill]
    have hno : ¬ (m * k + v.cells.size > cells.size) := by omega
    simp only [hv, ne_eq, not_true_eq_false, decide_false, Bool.false_or, decide_eq_true_eq, hno, if_false]
    have hf : (v.cells.zipIdx.foldl (fun cs (x : Value × Nat) => cs.setIfInBounds (m * k + x.2) x.1) cells).toList = cells.toList.take (m * k) ++ v.cells.toList ++ cells.toList.drop (m * k + k) := by
      rw [← Array.foldl_toList, Array.toList_zipIdx]
      have := fold_put v.cells.toList (m * k) 0 cells (by simp; omega)
      simpa [hv] using this
    have hsz : (v.cells.zipIdx.foldl (fun cs (x : Value × Nat) => cs.setIfInBounds (m * k + x.2) x.1) cells).size = cells.size := by
      rw [← Array.length_toList, hf]; simp [hv]; omega
    obtain ⟨out, h3, h4⟩ := fill_rows vs (m + 1) (v.cells.zipIdx.foldl (fun cs (x : Value × Nat) => cs.setIfInBounds (m * k + x.2) x.1) cells) (fun u hu => h1 u (by simp [hu])) (by rw [hsz, Nat.add_mul, Nat.add_mul]; omega)
    have hno' : (decide (m * k + k > cells.size)) = false := by simp; omega
    refine ⟨out, ?_, ?_⟩
    · rw [if_neg (by omega)]
      exact h3
    · rw [h4, hf]
      have e1 : (m + 1) * k = m * k + k := by rw [Nat.add_mul]; omega
      have e2 : (m + 1 + vs.length) * k = m * k + k + vs.length * k := by rw [Nat.add_mul, Nat.add_mul]; omega
      have l1 : (cells.toList.take (m * k) ++ v.cells.toList).length = m * k + k := by simp [hv]; omega
      rw [e1, e2, hk, List.take_append_of_le_length (by omega), List.take_of_length_le (by omega), List.drop_append, l1]
      rw [List.drop_eq_nil_of_le (by omega)]
      simp [List.drop_drop, Nat.add_assoc]

theorem elems_ok (hb : BoxesOk fz β w H) {τ : Ty} : ∀ {l : List (Nat × AV)} {xs : List τ.den} {vs : List Value}, elems τ H l = some xs → RdL fz β w (l.map (·.2)) vs →
    ElsR fz w τ xs (vs.flatMap fun v => v.cells.toList) ∧ (∀ v ∈ vs, v.cells.size = τ.size) ∧ xs.length = l.length
  | [], xs, vs, h, hr => by
    simp only [elems, Option.some.injEq] at h; subst h
    simp only [List.map_nil, RdL] at hr; subst hr
    exact ⟨rfl, by simp, rfl⟩
  | (i, x) :: l, xs, vs, h, hr => by
    simp only [elems, Option.bind_eq_bind, Option.bind_eq_some_iff] at h
    obtain ⟨y, hy, ys, hys, he⟩ := h
    cases he
    simp only [List.map_cons, RdL] at hr
    obtain ⟨v, r, rfl, h2, h3⟩ := hr
    have h4 := ofAV_ok hb.one hy (frozA_ok hb h2)
    obtain ⟨h5, h6, h7⟩ := elems_ok hb hys h3
    refine ⟨⟨_, _, by simp, h4, h5⟩, fun u hu => ?_, by simp [h7]⟩
    rcases List.mem_cons.1 hu with hu | hu
    · subst hu; rw [← Array.length_toList]; exact h4.length
    · exact h6 u hu

theorem evP_raw (hf : FrR fz β w N a ρ) : ∀ {ps : List (Nat × Operand)} {l : List (Nat × AV)}, evP ρ ps = some l →
    (l.map fun p => p.1) = (ps.map fun p => p.1) ∧ RdL fz β w (l.map fun p => p.2) (ps.map fun p => a.eval p.2)
  | [], l, h => by simp only [evP, Option.some.injEq] at h; subst h; simp [RdL]
  | (i, x) :: ps, l, h => by
    simp only [evP, Option.bind_eq_bind] at h
    cases h1 : evA ρ x with
    | none => simp [h1] at h
    | some y =>
      cases h2 : evP ρ ps with
      | none => simp [h1, h2] at h
      | some r =>
        simp [h1, h2] at h; subst h
        obtain ⟨h3, h4⟩ := evP_raw hf h2
        refine ⟨by simp [h3], ?_⟩
        simp only [List.map_cons, RdL]
        exact ⟨_, _, rfl, evA_ok hf h1, h4⟩

theorem run_buildSlice (E : TEnv P) (hf : FrR fz β w N a ρ) (hb : BoxesOk fz β w H) {t : TypeId} {n : Nat} {parts : Array (Nat × Operand)} {e : TypeId} {τ : Ty} {l : List (Nat × AV)} {xs : List τ.den}
    (he : E.el t = some (e, τ)) (hl : evP ρ parts.toList = some l) (hx : elems τ H l = some xs) (hn : l.map (·.1) = List.range n) (hn2 : n ≤ 1000) :
    ∃ vals, (Instr.buildSlice t n (parts.map fun (i, x) => (i, a.eval x))).run P w = .ok (.slice (some ⟨w.heap.size, 0, none⟩) n n) (w.alloc (.cells vals e)) ∧ ElsR fz w τ xs vals.toList ∧ xs.length = n := by
  have heo := E.elok t e τ he
  obtain ⟨i, z, hi1, hi2, hi3, hi4, hi5, hi6⟩ := heo.info
  obtain ⟨h1, h2⟩ := evP_raw hf hl
  obtain ⟨h3, h4, h5⟩ := elems_ok hb hx h2
  have hlen : l.length = n := by have := congrArg List.length hn; simpa using this
  have hzs : z.cells.size = τ.size := by have := (hi6 (fun _ _ => False) w).length; rw [Array.length_toList] at this; exact this
  have hτ : 0 < τ.size ∧ τ.size ≤ 3 := by cases τ <;> simp [Ty.size]
  have hpl : parts.toList.length = n := by have := congrArg List.length h1; simp at this; simpa [hlen] using this.symm
  have hparts : (parts.map fun (i, x) => (i, a.eval x)).toList = (List.range' 0 (parts.toList.map fun p => a.eval p.2).length).zip (parts.toList.map fun p => a.eval p.2) := by
    rw [List.length_map, hpl, ← List.range_eq_range', ← hn]
    rw [show l.map (·.1) = l.map fun p => p.1 from rfl, h1, List.zip_map', Array.toList_map]
  have hcs : n * τ.size ≤ 16777216 := by
    have : n * τ.size ≤ 1000 * 3 := Nat.mul_le_mul hn2 hτ.2
    omega
  let zeros : Array Value := (Array.range (n * τ.size)).map (z.cells[· % z.cells.size]!)
  obtain ⟨out, h6, h7⟩ := fill_rows (k := τ.size) (parts.toList.map fun p => a.eval p.2) 0 zeros h4 (by simp [zeros]; rw [show parts.size = n from by simpa using hpl]; exact Nat.le_refl _)
  refine ⟨out, ?_, ?_, by rw [h5, hlen]⟩
  · have hno : ¬ (16777216 < n * τ.size) := by omega
    by_cases hz : n * τ.size = 0
    · have hn0 : n = 0 := by rcases Nat.mul_eq_zero.1 hz with h | h <;> omega
      have hz0 : zeros = #[] := by simp [zeros, hz]
      rw [← hparts, hz0] at h6
      subst hn0
      simp [Instr.buildSlice, run_underlying heo.under, sizeOf, typeInfo, hi1, hi3]
      simp at h6
      simp [show Array.range 0 = #[] from rfl, h6, newRow]
    · rw [← hparts] at h6
      simp [Instr.buildSlice, run_underlying heo.under, sizeOf, typeInfo, zeroValue, hi1, hi2, hi3, hno, hz]
      have h6' : Instr.fill (fun i => some (i * τ.size, τ.size)) (Array.map (fun x => z.cells[x % z.cells.size]!) (Array.range (n * τ.size))) ((parts.map fun (i, x) => (i, a.eval x)).toList) = some out := h6
      simp at h6'
      simp [h6', newRow]
  · rw [h7]
    have : (0 + (parts.toList.map fun p => a.eval p.2).length) * τ.size = zeros.toList.length := by simp [zeros]; rw [show parts.size = n from by simpa using hpl]
    rw [this, List.drop_length]
    simpa using h3

end
end Go.Proofs.YtgapiecbinplfaaGreat
/- Operations that write, lay blocks, or call: the model's run does what the function says. -/
namespace Go.Proofs.YtgapiecbinplfaaGreat
open Go.RowKit

variable {P : Program} {fz fz' : Fz} {β β' : List Value} {w w' : World} {m0 N : Nat} {a : Act} {ρ : Fr} {H : List Box} {S : Start}

/-- What has been shown of an operation. -/
def OpOk (P : Program) (S : Start) (m0 N : Nat) (o : Oper) (a : Act) (w : World) (r : Res) : Prop :=
  ∀ (K : Act → World → Prop) (Q : Exit → Act → World → Prop),
    (∀ fz' β' w' v, Rel S m0 N fz' β' w' a r.ρ r.H → (∀ x, r.x = some x → RdA fz' β' w' x v) → K (a.put o.dst v) w') → o.wp P a w K Q

theorem callArgs_ok (h : Rel S m0 N fz β w a ρ H) {f : Operand} {args : Array Operand} {g : Nat} {l : List AV} (hc : callArgs ρ H f args = some (g, l)) :
    ∃ caps : List Value, a.eval f = .func (.func g) #[] caps.toArray ∧ RdL fz β w l ((args.toList.map a.eval) ++ caps) := by
  unfold callArgs at hc
  split at hc
  · rename_i g' caps l' hf hl
    cases hc
    have hr := evA_ok h.fr hf
    simp only [RdA] at hr
    obtain ⟨vs, hv, hcr⟩ := hr
    refine ⟨vs, hv, (frozL_ok h.bx (evL_ok h.fr hl)).append ?_⟩
    clear hv hf
    induction caps generalizing vs with
    | nil => cases hcr; simp [RdL]
    | cons c cs ih =>
      obtain ⟨blk, r, rfl, h2, h3⟩ := hcr
      simp only [List.map_cons, RdL]
      exact ⟨_, r, rfl, by simp only [RdA]; exact ⟨blk, h2, rfl⟩, ih r h3⟩
  · cases hc

theorem callOp_ok (E : TEnv P) (h : Rel S m0 N fz β w a ρ H) {o : Oper} {f : Operand} {args : Array Operand} {ts : Array TypeId} (ho : o.op = .call { callee := .value f, args := args, argTypes := ts }) {co : CO} {r : Res}
    (hs : callOp E ρ H f args co = some r) (hob : r.ob) : OpOk P S m0 N o a w r := by
  intro K Q hK
  have run : ∀ (g : Nat) (caps : List Value), a.eval f = .func (.func g) #[] caps.toArray → E.fnb g = true → (execOp a.eval o).run P w = .ok (.enter g ((args.toList.map a.eval) ++ caps).toArray) w := by
    intro g caps hf hg
    have := E.fnok g hg ((args.toList.map a.eval) ++ caps).toArray w
    have e : (args.map a.eval ++ caps.toArray) = ((args.toList.map a.eval) ++ caps).toArray := by apply Array.ext'; simp
    simp only [execOp, ho, resolve, hf, Deferred.ofValue, Sem.run_bind, Sem.run_pure, Result.andThen_ok, invoke, Array.empty_append]
    rw [e]; exact this
  cases co with
  | pure r0 =>
    simp only [callOp] at hs
    split at hs
    · rename_i g l hc
      split at hs
      · rename_i hcond
        cases hs
        obtain ⟨caps, hf, hr⟩ := callArgs_ok h hc
        unfold Oper.wp
        rw [run g caps hf hcond.1]
        refine (h.callPure hob ⟨hcond.2.1, hcond.2.2⟩ hr).mono fun e w' ⟨v, fz', he, hv, hb', ha', hz'⟩ => ?_
        subst he
        exact hK fz' β w' v (h.afterPure hb' ha' hz') (fun x hx => by cases hx; exact hv)
      · cases hs
    · cases hs
  | full σ args0 Hin r0 Hout =>
    simp only [callOp] at hs
    split at hs
    · rename_i g l hc
      split at hs
      · rename_i hcond
        cases hs
        obtain ⟨caps, hf, hr⟩ := callArgs_ok h hc
        obtain ⟨h1, h2, h3, h4⟩ := hob
        unfold Oper.wp
        rw [run g caps hf hcond]
        rw [h2] at hr
        refine (h.call h1 h3 h4 hr).mono fun e w' ⟨v, fz', he, hv, hb', ha', hz'⟩ => ?_
        subst he
        exact hK fz' β w' v (h.after h3 ⟨h4.1, h4.2.1⟩ hb' ha' hz') (fun x hx => by cases hx; exact hv)
      · cases hs
    · cases hs
  | own bx =>
    simp only [callOp] at hs
    split at hs
    · rename_i g l x hc hx
      split at hs
      · rename_i hcond
        cases hs
        obtain ⟨caps, hf, hr⟩ := callArgs_ok h hc
        unfold Oper.wp
        rw [run g caps hf hcond.1]
        refine (h.callOwn hob hcond.2 hr).mono fun e w' ⟨v, fz', he, h1, hb', hn, ha', hz'⟩ => ?_
        subst he
        refine hK fz' _ w' v (h.afterOwn h1 hb' hn ha' hz') (fun y hy => ?_)
        cases hy
        have hl := h.bx.len
        cases bx with
        | orow => simp only [Box.named, Option.some.injEq] at hx; subst hx; simp only [RdA]; rw [← hl]; simp
        | mrow => simp only [Box.named, Option.some.injEq] at hx; subst hx; simp only [RdA]; rw [← hl]; simp
        | _ => simp [Box.named] at hx
      · cases hs
    · cases hs

theorem st_alloc (E : TEnv P) (h : Rel S m0 N fz β w a ρ H) {o : Oper} {frz : Bool} {e : TypeId} (ho : o.op = .alloc e) {r : Res} (hs : stOp E frz ρ H (.alloc e) = some r) : OpOk P S m0 N o a w r := by
  intro K Q hK
  simp only [stOp] at hs
  split at hs
  · rename_i d hd
    cases hs
    obtain ⟨z, hz1, hz2, _⟩ := (E.tdok e d hd).zero
    have hrun : (execOp a.eval o).run P w = .ok (.value (.pointer (some ⟨w.heap.size, 0, none⟩))) (w.alloc (.cells z.cells e)) := by
      simp [execOp, ho, Instr.alloc, hz1, newVar, newRow]
    refine wp_value hrun (hK fz _ _ _ (h.newVar (cs := d.zero) (vs := z.cells.toList) e (hz2 fz β w)) (fun x hx => ?_))
    cases hx
    simp only [RdA]
    exact ⟨w.heap.size, by unfold BAt; rw [← h.bx.len]; simp, rfl⟩
  · cases hs

theorem st_box (E : TEnv P) (h : Rel S m0 N fz β w a ρ H) {o : Oper} {frz : Bool} {e : TypeId} {y : Operand} (ho : o.op = .box e y) {r : Res} (hs : stOp E frz ρ H (.box e y) = some r) : OpOk P S m0 N o a w r := by
  intro K Q hK
  simp only [stOp] at hs
  split at hs
  · rename_i d x hd hx
    split at hs
    · rename_i xc hxc
      cases hs
      obtain ⟨h1, h2, h3⟩ := storeC_ok h.bx.one (E.tdok e d hd).one hxc (evA_ok h.fr hx)
      have hrun : (execOp a.eval o).run P w = .ok (.value (.pointer (some ⟨w.heap.size, 0, none⟩))) (w.alloc (.cells (a.eval y).cells e)) := by
        simp [execOp, ho, Instr.box, newVar, newRow]
      refine wp_value hrun (hK fz _ _ _ (by simpa using h.newVar (cs := xc) (vs := (a.eval y).cells.toList) e h1) (fun x hx => ?_))
      cases hx
      simp only [RdA]
      exact ⟨w.heap.size, by unfold BAt; rw [← h.bx.len]; simp, rfl⟩
    · cases hs
  · cases hs

theorem st_buildSlice (E : TEnv P) (h : Rel S m0 N fz β w a ρ H) {o : Oper} {frz : Bool} {t : TypeId} {n : Nat} {parts : Array (Nat × Operand)} (ho : o.op = .buildSlice t n parts) {r : Res}
    (hs : stOp E frz ρ H (.buildSlice t n parts) = some r) : OpOk P S m0 N o a w r := by
  intro K Q hK
  simp only [stOp] at hs
  split at hs
  · rename_i e τ l he hl
    split at hs
    · rename_i xs hx
      split at hs
      · rename_i hc
        obtain ⟨vals, h1, h2, h3⟩ := run_buildSlice E h.fr h.bx he hl hx hc.1 hc.2
        have hrun : (execOp a.eval o).run P w = .ok (.value (.slice (some ⟨w.heap.size, 0, none⟩) n n)) (w.alloc (.cells vals e)) := by
          have := run_v h1
          simpa only [execOp, ho] using this
        have hm : xs.length ≤ maxLen := by rw [h3]; have := hc.2; simp only [maxLen]; omega
        split at hs
        · cases hs
          obtain ⟨_, h4, h5⟩ := h.newData (vals := vals.toList) e h2 hm
          refine wp_value hrun (hK _ β _ _ h4 (fun x hx => ?_))
          cases hx
          rw [h3] at h5
          exact h5
        · cases hs
          obtain ⟨fz', h4⟩ := h.newRow (vals := vals.toList) e h2 hm
          refine wp_value hrun (hK fz' _ _ _ h4 (fun x hx => ?_))
          cases hx
          simp only [RdA]
          rw [← h.bx.len, h3]; simp
      · cases hs
    · cases hs
  · cases hs

theorem els_replicate {τ : Ty} {cs : List Value} (hc : ElR fz w τ τ.dflt cs) : ∀ n, ElsR fz w τ (List.replicate n τ.dflt) ((List.replicate n cs).flatten)
  | 0 => rfl
  | n + 1 => ⟨cs, _, rfl, hc, els_replicate hc n⟩

theorem madeCells_eq (z : Array Value) (n : Nat) (hz : 0 < z.size) : (madeCells z (n * z.size)).toList = (List.replicate n z.toList).flatten := by
  apply List.ext_getElem?
  intro j
  induction n generalizing j with
  | zero => simp [madeCells]
  | succ n ih =>
    rw [List.replicate_succ, List.flatten_cons]
    by_cases hj : j < z.size
    · rw [List.getElem?_append_left (by simpa using hj)]
      have h1 : j < (n + 1) * z.size := by rw [Nat.add_mul]; omega
      simp [madeCells, h1, Nat.mod_eq_of_lt hj, hj]
    · rw [List.getElem?_append_right (by simpa using Nat.le_of_not_lt hj), Array.length_toList, ← ih (j - z.size)]
      have e : (j - z.size) % z.size = j % z.size := (Nat.mod_eq_sub_mod (Nat.le_of_not_lt hj)).symm
      by_cases h1 : j < (n + 1) * z.size
      · have h2 : j - z.size < n * z.size := by rw [Nat.add_mul] at h1; omega
        simp [madeCells, h1, h2, e]
      · have h2 : ¬ (j - z.size < n * z.size) := by rw [Nat.add_mul] at h1; omega
        simp [madeCells, h1, h2]

theorem st_makeSlice (E : TEnv P) (h : Rel S m0 N fz β w a ρ H) {o : Oper} {frz : Bool} {t : TypeId} {y z : Operand} (ho : o.op = .makeSlice t y z) {r : Res}
    (hs : stOp E frz ρ H (.makeSlice t y z) = some r) (hob : r.ob) : OpOk P S m0 N o a w r := by
  intro K Q hK
  simp only [stOp] at hs
  split at hs
  · rename_i e τ k n k' m he hy hz
    cases hs
    obtain ⟨rfl, h0, hb⟩ := hob
    have heo := E.elok t e τ he
    obtain ⟨i, zz, hi1, hi2, hi3, hi4, hi5, hi6⟩ := heo.info
    have hr1 := evA_ok h.fr hy
    have hr2 := evA_ok h.fr hz
    simp only [RdA, ElR, List.cons.injEq, and_true] at hr1 hr2
    obtain ⟨q, hq⟩ : ∃ q : Int, q = m := ⟨m, rfl⟩
    have hbb : q ≤ ((big : Nat) : Int) := by rw [hq]; exact hb
    have h0 : (0 : Int) ≤ q := by rw [hq]; exact h0
    have hbb : q ≤ (1099511627776 : Int) := by simpa [big] using hbb
    clear hb
    subst hq
    have hbytes : (i.bytes : Int) * q ≤ 281474976710656 := by
      have h1 : (i.bytes : Int) ≤ 128 := by omega
      calc (i.bytes : Int) * q ≤ 128 * q := Int.mul_le_mul_of_nonneg_right h1 h0
        _ ≤ _ := by omega
    have hmk := run_make (P := P) w t e i zz heo.under hi1 hi2 k k' q q h0 (Int.le_refl _) hbytes (by omega)
    have hzs : zz.cells.size = τ.size := by have := (hi6 (fun _ _ => False) w).length; rw [Array.length_toList] at this; exact this
    have hτ : 0 < τ.size := by cases τ <;> simp [Ty.size]
    have hel : ElsR fz w τ (List.replicate q.toNat τ.dflt) (madeCells zz.cells (q.toNat * i.size)).toList := by
      rw [hi3, ← hzs, madeCells_eq _ _ (by omega)]
      exact els_replicate (hi6 fz w) _
    have hrun : (execOp a.eval o).run P w = .ok (.value (.slice (some ⟨w.heap.size, 0, none⟩) q.toNat q.toNat)) (w.alloc (.cells (madeCells zz.cells (q.toNat * i.size)) e)) := by
      have := run_v hmk
      simpa only [execOp, ho, hr1, hr2] using this
    have hrel := h.newMrow e hel (by simp [maxLen]; omega)
    simp only [List.length_replicate] at hrel
    refine wp_value hrun (hK fz _ _ _ hrel (fun x hx => ?_))
    cases hx
    simp only [RdA]
    rw [← h.bx.len]; simp
  · cases hs

theorem run_storeAt {t : TypeId} {d : TD} (hd : TdOk P t d) {blk o : Nat} {v : Value} {cur : Array Value} {e : TypeId} (hg : w.heap[blk]? = some (.cells cur e (0, 0))) (hl : v.cells.toList.length = d.size)
    (ho : o + v.cells.toList.length ≤ cur.size) (h1 : ∀ u ∈ v.cells.toList, u.oneCell' = true) :
    (Instr.storeAt t (.pointer (some ⟨blk, o, none⟩)) v).run P w = .ok () (w.setRow blk (cur.toList.take o ++ v.cells.toList ++ cur.toList.drop (o + v.cells.toList.length)).toArray) := by
  have hst := run_storeCells_at P blk o e v.cells.toList 0 cur w hg (by simpa using ho) h1
  have hsz : v.cells.size = d.size := by rw [← Array.length_toList]; exact hl
  simp only [Nat.add_zero] at hst
  simp [Instr.storeAt, Instr.sureAddr, storeVar, hd.sizeOf, hsz, hst]

theorem putCells_ok {cs xc : List AV} {vs us : List Value} (h : RdL fz β w cs vs) (k : RdL fz β w xc us) (o : Nat) :
    RdL fz β w (putCells cs o xc) (vs.take o ++ us ++ vs.drop (o + us.length)) := by
  unfold putCells
  have hl := k.length
  rw [← hl]
  exact ((h.take o).append k).append (h.drop _)

theorem ElsR.split {τ : Ty} : ∀ {xs : List τ.den} {vs : List Value}, ElsR fz w τ xs vs → ∀ i (h : i < xs.length), ∃ A old B, vs = A ++ old ++ B ∧ A.length = i * τ.size ∧ ElR fz w τ xs[i] old ∧
    ∀ (y : τ.den) (new : List Value), ElR fz w τ y new → ElsR fz w τ (xs.set i y) (A ++ new ++ B)
  | _ :: xs, _, ⟨cs, r, h1, h2, h3⟩, 0, _ => ⟨[], cs, r, by simp [h1], by simp, by simpa using h2, fun y new hy => ⟨new, r, by simp, hy, h3⟩⟩
  | x :: xs, _, ⟨cs, r, h1, h2, h3⟩, i + 1, hi => by
    obtain ⟨A, old, B, h4, h5, h6, h7⟩ := ElsR.split h3 i (by simpa using hi)
    refine ⟨cs ++ A, old, B, by rw [h1, h4]; simp, by rw [List.length_append, h2.length, h5, Nat.add_mul]; omega, by simpa using h6, fun y new hy => ?_⟩
    exact ⟨cs, A ++ new ++ B, by simp, h2, h7 y new hy⟩

theorem st_store (E : TEnv P) (h : Rel S m0 N fz β w a ρ H) {o : Oper} {frz : Bool} {t : TypeId} {y z : Operand} (ho : o.op = .store t y z) {r : Res}
    (hs : stOp E frz ρ H (.store t y z) = some r) (hob : r.ob) : OpOk P S m0 N o a w r := by
  intro K Q hK
  simp only [stOp] at hs
  split at hs
  · rename_i d b o' x hd hy hz
    split at hs
    · rename_i xc cs hxc hcs
      split at hs
      · rename_i hlen
        cases hs
        have hdo := E.tdok t d hd
        have hr := evA_ok h.fr hy
        simp only [RdA] at hr
        obtain ⟨blk, hbt, hv⟩ := hr
        obtain ⟨h1, h2, h3⟩ := storeC_ok h.bx.one hdo.one hxc (evA_ok h.fr hz)
        obtain ⟨blk', vs, e, hg, hheap, hl, hzf⟩ := h.bx.ok b _ _ hbt hcs
        cases hg
        have hvl := hl.length
        have hul := h1.length
        have hst := run_storeAt (w := w) hdo (v := a.eval z) (o := o') hheap (by rw [hul, h2]) (by simp at hvl; omega) h3
        rw [← hv] at hst
        have hrun : (execOp a.eval o).run P w = .ok .skip (w.setRow blk (vs.toList.take o' ++ (a.eval z).cells.toList ++ vs.toList.drop (o' + (a.eval z).cells.toList.length)).toArray) := by
          simp only [execOp, ho, Sem.run_bind, hst, Result.andThen_ok, Sem.run_pure]
        refine wp_skipped hrun (hK fz β _ undef (h.write b _ _ _ blk _ hcs rfl hbt rfl hzf rfl (fun hlat => ⟨blk, _, e, rfl, setRow_heap w blk vs _ e _ hheap, ?_, hzf⟩)) (fun x hx => by cases hx))
        exact (putCells_ok hl h1 o').mono hlat
      · cases hs
    · cases hs
  · rename_i d b k i o' x hd hy hz
    split at hs
    · rename_i xc e τ xs hxc hxs
      split at hs
      · rename_i hc
        split at hs
        · rename_i yy hyy
          cases hs
          have hi : i < xs.length := hob
          have hdo := E.tdok t d hd
          have hr := evA_ok h.fr hy
          simp only [RdA] at hr
          obtain ⟨blk, n, c, hbt, hv⟩ := hr
          obtain ⟨h1, h2, h3⟩ := storeC_ok h.bx.one hdo.one hxc (frozA_ok h.bx (evA_ok h.fr hz))
          obtain ⟨blk', c', vals, hg, hc1, hc2, hheap, ⟨rest, front, hvals, hels⟩, hzf⟩ := h.bx.ok b _ _ hbt hxs
          cases hg
          obtain ⟨A, old, B, e1, e2, e3, e4⟩ := hels.split i hi
          have hul := h1.length
          have hol := e3.length
          have hvlen : vals.toList = A ++ old ++ B ++ rest := by rw [hvals, e1]
          have hsize : vals.size = A.length + old.length + B.length + rest.length := by rw [← Array.length_toList, hvlen]; simp [Nat.add_assoc]
          have hst := run_storeAt (w := w) hdo (v := a.eval z) (o := i * k + o') hheap (by rw [hul, h2]) (by rw [hc.1, hul]; have := hc.2; rw [hc.1] at this; omega) h3
          rw [← hv] at hst
          have hrun : (execOp a.eval o).run P w = .ok .skip (w.setRow blk (vals.toList.take (i * k + o') ++ (a.eval z).cells.toList ++ vals.toList.drop (i * k + o' + (a.eval z).cells.toList.length)).toArray) := by
            simp only [execOp, ho, Sem.run_bind, hst, Result.andThen_ok, Sem.run_pure]
          have hat : at0 τ xs (i : Int) = xs[i] := by rw [at0_get (by omega) (by omega)]; simp
          have hnew : ElR fz w τ yy (old.take o' ++ (a.eval z).cells.toList ++ old.drop (o' + (a.eval z).cells.toList.length)) := by
            have hcells := RdL_cells (β := β) |>.1 (ElR_cells.1 e3)
            rw [← hat] at hcells
            exact ofCells_ok hyy (putCells_ok hcells h1 o')
          have hrow : vals.toList.take (i * k + o') ++ (a.eval z).cells.toList ++ vals.toList.drop (i * k + o' + (a.eval z).cells.toList.length)
              = (A ++ (old.take o' ++ (a.eval z).cells.toList ++ old.drop (o' + (a.eval z).cells.toList.length)) ++ B) ++ rest := by
            have hu : o' + (a.eval z).cells.toList.length ≤ old.length := by rw [hul, hol, ← hc.1]; exact hc.2
            rw [hvlen, hc.1, ← e2]
            simp only [List.append_assoc]
            rw [List.take_length_add_append, Nat.add_assoc, List.drop_length_add_append, List.take_append_of_le_length (by omega), List.drop_append_of_le_length hu]
            simp
          refine wp_skipped hrun (hK fz β _ undef (h.write b _ _ _ blk _ hxs rfl hbt rfl hzf rfl (fun hlat => ⟨blk, c, _, by simp, by simpa using hc1, hc2, setRow_heap w blk vals _ e _ hheap, ⟨rest, _, ?_, ElsR.mono hlat _ _ (e4 yy _ hnew)⟩, hzf⟩)) (fun x hx => by cases hx))
          simpa using hrow
        · cases hs
      · cases hs
    · cases hs
  · cases hs

theorem st_append (E : TEnv P) (h : Rel S m0 N fz β w a ρ H) {o : Oper} {frz : Bool} {as : Array Operand} {ts : Array TypeId} (ho : o.op = .call { callee := .builtin .append, args := as, argTypes := ts }) {r : Res}
    (hs : stOp E frz ρ H (.call { callee := .builtin .append, args := as, argTypes := ts }) = some r) (hob : r.ob) : OpOk P S m0 N o a w r := by
  intro K Q hK
  simp only [stOp] at hs
  split at hs
  · rename_i y z t t' hyz htt
    have has : as = #[y, z] := Array.toList_inj.1 hyz
    have hts : ts = #[t, t'] := Array.toList_inj.1 htt
    subst has; subst hts
    split at hs
    · rename_i htt'
      subst htt'
      split at hs
      · rename_i e τ' b x he hy hz
        split at hs
        · rename_i e' τ xs hxs
          split at hs
          · rename_i hc
            obtain ⟨rfl, hsz⟩ := hc
            split at hs
            · rename_i ys hys
              cases hs
              rw [Option.map_eq_some_iff] at hz
              obtain ⟨av, hz1, hz2⟩ := hz
              have hrz := froz_ok h.bx (evA_ok h.fr hz1)
              rw [hz2] at hrz
              have hel := elR_sl.1 (asTy_ok hys hrz)
              have hry := evA_ok h.fr hy
              simp only [RdA] at hry
              obtain ⟨vals, h1, h2, h3⟩ := h.bx.ok b _ _ hry hxs
              obtain ⟨v', w', news, h4, h5, h6, h7⟩ := append_run (E.elok t e' τ' he) hsz h1 hel hob o.type
              obtain ⟨fz', h8, h9⟩ := h.append hxs hry h1 h2 h3 h5 h6 h7
              have hrun : (execOp a.eval o).run P w = .ok (.value v') w' := by
                simp [execOp, ho, resolve, invoke, builtin, h4]
              refine wp_value hrun (hK fz' _ w' v' h8 (fun x hx => ?_))
              cases hx
              simp only [RdA]; exact h9
            · cases hs
          · cases hs
        · cases hs
      · rename_i e τ x he hy hz
        split at hs
        · rename_i ys hys
          cases hs
          rw [Option.map_eq_some_iff] at hz
          obtain ⟨av, hz1, hz2⟩ := hz
          have hrz := froz_ok h.bx (evA_ok h.fr hz1)
          rw [hz2] at hrz
          have hel := elR_sl.1 (asTy_ok hys hrz)
          have hry := evA_ok h.fr hy
          simp only [RdA] at hry
          have hn := h.addNil e τ
          have hxs : (H ++ [Box.orow e τ []])[H.length]? = some (.orow e τ []) := by simp
          have hg : (β ++ [Value.slice none 0 0])[H.length]? = some (.slice none 0 0) := by rw [← h.bx.len]; simp
          obtain ⟨vals, h1, h2, h3⟩ := hn.bx.ok H.length _ _ hg hxs
          obtain ⟨v', w', news, h4, h5, h6, h7⟩ := append_run (E.elok t e τ he) rfl h1 hel (by simpa using hob) o.type
          obtain ⟨fz', h8, h9⟩ := hn.append hxs hg h1 h2 h3 h5 h6 h7
          have hrun : (execOp a.eval o).run P w = .ok (.value v') w' := by
            simp [execOp, ho, resolve, invoke, builtin, hry, h4]
          refine wp_value hrun (hK fz' _ w' v' (by simpa using h8) (fun x hx => ?_))
          cases hx
          simp only [RdA]; exact h9
        · cases hs
      · cases hs
    · cases hs
  · cases hs

theorem ElsR.append_split {τ : Ty} : ∀ {xs ys : List τ.den} {vs : List Value}, ElsR fz w τ (xs ++ ys) vs → ∃ A B, vs = A ++ B ∧ ElsR fz w τ xs A ∧ ElsR fz w τ ys B
  | [], _, vs, h => ⟨[], vs, rfl, rfl, h⟩
  | x :: xs, ys, vs, ⟨cs, r, h1, h2, h3⟩ => by
    obtain ⟨A, B, h4, h5, h6⟩ := ElsR.append_split (xs := xs) (ys := ys) h3
    exact ⟨cs ++ A, B, by rw [h1, h4, List.append_assoc], ⟨cs, A, rfl, h2, h5⟩, h6⟩

theorem zeroCells_rep (z : Array Value) (n : Nat) (hz : 0 < z.size) : (Builtin.zeroCells z n).toList = (List.replicate n z.toList).flatten := by
  apply List.ext_getElem?
  intro j
  induction n generalizing j with
  | zero => simp [Builtin.zeroCells]
  | succ n ih =>
    rw [List.replicate_succ, List.flatten_cons]
    by_cases hj : j < z.size
    · rw [List.getElem?_append_left (by simpa using hj)]
      have h1 : j < (n + 1) * z.size := by rw [Nat.add_mul]; omega
      simp [Builtin.zeroCells, h1, Nat.mod_eq_of_lt hj, hj]
    · rw [List.getElem?_append_right (by simpa using Nat.le_of_not_lt hj), Array.length_toList, ← ih (j - z.size)]
      have e : (j - z.size) % z.size = j % z.size := (Nat.mod_eq_sub_mod (Nat.le_of_not_lt hj)).symm
      by_cases h1 : j < (n + 1) * z.size
      · have h2 : j - z.size < n * z.size := by rw [Nat.add_mul] at h1; omega
        simp [Builtin.zeroCells, h1, h2, e]
      · have h2 : ¬ (j - z.size < n * z.size) := by rw [Nat.add_mul] at h1; omega
        simp [Builtin.zeroCells, h1, h2]

theorem ElR.ones {τ : Ty} {x : τ.den} {cs : List Value} (h : ElR fz w τ x cs) : ∀ u ∈ cs, u.oneCell' = true := by
  cases τ with
  | int k => cases h; simp [Value.oneCell']
  | bool => cases h; simp [Value.oneCell']
  | str => cases h; simp [Value.oneCell']
  | cell => cases h; simp [cellVals, Value.oneCell']
  | rule => obtain ⟨p, q, rfl, ⟨a, c, rfl, _⟩, ⟨a', c', rfl, _⟩⟩ := h; simp [Value.oneCell']
  | inst => obtain ⟨p, q, r, rfl, ⟨a, c, rfl, _⟩, ⟨a', c', rfl, _⟩, ⟨a'', c'', rfl, _⟩⟩ := h; simp [Value.oneCell']
  | table => obtain ⟨p, q, rfl, ⟨a, c, rfl, _⟩, ⟨a', c', rfl, _⟩⟩ := h; simp [Value.oneCell']
  | bind => obtain ⟨p, rfl, ⟨a, c, rfl, _⟩⟩ := h; simp [Value.oneCell']
  | sl t => obtain ⟨v, rfl, ⟨a, c, rfl, _⟩⟩ := h; simp [Value.oneCell']

theorem st_clear (E : TEnv P) (h : Rel S m0 N fz β w a ρ H) {o : Oper} {frz : Bool} {as : Array Operand} {ts : Array TypeId} (ho : o.op = .call { callee := .builtin .clear, args := as, argTypes := ts }) {r : Res}
    (hs : stOp E frz ρ H (.call { callee := .builtin .clear, args := as, argTypes := ts }) = some r) (hob : r.ob) : OpOk P S m0 N o a w r := by
  intro K Q hK
  simp only [stOp] at hs
  split at hs
  · rename_i y t hy ht
    have has : as = #[y] := Array.toList_inj.1 hy
    have hts : ts = #[t] := Array.toList_inj.1 ht
    subst has; subst hts
    split at hs
    · rename_i e0 τ' b k i n he hy'
      split at hs
      · rename_i e τ xs hxs
        split at hs
        · rename_i hc
          obtain ⟨hk, rfl⟩ := hc
          cases hs
          have hin : i + n ≤ xs.length := hob
          have heo := E.elok t e0 τ' he
          obtain ⟨ti, z, hi1, hi2, hi3, hi4, hi5, hi6⟩ := heo.info
          have hr := evA_ok h.fr hy'
          simp only [RdA] at hr
          obtain ⟨blk, m0', c0, ad, c2, hbt, hv, hc1, hc2, hp⟩ := hr
          have hRd : RdA fz β w (.tup []) (.tuple #[]) := by simp only [RdA, RdL]; exact ⟨[], rfl, rfl⟩
          by_cases hn : n = 0
          · subst hn
            have hH : H.set b (.mrow e τ' (clr τ' xs i 0)) = H := by
              have e1 : clr τ' xs i 0 = xs := by simp [clr]
              rw [e1]
              apply List.ext_getElem?
              intro j
              rw [List.getElem?_set]
              split
              · rename_i hbj; subst hbj
                have := (List.getElem?_eq_some_iff.1 hxs).1
                rw [if_pos this, hxs]
              · rfl
            have hrun : (execOp a.eval o).run P w = .ok (.value (.tuple #[])) w := by
              cases ad <;> simp [execOp, ho, resolve, invoke, builtin, hv, Builtin.clear_, run_underlying heo.under]
            refine wp_value hrun (hK fz β w _ (by rw [hH]; exact h) (fun x hx => ?_))
            cases hx; exact hRd
          · obtain ⟨blk', c', vals, hg, hl1, hl2, hheap, ⟨rest, front, hvals, hels⟩, hzf⟩ := h.bx.ok b _ _ hbt hxs
            cases hg
            have had := hp (by omega)
            have e1 : xs = xs.take i ++ ((xs.drop i).take n ++ xs.drop (i + n)) := by
              rw [← List.drop_drop, List.take_append_drop, List.take_append_drop]
            rw [e1] at hels
            obtain ⟨A, BC, e2, hA, hBC⟩ := hels.append_split
            obtain ⟨B, C, e3, hB, hC⟩ := hBC.append_split
            have lA : A.length = i * τ'.size := by rw [hA.length, List.length_take]; congr 1; omega
            have lB : B.length = n * τ'.size := by rw [hB.length, List.length_take, List.length_drop]; congr 1; omega
            have hzs : z.cells.size = τ'.size := by have := (hi6 (fun _ _ => False) w).length; rw [Array.length_toList] at this; exact this
            have hτ : 0 < τ'.size := by cases τ' <;> simp [Ty.size]
            have hzl : (Builtin.zeroCells z.cells n).toList = (List.replicate n z.cells.toList).flatten := zeroCells_rep _ _ (by omega)
            have hZ : ElsR fz w τ' (List.replicate n τ'.dflt) (Builtin.zeroCells z.cells n).toList := by rw [hzl]; exact els_replicate (hi6 fz w) n
            have lZ : (Builtin.zeroCells z.cells n).toList.length = n * τ'.size := by rw [hZ.length, List.length_replicate]
            have hsize : vals.toList = A ++ (B ++ C) ++ rest := by rw [hvals, e2, e3]
            have hone : ∀ u ∈ (Builtin.zeroCells z.cells n).toList, u.oneCell' = true := by
              intro u hu
              rw [hzl] at hu
              obtain ⟨l, hl, hul⟩ := List.mem_flatten.1 hu
              have := List.eq_of_mem_replicate hl
              subst this
              exact ElR.ones (hi6 fz w) u hul
            have hst := run_storeCells_at P blk (i * k) e (Builtin.zeroCells z.cells n).toList 0 vals w hheap (by rw [← Array.length_toList, hsize, lZ, hk]; simp only [List.length_append, lA, lB]; omega) hone
            simp only [Nat.add_zero] at hst
            have hrun : (execOp a.eval o).run P w = .ok (.value (.tuple #[])) (w.setRow blk (vals.toList.take (i * k) ++ (Builtin.zeroCells z.cells n).toList ++ vals.toList.drop (i * k + (Builtin.zeroCells z.cells n).toList.length)).toArray) := by
              obtain ⟨n', rfl⟩ : ∃ n', n = n' + 1 := ⟨n - 1, by omega⟩
              simp [execOp, ho, resolve, invoke, builtin, hv, had, Builtin.clear_, run_underlying heo.under, zeroValue, typeInfo, hi1, hi2, hst]
            have hrow : vals.toList.take (i * k) ++ (Builtin.zeroCells z.cells n).toList ++ vals.toList.drop (i * k + (Builtin.zeroCells z.cells n).toList.length) = (A ++ (Builtin.zeroCells z.cells n).toList ++ C) ++ rest := by
              rw [hsize, lZ, hk, ← lA, ← lB]
              simp only [List.append_assoc]
              rw [List.take_left, List.drop_append, List.drop_of_length_le (by omega), show A.length + B.length - A.length = B.length by omega, List.drop_left]
              simp
            refine wp_value hrun (hK fz β _ _ (h.write b _ _ _ blk _ hxs rfl hbt rfl hzf rfl (fun hlat => ⟨blk, _, _, ?_, ?_, hl2, setRow_heap w blk vals _ e _ hheap, ⟨rest, A ++ (Builtin.zeroCells z.cells n).toList ++ C, by simpa using hrow, ?_⟩, hzf⟩)) (fun x hx => ?_))
            · simp [clr]; omega
            · simp [clr]; omega
            · exact ElsR.mono hlat _ _ ((hA.append hZ).append hC)
            · cases hx; exact hRd
        · cases hs
      · cases hs
    · cases hs
  · cases hs

/-- ALL TOGETHER. -/
theorem stOp_ok (E : TEnv P) (h : Rel S m0 N fz β w a ρ H) {o : Oper} {frz : Bool} {r : Res} (hs : stOp E frz ρ H o.op = some r) (hob : r.ob) : OpOk P S m0 N o a w r := by
  cases ho : o.op with
  | alloc e => rw [ho] at hs; exact st_alloc E h ho hs
  | box e y => rw [ho] at hs; exact st_box E h ho hs
  | buildSlice t n parts => rw [ho] at hs; exact st_buildSlice E h ho hs
  | makeSlice t y z => rw [ho] at hs; exact st_makeSlice E h ho hs hob
  | store t y z => rw [ho] at hs; exact st_store E h ho hs hob
  | call c =>
    obtain ⟨callee, as, ts⟩ := c
    cases callee with
    | builtin b =>
      cases b with
      | append => rw [ho] at hs; exact st_append E h ho hs hob
      | clear => rw [ho] at hs; exact st_clear E h ho hs hob
      | _ => rw [ho] at hs; simp [stOp] at hs
    | _ => rw [ho] at hs; simp [stOp] at hs
  | _ => rw [ho] at hs; simp [stOp] at hs

end Go.Proofs.YtgapiecbinplfaaGreat
/- A string as a row of runes: the one conversion that lays a block. -/
namespace Go.Proofs.YtgapiecbinplfaaGreat
open Go.RowKit

def rns (s : ByteArray) : Nat → Nat → List Int
  | 0, _ => []
  | b + 1, i => if i < s.size then (Int.ofNat (Utf8.decode s i).1) :: rns s b (i + (Utf8.decode s i).2) else []
theorem runesFrom_eq (s : ByteArray) : ∀ (b i : Nat) (acc : Array Value), Conv.runesFrom s b i acc = acc ++ ((rns s b i).map (Value.int .i32)).toArray
  | 0, i, acc => by simp [Conv.runesFrom, rns]
  | b + 1, i, acc => by
    unfold Conv.runesFrom rns
    split
    · show Conv.runesFrom s b (i + (Utf8.decode s i).2) (acc.push (.int .i32 (Int.ofNat (Utf8.decode s i).1))) = _
      rw [runesFrom_eq s b]; simp [List.map_cons]
    · simp
theorem rns_len (s : ByteArray) : ∀ (b i : Nat), (rns s b i).length ≤ b
  | 0, i => by simp [rns]
  | b + 1, i => by
    unfold rns; split
    · have := rns_len s b (i + (Utf8.decode s i).2); simp; omega
    · simp
def runes (s : List UInt8) : List Int := rns ⟨s.toArray⟩ s.length 0

variable {P : Program}

section
variable {fz : Fz} {β : List Value} {w : World} {m0 N : Nat} {a : Act} {ρ : Fr} {H : List Box} {S : Start}

theorem els_ints {k : IntKind} : ∀ (l : List Int), ElsR fz w (.int k) l (l.map (Value.int k))
  | [] => rfl
  | n :: l => ⟨[.int k n], l.map (Value.int k), rfl, rfl, els_ints l⟩

theorem Rel.newDataC (h : Rel S m0 N fz β w a ρ H) {τ : Ty} {xs : List τ.den} {news pads : List Value} (e : TypeId) (he : ElsR fz w τ xs news) {cap : Nat} (hc : xs.length ≤ cap) (hm : cap ≤ maxLen) (hl : news.length + pads.length = cap * τ.size) :
    Rel S m0 N (fzRow fz (.slice (some ⟨w.heap.size, 0, none⟩) xs.length cap) news.length) β (w.alloc (.cells (news ++ pads).toArray e)) a ρ H ∧
    RdA (fzRow fz (.slice (some ⟨w.heap.size, 0, none⟩) xs.length cap) news.length) β (w.alloc (.cells (news ++ pads).toArray e)) (.d (.sl τ) xs) (.slice (some ⟨w.heap.size, 0, none⟩) xs.length cap) := by
  let v : Value := .slice (some ⟨w.heap.size, 0, none⟩) xs.length cap
  let fz2 : Fz := fzRow fz v news.length
  have hlater : Later fz w fz2 (w.alloc (.cells (news ++ pads).toArray e)) := fun b k hf => ⟨.inl hf, World.cell?_of_block (w := w) (Below.heap_alloc w _ b (h.fzok b k hf))⟩
  refine ⟨h.newFz _ (fun k o hf => ?_) (fun _ _ h => .inl h), ?_⟩
  · rcases hf with hf | ⟨hf, _⟩
    · exact .inl hf
    · cases hf; exact .inr rfl
  · simp only [RdA]
    refine elR_sl.2 (RdSl_own (e := e) (vals := news) ⟨he.length, .inr ⟨w.heap.size, cap, (news ++ pads).toArray, rfl, Nat.zero_le _, heap_alloc_new w _, hc, hm, by simpa using hl, by rw [← he.length]; simp⟩⟩ (ElsR.mono hlater _ _ he) (fun blk hb o => ?_))
    cases hb
    refine ⟨fun hz => ?_, fun hz => .inr ⟨rfl, hz⟩⟩
    rcases hz with hz | ⟨_, hz⟩
    · exact absurd (h.fzok _ _ hz) (Nat.lt_irrefl _)
    · exact hz

/-- A string converted to a row of runes. -/
def cvOp (E : TEnv P) (ρ : Fr) (H : List Box) : Op → Option Res
  | .convert s d x => match E.el d, evA ρ x with
    | some (e, .int .i32), some (.d .str b) => if E.str s = true ∧ E.ik e = some .i32 then some ⟨some (.d (.sl (.int .i32)) (runes b)), ρ, H, b.length ≤ big⟩ else none
    | _, _ => none
  | _ => none

theorem cvOp_ok (E : TEnv P) (h : Rel S m0 N fz β w a ρ H) {o : Oper} {r : Res} (hs : cvOp E ρ H o.op = some r) (hob : r.ob) : OpOk P S m0 N o a w r := by
  cases ho : o.op with
  | convert s d x =>
    rw [ho] at hs
    simp only [cvOp] at hs
    split at hs
    · rename_i e b hd hx
      split at hs
      · rename_i hc
        cases hs
        have hr := evA_ok h.fr hx
        simp only [RdA, ElR, List.cons.injEq, and_true] at hr
        have heo := E.elok d e (.int .i32) hd
        have hu := E.strok s hc.1
        have hue := E.ikok e .i32 hc.2
        have hlen : (runes b).length ≤ b.length := rns_len _ _ _
        have hml : (runes b).length ≤ maxLen := by have : b.length ≤ big := hob; simp only [big] at this; simp only [maxLen]; omega
        intro K Q hK
        have hge := grownCap_ge w (runes b).length 0 e
        have hcm := grownCap_le_maxLen w (runes b).length 0 e hml
        have hsz : ((rns ⟨b.toArray⟩ b.length 0).map (Value.int .i32)).toArray.size = (runes b).length := by simp [runes]
        have hrun : (execOp a.eval o).run P w = .ok (.value (.slice (some ⟨w.heap.size, 0, none⟩) (runes b).length (grownCap w (runes b).length 0 e)))
            (w.drew.alloc (.cells ((runes b).map (Value.int .i32) ++ List.replicate (grownCap w (runes b).length 0 e - (runes b).length) (Value.int .i32 0)).toArray e)) := by
          have h1 : (Conv.stringToRunes e ⟨b.toArray⟩).run P w = .ok (.slice (some ⟨w.heap.size, 0, none⟩) (runes b).length (grownCap w (runes b).length 0 e))
            (w.drew.alloc (.cells ((runes b).map (Value.int .i32) ++ List.replicate (grownCap w (runes b).length 0 e - (runes b).length) (Value.int .i32 0)).toArray e)) := by
            unfold Conv.stringToRunes
            rw [runesFrom_eq, ByteArray_size_mk]
            simp [runes, Question.forced, newRow, grownCap]
            congr 2
            apply Array.ext'
            simp
          simp [ho, execOp, hr, convert, run_underlying hu, run_underlying heo.under, run_underlying hue, h1]
        have hd := h.drew
        obtain ⟨h4, h5⟩ := hd.newDataC (τ := .int .i32) (xs := runes b) (pads := List.replicate (grownCap w (runes b).length 0 e - (runes b).length) (Value.int .i32 0)) e (els_ints (runes b)) hge hcm (by simp [Ty.size]; omega)
        exact wp_value hrun (hK _ β _ _ h4 (fun x hx => by cases hx; exact h5))
      · cases hs
    · cases hs
  | _ => rw [ho] at hs; simp [cvOp] at hs
end
end Go.Proofs.YtgapiecbinplfaaGreat
/- Statements: regions in the order of the text, sequences, branches, blocks, loops. -/
namespace Go.Proofs.YtgapiecbinplfaaGreat
open Go.RowKit

def guardA (all : List Oper) (ρ : Fr) : Option (Nat × Bool) → Option Bool
  | none => some true
  | some (j, want) => match (all[j]?).bind (·.dst) with
    | some t => match look ρ t with
      | some (.d .bool b) => some (b == want)
      | some (.tup []) => some false
      | _ => none
    | none => none

def put1 (N : Nat) (dst : Option Tmp) (r : Res) : Option Fr :=
  match dst with
  | none => some r.ρ
  | some d => if d < N then (match r.x with
    | some x => some ((d, x) :: del r.ρ d)
    | none => some (del r.ρ d)) else none

/-- Which of the three functions knows an operation. -/
def opKind : Op → Nat
  | .alloc _ | .box .. | .buildSlice .. | .makeSlice .. | .store .. => 1
  | .call c => match c.callee with
    | .value _ => 2
    | .builtin .append => 1
    | .builtin .clear => 1
    | _ => 0
  | _ => 0

variable {P : Program}

def op1 (E : TEnv P) (frz : Bool) (ρ : Fr) (H : List Box) (op : Op) (cs : List CO) : Option (Res × List CO) :=
  match opKind op with
  | 0 => (valOp E ρ H op).map fun p => (⟨some p.1, ρ, H, p.2⟩, cs)
  | 1 => (stOp E frz ρ H op).map fun r => (r, cs)
  | _ => match op, cs with
    | .call { callee := .value f, args := as, argTypes := _ }, c :: cs' => (callOp E ρ H f as c).map fun r => (r, cs')
    | _, _ => none

/-- With the conversion that lays a block. -/
def op1x (E : TEnv P) (frz : Bool) (ρ : Fr) (H : List Box) (op : Op) (cs : List CO) : Option (Res × List CO) :=
  match op1 E frz ρ H op cs with
  | some r => some r
  | none => match cvOp E ρ H op with
    | some r => some (r, cs)
    | none => none

/-- A row of operations, in the order of the text: what is known behind it, and what must hold. -/
def runOps (E : TEnv P) (N : Nat) (frz : Bool) (all : List Oper) : List Oper → Fr → List Box → List CO → Option (Fr × List Box × Prop)
  | [], ρ, H, _ => some (ρ, H, True)
  | o :: rest, ρ, H, cs => match guardA all ρ o.guard with
    | some true => match op1x E frz ρ H o.op cs with
      | some (r, cs') => match put1 N o.dst r with
        | some ρ' => match runOps E N frz all rest ρ' r.H cs' with
          | some (ρ2, H2, ob) => some (ρ2, H2, r.ob ∧ ob)
          | none => none
        | none => none
      | none => none
    | some false => match o.dst with
      | some d => if d < N then runOps E N frz all rest ((d, .tup []) :: del ρ d) H cs else none
      | none => runOps E N frz all rest ρ H cs
    | none => none

section
variable {fz fz' : Fz} {β β' : List Value} {w w' : World} {m0 N : Nat} {a : Act} {ρ : Fr} {H : List Box} {S : Start}

theorem op1_ok (E : TEnv P) (h : Rel S m0 N fz β w a ρ H) {o : Oper} {frz : Bool} {cs cs' : List CO} {r : Res} (hs : op1 E frz ρ H o.op cs = some (r, cs')) (hob : r.ob) : OpOk P S m0 N o a w r := by
  unfold op1 at hs
  split at hs
  · rw [Option.map_eq_some_iff] at hs
    obtain ⟨⟨x, ob⟩, hv, he⟩ := hs
    cases he
    obtain ⟨v, h1, h2⟩ := valOp_ok E h.fr h.bx hv hob
    intro K Q hK
    exact wp_value h1 (hK fz β w v h (fun x hx => by cases hx; exact h2))
  · rw [Option.map_eq_some_iff] at hs
    obtain ⟨r', hv, he⟩ := hs
    cases he
    exact stOp_ok E h hv hob
  · split at hs
    · rename_i f as ts c cs'' hop
      rw [Option.map_eq_some_iff] at hs
      obtain ⟨r', hv, he⟩ := hs
      cases he
      exact callOp_ok E h hop hv hob
    · cases hs

theorem op1x_ok (E : TEnv P) (h : Rel S m0 N fz β w a ρ H) {o : Oper} {frz : Bool} {cs cs' : List CO} {r : Res} (hs : op1x E frz ρ H o.op cs = some (r, cs')) (hob : r.ob) : OpOk P S m0 N o a w r := by
  unfold op1x at hs
  split at hs
  · rename_i r0 h1
    cases hs
    exact op1_ok E h h1 hob
  · split at hs
    · rename_i r0 h1
      cases hs
      exact cvOp_ok E h h1 hob
    · cases hs

theorem put1_ok {r : Res} {dst : Option Tmp} {v : Value} (h : Rel S m0 N fz β w a r.ρ r.H) (hx : ∀ x, r.x = some x → RdA fz β w x v) {ρ' : Fr} (hp : put1 N dst r = some ρ') :
    Rel S m0 N fz β w (a.put dst v) ρ' r.H := by
  unfold put1 at hp
  split at hp
  · cases hp; exact h
  · split at hp
    · rename_i hd
      split at hp
      · rename_i x hx'
        cases hp
        exact ⟨h.fr.put hd (hx x hx'), h.bx, h.mine, h.anc, h.fzok, h.pre⟩
      · cases hp
        exact ⟨h.fr.drop, h.bx, h.mine, h.anc, h.fzok, h.pre⟩
    · cases hp

theorem guardA_ok {ops : Array Oper} (hf : FrR fz β w N a ρ) {o : Oper} {b : Bool} (hg : guardA ops.toList ρ o.guard = some b) : Region.wanted o (yielded ops a.tmps) = b := by
  unfold Region.wanted
  cases hgd : o.guard with
  | none => rw [hgd] at hg; simp only [guardA, Option.some.injEq] at hg; simpa using hg
  | some p =>
    obtain ⟨j, want⟩ := p
    rw [hgd] at hg
    simp only [guardA] at hg
    split at hg
    · rename_i t ht
      have ht' : (ops[j]?).bind (·.dst) = some t := by simpa using ht
      split at hg
      · rename_i c hc
        cases hg
        obtain ⟨h1, h2⟩ := hf.2.2 t _ (look_mem hc)
        simp only [RdA, ElR, List.cons.injEq, and_true] at h2
        have : a.tmps[t]? = some (.bool c) := by
          rw [Array.getD_eq_getD_getElem?] at h2
          rw [Array.getElem?_eq_getElem (by rw [hf.2.1]; exact h1)] at h2 ⊢
          simpa using h2
        simp [yielded, ht', this]
      · rename_i hc
        cases hg
        obtain ⟨h1, h2⟩ := hf.2.2 t _ (look_mem hc)
        simp only [RdA, RdL] at h2
        obtain ⟨vs, h2, rfl⟩ := h2
        have : a.tmps[t]? = some (.tuple #[]) := by
          rw [Array.getD_eq_getD_getElem?] at h2
          rw [Array.getElem?_eq_getElem (by rw [hf.2.1]; exact h1)] at h2 ⊢
          simpa using h2
        simp [yielded, ht', this]
      · cases hg
    · cases hg

theorem undef_ok : RdA fz β w (.tup []) undef := by
  simp only [RdA, RdL]; exact ⟨[], rfl, rfl⟩

theorem runOps_ok (E : TEnv P) {ops : Array Oper} {frz : Bool} {Q : Exit → Act → World → Prop} : ∀ {l : List Oper} {ρ : Fr} {H : List Box} {cs : List CO} {fz : Fz} {β : List Value} {w : World} {a : Act} {ρ' : Fr} {H' : List Box} {ob : Prop},
    runOps E N frz ops.toList l ρ H cs = some (ρ', H', ob) → ob → Rel S m0 N fz β w a ρ H →
    (∀ fz' β' w' a', Rel S m0 N fz' β' w' a' ρ' H' → Q .normal a' w') → wpList P ops Q l a w
  | [], ρ, H, cs, fz, β, w, a, ρ', H', ob, hs, hob, h, hk => by
    simp only [runOps, Option.some.injEq, Prod.mk.injEq] at hs
    obtain ⟨rfl, rfl, rfl⟩ := hs
    exact hk fz β w a h
  | o :: rest, ρ, H, cs, fz, β, w, a, ρ', H', ob, hs, hob, h, hk => by
    simp only [runOps] at hs
    split at hs
    · rename_i hg
      split at hs
      · rename_i r cs' h1
        split at hs
        · rename_i ρ1 hp
          split at hs
          · rename_i ρ2 H2 ob2 h2
            cases hs
            unfold wpList
            rw [if_pos (guardA_ok h.fr hg)]
            refine .inl (op1x_ok E h h1 hob.1 _ _ fun fz' β' w' v hr hx => ?_)
            exact runOps_ok E h2 hob.2 (put1_ok hr hx hp) hk
          · cases hs
        · cases hs
      · cases hs
    · rename_i hg
      unfold wpList
      rw [if_neg (by rw [guardA_ok h.fr hg]; simp)]
      split at hs
      · rename_i d hd
        split at hs
        · rename_i hdN
          refine runOps_ok E hs hob (β := β) (fz := fz) ?_ hk
          rw [hd]
          exact ⟨h.fr.put hdN undef_ok, h.bx, h.mine, h.anc, h.fzok, h.pre⟩
        · cases hs
      · rename_i hd
        rw [hd]
        exact runOps_ok E hs hob h hk
    · cases hs
end

/-- WHAT A STATEMENT DOES TO WHAT IS KNOWN. -/
def Ok (P : Program) (m0 N : Nat) (c : Code) (Q : Exit → Fr → List Box → Prop) (ρ : Fr) (H : List Box) : Prop :=
  ∀ (S : Start) (fz : Fz) (β : List Value) (w : World) (a : Act), Rel S m0 N fz β w a ρ H →
    c.wp P (fun e a' w' => ∃ fz' β' ρ' H', Rel S m0 N fz' β' w' a' ρ' H' ∧ Q e ρ' H') a w

def thenA (next : Fr → List Box → Prop) (Q : Exit → Fr → List Box → Prop) : Exit → Fr → List Box → Prop
  | .normal => next
  | e => Q e
def blockA (id : Nat) (Q : Exit → Fr → List Box → Prop) : Exit → Fr → List Box → Prop
  | .exit id' => if id' = id then Q .normal else Q (.exit id')
  | e => Q e

def keepF (keep : List Nat) : Fr → Fr
  | [] => []
  | (t, x) :: r => if keep.contains t = true then (t, x) :: keepF keep r else keepF keep r
theorem keepF_mem {keep : List Nat} : ∀ {ρ : Fr} {p : Nat × AV}, p ∈ keepF keep ρ → p ∈ ρ
  | (t, x) :: r, p, h => by
    simp only [keepF] at h
    split at h
    · rcases List.mem_cons.1 h with h | h
      · subst h; exact List.mem_cons_self
      · exact List.mem_cons_of_mem _ (keepF_mem h)
    · exact List.mem_cons_of_mem _ (keepF_mem h)

section
variable {m0 N : Nat} {ρ ρ' : Fr} {H H' : List Box} {Q : Exit → Fr → List Box → Prop}

theorem Rel.keep {S : Start} {fz : Fz} {β : List Value} {w : World} {a : Act} (keep : List Nat) (h : Rel S m0 N fz β w a ρ H) : Rel S m0 N fz β w a (keepF keep ρ) H :=
  ⟨h.fr.sub fun _ hp => keepF_mem hp, h.bx, h.mine, h.anc, h.fzok, h.pre⟩

/-- A region in the order of the text. -/
theorem ok_region (E : TEnv P) (keep : List Nat) (cs : List CO) {id : Nat} {ops : Array Oper} {ob : Prop} (hr : runOps E N false ops.toList ops.toList ρ H cs = some (ρ', H', ob)) (hob : ob)
    (k : Q .normal (keepF keep ρ') H') : Ok P m0 N (.region id ops false) Q ρ H := by
  intro S fz β w a h
  exact wp_region_list (runOps_ok E hr hob h fun fz' β' w' a' hrel => ⟨fz', β', _, _, hrel.keep keep, k⟩)

theorem ok_seq {x y : Code} (h : Ok P m0 N x (thenA (Ok P m0 N y Q) Q) ρ H) : Ok P m0 N (.seq x y) Q ρ H := by
  intro S fz β w a hr
  refine wp_seq (wp_mono (h S fz β w a hr) fun e a' w' ⟨fz', β', ρ', H', hrel, hq⟩ => ?_)
  cases e with
  | normal => exact hq S fz' β' w' a' hrel
  | _ => exact ⟨fz', β', ρ', H', hrel, hq⟩

/-- A region ahead of the rest. -/
theorem ok_next (E : TEnv P) (keep : List Nat) (cs : List CO) {id : Nat} {ops : Array Oper} {y : Code} {ob : Prop} (hr : runOps E N false ops.toList ops.toList ρ H cs = some (ρ', H', ob)) (hob : ob)
    (k : Ok P m0 N y Q (keepF keep ρ') H') : Ok P m0 N (.seq (.region id ops false) y) Q ρ H :=
  ok_seq (ok_region E keep cs hr hob k)

end
end Go.Proofs.YtgapiecbinplfaaGreat
/- Branches, blocks, loops; functions. -/
namespace Go.Proofs.YtgapiecbinplfaaGreat
open Go.RowKit

variable {P : Program} {m0 N : Nat} {ρ ρ' : Fr} {H H' : List Box} {Q : Exit → Fr → List Box → Prop}

theorem ok_mono {c : Code} {Q' : Exit → Fr → List Box → Prop} (h : Ok P m0 N c Q ρ H) (hq : ∀ e ρ H, Q e ρ H → Q' e ρ H) : Ok P m0 N c Q' ρ H :=
  fun S fz β w a hr => wp_mono (h S fz β w a hr) fun _ _ _ ⟨fz', β', ρ', H', hrel, hQ⟩ => ⟨fz', β', ρ', H', hrel, hq _ _ _ hQ⟩

theorem ok_skip (h : Q .normal ρ H) : Ok P m0 N .skip Q ρ H := fun _ fz β _ _ hr => wp_skip ⟨fz, β, ρ, H, hr, h⟩
theorem ok_ret (h : Q .ret ρ H) : Ok P m0 N .ret Q ρ H := fun _ fz β _ _ hr => wp_ret ⟨fz, β, ρ, H, hr, h⟩
theorem ok_exit {id : Nat} (h : Q (.exit id) ρ H) : Ok P m0 N (.exit id) Q ρ H := fun _ fz β _ _ hr => wp_exit ⟨fz, β, ρ, H, hr, h⟩
theorem ok_block {id : Nat} {c : Code} (h : Ok P m0 N c (blockA id Q) ρ H) : Ok P m0 N (.block id c) Q ρ H := by
  intro S fz β w a hr
  refine wp_block (wp_mono (h S fz β w a hr) fun e a' w' ⟨fz', β', ρ', H', hrel, hq⟩ => ?_)
  cases e with
  | exit id' =>
    simp only [blockA] at hq
    simp only [Exit.inBlock]
    split at hq
    · rename_i hi; rw [if_pos hi]; exact ⟨fz', β', ρ', H', hrel, hq⟩
    · rename_i hi; rw [if_neg hi]; exact ⟨fz', β', ρ', H', hrel, hq⟩
  | _ => exact ⟨fz', β', ρ', H', hrel, hq⟩

theorem ok_cond {c : Operand} {b : Bool} {x y : Code} (hc : evA ρ c = some (.d .bool b)) (h : Ok P m0 N (if b = true then x else y) Q ρ H) : Ok P m0 N (.cond c x y) Q ρ H := by
  intro S fz β w a hr
  have := evA_ok hr.fr hc
  simp only [RdA, ElR, List.cons.injEq, and_true] at this
  refine wp_cond this ?_
  have hx := h S fz β w a hr
  cases b <;> exact hx
theorem ok_if {c : Operand} {b : Bool} {x y : Code} (hc : evA ρ c = some (.d .bool b)) (ht : b = true → Ok P m0 N x Q ρ H) (hf : b = false → Ok P m0 N y Q ρ H) : Ok P m0 N (.cond c x y) Q ρ H := by
  refine ok_cond hc ?_
  cases b
  · exact hf rfl
  · exact ht rfl

/-- One value known as another one. -/
def Conv (H : List Box) (y x : AV) : Prop := y = x ∨ froz H y = x ∨ (y = .nilsl ∧ ∃ t, x = .d (.sl t) []) ∨ ∃ b e t xs, y = .mrow b ∧ H[b]? = some (.mrow e t xs) ∧ x = .msl b t.size 0 xs.length

theorem Conv.ok {fz : Fz} {β : List Value} {w : World} (hb : BoxesOk fz β w H) {y x : AV} {v : Value} (h : Conv H y x) (hr : RdA fz β w y v) : RdA fz β w x v := by
  rcases h with rfl | h | ⟨rfl, t, rfl⟩ | ⟨b, e, t, xs, rfl, hx, rfl⟩
  · exact hr
  · subst h; exact froz_ok hb hr
  · simp only [RdA] at hr ⊢
    subst hr
    exact ⟨_, rfl, none, 0, rfl, Nat.le_refl _, by simp [maxLen], fun h => absurd rfl h⟩
  · simp only [RdA] at hr ⊢
    obtain ⟨blk, c, vals, rfl, h1, h2, _⟩ := hb.ok b v _ hr hx
    exact ⟨blk, _, c, _, c, hr, rfl, h1, h2, fun _ => by simp⟩

/-- What is known entails what is asked. -/
def EntF (ρ : Fr) (H : List Box) (n : Nat) : Fr → Prop
  | [] => True
  | (t, x) :: r => (∃ y, look ρ t = some y ∧ Conv H y x) ∧ scop n x = true ∧ EntF ρ H n r

def ConvL (H : List Box) : List AV → List AV → Prop
  | [], [] => True
  | y :: ys, x :: xs => Conv H y x ∧ ConvL H ys xs
  | _, _ => False
def EntB (H : List Box) (n : Nat) : Box → Box → Prop
  | y, x => x = .dead ∨ (y = x ∧ x.scop n = true) ∨ ∃ ys xs, y = .cells ys ∧ x = .cells xs ∧ ConvL H ys xs ∧ scopL n xs = true
def EntH (H0 : List Box) (n : Nat) : List Box → List Box → Prop
  | _, [] => True
  | y :: ys, x :: xs => EntB H0 n y x ∧ EntH H0 n ys xs
  | [], _ :: _ => False

structure Ent (ρ : Fr) (H : List Box) (ρ1 : Fr) (H1 : List Box) : Prop where
  fr : EntF ρ H H1.length ρ1
  bx : EntH H H1.length H H1

mutual
theorem ren_same {n : Nat} : ∀ (x : AV), scop n x = true → ren (List.range n) x = x
  | .ptr b o, h => by simp only [scop, decide_eq_true_eq] at h; simp [ren, List.getD, h]
  | .mptr b k i o, h => by simp only [scop, decide_eq_true_eq] at h; simp [ren, List.getD, h]
  | .orow b, h => by simp only [scop, decide_eq_true_eq] at h; simp [ren, List.getD, h]
  | .mrow b, h => by simp only [scop, decide_eq_true_eq] at h; simp [ren, List.getD, h]
  | .msl b k i n, h => by simp only [scop, decide_eq_true_eq] at h; simp [ren, List.getD, h]
  | .fn f caps, h => by
    simp only [scop, List.all_eq_true, decide_eq_true_eq] at h
    simp only [ren, AV.fn.injEq, true_and]
    rw [List.map_congr_left (g := id) (fun c hc => by simp [List.getD, h c hc]), List.map_id]
  | .agg cs, h => by simp only [scop] at h; simp only [ren, renL_same cs h]
  | .tup cs, h => by simp only [scop] at h; simp only [ren, renL_same cs h]
  | .d t x, h => rfl
  | .eptr t x, h => rfl
  | .nilsl, h => rfl
  | .nilfn, h => rfl
  | .top, h => rfl
theorem renL_same {n : Nat} : ∀ (xs : List AV), scopL n xs = true → renL (List.range n) xs = xs
  | [], _ => rfl
  | c :: cs, h => by
    simp only [scopL, Bool.and_eq_true] at h
    simp only [renL, ren_same c h.1, renL_same cs h.2]
end

theorem take_get {β : List Value} {n : Nat} : ∀ i, i < n → (β.take n)[i]? = β[(List.range n).getD i 0]? := fun i hi => by
  simp [List.getElem?_take, hi, List.getD]

section
variable {fz : Fz} {β : List Value} {w : World} {n : Nat}
theorem RdA.less {x : AV} {v : Value} (hs : scop n x = true) (h : RdA fz β w x v) : RdA fz (β.take n) w x v :=
  ren_in take_get x v hs (by rw [ren_same x hs]; exact h)
theorem RdL.less {xs : List AV} {vs : List Value} (hs : scopL n xs = true) (h : RdL fz β w xs vs) : RdL fz (β.take n) w xs vs :=
  renL_in take_get xs vs hs (by rw [renL_same xs hs]; exact h)

theorem ConvL.ok (hb : BoxesOk fz β w H) : ∀ {ys xs : List AV} {vs : List Value}, ConvL H ys xs → RdL fz β w ys vs → RdL fz β w xs vs
  | [], [], _, _, h => h
  | y :: ys, x :: xs, vs, hc, h => by
    simp only [RdL] at h ⊢
    obtain ⟨v, r, h1, h2, h3⟩ := h
    exact ⟨v, r, h1, hc.1.ok hb h2, ConvL.ok hb hc.2 h3⟩

theorem EntF.mem : ∀ {ρ1 : Fr} {t : Nat} {x : AV}, EntF ρ H n ρ1 → (t, x) ∈ ρ1 → (∃ y, look ρ t = some y ∧ Conv H y x) ∧ scop n x = true
  | (k, z) :: r, t, x, h, hm => by
    rcases List.mem_cons.1 hm with hm | hm
    · cases hm; exact ⟨h.1, h.2.1⟩
    · exact EntF.mem h.2.2 hm

theorem EntH.get : ∀ {H0 H H1 : List Box} {i : Nat} {x : Box}, EntH H0 n H H1 → H1[i]? = some x → ∃ y : Box, H[i]? = some y ∧ EntB H0 n y x
  | H0, y :: ys, x :: xs, 0, z, h, hz => by simp at hz; subst hz; exact ⟨y, by simp, h.1⟩
  | H0, y :: ys, x :: xs, i + 1, z, h, hz => by
    obtain ⟨u, h1, h2⟩ := EntH.get h.2 (i := i) (by simpa using hz)
    exact ⟨u, by simpa using h1, h2⟩
  | H0, [], x :: xs, i, z, h, hz => h.elim
  | H0, H, [], i, z, h, hz => by simp at hz

theorem EntH.length : ∀ {H0 H H1 : List Box}, EntH H0 n H H1 → H1.length ≤ H.length
  | H0, y :: ys, x :: xs, h => by simpa using EntH.length h.2
  | H0, [], x :: xs, h => h.elim
  | H0, H, [], h => by simp

/-- Less may be known. -/
theorem Rel.ent {S : Start} {a : Act} {ρ1 : Fr} {H1 : List Box} (h : Rel S m0 N fz β w a ρ H) (he : Ent ρ H ρ1 H1) (hm : m0 ≤ H1.length) : Rel S m0 N fz (β.take H1.length) w a ρ1 H1 := by
  have hlen := he.bx.length
  have get : ∀ (i : Nat) (g : Value), (β.take H1.length)[i]? = some g → β[i]? = some g ∧ i < H1.length := by
    intro i g hg
    rw [List.getElem?_take] at hg
    split at hg
    · exact ⟨hg, by assumption⟩
    · cases hg
  have liv : ∀ (y x : Box), EntB H H1.length y x → x.live = true → y.live = true := by
    intro y x hb hl
    rcases hb with rfl | ⟨rfl, _⟩ | ⟨ys, xs, rfl, rfl, _⟩
    · simp [Box.live] at hl
    · exact hl
    · rfl
  refine ⟨⟨h.fr.1, h.fr.2.1, fun t x hm => ?_⟩, ⟨by simp [h.bx.len]; omega, fun i g hg => h.bx.one i g (get i g hg).1, fun i g x hg hx => ?_, fun i j gi gj xi xj hij hgi hgj hxi hxj li lj => ?_⟩, fun i g x hg hx hl k hk => ?_, h.anc, h.fzok, ⟨h.pre.len, hm, fun i hi => by rw [List.getElem?_take, if_pos (by omega)]; exact h.pre.same i hi, fun i x hi hx => ?_⟩⟩
  · obtain ⟨⟨y, hy, hc⟩, hs⟩ := he.fr.mem hm
    obtain ⟨h1, h2⟩ := h.fr.2.2 t y (look_mem hy)
    exact ⟨h1, (hc.ok h.bx h2).less hs⟩
  · obtain ⟨hg, hi⟩ := get i g hg
    obtain ⟨y, hy, hb⟩ := he.bx.get hx
    have hbox := h.bx.ok i g y hg hy
    rcases hb with rfl | ⟨rfl, hs⟩ | ⟨ys, xs, rfl, rfl, hc, hs⟩
    · trivial
    · cases y with
      | cells cs =>
        obtain ⟨blk, vs, e, rfl, hh, hr, hz⟩ := hbox
        exact ⟨blk, vs, e, rfl, hh, hr.less hs, hz⟩
      | _ => exact hbox
    · obtain ⟨blk, vs, e, rfl, hh, hr, hz⟩ := hbox
      exact ⟨blk, vs, e, rfl, hh, (hc.ok h.bx hr).less hs, hz⟩
  · obtain ⟨yi, a1, a2⟩ := he.bx.get hxi
    obtain ⟨yj, b1, b2⟩ := he.bx.get hxj
    exact h.bx.apart i j gi gj yi yj hij (get i gi hgi).1 (get j gj hgj).1 a1 b1 (liv _ _ a2 li) (liv _ _ b2 lj)
  · obtain ⟨y, a1, a2⟩ := he.bx.get hx
    exact h.mine i g y (get i g hg).1 a1 (liv _ _ a2 hl) k hk
  · obtain ⟨y, a1, a2⟩ := he.bx.get hx
    have := h.pre.noO i y hi a1
    rcases a2 with rfl | ⟨rfl, _⟩ | ⟨ys, xs, rfl, rfl, _⟩
    · rfl
    · exact this
    · rfl
end

theorem ok_ent {c : Code} {ρ1 : Fr} {H1 : List Box} (he : Ent ρ H ρ1 H1) (h : Ok P m0 N c Q ρ1 H1) (hm : m0 ≤ H1.length := by first | exact Nat.zero_le _ | simp) : Ok P m0 N c Q ρ H :=
  fun S fz _ w a hr => h S fz _ w a (hr.ent he hm)

/-- A nil slice is a row of one's own. -/
theorem ok_own {c : Code} (t : Nat) (e : TypeId) (τ : Ty) (ht : look ρ t = some .nilsl) (h : Ok P m0 N c Q ((t, .orow H.length) :: del ρ t) (H ++ [.orow e τ []])) : Ok P m0 N c Q ρ H := by
  intro S fz β w a hr
  have hn := hr.addNil e τ
  refine h S fz _ w a ⟨⟨hn.fr.1, hn.fr.2.1, fun u x hm => ?_⟩, hn.bx, hn.mine, hn.anc, hn.fzok, hn.pre⟩
  rcases List.mem_cons.1 hm with hm | hm
  · cases hm
    obtain ⟨h1, h2⟩ := hr.fr.2.2 t _ (look_mem ht)
    simp only [RdA] at h2 ⊢
    exact ⟨h1, by rw [← hr.bx.len, h2]; simp⟩
  · exact hn.fr.2.2 u x (del_mem hm).1

/-- A LOOP: what is known at each round's head is told by a state 's'; a measure goes down. -/
theorem ok_loop {σ : Type} {body : Code} (F : σ → Fr) (B : σ → List Box) (p : σ → Prop) (μ : σ → Nat) (s0 : σ) (h0 : p s0) (hin : Ent ρ H (F s0) (B s0))
    (round : ∀ s, p s → Ok P m0 N body (thenA (fun ρ' H' => ∃ s', p s' ∧ μ s' < μ s ∧ Ent ρ' H' (F s') (B s')) Q) (F s) (B s)) (hm : ∀ s, m0 ≤ (B s).length := by intro _; first | exact Nat.zero_le _ | simp) : Ok P m0 N (.loop body) Q ρ H := by
  intro S fz β w a hr
  have key : ∀ n s, μ s = n → p s → ∀ fz β w a, Rel S m0 N fz β w a (F s) (B s) → ∀ (b : Frame) (k : List Item) (cs : List Frame),
      ∃ e a' w', (∃ fz' β' ρ' H', Rel S m0 N fz' β' w' a' ρ' H' ∧ Q e ρ' H') ∧ Arrives P (lone (b.at a (.code body :: .inLoop body :: k)) cs w) b k cs e a' w' := by
    intro n
    induction n using Nat.strongRecOn with
    | _ n ih =>
      intro s hn hp fz β w a hrel b k cs
      obtain ⟨e, a₁, w₁, ⟨fz', β', ρ', H', hrel', hq⟩, harr⟩ := round s hp S fz β w a hrel b (.inLoop body :: k) cs
      cases e with
      | normal =>
        obtain ⟨s', hp', hlt, hent⟩ := hq
        obtain ⟨e₂, a₂, w₂, hq₂, harr₂⟩ := ih (μ s') (hn ▸ hlt) s' rfl hp' _ _ _ _ (hrel'.ent hent (hm s')) b k cs
        exact ⟨e₂, a₂, w₂, hq₂, .of_steps (Steps.trans harr (.one step_inLoop)) harr₂⟩
      | exit id => exact ⟨_, a₁, w₁, ⟨fz', β', ρ', H', hrel', hq⟩, .pass (x := .inLoop body) rfl (fun _ _ => .inl (by simp)) harr⟩
      | goto l => exact ⟨_, a₁, w₁, ⟨fz', β', ρ', H', hrel', hq⟩, .pass (x := .inLoop body) rfl (fun _ _ => .inl (by simp)) harr⟩
      | ret => exact ⟨_, a₁, w₁, ⟨fz', β', ρ', H', hrel', hq⟩, .pass (x := .inLoop body) rfl (fun _ _ => .inl (by simp)) harr⟩
      | panic ch => exact ⟨_, a₁, w₁, ⟨fz', β', ρ', H', hrel', hq⟩, .pass (x := .inLoop body) rfl (fun _ _ => .inl (by simp)) harr⟩
      | outgrown => exact ⟨_, a₁, w₁, ⟨fz', β', ρ', H', hrel', hq⟩, .pass (x := .inLoop body) rfl (fun _ _ => .inl (by simp)) harr⟩
  intro b k cs
  obtain ⟨e, a', w', hq, harr⟩ := key _ s0 rfl h0 _ _ _ _ (hr.ent hin (hm s0)) b k cs
  exact ⟨e, a', w', hq, .of_steps (.one step_loop) harr⟩

/-- What a slice tells of its length. -/
theorem ok_len {c : Code} {τ : Ty} {xs : List τ.den} (t : Nat) (ht : look ρ t = some (.d (.sl τ) xs)) (h : xs.length ≤ maxLen → Ok P m0 N c Q ρ H) : Ok P m0 N c Q ρ H := by
  intro S fz β w a hr
  have h2 := (hr.fr.2.2 t _ (look_mem ht)).2
  simp only [RdA] at h2
  obtain ⟨ad, cc, _, h3, h4, _⟩ := elR_sl.1 h2
  exact h (Nat.le_trans h3 h4) S fz β w a hr

/-! FUNCTIONS -/

/-- At the end of a call: rows of the call's own are what they hold. -/
def frozE (n : Nat) (H : List Box) : AV → AV
  | .orow b => match H[b]? with
    | some (.orow _ t xs) => .d (.sl t) xs
    | _ => .orow b
  | .mrow b => if n ≤ b then (match H[b]? with
    | some (.mrow _ t xs) => .d (.sl t) xs
    | _ => .mrow b) else .mrow b
  | .msl b k i m => if n ≤ b then (match H[b]? with
    | some (.mrow _ t xs) => if k = t.size ∧ i + m ≤ xs.length then .d (.sl t) ((xs.drop i).take m) else .msl b k i m
    | _ => .msl b k i m) else .msl b k i m
  | x => x

def resA (td : TypeId → Option TD) (n : Nat) (H : List Box) (ρ : Fr) : ResultVar → Option AV
  | .tmp t => (look ρ t).map (frozE n H)
  | .cell t T => match look ρ t, td T with
    | some (.ptr b o), some d => match H[b]? with
      | some (.cells cs) => if d.agg = true then (if o + d.size ≤ cs.length then some (.agg (((cs.drop o).take d.size).map (frozE n H))) else none) else (cs[o]?).map (frozE n H)
      | _ => none
    | _, _ => none

def resL (td : TypeId → Option TD) (n : Nat) (H : List Box) (ρ : Fr) : List ResultVar → Option (List AV)
  | [] => some []
  | r :: rs => match resA td n H ρ r, resL td n H ρ rs with
    | some x, some l => some (x :: l)
    | _, _ => none

def resAll (td : TypeId → Option TD) (n : Nat) (H : List Box) (ρ : Fr) (rs : List ResultVar) : Option AV :=
  match resL td n H ρ rs with
  | some [x] => some x
  | some l => some (.tup l)
  | none => none

/-- How the caller's boxes are left. -/
def endH (n : Nat) (H : List Box) : Nat → List Box → List Box
  | 0, _ => []
  | _, [] => []
  | k + 1, .cells cs :: r => .cells (cs.map (frozE n H)) :: endH n H k r
  | k + 1, x :: r => x :: endH n H k r

def frame0 : Nat → List AV → Fr
  | _, [] => []
  | i, x :: xs => (i, x) :: frame0 (i + 1) xs

end Go.Proofs.YtgapiecbinplfaaGreat
