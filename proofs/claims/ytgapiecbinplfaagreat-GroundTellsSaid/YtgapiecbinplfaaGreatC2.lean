/- Own framework, walks and plain laws behind the law Tells, part 2. -/
import Derived.Test.YtgapiecbinplfaaGreatC1
import Derived.Lib.SliceRun
import Derived.Laws.Cover3
/- The model's run of an operation that only reckons gives what 'valOp' says: the rest, and all together. -/
namespace Go.Proofs.YtgapiecbinplfaaGreat
open Go.RowKit

variable {P : Program} (E : TEnv P) {fz : Fz} {β : List Value} {w : World} {N : Nat} {a : Act} {ρ : Fr} {H : List Box}

theorem beq_dec (p q : List UInt8) : (p == q) = decide (p = q) := by
  by_cases h : p = q <;> simp [h]

theorem bytes_eq (s : List UInt8) : (ByteArray.mk s.toArray).toList = s := by
  exact Go.ByteArray.toList_mk s

theorem val_bin (hf : FrR fz β w N a ρ) {op : BinOp} {t : TypeId} {y z : Operand} {yt : TypeId} {x : AV} {ob : Prop}
    (h : valOp E ρ H (.binOp op t y z yt) = some (x, ob)) (hob : ob) :
    ∃ v, (do eqGuard op t y z (a.eval y) (a.eval z); binOp op t (a.eval y) (a.eval z)).run P w = .ok v w ∧ RdA fz β w x v := by
  simp only [valOp] at h
  cases hy : evA ρ y with
  | none => simp [hy] at h
  | some av =>
    cases hz : evA ρ z with
    | none => simp [hy, hz] at h
    | some bv =>
      simp only [hy, hz] at h
      have hr := evA_ok hf hy
      have hs := evA_ok hf hz
      unfold binA at h
      split at h
      · rename_i k p k' q
        simp only [RdA, ElR, List.cons.injEq, and_true] at hr hs
        split at h
        · rename_i hk
          subst hk
          have hg : (eqGuard op t y z (Value.int k p) (Value.int k q)).run P w = .ok () w := by
            unfold eqGuard; cases op <;> rfl
          rw [hr, hs]
          split at h
          · rename_i b hcb
            cases h
            refine ⟨.bool b, ?_, by simp [RdA, ElR]⟩
            cases op <;> simp only [intCmpB, Option.some.injEq, reduceCtorEq] at hcb <;> subst hcb <;> simp [hg, binOp, Op.intCmp] <;> (by_cases e : p = q <;> simp [e])
          · rename_i hcb
            split at h
            · rename_i n hn
              cases h
              refine ⟨.int k n, ?_, by simp [RdA, ElR]⟩
              cases op <;> simp only [intArB, Option.some.injEq, reduceCtorEq] at hn <;> subst hn <;> simp [hg, binOp, Op.intArith]
            · split at h
              · cases h
                refine ⟨.int k (Int.tmod p q), ?_, by simp [RdA, ElR]⟩
                have hq : ¬ q = 0 := by have := hob.2.1; intro e; rw [e] at this; exact Int.lt_irrefl _ this
                simp [hg, binOp, Op.intDiv, hq]
              · cases h
                refine ⟨.int k (Int.fdiv p 2), ?_, by simp [RdA, ElR]⟩
                have hq : q = 1 := hob
                subst hq
                have hk : min (Int.toNat 1) k.bits = 1 := by cases k <;> rfl
                have h0 : ¬ (1 : Int) < 0 := by omega
                simp only [hg, binOp, Op.shift, Sem.run_bind, Result.andThen_ok, h0, if_false, hk, Sem.run_pure]
                rfl
              · cases h
        · cases h
      · rename_i p q
        simp only [RdA, ElR, List.cons.injEq, and_true] at hr hs
        have hg : (eqGuard op t y z (Value.string ⟨p.toArray⟩) (Value.string ⟨q.toArray⟩)).run P w = .ok () w := by
          unfold eqGuard; cases op <;> rfl
        rw [hr, hs]
        split at h
        · cases h
          exact ⟨.bool (decide (p = q)), by simp [hg, binOp, Op.stringOp, bytes_eq, beq_dec], by simp [RdA, ElR]⟩
        · cases h
          exact ⟨.bool (!decide (p = q)), by simp [hg, binOp, Op.stringOp, bytes_eq, beq_dec], by simp [RdA, ElR]⟩
        · cases h
          exact ⟨.bool (Op.bytesLess p q), by simp [hg, binOp, Op.stringOp, bytes_eq], by simp [RdA, ElR]⟩
        · cases h
          exact ⟨.bool (!(Op.bytesLess p q || decide (p = q))), by simp [hg, binOp, Op.stringOp, bytes_eq, beq_dec], by simp [RdA, ElR]⟩
        · cases h
          have hno : ¬ ((((ByteArray.mk p.toArray).size + (ByteArray.mk q.toArray).size : Nat) : Int) > IntKind.i64.max) := by
            have : p.length + q.length ≤ 1099511627776 := by simpa [big] using hob
            rw [ByteArray_size_mk, ByteArray_size_mk]
            have e : IntKind.i64.max = 9223372036854775807 := by decide
            rw [e]
            omega
          refine ⟨.string ⟨(p ++ q).toArray⟩, ?_, by simp [RdA, ElR]⟩
          simp only [Sem.run_bind, hg, Result.andThen_ok, binOp, Op.stringOp]
          rw [if_neg hno, Sem.run_pure]
          congr 2
        · cases h
      · rename_i p q
        simp only [RdA, ElR, List.cons.injEq, and_true] at hr hs
        have hg : (eqGuard op t y z (Value.bool p) (Value.bool q)).run P w = .ok () w := by
          unfold eqGuard; cases op <;> rfl
        split at h
        · rename_i hbl
          have hu := E.blok t hbl
          have he : (Op.equal t (Value.bool p) (Value.bool q)).run P w = .ok (p == q) w := run_equalIn_bool w 9999 t p q hu
          rw [hr, hs]
          split at h
          · cases h
            exact ⟨.bool (p == q), by simp [hg, binOp, he], by simp [RdA, ElR]⟩
          · cases h
            exact ⟨.bool (!(p == q)), by simp [hg, binOp, he], by simp [RdA, ElR]⟩
          · cases h
        · cases h
      · rename_i p q r p' q' r'
        simp only [RdA, RdL, ElR, List.cons.injEq, and_true] at hr hs
        obtain ⟨vs, hv, v1, r1, rfl, h1, v2, r2, rfl, h2, v3, r3, rfl, h3, rfl⟩ := hr
        obtain ⟨us, hu, u1, s1, rfl, k1, u2, s2, rfl, k2, u3, s3, rfl, k3, rfl⟩ := hs
        subst h1; subst h2; subst h3; subst k1; subst k2; subst k3
        rw [hv, hu]
        split at h
        · rename_i hc
          have hcell := E.cellok t hc ⟨p, q, r⟩ ⟨p', q', r'⟩ w y z
          split at h
          · cases h; exact ⟨_, hcell.1, by simp [RdA, ElR]⟩
          · cases h; exact ⟨_, hcell.2, by simp [RdA, ElR]⟩
          · cases h
        · cases h
      · rename_i τ xs
        split at h
        · rename_i hel
          obtain ⟨⟨e, τ'⟩, he⟩ := Option.isSome_iff_exists.1 hel
          have hu := (E.elok t e τ' he).under
          simp only [RdA] at hr hs
          obtain ⟨u, hu1, ad, c, hv, _, _, hne⟩ := hr
          simp only [List.cons.injEq, and_true] at hu1
          have hg : ∀ op, (eqGuard op t y z (.slice ad xs.length c) (.slice none 0 0)).run P w = .ok () w := by
            intro op; unfold eqGuard; cases op <;> rfl
          rw [hu1, hv, hs]
          split at h
          · cases h
            obtain ⟨b, o, rfl, _⟩ := hne hob
            exact ⟨.bool false, by simp [hg, Lib.run_eql_slice_nil w t e _ _ _ 0 0 hu], by simp [RdA, ElR]⟩
          · cases h
            obtain ⟨b, o, rfl, _⟩ := hne hob
            exact ⟨.bool true, by simp [hg, run_neq_slice_nil w t e _ _ _ hu], by simp [RdA, ElR]⟩
          · cases h
        · cases h
      · cases h

theorem val_index (hf : FrR fz β w N a ρ) {t : TypeId} {y i : Operand} {x : AV} {ob : Prop}
    (h : valOp E ρ H (.index t y i) = some (x, ob)) (hob : ob) : ∃ v, (Instr.index t (a.eval y) (a.eval i)).run P w = .ok v w ∧ RdA fz β w x v := by
  simp only [valOp] at h
  split at h
  · rename_i s k n hs hn
    split at h
    · rename_i hstr
      cases h
      have hr := evA_ok hf hs
      have hi := evA_ok hf hn
      simp only [RdA, ElR, List.cons.injEq, and_true] at hr hi
      have hu := E.strok t hstr
      obtain ⟨h0, h1⟩ := hob
      have hlt : n.toNat < List.length s := (Int.toNat_lt h0).2 h1
      have hsz : (ByteArray.mk s.toArray)[n.toNat]? = some s[n.toNat] := by
        rw [getElem?_pos _ _ (by rw [ByteArray_size_mk]; exact hlt)]
        simp [ByteArray.getElem_eq_getElem_data]
      refine ⟨.int .u8 (s[n.toNat].toNat : Int), ?_, by simp [RdA, ElR, List.getD, List.getElem?_eq_getElem hlt]⟩
      rw [hr, hi]
      simp [Instr.index, asIntOf, run_underlying hu, h0, hsz]
    · cases h
  · cases h

theorem capsOf_ok : ∀ {l : List AV} {c : List (Nat × Nat)} {vs : List Value}, capsOf l = some c → RdL fz β w l vs → CapsR β c vs
  | [], c, vs, h, hr => by simp only [capsOf, Option.some.injEq] at h; subst h; simp only [RdL] at hr; exact hr
  | .ptr b o :: r, c, vs, h, hr => by
    simp only [capsOf, Option.bind_eq_bind] at h
    cases hc : capsOf r with
    | none => simp [hc] at h
    | some c' =>
      simp [hc] at h; subst h
      simp only [RdL, RdA] at hr
      obtain ⟨v, s, rfl, ⟨blk, hb, rfl⟩, h3⟩ := hr
      exact ⟨blk, s, rfl, hb, capsOf_ok hc h3⟩

theorem evP_ok (hf : FrR fz β w N a ρ) (hb : BoxesOk fz β w H) : ∀ {ps : List (Nat × Operand)} {l : List (Nat × AV)}, evP ρ ps = some l →
    (l.map fun p => p.1) = (ps.map fun p => p.1) ∧ RdL fz β w (l.map fun p => froz H p.2) (ps.map fun p => a.eval p.2)
  | [], l, h => by simp only [evP, Option.some.injEq] at h; subst h; simp [RdL]
  | (i, x) :: ps, l, h => by
    simp only [evP, Option.bind_eq_bind] at h
    cases h1 : evA ρ x with
    | none => simp [h1] at h
    | some y =>
      cases h2 : evP ρ ps with
      | none => simp [h1, h2] at h
      | some r =>
        simp [h1, h2] at h; subst h
        obtain ⟨h3, h4⟩ := evP_ok hf hb h2
        refine ⟨by simp [h3], ?_⟩
        simp only [List.map_cons, RdL]
        exact ⟨_, _, rfl, froz_ok hb (evA_ok hf h1), h4⟩

theorem fill_one (offs : List Nat) (hone : ∀ (b : Nat) (g : Value), β[b]? = some g → g.oneCell' = true) : ∀ {cs : List AV} {l : List (Nat × AV)} {out : List AV} {vs : List Value} {us : List Value},
    fillA offs cs l = some out → RdL fz β w cs vs → RdL fz β w (l.map (·.2)) us →
    ∃ vs', Instr.fill ((offs.map fun o => (o, 1)).toArray[·]?) vs.toArray ((l.map (·.1)).zip us) = some vs'.toArray ∧ RdL fz β w out vs'
  | cs, [], out, vs, us, h, hc, hl => by
    simp only [fillA, Option.some.injEq] at h; subst h
    exact ⟨vs, by simp [Instr.fill], hc⟩
  | cs, (i, x) :: l, out, vs, us, h, hc, hl => by
    simp only [fillA] at h
    split at h
    · rename_i o ho
      split at h
      · rename_i hx
        simp only [List.map_cons, RdL] at hl
        obtain ⟨u, r, rfl, hu, hr⟩ := hl
        have h1 := hu.one hone hx.1
        have hlen := hc.length
        obtain ⟨vs', h2, h3⟩ := fill_one offs hone h (hc.set o x u hu) hr
        refine ⟨vs', ?_, h3⟩
        have hp : ((offs.map fun o => (o, 1)).toArray[i]?) = some (o, 1) := by simp [ho]
        have hno : ¬ (o + 1 > vs.length) := by omega
        simp only [List.map_cons, List.zip_cons_cons, Instr.fill, hp, Value.cells_one h1]
        simp [hno]
        simpa using h2
      · cases h
    · cases h

theorem val_build (hf : FrR fz β w N a ρ) (hb : BoxesOk fz β w H) {t : TypeId} {parts : Array (Nat × Operand)} {x : AV} {ob : Prop}
    (h : valOp E ρ H (.build t parts) = some (x, ob)) : ∃ v, (Instr.build t (parts.map fun (i, x) => (i, a.eval x))).run P w = .ok v w ∧ RdA fz β w x v := by
  simp only [valOp] at h
  split at h
  · rename_i d l hd hl
    split at h
    · rename_i ha
      rw [Option.map_eq_some_iff] at h
      obtain ⟨cs, hcs, he⟩ := h
      cases he
      have hdo := E.tdok t d hd
      obtain ⟨z, hz1, hz2, hz3⟩ := hdo.zero
      obtain ⟨h1, h2⟩ := evP_ok hf hb hl
      obtain ⟨vs', h3, h4⟩ := fill_one (fz := fz) (β := β) (w := w) d.offs hb.one hcs (hz2 fz β w) (by rw [List.map_map]; exact h2)
      refine ⟨.agg vs'.toArray, run_build w t _ _ ?_, by simp only [RdA]; exact ⟨vs', rfl, h4⟩⟩
      rw [hz3 ha]
      have e1 : (parts.map fun (i, x) => (i, a.eval x)).toList = ((l.map fun p => (p.1, froz H p.2)).map (·.1)).zip (parts.toList.map fun p => a.eval p.2) := by
        rw [List.map_map, show ((fun (p : Nat × AV) => p.1) ∘ fun (p : Nat × AV) => (p.1, froz H p.2)) = (fun p => p.1) from rfl, h1, List.zip_map', Array.toList_map]
      rw [e1]
      simpa using h3
    · cases h
  · cases h

theorem val_len (hf : FrR fz β w N a ρ) (hb : BoxesOk fz β w H) {as : Array Operand} {ts : Array TypeId} {x : AV} {ob : Prop} {rt : TypeId}
    (h : valOp E ρ H (.call { callee := .builtin .len, args := as, argTypes := ts }) = some (x, ob)) :
    ∃ v, (Builtin.len_ ts rt (as.map a.eval)).run P w = .ok v w ∧ RdA fz β w x v := by
  simp only [valOp] at h
  split at h
  · rename_i y t hy ht
    have has : as = #[y] := Array.toList_inj.1 hy
    have hts : ts = #[t] := Array.toList_inj.1 ht
    subst has; subst hts
    split at h
    · rename_i p τ xs hel hev
      obtain ⟨e, τ'⟩ := p
      cases h
      rw [Option.map_eq_some_iff] at hev
      obtain ⟨av, h1, h2⟩ := hev
      have hr := froz_ok hb (evA_ok hf h1)
      rw [h2] at hr
      simp only [RdA] at hr
      obtain ⟨ad, c, hv⟩ := RdSl_len (elR_sl.1 hr)
      exact ⟨.int .i64 (xs.length : Int), by simp [Builtin.len_, run_underlying (E.elok t e τ' hel).under, hv, goInt], by simp [RdA, ElR]⟩
    · rename_i p hel hev
      obtain ⟨e, τ'⟩ := p
      cases h
      rw [Option.map_eq_some_iff] at hev
      obtain ⟨av, h1, h2⟩ := hev
      have hr := froz_ok hb (evA_ok hf h1)
      rw [h2] at hr
      simp only [RdA] at hr
      exact ⟨.int .i64 0, by simp [Builtin.len_, run_underlying (E.elok t e τ' hel).under, hr, goInt], by simp [RdA, ElR]⟩
    · rename_i p b hel hev
      obtain ⟨e, τ'⟩ := p
      rw [Option.map_eq_some_iff] at hev
      obtain ⟨av, h1, h2⟩ := hev
      have hr := froz_ok hb (evA_ok hf h1)
      rw [h2] at hr
      simp only [RdA] at hr
      split at h
      · rename_i e' τ xs hxs
        cases h
        obtain ⟨blk, c, vals, hg, _⟩ := hb.ok b _ _ hr hxs
        exact ⟨.int .i64 (xs.length : Int), by simp [Builtin.len_, run_underlying (E.elok t e τ' hel).under, hg, goInt], by simp [RdA, ElR]⟩
      · cases h
    · rename_i p b k i n hel hev
      obtain ⟨e, τ'⟩ := p
      cases h
      rw [Option.map_eq_some_iff] at hev
      obtain ⟨av, h1, h2⟩ := hev
      have hr := froz_ok hb (evA_ok hf h1)
      rw [h2] at hr
      simp only [RdA] at hr
      obtain ⟨blk, m, c, ad, c2, _, hv, _⟩ := hr
      exact ⟨.int .i64 (n : Int), by simp [Builtin.len_, run_underlying (E.elok t e τ' hel).under, hv, goInt], by simp [RdA, ElR]⟩
    · rename_i s hel hev
      split at h
      · rename_i hstr
        cases h
        rw [Option.map_eq_some_iff] at hev
        obtain ⟨av, h1, h2⟩ := hev
        have hr := froz_ok hb (evA_ok hf h1)
        rw [h2] at hr
        simp only [RdA, ElR, List.cons.injEq, and_true] at hr
        exact ⟨.int .i64 (s.length : Int), by simp [Builtin.len_, run_underlying (E.strok t hstr), hr, goInt, ByteArray_size_mk], by simp [RdA, ElR]⟩
      · cases h
    · cases h
  · cases h

/-- ALL TOGETHER. -/
theorem valOp_ok (hf : FrR fz β w N a ρ) (hb : BoxesOk fz β w H) {o : Oper} {x : AV} {ob : Prop}
    (h : valOp E ρ H o.op = some (x, ob)) (hob : ob) : ∃ v, (execOp a.eval o).run P w = .ok (.value v) w ∧ RdA fz β w x v := by
  obtain ⟨dst, op, ty, pos, after, guard⟩ := o
  simp only at h
  cases op with
  | move y =>
    have h := map_true (by simpa only [valOp] using h)
    exact ⟨_, rfl, evA_ok hf h⟩
  | assign y =>
    have h := map_true (by simpa only [valOp] using h)
    exact ⟨_, rfl, evA_ok hf h⟩
  | pick c y z =>
    simp only [valOp] at h
    split at h
    · rename_i t ht
      have hr := evA_ok hf ht
      simp only [RdA, ElR, List.cons.injEq, and_true] at hr
      split at h
      · rename_i hc; subst hc
        exact ⟨_, by simp [execOp, hr, asBool], evA_ok hf (map_true h)⟩
      · rename_i hc
        have hc' : t = false := by simpa using hc
        subst hc'
        exact ⟨_, by simp [execOp, hr, asBool], evA_ok hf (map_true h)⟩
    · cases h
  | load t y =>
    obtain ⟨v, h1, h2⟩ := val_load E hf hb h hob
    exact ⟨v, run_v h1, h2⟩
  | nilCheck y =>
    simp only [valOp] at h
    split at h
    · rename_i b o hy
      cases h
      have hr := evA_ok hf hy
      have hr' := hr
      simp only [RdA] at hr
      obtain ⟨blk, _, hv⟩ := hr
      exact ⟨a.eval y, by simp [execOp, hv], hr'⟩
    · rename_i f cs hy
      cases h
      have hr := evA_ok hf hy
      have hr' := hr
      simp only [RdA] at hr
      obtain ⟨vs, hv, _⟩ := hr
      exact ⟨a.eval y, by simp [execOp, hv], hr'⟩
    · cases h
  | binOp op t y z yt =>
    obtain ⟨v, h1, h2⟩ := val_bin E hf h hob
    exact ⟨v, run_v h1, h2⟩
  | unOp op t y =>
    simp only [valOp] at h
    split at h
    · rename_i b hy
      cases h
      have hr := evA_ok hf hy
      simp only [RdA, ElR, List.cons.injEq, and_true] at hr
      exact ⟨.bool (!b), by simp [execOp, hr, Op.unary], by simp [RdA, ElR]⟩
    · rename_i k n hy
      cases h
      have hr := evA_ok hf hy
      simp only [RdA, ElR, List.cons.injEq, and_true] at hr
      exact ⟨.int k (k.wrap (0 - n)), by simp [execOp, hr, Op.unary, Op.intArith], by simp [RdA, ElR]⟩
    · cases h
  | convert s d y =>
    simp only [valOp] at h
    split at h
    · rename_i k0 k k1 n hs hd hy
      cases h
      have hr := evA_ok hf hy
      simp only [RdA, ElR, List.cons.injEq, and_true] at hr
      have hu := E.ikok d k hd
      have hu0 := E.ikok s k0 hs
      refine ⟨.int k (k.wrap n), ?_, by simp [RdA, ElR]⟩
      simp [execOp, hr, convert, run_underlying hu, run_underlying hu0, Conv.intToInt]
    · cases h
  | slice t y lo hi mx =>
    cases mx with
    | none =>
      obtain ⟨v, h1, h2⟩ := val_slice E hf hb h hob
      exact ⟨v, run_v h1, h2⟩
    | some m => simp [valOp] at h
  | fieldAddr t y f =>
    obtain ⟨v, h1, h2⟩ := val_fieldAddr E hf h
    exact ⟨v, run_v h1, h2⟩
  | field t y f =>
    obtain ⟨v, h1, h2⟩ := val_field E hf h
    exact ⟨v, run_v h1, h2⟩
  | indexAddr t y i =>
    obtain ⟨v, h1, h2⟩ := val_indexAddr E hf hb h hob
    exact ⟨v, run_v h1, h2⟩
  | index t y i =>
    obtain ⟨v, h1, h2⟩ := val_index E hf h hob
    exact ⟨v, run_v h1, h2⟩
  | extract y i =>
    simp only [valOp] at h
    split at h
    · rename_i xs hy
      have h := map_true h
      have hr := evA_ok hf hy
      simp only [RdA] at hr
      obtain ⟨vs, hv, hl⟩ := hr
      obtain ⟨v, hv1, hv2⟩ := hl.get i x h
      exact ⟨v, by simp [execOp, hv, Instr.extract, hv1], hv2⟩
    · cases h
  | makeFunc fn first caps =>
    cases fn with
    | func f =>
      simp only [valOp] at h
      split at h
      · rename_i hfst
        split at h
        · rename_i l hl
          rw [Option.map_eq_some_iff] at h
          obtain ⟨c, hc, he⟩ := h
          cases he
          have hrl := evL_ok hf hl
          have hcr := capsOf_ok hc hrl
          have hf0 : first = #[] := by
            have : first.toList = [] := List.eq_nil_of_length_eq_zero hfst
            exact Array.toList_inj.1 this
          subst hf0
          refine ⟨.func (.func f) #[] (caps.map a.eval), by simp [execOp, Instr.makeFunc], ?_⟩
          simp only [RdA]
          refine ⟨_, ?_, hcr⟩
          congr 1
          apply Array.ext'
          simp
        · cases h
      · cases h
    | _ => simp [valOp] at h
  | build t parts =>
    obtain ⟨v, h1, h2⟩ := val_build E hf hb h
    exact ⟨v, run_v h1, h2⟩
  | call c =>
    obtain ⟨callee, as, ts⟩ := c
    cases callee with
    | builtin b =>
      cases b with
      | len =>
        obtain ⟨v, h1, h2⟩ := val_len E (rt := ty) hf hb h
        exact ⟨v, by simp [execOp, resolve, invoke, builtin, h1], h2⟩
      | min =>
        simp only [valOp] at h
        split at h
        · rename_i y z hyz
          have has : as = #[y, z] := Array.toList_inj.1 hyz
          subst has
          split at h
          · rename_i k p k' q hy hz
            split at h
            · rename_i hk
              subst hk
              cases h
              have hr := evA_ok hf hy
              have hs := evA_ok hf hz
              simp only [RdA, ElR, List.cons.injEq, and_true] at hr hs
              exact ⟨.int k (if q < p then q else p), by simp [execOp, resolve, invoke, builtin, Builtin.min_, Builtin.min2, hr, hs], by simp [RdA, ElR]⟩
            · cases h
          · cases h
        · cases h
      | _ => simp [valOp] at h
    | _ => simp [valOp] at h
  | _ => simp [valOp] at h

end Go.Proofs.YtgapiecbinplfaaGreat
/- What operations that write do to the boxes: the steps of the relation. -/
namespace Go.Proofs.YtgapiecbinplfaaGreat
open Go.RowKit

variable {P : Program} {fz fz' : Fz} {β β' : List Value} {w w' : World} {m0 N : Nat} {a : Act} {ρ : Fr} {H : List Box} {S : Start}

/-- The block of a live box lies in the heap. -/
theorem BoxOk.lt {g : Value} {x : Box} (h : BoxOk fz β w g x) (hl : x.live = true) {k : Nat} (hk : blkOf g = some k) : k < w.heap.size := by
  cases x with
  | cells cs =>
    obtain ⟨blk, vs, e, rfl, hh, _⟩ := h
    cases hk
    exact (Array.getElem?_eq_some_iff.1 hh).1
  | orow e t xs =>
    obtain ⟨vals, ho, _, _⟩ := h
    rcases ho.2 with ⟨rfl, _⟩ | ⟨b, cap, cur, rfl, _, hh, _⟩
    · cases hk
    · cases hk; exact (Array.getElem?_eq_some_iff.1 hh).1
  | mrow e t xs =>
    obtain ⟨blk, c, vals, rfl, _, _, hh, _⟩ := h
    cases hk
    exact (Array.getElem?_eq_some_iff.1 hh).1
  | dead => cases hl

/-- A box whose block is not touched stands as before. -/
theorem BoxOk.keep {g : Value} {x : Box} (h : BoxOk fz β w g x) (hbl : ∀ k, blkOf g = some k → w'.heap[k]? = w.heap[k]?) (hl : Later fz w fz' w')
    (hnew : ∀ k o, blkOf g = some k → fz' k o → fz k o) : BoxOk fz' β w' g x := by
  cases x with
  | cells cs =>
    obtain ⟨blk, vs, e, rfl, hh, hr, hz⟩ := h
    exact ⟨blk, vs, e, rfl, by rw [hbl blk rfl]; exact hh, hr.mono hl, fun o ho => hz o (hnew blk o rfl ho)⟩
  | orow e t xs =>
    obtain ⟨vals, ho, he, hf⟩ := h
    refine ⟨vals, ⟨ho.1, ?_⟩, ElsR.mono hl _ _ he, fun blk hb o => ⟨fun hz => (hf blk hb o).1 (hnew blk o hb hz), fun hz => (hl _ _ ((hf blk hb o).2 hz)).1⟩⟩
    rcases ho.2 with h | ⟨b, cap, cur, rfl, hb, hh, r⟩
    · exact .inl h
    · exact .inr ⟨b, cap, cur, rfl, hb, by rw [hbl b rfl]; exact hh, r⟩
  | mrow e t xs =>
    obtain ⟨blk, c, vals, rfl, h1, h2, hh, ⟨rest, front, h3, h4⟩, hz⟩ := h
    exact ⟨blk, c, vals, rfl, h1, h2, by rw [hbl blk rfl]; exact hh, ⟨rest, front, h3, ElsR.mono hl _ _ h4⟩, fun o ho => hz o (hnew blk o rfl ho)⟩
  | dead => trivial

theorem BoxOk.ext {g : Value} {x : Box} (h : BoxOk fz β w g x) (he : Ext β β') : BoxOk fz β' w g x := by
  cases x with
  | cells cs =>
    obtain ⟨blk, vs, e, rfl, hh, hr, hz⟩ := h
    exact ⟨blk, vs, e, rfl, hh, RdL.ext he _ _ hr, hz⟩
  | orow e t xs => exact h
  | mrow e t xs => exact h
  | dead => trivial

/-- The block of box b. -/
def OwnAt (β : List Value) (b : Nat) (k : Nat) : Prop := ∃ g, β[b]? = some g ∧ blkOf g = some k

/-- One box is written. -/
theorem BoxesOk.touch (hb : BoxesOk fz β w H) (b : Nat) (x' : Box)
    (hsame : ∀ k, k < w.heap.size → ¬ OwnAt β b k → w'.heap[k]? = w.heap[k]?) (hl : Later fz w fz' w')
    (hnew : ∀ k o, fz' k o → fz k o ∨ w.heap.size ≤ k ∨ OwnAt β b k)
    (hok : ∀ g, β[b]? = some g → BoxOk fz' β w' g x') (hold : ∃ x, H[b]? = some x ∧ x.live = true) : BoxesOk fz' β w' (H.set b x') := by
  obtain ⟨x, hx, hxl⟩ := hold
  have hbl : b < H.length := (List.getElem?_eq_some_iff.1 hx).1
  refine ⟨by simpa using hb.len, hb.one, fun i g y hg hy => ?_, fun i j gi gj xi xj hij hgi hgj hxi hxj li lj => ?_⟩
  · rw [List.getElem?_set] at hy
    split at hy
    · rename_i hbi
      subst hbi
      first | (rw [if_pos hbl] at hy; cases hy; exact hok g hg) | (cases hy; exact hok g hg)
    · rename_i hbi
      by_cases hly : y.live = true
      · have hy0 := hb.ok i g y hg hy
        have hnot : ∀ k, blkOf g = some k → ¬ OwnAt β b k := fun k hk ⟨g', hg', hk'⟩ =>
          hb.apart i b g g' y x (Ne.symm hbi) hg hg' hy hx hly hxl k hk hk'
        have hlt := fun k hk => hy0.lt hly (k := k) hk
        exact hy0.keep (fun k hk => hsame k (hlt k hk) (hnot k hk)) hl (fun k o hk hz => by
          rcases hnew k o hz with h | h | h
          · exact h
          · have := hlt k hk; omega
          · exact absurd h (hnot k hk))
      · cases y with
        | dead => trivial
        | _ => simp [Box.live] at hly
  · have conv : ∀ (i : Nat) (y : Box), (H.set b x')[i]? = some y → y.live = true → ∃ z : Box, H[i]? = some z ∧ z.live = true := by
      intro i y hy hl
      rw [List.getElem?_set] at hy
      split at hy
      · rename_i hbi; subst hbi; exact ⟨x, hx, hxl⟩
      · exact ⟨y, hy, hl⟩
    obtain ⟨zi, hzi, lzi⟩ := conv i xi hxi li
    obtain ⟨zj, hzj, lzj⟩ := conv j xj hxj lj
    exact hb.apart i j gi gj zi zj hij hgi hgj hzi hzj lzi lzj

/-- A new box behind. -/
theorem BoxesOk.snoc (hb : BoxesOk fz β w H) (g : Value) (x : Box) (hone : g.oneCell' = true)
    (hsame : ∀ k, k < w.heap.size → w'.heap[k]? = w.heap[k]?) (hl : Later fz w fz' w')
    (hnew : ∀ k o, fz' k o → fz k o ∨ w.heap.size ≤ k) (hok : BoxOk fz' (β ++ [g]) w' g x) (hg : ∀ k, blkOf g = some k → w.heap.size ≤ k) :
    BoxesOk fz' (β ++ [g]) w' (H ++ [x]) := by
  have hlen := hb.len
  have old : ∀ (i : Nat) (g' : Value) (y : Box), (β ++ [g])[i]? = some g' → (H ++ [x])[i]? = some y → (β[i]? = some g' ∧ H[i]? = some y) ∨ (i = β.length ∧ g' = g ∧ y = x) := by
    intro i g' y h1 h2
    by_cases hi : i < β.length
    · rw [List.getElem?_append_left hi] at h1
      rw [List.getElem?_append_left (by omega)] at h2
      exact .inl ⟨h1, h2⟩
    · rw [List.getElem?_append_right (by omega)] at h1 h2
      have : i - β.length = 0 := by
        have := (List.getElem?_eq_some_iff.1 h1).1
        simp at this; omega
      have h2' : i - H.length = 0 := by omega
      rw [this] at h1; rw [h2'] at h2
      simp at h1 h2
      exact .inr ⟨by omega, h1.symm, h2.symm⟩
  refine ⟨by simp [hlen], fun i g' hi => ?_, fun i g' y h1 h2 => ?_, fun i j gi gj xi xj hij h1 h2 h3 h4 li lj k hk hk' => ?_⟩
  · by_cases h : i < β.length
    · rw [List.getElem?_append_left h] at hi; exact hb.one i g' hi
    · rw [List.getElem?_append_right (by omega)] at hi
      have := List.mem_of_getElem? hi
      simp at this; subst this; exact hone
  · rcases old i g' y h1 h2 with ⟨h1, h2⟩ | ⟨_, rfl, rfl⟩
    · by_cases hly : y.live = true
      · have hy0 := hb.ok i g' y h1 h2
        have hlt := fun k hk => hy0.lt hly (k := k) hk
        exact (hy0.keep (fun k hk => hsame k (hlt k hk)) hl (fun k o hk hz => by
          rcases hnew k o hz with h | h
          · exact h
          · have := hlt k hk; omega)).ext (Ext.snoc _ _)
      · cases y with
        | dead => trivial
        | _ => simp [Box.live] at hly
    · exact hok
  · rcases old i gi xi h1 h3 with ⟨a1, a2⟩ | ⟨e1, rfl, rfl⟩ <;> rcases old j gj xj h2 h4 with ⟨b1, b2⟩ | ⟨e2, rfl, rfl⟩
    · exact hb.apart i j gi gj xi xj hij a1 b1 a2 b2 li lj k hk hk'
    · have h5 := (hb.ok i gi xi a1 a2).lt li hk
      have h6 := hg k hk'
      omega
    · have h5 := (hb.ok j gj xj b1 b2).lt lj hk'
      have h6 := hg k hk
      omega
    · omega

theorem Pre.snoc (h : Pre S m0 β H) (hl : β.length = H.length) (g : Value) (x : Box) : Pre S m0 (β ++ [g]) (H ++ [x]) := by
  have hle := h.le
  refine ⟨h.len, by simp; omega, fun i hi => ?_, fun i y hi hy => ?_⟩
  · rw [List.getElem?_append_left (by omega)]; exact h.same i hi
  · rw [List.getElem?_append_left (by omega)] at hy; exact h.noO i y hi hy
theorem Pre.set (h : Pre S m0 β H) (b : Nat) (x : Box) (hx : x.isO = false) : Pre S m0 β (H.set b x) := by
  refine ⟨h.len, by simpa using h.le, h.same, fun i y hi hy => ?_⟩
  rw [List.getElem?_set] at hy
  split at hy
  · rename_i hb
    subst hb
    first | (split at hy <;> cases hy; exact hx) | (cases hy; exact hx)
  · exact h.noO i y hi hy

theorem FrR.later (hf : FrR fz β w N a ρ) (hl : Later fz w fz' w') : FrR fz' β w' N a ρ := ⟨hf.1, hf.2.1, fun t x h => ⟨(hf.2.2 t x h).1, (hf.2.2 t x h).2.mono hl⟩⟩
theorem FrR.ext (hf : FrR fz β w N a ρ) (he : Ext β β') : FrR fz β' w N a ρ := ⟨hf.1, hf.2.1, fun t x h => ⟨(hf.2.2 t x h).1, RdA.ext he _ _ (hf.2.2 t x h).2⟩⟩
theorem FrR.sub {ρ' : Fr} (hf : FrR fz β w N a ρ) (hs : ∀ p, p ∈ ρ' → p ∈ ρ) : FrR fz β w N a ρ' := ⟨hf.1, hf.2.1, fun t x h => hf.2.2 t x (hs _ h)⟩

/-- What an operation has put in a slot. -/
theorem FrR.put (hf : FrR fz β w N a ρ) {d : Nat} {x : AV} {v : Value} (hd : d < N) (hx : RdA fz β w x v) : FrR fz β w N (a.put (some d) v) ((d, x) :: del ρ d) := by
  refine ⟨hf.1, by simp [Act.put, hf.2.1], fun t y h => ?_⟩
  rcases List.mem_cons.1 h with h | h
  · cases h
    refine ⟨hd, ?_⟩
    simp only [Act.put, Array.getD_eq_getD_getElem?, Array.getElem?_setIfInBounds, hf.2.1]
    simp [hd, hx]
  · obtain ⟨h1, h2⟩ := del_mem h
    obtain ⟨h3, h4⟩ := hf.2.2 t y h1
    refine ⟨h3, ?_⟩
    simp only [Act.put, Array.getD_eq_getD_getElem?, Array.getElem?_setIfInBounds] at *
    rw [if_neg (Ne.symm h2)]
    exact h4
theorem FrR.drop (hf : FrR fz β w N a ρ) {d : Nat} {v : Value} : FrR fz β w N (a.put (some d) v) (del ρ d) := by
  refine ⟨hf.1, by simp [Act.put, hf.2.1], fun t y h => ?_⟩
  obtain ⟨h1, h2⟩ := del_mem h
  obtain ⟨h3, h4⟩ := hf.2.2 t y h1
  refine ⟨h3, ?_⟩
  simp only [Act.put, Array.getD_eq_getD_getElem?, Array.getElem?_setIfInBounds] at *
  rw [if_neg (Ne.symm h2)]
  exact h4

theorem Anc.step (h : Anc S fz w) (h1 : w'.os = w.os) (h2 : w'.tape = w.tape) (h3 : w'.output = w.output) (hd : w.drawn ≤ w'.drawn) (h4 : w.heap.size ≤ w'.heap.size)
    (h5 : ∀ k, k < S.w.heap.size → ¬ S.own k → w'.heap[k]? = w.heap[k]?) (h6 : Later fz w fz' w') (h7 : ∀ b o, fz' b o → fz b o ∨ S.w.heap.size ≤ b ∨ S.own b) : Anc S fz' w' :=
  ⟨h1.trans h.os, h2.trans h.tape, h3.trans h.output, Nat.le_trans h.drawn hd, Nat.le_trans h.size h4, fun k hk ho => (h5 k hk ho).trans (h.block k hk ho), h.later.trans h6,
    fun b o hf => by rcases h7 b o hf with h | h | h
                     · exact ‹Anc S fz w›.news b o h
                     · exact .inr (.inl h)
                     · exact .inr (.inr h)⟩

/-- A new box, in a new block. -/
theorem Rel.newBox (h : Rel S m0 N fz β w a ρ H) (o : Obj) (g : Value) (x : Box) (hone : g.oneCell' = true) (hnew : ∀ k o, fz' k o → fz k o ∨ k = w.heap.size)
    (hl : ∀ k o, fz k o → fz' k o) (hok : BoxOk fz' (β ++ [g]) (w.alloc o) g x) (hg : ∀ k, blkOf g = some k → k = w.heap.size) :
    Rel S m0 N fz' (β ++ [g]) (w.alloc o) a ρ (H ++ [x]) := by
  have hlater : Later fz w fz' (w.alloc o) := fun b k hf => ⟨hl b k hf, World.cell?_of_block (w := w) (Below.heap_alloc w o b (h.fzok b k hf))⟩
  have hsz : (w.alloc o).heap.size = w.heap.size + 1 := by simp
  refine ⟨(h.fr.later hlater).ext (Ext.snoc _ _), h.bx.snoc g x hone (fun k hk => Below.heap_alloc w o k hk) hlater (fun k o hf => ?_) hok (fun k hk => by rw [hg k hk]; exact Nat.le_refl _),
    fun i g' y h1 h2 hl' k hk => ?_, h.anc.step rfl rfl rfl (Nat.le_refl _) (by omega) (fun k hk _ => Below.heap_alloc w o k (by have := h.anc.size; omega)) hlater (fun b k hf => ?_), fun b k hf => ?_, h.pre.snoc h.bx.len g x⟩
  · rcases hnew k o hf with h | h
    · exact .inl h
    · exact .inr (by omega)
  · have hlen := h.bx.len
    by_cases hi : i < β.length
    · rw [List.getElem?_append_left hi] at h1
      rw [List.getElem?_append_left (by omega)] at h2
      exact h.mine i g' y h1 h2 hl' k hk
    · rw [List.getElem?_append_right (by omega)] at h1
      have := List.mem_of_getElem? h1
      simp at this; subst this
      rw [hg k hk]; exact .inl h.anc.size
  · rcases hnew b k hf with h' | h'
    · exact .inl h'
    · have := h.anc.size; exact .inr (.inl (by omega))
  · rcases hnew b k hf with h' | h'
    · have := h.fzok b k h'; omega
    · omega

/-- New frozen cells, in a new block. -/
theorem Rel.newFz (h : Rel S m0 N fz β w a ρ H) (o : Obj) (hnew : ∀ k o, fz' k o → fz k o ∨ k = w.heap.size) (hl : ∀ k o, fz k o → fz' k o) :
    Rel S m0 N fz' β (w.alloc o) a ρ H := by
  have hlater : Later fz w fz' (w.alloc o) := fun b k hf => ⟨hl b k hf, World.cell?_of_block (w := w) (Below.heap_alloc w o b (h.fzok b k hf))⟩
  have hsz : (w.alloc o).heap.size = w.heap.size + 1 := by simp
  refine ⟨h.fr.later hlater, ⟨h.bx.len, h.bx.one, fun i g y h1 h2 => ?_, h.bx.apart⟩, h.mine, h.anc.step rfl rfl rfl (Nat.le_refl _) (by omega) (fun k hk _ => Below.heap_alloc w o k (by have := h.anc.size; omega)) hlater (fun b k hf => ?_), fun b k hf => ?_, h.pre⟩
  · by_cases hly : y.live = true
    · have hy0 := h.bx.ok i g y h1 h2
      have hlt := fun k hk => hy0.lt hly (k := k) hk
      exact hy0.keep (fun k hk => Below.heap_alloc w o k (hlt k hk)) hlater (fun k o hk hz => by
          rcases hnew k o hz with h | h
          · exact h
          · have := hlt k hk; omega)
    · cases y with
      | dead => trivial
      | _ => simp [Box.live] at hly
  · rcases hnew b k hf with h' | h'
    · exact .inl h'
    · have := h.anc.size; exact .inr (.inl (by omega))
  · rcases hnew b k hf with h' | h'
    · have := h.fzok b k h'; omega
    · omega

/-- A draw. -/
theorem Rel.drew (h : Rel S m0 N fz β w a ρ H) : Rel S m0 N fz β w.drew a ρ H := by
  have hl : Later fz w fz w.drew := fun b o hf => ⟨hf, rfl⟩
  refine ⟨h.fr.later hl, ⟨h.bx.len, h.bx.one, fun i g y h1 h2 => (h.bx.ok i g y h1 h2).keep (fun _ _ => rfl) hl (fun _ _ _ h => h), h.bx.apart⟩, h.mine, h.anc.step rfl rfl rfl (Nat.le_succ _) (Nat.le_refl _) (fun _ _ _ => rfl) hl (fun b o hf => .inl hf), h.fzok, h.pre⟩

/-- A row of cells is written: that of box b. -/
theorem Rel.write (h : Rel S m0 N fz β w a ρ H) (b : Nat) (x x' : Box) (g : Value) (blk : Nat) (cs : Array Value) (hx : H[b]? = some x) (hxl : x.live = true) (hg : β[b]? = some g) (hk : blkOf g = some blk)
    (hz : ∀ o, ¬ fz blk o) (hO : x'.isO = false) (hok : Later fz w fz (w.setRow blk cs) → BoxOk fz β (w.setRow blk cs) g x') : Rel S m0 N fz β (w.setRow blk cs) a ρ (H.set b x') := by
  have hl : Later fz w fz (w.setRow blk cs) := fun b' o hf => ⟨hf, cell_setRow_other w blk cs _ (fun e => hz o (by rw [← e]; exact hf))⟩
  have hown : ∀ k, ¬ OwnAt β b k → k ≠ blk := fun k hn e => hn ⟨g, hg, by rw [e]; exact hk⟩
  refine ⟨h.fr.later hl, h.bx.touch b x' (fun k _ hn => setRow_other w blk k cs (hown k hn)) hl (fun k o hf => .inl hf) (fun g' hg' => ?_) ⟨x, hx, hxl⟩,
    fun i g' y h1 h2 hl' k hk' => ?_, h.anc.step rfl rfl rfl (Nat.le_refl _) (by simp) (fun k hk' hn => setRow_other w blk k cs ?_) hl (fun b o hf => .inl hf), fun b' o hf => by simpa using h.fzok b' o hf, h.pre.set b x' hO⟩
  · rw [hg] at hg'; cases hg'; exact hok hl
  · rw [List.getElem?_set] at h2
    split at h2
    · rename_i hbi; subst hbi
      exact h.mine b g' x h1 hx hxl k hk'
    · exact h.mine i g' y h1 h2 hl' k hk'
  · intro e
    rcases h.mine b g x hg hx hxl blk hk with h' | h'
    · omega
    · rw [e] at hn; exact hn h'

end Go.Proofs.YtgapiecbinplfaaGreat
/- Appending to a row of the call's own. -/
namespace Go.Proofs.YtgapiecbinplfaaGreat
open Go.RowKit

variable {P : Program} {fz fz' : Fz} {β β' : List Value} {w w' : World} {m0 N : Nat} {a : Act} {ρ : Fr} {H : List Box} {S : Start}

theorem RdSl_one {α : Type} {k : Nat} {R : α → List Value → Prop} {v : Value} {xs : List α} (h : RdSl fz w k R v xs) : v.oneCell' = true := by
  obtain ⟨a, c, rfl, _⟩ := h; rfl

theorem ElR_one : ∀ {t : Ty} {x : t.den} {cs : List Value}, ElR fz w t x cs → ∀ v ∈ cs, v.oneCell' = true := by
  intro t x cs h v hv
  cases t with
  | int k => cases h; simp at hv; subst hv; rfl
  | bool => cases h; simp at hv; subst hv; rfl
  | str => cases h; simp at hv; subst hv; rfl
  | cell => cases h; simp [cellVals] at hv; rcases hv with rfl | rfl | rfl <;> rfl
  | rule =>
    obtain ⟨p, q, rfl, h1, h2⟩ := h
    simp at hv; rcases hv with rfl | rfl | rfl
    · rfl
    · exact RdSl_one h1
    · exact RdSl_one h2
  | inst =>
    obtain ⟨r, p, q, rfl, h0, h1, h2⟩ := h
    simp at hv; rcases hv with rfl | rfl | rfl
    · exact RdSl_one h0
    · exact RdSl_one h1
    · exact RdSl_one h2
  | table =>
    obtain ⟨p, q, rfl, h1, h2⟩ := h
    simp at hv; rcases hv with rfl | rfl
    · exact RdSl_one h1
    · exact RdSl_one h2
  | bind =>
    obtain ⟨p, rfl, h1⟩ := h
    simp at hv; rcases hv with rfl | rfl
    · rfl
    · exact RdSl_one h1
  | sl t =>
    obtain ⟨u, rfl, h1⟩ := h
    simp at hv; subst hv; exact RdSl_one h1

theorem ElsR_one {t : Ty} : ∀ {xs : List t.den} {vs : List Value}, ElsR fz w t xs vs → ∀ v ∈ vs, v.oneCell' = true
  | [], _, h, v, hv => by cases h; cases hv
  | _ :: xs, _, ⟨cs, r, h1, h2, h3⟩, v, hv => by
    subst h1
    rcases List.mem_append.1 hv with hv | hv
    · exact ElR_one h2 v hv
    · exact ElsR_one h3 v hv

/-- All the cells of a slice's elements, in one row. -/
theorem els_of {τ : Ty} {b : Nat} : ∀ (xs : List τ.den) (o : Nat), (∀ i (h : i < xs.length), ∃ cs : List Value, cs.length = τ.size ∧
      (∀ j (hj : j < cs.length), fz b (o + i * τ.size + j) ∧ w.cell? ⟨b, o + i * τ.size + j, none⟩ = some cs[j]) ∧ ElR fz w τ xs[i] cs) →
    ∃ news, ElsR fz w τ xs news ∧ ∀ (j : Nat) (u : Value), news[j]? = some u → w.cell? ⟨b, o + j, none⟩ = some u
  | [], o, _ => ⟨[], rfl, fun j u h => by simp at h⟩
  | x :: xs, o, h => by
    obtain ⟨cs, hk, hj, hx⟩ := h 0 (by simp)
    obtain ⟨news, h1, h2⟩ := els_of xs (o + τ.size) (fun i hi => by
      obtain ⟨cs, a1, a2, a3⟩ := h (i + 1) (by simpa using hi)
      exact ⟨cs, a1, fun j hjl => by have := a2 j hjl; rwa [show o + (i + 1) * τ.size + j = o + τ.size + i * τ.size + j by rw [Nat.add_mul]; omega] at this, a3⟩)
    refine ⟨cs ++ news, ⟨cs, news, rfl, hx, h1⟩, fun j u hu => ?_⟩
    by_cases hjl : j < cs.length
    · rw [List.getElem?_append_left hjl] at hu
      have := (hj j hjl).2
      simp only [Nat.zero_mul, Nat.add_zero] at this
      rw [this, ← hu, List.getElem?_eq_getElem hjl]
    · rw [List.getElem?_append_right (by omega)] at hu
      have := h2 _ _ hu
      rwa [show o + τ.size + (j - cs.length) = o + j by omega] at this

theorem RdSl_news {τ : Ty} {v : Value} {xs : List τ.den} (h : RdSl fz w τ.size (ElR fz w τ) v xs) :
    ∃ news, ElsR fz w τ xs news ∧ ((xs = [] ∧ ∃ ad c, v = .slice ad 0 c) ∨ ∃ b o c, v = .slice (some ⟨b, o, none⟩) xs.length c ∧ ∀ (j : Nat) (u : Value), news[j]? = some u → w.cell? ((⟨b, o, none⟩ : Addr).add j) = some u) := by
  obtain ⟨ad, c, hv, h1, h2, h3⟩ := h
  by_cases hne : xs = []
  · subst hne
    exact ⟨[], rfl, .inl ⟨rfl, ad, c, hv⟩⟩
  · obtain ⟨b, o, rfl, hc⟩ := h3 hne
    obtain ⟨news, h4, h5⟩ := els_of xs o hc
    exact ⟨news, h4, .inr ⟨b, o, c, hv, fun j u hu => by rw [addr_add]; exact h5 j u hu⟩⟩

theorem run_append_empty (w : World) (t ty e : TypeId) (i : TypeInfo) (ht : P.underlying t = some (.slice e)) (hi : P.info? e = some i) (s ad : Option Addr) (n cap c : Nat) (hc : n ≤ cap) :
    (Builtin.append_ #[t, t] ty #[.slice s n cap, .slice ad 0 c]).run P w = .ok (.slice s n cap) w := by
  have hf : (Builtin.firstCells i.size 0 (.slice ad 0 c)).run P w = .ok #[] w := by
    cases ad <;> simp [Builtin.firstCells, loadCells, loadCellsFrom]
  cases s <;> simp [Builtin.append_, run_underlying ht, sizeOf, typeInfo, hi, Builtin.lenOf, hc, hf, storeCells]

/-- What an append to a row of the call's own comes to: three ways. -/
theorem append_run {t e : TypeId} {τ τ' : Ty} (heo : ElOk P t e τ') (hsz : τ.size = τ'.size) {v : Value} {n : Nat} {vals : List Value} (ho : w.ownsRow 0 e τ.size v n vals)
    {ys : List τ.den} {xv : Value} (hx : RdSl fz w τ.size (ElR fz w τ) xv ys) (hbig : n + ys.length ≤ big) (ty : TypeId) :
    ∃ v' w' news, (Builtin.append_ #[t, t] ty #[v, xv]).run P w = .ok v' w' ∧ ElsR fz w τ ys news ∧ w'.ownsRow 0 e τ.size v' (n + ys.length) (vals ++ news) ∧
      ((w' = w ∧ v' = v ∧ ys = []) ∨ (∃ o, w' = w.drew.alloc o ∧ blkOf v' = some w.heap.size) ∨
       ∃ blk cs, blkOf v = some blk ∧ blkOf v' = some blk ∧ w' = w.setRow blk cs ∧ ∀ j, j < vals.length → (w.setRow blk cs).cell? ⟨blk, j, none⟩ = w.cell? ⟨blk, j, none⟩) := by
  obtain ⟨i, z, hi1, hi2, hi3, hi4, hi5, hi6⟩ := heo.info
  obtain ⟨news, hn, hx⟩ := RdSl_news hx
  have hnl := hn.length
  rw [hsz, ← hi3] at hnl
  have hone := ElsR_one hn
  have hbytes : (n + ys.length) * i.bytes ≤ 140737488355328 := by
    have : (n + ys.length) * i.bytes ≤ big * 128 := Nat.mul_le_mul hbig hi4
    simpa [big] using this
  have hml : n + ys.length ≤ maxLen := by simp [big, maxLen] at hbig ⊢; omega
  have h63 : ((n + ys.length : Nat) : Int) ≤ 9223372036854775807 := by simp [maxLen] at hml; omega
  have hzs : z.cells.size = i.size := by
    have := (hi6 (fun _ _ => False) w).length
    rw [Array.length_toList] at this
    omega
  have hsl : (vals ++ news).length = (n + ys.length) * τ.size := by rw [List.length_append, ho.1, hn.length, Nat.add_mul]
  rcases hx with ⟨hy, ad, c, rfl⟩ | ⟨b, o, c, rfl, hcells⟩
  · subst hy
    have hn0 : news = [] := List.eq_nil_of_length_eq_zero (by simpa using hnl)
    subst hn0
    refine ⟨v, w, [], ?_, hn, by simpa using ho, .inl ⟨rfl, rfl, rfl⟩⟩
    rcases ho.2 with ⟨rfl, rfl⟩ | ⟨g, cap, cur, rfl, _, _, hc, _⟩
    · exact run_append_empty w t ty e i heo.under hi1 none ad 0 0 c (Nat.le_refl _)
    · exact run_append_empty w t ty e i heo.under hi1 (some ⟨g, 0, none⟩) ad n cap c hc
  · have own : ∀ (old : Nat), old < n + ys.length →
        (w.drew.alloc (.cells (vals.toArray ++ news.toArray ++ Builtin.zeroCells z.cells (grownCap w (n + ys.length) old e - (n + ys.length))) e)).ownsRow 0 e τ.size
          (.slice (some ⟨w.heap.size, 0, none⟩) (n + ys.length) (grownCap w (n + ys.length) old e)) (n + ys.length) (vals ++ news) := by
      intro old hold
      have hge := grownCap_ge w (n + ys.length) old e
      have hcm := grownCap_le_maxLen w (n + ys.length) old e hml
      refine ⟨hsl, .inr ⟨w.heap.size, _, _, rfl, Nat.zero_le _, heap_alloc_new w.drew _, hge, hcm, ?_, ?_⟩⟩
      · simp only [Array.size_append, List.size_toArray, size_zeroCells, hzs, ho.1, hnl, hi3, hsz, ← Nat.add_mul]
        congr 1; omega
      · simp only [Array.toList_append, List.append_assoc]
        rw [← List.append_assoc, ← hsl]
        exact List.take_left
    rcases ho.2 with ⟨rfl, rfl⟩ | ⟨g, cap, cur, rfl, hg0, hgg, hc, hcm, hcs, htk⟩
    · have hv0 : vals = [] := List.eq_nil_of_length_eq_zero (by simpa using ho.1)
      subst hv0
      by_cases hy0 : ys.length = 0
      · have hy : ys = [] := List.eq_nil_of_length_eq_zero hy0
        subst hy
        have hn0 : news = [] := List.eq_nil_of_length_eq_zero (by simpa using hnl)
        subst hn0
        exact ⟨_, w, [], run_append_empty w t ty e i heo.under hi1 none _ 0 0 c (Nat.le_refl _), hn, by simpa using ho, .inl ⟨rfl, rfl, rfl⟩⟩
      · have hr := run_append_nil (P := P) w t ty e i z heo.under hi1 hi2 ⟨b, o, none⟩ ys.length c news hnl hcells (by omega) (by simpa using h63) (by simp only [Nat.zero_add] at hbytes; omega)
        have hw := own 0 (by omega)
        simp only [Nat.zero_add, List.nil_append, Array.empty_append] at hw ⊢
        exact ⟨_, _, news, hr, hn, hw, .inr (.inl ⟨_, rfl, rfl⟩)⟩
    · by_cases hroom : n + ys.length ≤ cap
      · have hfit : n * i.size + news.length ≤ cur.size := by rw [hnl, hcs, hsz, ← hi3, ← Nat.add_mul]; exact Nat.mul_le_mul_right _ hroom
        have hr := run_append_room (P := P) w t ty e i heo.under hi1 g n cap cur hgg ⟨b, o, none⟩ ys.length c news hnl hcells hone hroom hfit
        have hvl : vals.length = n * i.size := by rw [ho.1, hsz, hi3]
        have htk' : cur.toList.take (n * i.size) = vals := by rw [hi3, ← hsz]; exact htk
        refine ⟨_, _, news, hr, hn, ⟨hsl, .inr ⟨g, cap, _, rfl, Nat.zero_le _, setRow_heap w g cur _ e _ hgg, hroom, hcm, ?_, ?_⟩⟩, .inr (.inr ⟨g, _, rfl, rfl, rfl, fun j hj => ?_⟩)⟩
        · simp only [List.size_toArray, List.length_append, List.length_take, List.length_drop, Array.length_toList]
          rw [← hcs]; omega
        · rw [htk', ← hsl]
          exact List.take_left
        · rw [cell_setRow_same w g j cur _ e (0, 0) hgg, cell_of_row w g j cur e (0, 0) hgg, htk']
          rw [List.append_assoc]
          simp only [List.getElem?_toArray]
          rw [List.getElem?_append_left hj, ← htk', List.getElem?_take, if_pos (by omega)]
          simp
      · have holds : ∀ j u, vals[j]? = some u → w.cell? ((⟨g, 0, none⟩ : Addr).add j) = some u := ho.cells (g := g) rfl
        have hr := run_append_grow (P := P) w t ty e i z heo.under hi1 hi2 ⟨g, 0, none⟩ n cap vals (by rw [ho.1, hsz, hi3]) holds ⟨b, o, none⟩ ys.length c news hnl hcells (by omega) h63 (growslice_fits (by omega) hbytes)
        exact ⟨_, _, news, hr, hn, own cap (by omega), .inr (.inl ⟨_, rfl, rfl⟩)⟩

mutual
theorem snap_ok {b : Nat} {e : TypeId} {τ : Ty} {xs : List τ.den} {v0 : Value} (hv : β[b]? = some v0) (hr : RdSl fz w τ.size (ElR fz w τ) v0 xs) (hl : Later fz w fz' w')
    (hβ : ∀ (i : Nat) (g : Value), i ≠ b → β[i]? = some g → β'[i]? = some g) : ∀ (x : AV) (v : Value), RdA fz β w x v → RdA fz' β' w' (snap b τ xs x) v
  | .orow c, v, h => by
    simp only [RdA] at h
    simp only [snap]
    split
    · rename_i hc; subst hc
      rw [hv] at h; cases h
      simp only [RdA]
      exact ElR.mono hl (.sl τ) xs _ (elR_sl.2 hr)
    · rename_i hc; simp only [RdA]; exact hβ _ _ hc h
  | .mrow c, v, h => by
    simp only [RdA] at h
    simp only [snap]
    split
    · simp only [RdA]
    · rename_i hc; simp only [RdA]; exact hβ _ _ hc h
  | .mptr c k i o, v, h => by
    simp only [RdA] at h
    simp only [snap]
    split
    · simp only [RdA]
    · rename_i hc
      obtain ⟨blk, n, cc, h1, h2⟩ := h
      simp only [RdA]; exact ⟨blk, n, cc, hβ _ _ hc h1, h2⟩
  | .msl c k i n, v, h => by
    simp only [RdA] at h
    simp only [snap]
    split
    · simp only [RdA]
    · rename_i hc
      obtain ⟨blk, m, cc, ad, c2, h1, h2⟩ := h
      simp only [RdA]; exact ⟨blk, m, cc, ad, c2, hβ _ _ hc h1, h2⟩
  | .agg cs, v, h => by
    simp only [RdA] at h
    obtain ⟨vs, h1, h2⟩ := h
    simp only [snap, RdA]
    exact ⟨vs, h1, snapL_ok (e := e) hv hr hl hβ cs vs h2⟩
  | .tup cs, v, h => by
    simp only [RdA] at h
    obtain ⟨vs, h1, h2⟩ := h
    simp only [snap, RdA]
    exact ⟨vs, h1, snapL_ok (e := e) hv hr hl hβ cs vs h2⟩
  | .ptr c o, v, h => by
    simp only [RdA] at h
    obtain ⟨blk, h1, h2⟩ := h
    simp only [snap, RdA]
    refine ⟨blk, hβ _ _ (fun e => ?_) h1, h2⟩
    subst e
    unfold BAt at h1; rw [hv] at h1; cases h1
    obtain ⟨ad, c, hh, _⟩ := hr; cases hh
  | .fn f caps, v, h => by
    simp only [RdA] at h
    obtain ⟨vs, h1, h2⟩ := h
    simp only [snap, RdA]
    refine ⟨vs, h1, ?_⟩
    clear h1
    induction caps generalizing vs with
    | nil => exact h2
    | cons c cs ih =>
      obtain ⟨blk, r, e1, e2, e3⟩ := h2
      refine ⟨blk, r, e1, hβ _ _ (fun e => ?_) e2, ih _ e3⟩
      unfold BAt at e2; rw [e, hv] at e2; cases e2
      obtain ⟨ad, c, hh, _⟩ := hr; cases hh
  | .d t x, v, h => by simp only [snap]; exact h.mono hl |> fun h => by simpa only [RdA] using h
  | .eptr t x, v, h => by
    simp only [snap]
    have := RdA.mono hl _ _ h
    simpa only [RdA] using this
  | .nilsl, v, h => by simp only [RdA] at h; simp only [snap, RdA]; exact h
  | .nilfn, v, h => by simp only [RdA] at h; simp only [snap, RdA]; exact h
  | .top, v, h => by simp only [snap, RdA]
theorem snapL_ok {b : Nat} {e : TypeId} {τ : Ty} {xs : List τ.den} {v0 : Value} (hv : β[b]? = some v0) (hr : RdSl fz w τ.size (ElR fz w τ) v0 xs) (hl : Later fz w fz' w')
    (hβ : ∀ (i : Nat) (g : Value), i ≠ b → β[i]? = some g → β'[i]? = some g) : ∀ (cs : List AV) (vs : List Value), RdL fz β w cs vs → RdL fz' β' w' (snapL b τ xs cs) vs
  | [], vs, h => by simp only [RdL] at h; simp only [snapL, RdL]; exact h
  | c :: cs, vs, h => by
    simp only [RdL] at h
    obtain ⟨v, r, h1, h2, h3⟩ := h
    simp only [snapL, RdL]
    exact ⟨v, r, h1, snap_ok (e := e) hv hr hl hβ c v h2, snapL_ok (e := e) hv hr hl hβ cs r h3⟩
end

theorem snapF_mem {b : Nat} {τ : Ty} {xs : List τ.den} : ∀ {ρ : Fr} {t : Nat} {x : AV}, (t, x) ∈ snapF b τ xs ρ → ∃ y, (t, y) ∈ ρ ∧ x = snap b τ xs y
  | (k, y) :: r, t, x, h => by
    simp only [snapF] at h
    rcases List.mem_cons.1 h with h | h
    · cases h; exact ⟨y, List.mem_cons_self, rfl⟩
    · obtain ⟨z, h1, h2⟩ := snapF_mem h
      exact ⟨z, List.mem_cons_of_mem _ h1, h2⟩

theorem snapH_get {b : Nat} {τ : Ty} {xs : List τ.den} : ∀ {H : List Box} {i : Nat}, (snapH b τ xs H)[i]? = (H[i]?).map (Box.snap b τ xs)
  | [], i => by simp [snapH]
  | x :: r, 0 => by simp [snapH]
  | x :: r, i + 1 => by simp [snapH, snapH_get (H := r) (i := i)]

theorem snapH_length {b : Nat} {τ : Ty} {xs : List τ.den} : ∀ {H : List Box}, (snapH b τ xs H).length = H.length
  | [] => rfl
  | x :: r => by simp [snapH, snapH_length (H := r)]

theorem Box.snap_live {b : Nat} {τ : Ty} {xs : List τ.den} (x : Box) : (x.snap b τ xs).live = x.live := by cases x <;> rfl

end Go.Proofs.YtgapiecbinplfaaGreat
/- The relation behind an append; new boxes; stores. -/
namespace Go.Proofs.YtgapiecbinplfaaGreat
open Go.RowKit

variable {P : Program} {fz fz' : Fz} {β β' : List Value} {w w' : World} {m0 N : Nat} {a : Act} {ρ : Fr} {H : List Box} {S : Start}

/-- What is frozen when a row's first cells are. -/
def fzRow (fz : Fz) (v : Value) (n : Nat) : Fz := fun b o => fz b o ∨ (blkOf v = some b ∧ o < n)

theorem Rel.append {b : Nat} {e : TypeId} {τ : Ty} {xs ys : List τ.den} {v v' : Value} {vals news : List Value} (h : Rel S m0 N fz β w a ρ H) (hx : H[b]? = some (.orow e τ xs)) (hv : β[b]? = some v)
    (ho : w.ownsRow 0 e τ.size v xs.length vals) (he : ElsR fz w τ xs vals) (hf : ∀ blk, blkOf v = some blk → ∀ o, fz blk o ↔ o < vals.length)
    (hn : ElsR fz w τ ys news) (ho' : w'.ownsRow 0 e τ.size v' (xs.length + ys.length) (vals ++ news))
    (hw : (w' = w ∧ v' = v ∧ ys = []) ∨ (∃ o, w' = w.drew.alloc o ∧ blkOf v' = some w.heap.size) ∨
       ∃ blk cs, blkOf v = some blk ∧ blkOf v' = some blk ∧ w' = w.setRow blk cs ∧ ∀ j, j < vals.length → (w.setRow blk cs).cell? ⟨blk, j, none⟩ = w.cell? ⟨blk, j, none⟩) :
    ∃ fz', Rel S m0 N fz' (β.set b v') w' a (snapF b τ xs ρ) ((snapH b τ xs H).set b (.orow e τ (xs ++ ys))) ∧ (β.set b v')[b]? = some v' := by
  have hbH : b < H.length := (List.getElem?_eq_some_iff.1 hx).1
  have hbβ : b < β.length := by rw [h.bx.len]; exact hbH
  have hlive : (Box.orow e τ xs).live = true := rfl
  have hvlt : ∀ k, blkOf v = some k → k < w.heap.size := fun k hk => (h.bx.ok b v _ hv hx).lt hlive hk
  -- sizes, other blocks
  have hsz : w.heap.size ≤ w'.heap.size := by
    rcases hw with ⟨rfl, _⟩ | ⟨o, rfl, _⟩ | ⟨blk, cs, _, _, rfl, _⟩ <;> simp
  have hblock : ∀ k, k < w.heap.size → blkOf v ≠ some k → w'.heap[k]? = w.heap[k]? := by
    intro k hk hne
    rcases hw with ⟨rfl, _⟩ | ⟨o, rfl, _⟩ | ⟨blk, cs, h1, _, rfl, _⟩
    · rfl
    · exact Below.heap_alloc w.drew o k hk
    · exact setRow_other w blk k cs (fun e => hne (by rw [h1, e]))
  have hcell : ∀ k o, fz k o → w'.cell? ⟨k, o, none⟩ = w.cell? ⟨k, o, none⟩ := by
    intro k o hfz
    rcases hw with ⟨rfl, _⟩ | ⟨ob, rfl, _⟩ | ⟨blk, cs, h1, _, rfl, h4⟩
    · rfl
    · exact World.cell?_of_block (w := w) (Below.heap_alloc w.drew ob k (h.fzok k o hfz))
    · by_cases hk : k = blk
      · subst hk; exact h4 o ((hf k h1 o).1 hfz)
      · exact cell_setRow_other w blk cs _ hk
  have hos : w'.os = w.os ∧ w'.tape = w.tape ∧ w'.output = w.output ∧ w.drawn ≤ w'.drawn := by
    rcases hw with ⟨rfl, _⟩ | ⟨o, rfl, _⟩ | ⟨blk, cs, _, _, rfl, _⟩ <;> exact ⟨rfl, rfl, rfl, by first | exact Nat.le_refl _ | exact Nat.le_succ _⟩
  have hv'blk : ∀ k, blkOf v' = some k → k = w.heap.size ∨ blkOf v = some k := by
    intro k hk
    rcases hw with ⟨_, rfl, _⟩ | ⟨o, _, h2⟩ | ⟨blk, cs, h1, h2, _⟩
    · exact .inr hk
    · rw [h2] at hk; cases hk; exact .inl rfl
    · rw [h2] at hk; cases hk; exact .inr h1
  have hv'lt : ∀ k, blkOf v' = some k → k < w'.heap.size := by
    intro k hk
    rcases ho'.2 with ⟨rfl, _⟩ | ⟨g, cap, cur, rfl, _, hg, _⟩
    · cases hk
    · cases hk; exact (Array.getElem?_eq_some_iff.1 hg).1
  have hvl : vals.length = xs.length * τ.size := he.length
  have hnl : news.length = ys.length * τ.size := hn.length
  let fz2 : Fz := fzRow fz v' (vals ++ news).length
  have hl : Later fz w fz2 w' := fun k o hfz => ⟨.inl hfz, hcell k o hfz⟩
  have hβ : ∀ (i : Nat) (g : Value), i ≠ b → β[i]? = some g → (β.set b v')[i]? = some g := fun i g hi hg => by
    rw [List.getElem?_set, if_neg (Ne.symm hi)]; exact hg
  have hβb : (β.set b v')[b]? = some v' := by rw [List.getElem?_set, if_pos rfl]; simp [hbβ]
  have hrd := RdSl_own ho he hf
  have hsnap := fun x v0 hh => snap_ok (fz' := fz2) (w' := w') (β' := β.set b v') (e := e) hv hrd hl hβ x v0 hh
  have hnew : ∀ k o, fz2 k o → fz k o ∨ k = w.heap.size ∨ blkOf v = some k := by
    intro k o hz
    rcases hz with hz | ⟨hz, _⟩
    · exact .inl hz
    · exact .inr (hv'blk k hz)
  have hm0 : m0 ≤ b := Nat.le_of_not_lt fun hlt => by have := h.pre.noO b _ hlt hx; simp [Box.isO] at this
  have hpre : Pre S m0 (β.set b v') ((snapH b τ xs H).set b (.orow e τ (xs ++ ys))) := by
    refine ⟨h.pre.len, by simpa [snapH_length] using h.pre.le, fun i hi => ?_, fun i y hi hy => ?_⟩
    · rw [List.getElem?_set, if_neg (by omega)]; exact h.pre.same i hi
    · rw [List.getElem?_set, if_neg (by omega), snapH_get] at hy
      obtain ⟨x0, hx0, rfl⟩ := Option.map_eq_some_iff.1 hy
      have := h.pre.noO i x0 hi hx0
      cases x0 <;> exact this
  refine ⟨fz2, ⟨⟨h.fr.1, h.fr.2.1, fun t x hm => ?_⟩, ⟨?_, ?_, ?_, ?_⟩, ?_, ?_, ?_, hpre⟩, hβb⟩
  · obtain ⟨y, hy, rfl⟩ := snapF_mem hm
    exact ⟨(h.fr.2.2 t y hy).1, hsnap _ _ (h.fr.2.2 t y hy).2⟩
  · simp [snapH_length, h.bx.len]
  · intro i g hg
    rw [List.getElem?_set] at hg
    split at hg
    · cases hg
      rcases ho'.2 with ⟨rfl, _⟩ | ⟨g, cap, cur, rfl, _⟩ <;> rfl
    · exact h.bx.one i g hg
  · intro i g x hg hxi
    by_cases hib : i = b
    · subst hib
      rw [hβb] at hg; cases hg
      rw [List.getElem?_set, if_pos rfl, if_pos (by rw [snapH_length]; exact hbH)] at hxi
      cases hxi
      refine ⟨vals ++ news, by rw [List.length_append]; exact ho', (ElsR.mono hl _ _ he).append (ElsR.mono hl _ _ hn), fun blk hblk o => ⟨fun hz => ?_, fun hz => .inr ⟨hblk, hz⟩⟩⟩
      rcases hz with hz | ⟨_, hz⟩
      · rcases hv'blk blk hblk with hk | hk
        · have := h.fzok blk o hz; omega
        · have := (hf blk hk o).1 hz
          rw [List.length_append]; omega
      · exact hz
    · rw [List.getElem?_set, if_neg (Ne.symm hib)] at hg hxi
      rw [snapH_get] at hxi
      obtain ⟨x0, hx0, rfl⟩ := Option.map_eq_some_iff.1 hxi
      by_cases hly : x0.live = true
      · have hy0 := h.bx.ok i g x0 hg hx0
        have hne : ∀ k, blkOf g = some k → blkOf v ≠ some k := fun k hk => h.bx.apart i b g v x0 _ hib hg hv hx0 hx hly hlive k hk
        have hlt := fun k hk => hy0.lt hly (k := k) hk
        have hk := hy0.keep (w' := w') (fz' := fz2) (fun k hk => hblock k (hlt k hk) (hne k hk)) hl (fun k o hk hz => by
          rcases hnew k o hz with h' | h' | h'
          · exact h'
          · have := hlt k hk; omega
          · exact absurd h' (hne k hk))
        cases x0 with
        | cells cs =>
          obtain ⟨blk, vs, e', rfl, hh, _, hz⟩ := hk
          obtain ⟨_, _, _, e1, e2, hr, _⟩ := hy0
          cases e1
          rw [hblock blk (hlt blk rfl) (hne blk rfl), e2] at hh
          cases hh
          exact ⟨blk, _, _, rfl, by rw [hblock blk (hlt blk rfl) (hne blk rfl), e2], snapL_ok (fz' := fz2) (w' := w') (β' := β.set b v') (e := e) hv hrd hl hβ _ _ hr, hz⟩
        | orow _ _ _ => exact hk
        | mrow _ _ _ => exact hk
        | dead => trivial
      · cases x0 with
        | dead => trivial
        | _ => simp [Box.live] at hly
  · have conv : ∀ (i : Nat) (g : Value) (x : Box), (β.set b v')[i]? = some g → ((snapH b τ xs H).set b (.orow e τ (xs ++ ys)))[i]? = some x → x.live = true →
        (i = b ∧ g = v') ∨ (i ≠ b ∧ β[i]? = some g ∧ ∃ x0 : Box, H[i]? = some x0 ∧ x0.live = true) := by
      intro i g x hg hxi hlx
      by_cases hib : i = b
      · subst hib; rw [hβb] at hg; cases hg; exact .inl ⟨rfl, rfl⟩
      · rw [List.getElem?_set, if_neg (Ne.symm hib)] at hg hxi
        rw [snapH_get] at hxi
        obtain ⟨x0, hx0, rfl⟩ := Option.map_eq_some_iff.1 hxi
        exact .inr ⟨hib, hg, x0, hx0, by rw [← Box.snap_live (b := b) (xs := xs)]; exact hlx⟩
    intro i j gi gj xi xj hij h1 h2 h3 h4 li lj k hk hk'
    rcases conv i gi xi h1 h3 li with ⟨rfl, rfl⟩ | ⟨ib, a1, x0, a2, a3⟩ <;> rcases conv j gj xj h2 h4 lj with ⟨rfl, rfl⟩ | ⟨jb, b1, y0, b2, b3⟩
    · exact hij rfl
    · have := (h.bx.ok j gj y0 b1 b2).lt b3 hk'
      rcases hv'blk k hk with h' | h'
      · omega
      · exact h.bx.apart i j v gj _ y0 hij hv b1 hx b2 hlive b3 k h' hk'
    · have := (h.bx.ok i gi x0 a1 a2).lt a3 hk
      rcases hv'blk k hk' with h' | h'
      · omega
      · exact h.bx.apart i j gi v x0 _ hij a1 hv a2 hx a3 hlive k hk h'
    · exact h.bx.apart i j gi gj x0 y0 hij a1 b1 a2 b2 a3 b3 k hk hk'
  · intro i g x hg hxi hlx k hk
    by_cases hib : i = b
    · subst hib; rw [hβb] at hg; cases hg
      rcases hv'blk k hk with h' | h'
      · have := h.anc.size; exact .inl (by omega)
      · exact h.mine i v _ hv hx hlive k h'
    · rw [List.getElem?_set, if_neg (Ne.symm hib)] at hg hxi
      rw [snapH_get] at hxi
      obtain ⟨x0, hx0, rfl⟩ := Option.map_eq_some_iff.1 hxi
      exact h.mine i g x0 hg hx0 (by rw [← Box.snap_live (b := b) (xs := xs)]; exact hlx) k hk
  · refine h.anc.step hos.1 hos.2.1 hos.2.2.1 hos.2.2.2 hsz (fun k hk ho => hblock k (by have := h.anc.size; omega) (fun e => ?_)) hl (fun k o hz => ?_)
    · rcases h.mine b v _ hv hx hlive k e with h' | h'
      · omega
      · exact ho h'
    · rcases hnew k o hz with h' | h' | h'
      · exact .inl h'
      · have := h.anc.size; exact .inr (.inl (by omega))
      · rcases h.mine b v _ hv hx hlive k h' with h' | h'
        · exact .inr (.inl h')
        · exact .inr (.inr h')
  · intro k o hz
    rcases hz with hz | ⟨hz, _⟩
    · have := h.fzok k o hz; omega
    · exact hv'lt k hz

/-- A row of one's own that is not there yet: the nil slice. -/
theorem Rel.addNil (h : Rel S m0 N fz β w a ρ H) (e : TypeId) (τ : Ty) : Rel S m0 N fz (β ++ [.slice none 0 0]) w a ρ (H ++ [.orow e τ []]) := by
  refine ⟨h.fr.ext (Ext.snoc _ _), h.bx.snoc _ _ rfl (fun _ _ => rfl) (Later.refl _ _) (fun k o hf => .inl hf) ⟨[], ⟨by simp, .inl ⟨rfl, rfl⟩⟩, rfl, fun blk hb => by cases hb⟩ (fun k hk => by cases hk),
    fun i g y h1 h2 hl k hk => ?_, h.anc, h.fzok, h.pre.snoc h.bx.len _ _⟩
  have hlen := h.bx.len
  by_cases hi : i < β.length
  · rw [List.getElem?_append_left hi] at h1
    rw [List.getElem?_append_left (by omega)] at h2
    exact h.mine i g y h1 h2 hl k hk
  · rw [List.getElem?_append_right (by omega)] at h1
    have := List.mem_of_getElem? h1
    simp at this; subst this; cases hk

/-- A new variable. -/
theorem Rel.newVar (h : Rel S m0 N fz β w a ρ H) {cs : List AV} {vs : List Value} (e : TypeId) (hr : RdL fz β w cs vs) :
    Rel S m0 N fz (β ++ [.pointer (some ⟨w.heap.size, 0, none⟩)]) (w.alloc (.cells vs.toArray e)) a ρ (H ++ [.cells cs]) := by
  have hlater : Later fz w fz (w.alloc (.cells vs.toArray e)) := fun b k hf => ⟨hf, World.cell?_of_block (w := w) (Below.heap_alloc w _ b (h.fzok b k hf))⟩
  refine h.newBox _ _ _ rfl (fun k o hf => .inl hf) (fun _ _ h => h) ⟨w.heap.size, vs.toArray, e, rfl, heap_alloc_new w _, RdL.ext (Ext.snoc _ _) _ _ (hr.mono hlater), fun o hf => ?_⟩ (fun k hk => by cases hk; rfl)
  have := h.fzok _ _ hf; omega

/-- A new growing row. -/
theorem Rel.newRow (h : Rel S m0 N fz β w a ρ H) {τ : Ty} {xs : List τ.den} {vals : List Value} (e : TypeId) (he : ElsR fz w τ xs vals) (hm : xs.length ≤ maxLen) :
    ∃ fz', Rel S m0 N fz' (β ++ [.slice (some ⟨w.heap.size, 0, none⟩) xs.length xs.length]) (w.alloc (.cells vals.toArray e)) a ρ (H ++ [.orow e τ xs]) := by
  let v : Value := .slice (some ⟨w.heap.size, 0, none⟩) xs.length xs.length
  let fz2 : Fz := fzRow fz v vals.length
  have hlater : Later fz w fz2 (w.alloc (.cells vals.toArray e)) := fun b k hf => ⟨.inl hf, World.cell?_of_block (w := w) (Below.heap_alloc w _ b (h.fzok b k hf))⟩
  refine ⟨fz2, h.newBox _ v _ rfl (fun k o hf => ?_) (fun _ _ h => .inl h) ⟨vals, ⟨he.length, .inr ⟨w.heap.size, xs.length, vals.toArray, rfl, Nat.zero_le _, heap_alloc_new w _, Nat.le_refl _, hm, ?_, ?_⟩⟩, ElsR.mono hlater _ _ he, fun blk hb o => ?_⟩ (fun k hk => by cases hk; rfl)⟩
  · rcases hf with hf | ⟨hf, _⟩
    · exact .inl hf
    · cases hf; exact .inr rfl
  · simpa using he.length
  · rw [← he.length]; simp
  · cases hb
    refine ⟨fun hz => ?_, fun hz => .inr ⟨rfl, hz⟩⟩
    rcases hz with hz | ⟨_, hz⟩
    · exact absurd (h.fzok _ _ hz) (Nat.lt_irrefl _)
    · exact hz

/-- New frozen elements. -/
theorem Rel.newData (h : Rel S m0 N fz β w a ρ H) {τ : Ty} {xs : List τ.den} {vals : List Value} (e : TypeId) (he : ElsR fz w τ xs vals) (hm : xs.length ≤ maxLen) :
    Later fz w (fzRow fz (.slice (some ⟨w.heap.size, 0, none⟩) xs.length xs.length) vals.length) (w.alloc (.cells vals.toArray e)) ∧
    Rel S m0 N (fzRow fz (.slice (some ⟨w.heap.size, 0, none⟩) xs.length xs.length) vals.length) β (w.alloc (.cells vals.toArray e)) a ρ H ∧
    RdA (fzRow fz (.slice (some ⟨w.heap.size, 0, none⟩) xs.length xs.length) vals.length) β (w.alloc (.cells vals.toArray e)) (.d (.sl τ) xs) (.slice (some ⟨w.heap.size, 0, none⟩) xs.length xs.length) := by
  let v : Value := .slice (some ⟨w.heap.size, 0, none⟩) xs.length xs.length
  let fz2 : Fz := fzRow fz v vals.length
  have hlater : Later fz w fz2 (w.alloc (.cells vals.toArray e)) := fun b k hf => ⟨.inl hf, World.cell?_of_block (w := w) (Below.heap_alloc w _ b (h.fzok b k hf))⟩
  refine ⟨hlater, h.newFz _ (fun k o hf => ?_) (fun _ _ h => .inl h), ?_⟩
  · rcases hf with hf | ⟨hf, _⟩
    · exact .inl hf
    · cases hf; exact .inr rfl
  · simp only [RdA]
    refine elR_sl.2 (RdSl_own (e := e) (vals := vals) ⟨he.length, .inr ⟨w.heap.size, xs.length, vals.toArray, rfl, Nat.zero_le _, heap_alloc_new w _, Nat.le_refl _, hm, by simpa using he.length, by rw [← he.length]; simp⟩⟩ (ElsR.mono hlater _ _ he) (fun blk hb o => ?_))
    cases hb
    refine ⟨fun hz => ?_, fun hz => .inr ⟨rfl, hz⟩⟩
    rcases hz with hz | ⟨_, hz⟩
    · exact absurd (h.fzok _ _ hz) (Nat.lt_irrefl _)
    · exact hz

/-- A new row of fixed length. -/
theorem Rel.newMrow (h : Rel S m0 N fz β w a ρ H) {τ : Ty} {xs : List τ.den} {vals : Array Value} (e : TypeId) (he : ElsR fz w τ xs vals.toList) (hm : xs.length ≤ maxLen) :
    Rel S m0 N fz (β ++ [.slice (some ⟨w.heap.size, 0, none⟩) xs.length xs.length]) (w.alloc (.cells vals e)) a ρ (H ++ [.mrow e τ xs]) := by
  have hlater : Later fz w fz (w.alloc (.cells vals e)) := fun b k hf => ⟨hf, World.cell?_of_block (w := w) (Below.heap_alloc w _ b (h.fzok b k hf))⟩
  refine h.newBox _ _ _ rfl (fun k o hf => .inl hf) (fun _ _ h => h) ⟨w.heap.size, xs.length, vals, rfl, Nat.le_refl _, hm, heap_alloc_new w _, ⟨[], vals.toList, by simp, ElsR.mono hlater _ _ he⟩, fun o hf => ?_⟩ (fun k hk => by cases hk; rfl)
  have := h.fzok _ _ hf; omega

end Go.Proofs.YtgapiecbinplfaaGreat
/- Calls: a contract under the caller's names; stores. -/
namespace Go.Proofs.YtgapiecbinplfaaGreat
open Go.RowKit

variable {P : Program} {fz fz' : Fz} {β β' : List Value} {w w' : World} {m0 N : Nat} {a : Act} {ρ : Fr} {H : List Box} {S : Start}

theorem caps_in {β0 β : List Value} {σ : List Nat} {n : Nat} (hβ : ∀ i, i < n → β0[i]? = β[σ.getD i 0]?) : ∀ {caps : List (Nat × Nat)} {vs : List Value}, (caps.all fun c => decide (c.1 < n)) = true →
    CapsR β (caps.map fun c => (σ.getD c.1 0, c.2)) vs → CapsR β0 caps vs
  | [], _, _, h => h
  | c :: cs, _, hs, ⟨blk, r, h1, h2, h3⟩ => by
    simp only [List.all_cons, Bool.and_eq_true, decide_eq_true_eq] at hs
    exact ⟨blk, r, h1, by unfold BAt at h2 ⊢; rw [hβ _ hs.1]; exact h2, caps_in hβ hs.2 h3⟩
theorem caps_out {β0 β : List Value} {σ : List Nat} {n : Nat} (hβ : ∀ i, i < n → β0[i]? = β[σ.getD i 0]?) : ∀ {caps : List (Nat × Nat)} {vs : List Value}, (caps.all fun c => decide (c.1 < n)) = true →
    CapsR β0 caps vs → CapsR β (caps.map fun c => (σ.getD c.1 0, c.2)) vs
  | [], _, _, h => h
  | c :: cs, _, hs, ⟨blk, r, h1, h2, h3⟩ => by
    simp only [List.all_cons, Bool.and_eq_true, decide_eq_true_eq] at hs
    exact ⟨blk, r, h1, by unfold BAt at h2 ⊢; rw [← hβ _ hs.1]; exact h2, caps_out hβ hs.2 h3⟩

mutual
theorem ren_in {β0 β : List Value} {σ : List Nat} {n : Nat} (hβ : ∀ i, i < n → β0[i]? = β[σ.getD i 0]?) : ∀ (x : AV) (v : Value), scop n x = true → RdA fz β w (ren σ x) v → RdA fz β0 w x v
  | .ptr b o, v, hs, h => by
    simp only [scop, decide_eq_true_eq] at hs
    simp only [ren, RdA] at h ⊢
    obtain ⟨blk, h1, h2⟩ := h
    exact ⟨blk, by unfold BAt at h1 ⊢; rw [hβ _ hs]; exact h1, h2⟩
  | .mptr b k i o, v, hs, h => by
    simp only [scop, decide_eq_true_eq] at hs
    simp only [ren, RdA] at h ⊢
    obtain ⟨blk, m, c, h1, h2⟩ := h
    exact ⟨blk, m, c, by rw [hβ _ hs]; exact h1, h2⟩
  | .orow b, v, hs, h => by
    simp only [scop, decide_eq_true_eq] at hs
    simp only [ren, RdA] at h ⊢; rw [hβ _ hs]; exact h
  | .mrow b, v, hs, h => by
    simp only [scop, decide_eq_true_eq] at hs
    simp only [ren, RdA] at h ⊢; rw [hβ _ hs]; exact h
  | .msl b k i m, v, hs, h => by
    simp only [scop, decide_eq_true_eq] at hs
    simp only [ren, RdA] at h ⊢
    obtain ⟨blk, m0, c, ad, c2, h1, h2⟩ := h
    exact ⟨blk, m0, c, ad, c2, by rw [hβ _ hs]; exact h1, h2⟩
  | .fn f caps, v, hs, h => by
    simp only [scop] at hs
    simp only [ren, RdA] at h ⊢
    obtain ⟨vs, h1, h2⟩ := h
    exact ⟨vs, h1, caps_in hβ hs h2⟩
  | .agg cs, v, hs, h => by
    simp only [scop] at hs
    simp only [ren, RdA] at h ⊢
    obtain ⟨vs, h1, h2⟩ := h
    exact ⟨vs, h1, renL_in hβ cs vs hs h2⟩
  | .tup cs, v, hs, h => by
    simp only [scop] at hs
    simp only [ren, RdA] at h ⊢
    obtain ⟨vs, h1, h2⟩ := h
    exact ⟨vs, h1, renL_in hβ cs vs hs h2⟩
  | .d t x, v, hs, h => by simp only [ren, RdA] at h ⊢; exact h
  | .eptr t x, v, hs, h => by simp only [ren, RdA] at h ⊢; exact h
  | .nilsl, v, hs, h => by simp only [ren, RdA] at h ⊢; exact h
  | .nilfn, v, hs, h => by simp only [ren, RdA] at h ⊢; exact h
  | .top, v, hs, h => by simp only [RdA]
theorem renL_in {β0 β : List Value} {σ : List Nat} {n : Nat} (hβ : ∀ i, i < n → β0[i]? = β[σ.getD i 0]?) : ∀ (xs : List AV) (vs : List Value), scopL n xs = true → RdL fz β w (renL σ xs) vs → RdL fz β0 w xs vs
  | [], vs, hs, h => by simp only [renL, RdL] at h ⊢; exact h
  | c :: cs, vs, hs, h => by
    simp only [scopL, Bool.and_eq_true] at hs
    simp only [renL, RdL] at h ⊢
    obtain ⟨v, r, h1, h2, h3⟩ := h
    exact ⟨v, r, h1, ren_in hβ c v hs.1 h2, renL_in hβ cs r hs.2 h3⟩
end

mutual
theorem ren_out {β0 β : List Value} {σ : List Nat} {n : Nat} (hβ : ∀ i, i < n → β0[i]? = β[σ.getD i 0]?) : ∀ (x : AV) (v : Value), scop n x = true → RdA fz β0 w x v → RdA fz β w (ren σ x) v
  | .ptr b o, v, hs, h => by
    simp only [scop, decide_eq_true_eq] at hs
    simp only [ren, RdA] at h ⊢
    obtain ⟨blk, h1, h2⟩ := h
    exact ⟨blk, by unfold BAt at h1 ⊢; rw [← hβ _ hs]; exact h1, h2⟩
  | .mptr b k i o, v, hs, h => by
    simp only [scop, decide_eq_true_eq] at hs
    simp only [ren, RdA] at h ⊢
    obtain ⟨blk, m, c, h1, h2⟩ := h
    exact ⟨blk, m, c, by rw [← hβ _ hs]; exact h1, h2⟩
  | .orow b, v, hs, h => by
    simp only [scop, decide_eq_true_eq] at hs
    simp only [ren, RdA] at h ⊢; rw [← hβ _ hs]; exact h
  | .mrow b, v, hs, h => by
    simp only [scop, decide_eq_true_eq] at hs
    simp only [ren, RdA] at h ⊢; rw [← hβ _ hs]; exact h
  | .msl b k i m, v, hs, h => by
    simp only [scop, decide_eq_true_eq] at hs
    simp only [ren, RdA] at h ⊢
    obtain ⟨blk, m0, c, ad, c2, h1, h2⟩ := h
    exact ⟨blk, m0, c, ad, c2, by rw [← hβ _ hs]; exact h1, h2⟩
  | .fn f caps, v, hs, h => by
    simp only [scop] at hs
    simp only [ren, RdA] at h ⊢
    obtain ⟨vs, h1, h2⟩ := h
    exact ⟨vs, h1, caps_out hβ hs h2⟩
  | .agg cs, v, hs, h => by
    simp only [scop] at hs
    simp only [ren, RdA] at h ⊢
    obtain ⟨vs, h1, h2⟩ := h
    exact ⟨vs, h1, renL_out hβ cs vs hs h2⟩
  | .tup cs, v, hs, h => by
    simp only [scop] at hs
    simp only [ren, RdA] at h ⊢
    obtain ⟨vs, h1, h2⟩ := h
    exact ⟨vs, h1, renL_out hβ cs vs hs h2⟩
  | .d t x, v, hs, h => by simp only [ren, RdA] at h ⊢; exact h
  | .eptr t x, v, hs, h => by simp only [ren, RdA] at h ⊢; exact h
  | .nilsl, v, hs, h => by simp only [ren, RdA] at h ⊢; exact h
  | .nilfn, v, hs, h => by simp only [ren, RdA] at h ⊢; exact h
  | .top, v, hs, h => by simp only [ren, RdA]
theorem renL_out {β0 β : List Value} {σ : List Nat} {n : Nat} (hβ : ∀ i, i < n → β0[i]? = β[σ.getD i 0]?) : ∀ (xs : List AV) (vs : List Value), scopL n xs = true → RdL fz β0 w xs vs → RdL fz β w (renL σ xs) vs
  | [], vs, hs, h => by simp only [renL, RdL] at h ⊢; exact h
  | c :: cs, vs, hs, h => by
    simp only [scopL, Bool.and_eq_true] at hs
    simp only [renL, RdL] at h ⊢
    obtain ⟨v, r, h1, h2, h3⟩ := h
    exact ⟨v, r, h1, ren_out hβ c v hs.1 h2, renL_out hβ cs r hs.2 h3⟩
end

mutual
theorem ren_id {σ : List Nat} : ∀ (x : AV), scop 0 x = true → ren σ x = x
  | .ptr b o, h => by simp [scop] at h
  | .mptr b k i o, h => by simp [scop] at h
  | .orow b, h => by simp [scop] at h
  | .mrow b, h => by simp [scop] at h
  | .msl b k i n, h => by simp [scop] at h
  | .fn f caps, h => by
    cases caps with
    | nil => rfl
    | cons c cs => simp [scop] at h
  | .agg cs, h => by simp only [scop] at h; simp only [ren, renL_id cs h]
  | .tup cs, h => by simp only [scop] at h; simp only [ren, renL_id cs h]
  | .d t x, h => rfl
  | .eptr t x, h => rfl
  | .nilsl, h => rfl
  | .nilfn, h => rfl
  | .top, h => rfl
theorem renL_id {σ : List Nat} : ∀ (xs : List AV), scopL 0 xs = true → renL σ xs = xs
  | [], _ => rfl
  | c :: cs, h => by
    simp only [scopL, Bool.and_eq_true] at h
    simp only [renL, ren_id c h.1, renL_id cs h.2]
end

/-- The boxes that a callee takes. -/
def subβ (β : List Value) (σ : List Nat) : List Value := σ.map fun i => β.getD i undef

structure Takes (H : List Box) (σ : List Nat) (Hin : List Box) : Prop where
  len : σ.length = Hin.length
  nodup : σ.Nodup
  is : ∀ (i : Nat) (s : Nat) (x : Box), σ[i]? = some s → Hin[i]? = some x → H[s]? = some (x.ren σ) ∧ x.live = true ∧ x.scop σ.length = true

theorem Box.ren_live {σ : List Nat} (x : Box) : (x.ren σ).live = x.live := by cases x <;> rfl

theorem putH_length : ∀ {σ : List Nat} {H X : List Box}, (putH H σ X).length = H.length
  | [], H, X => by cases X <;> rfl
  | i :: σ, H, [] => rfl
  | i :: σ, H, x :: X => by rw [putH, putH_length]; simp

theorem putH_out : ∀ {σ : List Nat} {H X : List Box} {j : Nat}, j ∉ σ → (putH H σ X)[j]? = H[j]?
  | [], H, X, j, _ => by cases X <;> rfl
  | i :: σ, H, [], j, _ => rfl
  | i :: σ, H, x :: X, j, h => by
    simp only [List.mem_cons, not_or] at h
    rw [putH, putH_out h.2, List.getElem?_set, if_neg (Ne.symm h.1)]

theorem putH_in : ∀ {σ : List Nat} {H X : List Box} {i j : Nat} {x : Box}, σ.Nodup → σ[i]? = some j → X[i]? = some x → j < H.length → (putH H σ X)[j]? = some x
  | s :: σ, H, y :: X, 0, j, x, hn, h1, h2, hj => by
    simp at h1 h2; subst h1; subst h2
    rw [putH, putH_out (List.nodup_cons.1 hn).1, List.getElem?_set]
    simp [hj]
  | s :: σ, H, y :: X, i + 1, j, x, hn, h1, h2, hj => by
    rw [putH]
    exact putH_in (List.nodup_cons.1 hn).2 (by simpa using h1) (by simpa using h2) (by simpa using hj)
  | s :: σ, H, [], i, j, x, hn, h1, h2, hj => by simp at h2
  | [], H, X, i, j, x, hn, h1, h2, hj => by simp at h1

theorem BoxOk.ren_in {σ : List Nat} {n : Nat} {β0 : List Value} (hβ : ∀ i, i < n → β0[i]? = β[σ.getD i 0]?) {g : Value} {x : Box} (hs : x.scop n = true) (h : BoxOk fz β w g (x.ren σ)) : BoxOk fz β0 w g x := by
  cases x with
  | cells cs =>
    obtain ⟨blk, vs, e, rfl, hh, hr, hz⟩ := h
    exact ⟨blk, vs, e, rfl, hh, renL_in hβ cs _ hs hr, hz⟩
  | orow e t xs => exact h
  | mrow e t xs => exact h
  | dead => trivial
theorem BoxOk.ren_out {σ : List Nat} {n : Nat} {β0 : List Value} (hβ : ∀ i, i < n → β0[i]? = β[σ.getD i 0]?) {g : Value} {x : Box} (hs : x.scop n = true) (h : BoxOk fz β0 w g x) : BoxOk fz β w g (x.ren σ) := by
  cases x with
  | cells cs =>
    obtain ⟨blk, vs, e, rfl, hh, hr, hz⟩ := h
    exact ⟨blk, vs, e, rfl, hh, renL_out hβ cs _ hs hr, hz⟩
  | orow e t xs => exact h
  | mrow e t xs => exact h
  | dead => trivial

section
variable {Hin Hout : List Box} {σ : List Nat}

theorem Takes.lt (ht : Takes H σ Hin) : ∀ s ∈ σ, s < H.length := by
  intro s hs
  obtain ⟨i, hi, rfl⟩ := List.getElem_of_mem hs
  obtain ⟨h1, _⟩ := ht.is i σ[i] (Hin[i]'(by rw [← ht.len]; exact hi)) (List.getElem?_eq_getElem hi) (List.getElem?_eq_getElem _)
  exact (List.getElem?_eq_some_iff.1 h1).1

theorem Takes.sub (ht : Takes H σ Hin) (hlen : β.length = H.length) : ∀ i, i < σ.length → (subβ β σ)[i]? = β[σ.getD i 0]? := by
  intro i hi
  have hs := ht.lt σ[i] (List.getElem_mem hi)
  simp [subβ, List.getD, List.getElem?_eq_getElem hi, List.getElem?_eq_getElem (show σ[i] < β.length by omega)]

theorem Takes.get (ht : Takes H σ Hin) (hlen : β.length = H.length) : ∀ (i : Nat) (g : Value), (subβ β σ)[i]? = some g → ∃ s, σ[i]? = some s ∧ β[s]? = some g := by
  intro i g hg
  have hi : i < σ.length := by have := (List.getElem?_eq_some_iff.1 hg).1; simpa [subβ] using this
  rw [ht.sub hlen i hi] at hg
  exact ⟨σ[i], List.getElem?_eq_getElem hi, by simpa [List.getD, List.getElem?_eq_getElem hi] using hg⟩

theorem Takes.boxes (ht : Takes H σ Hin) (hb : BoxesOk fz β w H) : BoxesOk fz (subβ β σ) w Hin := by
  have hβ := ht.sub hb.len
  have hget := ht.get hb.len
  refine ⟨by simp [subβ, ht.len], fun i g hg => ?_, fun i g x hg hx => ?_, fun i j gi gj xi xj hij hgi hgj hxi hxj li lj => ?_⟩
  · obtain ⟨s, _, h2⟩ := hget i g hg; exact hb.one s g h2
  · obtain ⟨s, h1, h2⟩ := hget i g hg
    obtain ⟨h3, h4, h5⟩ := ht.is i s x h1 hx
    exact (hb.ok s g _ h2 h3).ren_in hβ h5
  · obtain ⟨s, h1, h2⟩ := hget i gi hgi
    obtain ⟨t, h3, h4⟩ := hget j gj hgj
    obtain ⟨h5, h6, _⟩ := ht.is i s xi h1 hxi
    obtain ⟨h7, h8, _⟩ := ht.is j t xj h3 hxj
    have hst : s ≠ t := fun e => by
      subst e
      have hil := (List.getElem?_eq_some_iff.1 h1).1
      exact hij ((List.getElem?_inj hil ht.nodup).1 (h1.trans h3.symm))
    exact hb.apart s t gi gj _ _ hst h2 h4 h5 h7 (by rw [Box.ren_live]; exact h6) (by rw [Box.ren_live]; exact h8)

/-- What a callee's end says of the caller's state. -/
theorem Rel.after (h : Rel S m0 N fz β w a ρ H) (ht : Takes H σ Hin) (hout : Hout.length = Hin.length ∧ (∀ x ∈ Hout, x.scop σ.length = true ∧ x.live = true ∧ x.isO = false))
    (hb' : BoxesOk fz' (subβ β σ) w' Hout) (ha' : Anc ⟨w, fz, OwnOf (subβ β σ), subβ β σ⟩ fz' w') (hz' : FzOk fz' w') : Rel S m0 N fz' β w' a ρ (putH H σ (Hout.map (Box.ren σ))) := by
  have hσ := ht.lt
  have hβ := ht.sub h.bx.len
  have hget := ht.get h.bx.len
  have hown : ∀ k, OwnOf (subβ β σ) k → ∃ s g x, s ∈ σ ∧ β[s]? = some g ∧ H[s]? = some x ∧ x.live = true ∧ blkOf g = some k := by
    rintro k ⟨i, g, hg, hk⟩
    obtain ⟨s, h1, h2⟩ := hget i g hg
    have hi := (List.getElem?_eq_some_iff.1 h1).1
    obtain ⟨h3, h4, _⟩ := ht.is i s (Hin[i]'(by rw [← ht.len]; exact hi)) h1 (List.getElem?_eq_getElem _)
    exact ⟨s, g, _, List.mem_of_getElem? h1, h2, h3, by rw [Box.ren_live]; exact h4, hk⟩
  have hl : Later fz w fz' w' := ha'.later
  have hnotown : ∀ (i : Nat) (g : Value) (x : Box), i ∉ σ → β[i]? = some g → H[i]? = some x → x.live = true → ∀ k, blkOf g = some k → ¬ OwnOf (subβ β σ) k := by
    intro i g x hi hg hx hlx k hk ho
    obtain ⟨s, g', x', hs, hg', hx', hl', hk'⟩ := hown k ho
    exact h.bx.apart i s g g' x x' (fun e => hi (by rw [e]; exact hs)) hg hg' hx hx' hlx hl' k hk hk'
  refine ⟨h.fr.later hl, ⟨by rw [putH_length]; exact h.bx.len, h.bx.one, fun i g x hg hx => ?_, fun i j gi gj xi xj hij hgi hgj hxi hxj li lj => ?_⟩, fun i g x hg hx hlx k hk => ?_, ?_, hz', ?_⟩
  · by_cases hi : i ∈ σ
    · obtain ⟨m, hm, rfl⟩ := List.getElem_of_mem hi
      have hm' : m < Hout.length := by rw [hout.1, ← ht.len]; exact hm
      rw [putH_in ht.nodup (List.getElem?_eq_getElem hm) (x := (Hout[m]).ren σ) (by simp [hm']) (hσ _ (List.getElem_mem hm))] at hx
      cases hx
      exact (hb'.ok m g Hout[m] (by rw [hβ m hm]; simpa [List.getD, List.getElem?_eq_getElem hm] using hg) (List.getElem?_eq_getElem hm')).ren_out hβ (hout.2 _ (List.getElem_mem hm')).1
    · rw [putH_out hi] at hx
      by_cases hlx : x.live = true
      · have hy0 := h.bx.ok i g x hg hx
        have hlt := fun k hk => hy0.lt hlx (k := k) hk
        exact hy0.keep (fun k hk => ha'.block k (hlt k hk) (hnotown i g x hi hg hx hlx k hk)) hl (fun k o hk hz => by
          rcases ha'.news k o hz with h' | h' | h'
          · exact h'
          · have := hlt k hk
            have h'' : w.heap.size ≤ k := h'
            omega
          · exact absurd h' (hnotown i g x hi hg hx hlx k hk))
      · cases x with
        | dead => trivial
        | _ => simp [Box.live] at hlx
  · have conv : ∀ (i : Nat) (x : Box), (putH H σ (Hout.map (Box.ren σ)))[i]? = some x → x.live = true → ∃ y : Box, H[i]? = some y ∧ y.live = true := by
      intro i x hx hlx
      by_cases hi : i ∈ σ
      · obtain ⟨m, hm, rfl⟩ := List.getElem_of_mem hi
        obtain ⟨h1, h2, _⟩ := ht.is m σ[m] (Hin[m]'(by rw [← ht.len]; exact hm)) (List.getElem?_eq_getElem hm) (List.getElem?_eq_getElem _)
        exact ⟨_, h1, by rw [Box.ren_live]; exact h2⟩
      · rw [putH_out hi] at hx; exact ⟨x, hx, hlx⟩
    obtain ⟨yi, a1, a2⟩ := conv i xi hxi li
    obtain ⟨yj, b1, b2⟩ := conv j xj hxj lj
    exact h.bx.apart i j gi gj yi yj hij hgi hgj a1 b1 a2 b2
  · by_cases hi : i ∈ σ
    · obtain ⟨m, hm, rfl⟩ := List.getElem_of_mem hi
      obtain ⟨h1, h2, _⟩ := ht.is m σ[m] (Hin[m]'(by rw [← ht.len]; exact hm)) (List.getElem?_eq_getElem hm) (List.getElem?_eq_getElem _)
      exact h.mine _ g _ hg h1 (by rw [Box.ren_live]; exact h2) k hk
    · rw [putH_out hi] at hx
      exact h.mine i g x hg hx hlx k hk
  · refine h.anc.step ha'.os ha'.tape ha'.output ha'.drawn ha'.size (fun k hk ho => ha'.block k (by have := h.anc.size; exact Nat.lt_of_lt_of_le hk this) (fun ho' => ?_)) hl (fun b o hz => ?_)
    · obtain ⟨s, g, x, _, hg, hx, hlx, hk'⟩ := hown k ho'
      rcases h.mine s g x hg hx hlx k hk' with h' | h'
      · omega
      · exact ho h'
    · rcases ha'.news b o hz with h' | h' | h'
      · exact .inl h'
      · have := h.anc.size
        exact .inr (.inl (Nat.le_trans this h'))
      · obtain ⟨s, g, x, _, hg, hx, hlx, hk'⟩ := hown b h'
        exact .inr (h.mine s g x hg hx hlx b hk')
  · refine ⟨h.pre.len, by rw [putH_length]; exact h.pre.le, h.pre.same, fun i x hi hx => ?_⟩
    by_cases his : i ∈ σ
    · obtain ⟨m, hm, rfl⟩ := List.getElem_of_mem his
      have hm' : m < Hout.length := by rw [hout.1, ← ht.len]; exact hm
      rw [putH_in ht.nodup (List.getElem?_eq_getElem hm) (x := (Hout[m]).ren σ) (by simp [hm']) (hσ _ (List.getElem_mem hm))] at hx
      cases hx
      have := (hout.2 _ (List.getElem_mem hm')).2.2
      cases hh : Hout[m] <;> rw [hh] at this <;> first | rfl | exact this
    · rw [putH_out his] at hx; exact h.pre.noO i x hi hx

end

/-- A CALL BY CONTRACT, under the caller's names. -/
theorem Rel.call (h : Rel S m0 N fz β w a ρ H) {f : FuncId} {args0 : List AV} {Hin Hout : List Box} {r0 : AV} {σ : List Nat} {vs : List Value} (hc : Ctr P f args0 Hin r0 Hout) (ht : Takes H σ Hin)
    (hout : Hout.length = Hin.length ∧ (∀ x ∈ Hout, x.scop σ.length = true ∧ x.live = true ∧ x.isO = false) ∧ scop σ.length r0 = true ∧ scopL σ.length args0 = true)
    (hr : RdL fz β w (renL σ args0) vs) :
    Calls P f vs.toArray w fun e w' => ∃ v fz', e = .returned v ∧ RdA fz' β w' (ren σ r0) v ∧ BoxesOk fz' (subβ β σ) w' Hout ∧ Anc ⟨w, fz, OwnOf (subβ β σ), subβ β σ⟩ fz' w' ∧ FzOk fz' w' := by
  have hβ := ht.sub h.bx.len
  refine (hc fz (subβ β σ) w vs (ht.boxes h.bx) h.fzok (renL_in hβ _ _ hout.2.2.2 hr)).mono fun e w' ⟨v, fz', he, hv, hb', ha', hz'⟩ => ?_
  exact ⟨v, fz', he, ren_out hβ _ _ hout.2.2.1 hv, hb', ha', hz'⟩

/-- The same of a function that takes no box. -/
theorem takes_nil : Takes H [] [] := ⟨rfl, List.nodup_nil, fun i s x h => by simp at h⟩

theorem Rel.afterPure (h : Rel S m0 N fz β w a ρ H) (hb' : BoxesOk fz' [] w' []) (ha' : Anc ⟨w, fz, OwnOf [], []⟩ fz' w') (hz' : FzOk fz' w') : Rel S m0 N fz' β w' a ρ H :=
  h.after takes_nil ⟨rfl, fun x hx => by cases hx⟩ hb' ha' hz'

theorem Rel.callPure (h : Rel S m0 N fz β w a ρ H) {f : FuncId} {args : List AV} {r : AV} {vs : List Value} (hc : Ctr P f args [] r []) (hs : scopL 0 args = true ∧ scop 0 r = true)
    (hr : RdL fz β w args vs) :
    Calls P f vs.toArray w fun e w' => ∃ v fz', e = .returned v ∧ RdA fz' β w' r v ∧ BoxesOk fz' [] w' [] ∧ Anc ⟨w, fz, OwnOf [], []⟩ fz' w' ∧ FzOk fz' w' := by
  have := h.call (σ := []) hc takes_nil ⟨rfl, (fun x hx => by cases hx), hs.2, hs.1⟩ (by rw [renL_id _ hs.1]; exact hr)
  refine this.mono fun e w' ⟨v, fz', he, hv, hrel⟩ => ⟨v, fz', he, ?_, hrel⟩
  rwa [ren_id _ hs.2] at hv

theorem Rel.afterOwn (h : Rel S m0 N fz β w a ρ H) {v : Value} {bx : Box} (hone : v.oneCell' = true) (hb' : BoxOk fz' [] w' v bx) (hn : ∀ k, blkOf v = some k → w.heap.size ≤ k) (ha' : Anc ⟨w, fz, OwnOf [], []⟩ fz' w') (hz' : FzOk fz' w') :
    Rel S m0 N fz' (β ++ [v]) w' a ρ (H ++ [bx]) := by
  have no : ∀ k, ¬ OwnOf [] k := fun k ⟨i, g, h1, _⟩ => by simp at h1
  have hnews : ∀ b o, fz' b o → fz b o ∨ w.heap.size ≤ b := fun b o hf => by
    rcases ha'.news b o hf with h1 | h1 | h1
    · exact .inl h1
    · exact .inr h1
    · exact absurd h1 (no b)
  refine ⟨(h.fr.later ha'.later).ext (Ext.snoc _ _), h.bx.snoc v bx hone (fun k hk => ha'.block k hk (no k)) ha'.later hnews (hb'.ext (fun i g hi => by simp at hi)) hn,
    fun i g' y h1 h2 hl' k hk => ?_, h.anc.step ha'.os ha'.tape ha'.output ha'.drawn ha'.size (fun k hk _ => ha'.block k (Nat.lt_of_lt_of_le hk h.anc.size) (no k)) ha'.later (fun b k hf => ?_), hz', h.pre.snoc h.bx.len v bx⟩
  · have hlen := h.bx.len
    by_cases hi : i < β.length
    · rw [List.getElem?_append_left hi] at h1
      rw [List.getElem?_append_left (by omega)] at h2
      exact h.mine i g' y h1 h2 hl' k hk
    · rw [List.getElem?_append_right (by omega)] at h1
      have := List.mem_of_getElem? h1
      simp at this; subst this
      exact .inl (Nat.le_trans h.anc.size (hn k hk))
  · rcases hnews b k hf with h' | h'
    · exact .inl h'
    · exact .inr (.inl (Nat.le_trans h.anc.size h'))

theorem Rel.callOwn (h : Rel S m0 N fz β w a ρ H) {f : FuncId} {args : List AV} {bx : Box} {vs : List Value} (hc : CtrO P f args bx) (hs : scopL 0 args = true) (hr : RdL fz β w args vs) :
    Calls P f vs.toArray w fun e w' => ∃ v fz', e = .returned v ∧ v.oneCell' = true ∧ BoxOk fz' [] w' v bx ∧ (∀ k, blkOf v = some k → w.heap.size ≤ k) ∧ Anc ⟨w, fz, OwnOf [], []⟩ fz' w' ∧ FzOk fz' w' :=
  hc fz w vs h.fzok (renL_in (β := β) (σ := []) (n := 0) (fun i hi => absurd hi (Nat.not_lt_zero _)) _ _ hs (by rw [renL_id _ hs]; exact hr))

end Go.Proofs.YtgapiecbinplfaaGreat
