/- Own framework, walks and plain laws behind the laws of this seat, part C2: lemmas, no statement of the seat. -/
import Derived.Test.YtgapiecbinplfaaGreatC1
import Derived.Lib.SliceRun
import Derived.Laws.Cover3
set_option linter.all false
/- The model's run of an operation that only reckons gives what 'valOp' says. -/
namespace Go.Proofs.YtgapiecbinplfaaGreat
open Go.RowKit

variable {P : Program} (E : TEnv P) {fz : Fz} {β : List Value} {w : World} {N : Nat} {a : Act} {ρ : Fr} {H : List Box}

theorem map_true {o : Option AV} {x : AV} {ob : Prop} (h : o.map (·, True) = some (x, ob)) : o = some x := by
  cases o with
  | none => simp at h
  | some y => simp at h; rw [h.1]

theorem val_load (hf : FrR fz β w N a ρ) (hb : BoxesOk fz β w H) {t : TypeId} {y : Operand} {x : AV} {ob : Prop}
    (h : valOp E ρ H (.load t y) = some (x, ob)) (hob : ob) : ∃ v, (Instr.loadAt t (a.eval y)).run P w = .ok v w ∧ RdA fz β w x v := by
  simp only [valOp] at h
  cases hd : E.td t with
  | none => simp [hd] at h
  | some d =>
    cases hy : evA ρ y with
    | none => simp [hd, hy] at h
    | some av =>
      have hr := evA_ok hf hy
      have hdo := E.tdok t d hd
      cases av with
      | ptr b o =>
        simp only [hd, hy] at h
        simp only [RdA] at hr
        obtain ⟨blk, hbt, hv⟩ := hr
        rw [hv]
        split at h
        · rename_i cs hcs
          obtain ⟨blk', vs, e, hg, hheap, hl, _⟩ := hb.ok b _ _ hbt hcs
          cases hg
          have hcell : ∀ j v, vs.toList[j]? = some v → w.cell? ⟨blk, j, none⟩ = some v := fun j v hj => by
            rw [cell_of_row w blk j vs e (0, 0) hheap]; simpa using hj
          split at h
          · rename_i ha
            split at h
            · rename_i hlen
              cases h
              have hvl := hl.length
              have hsl : ((vs.toList.drop o).take d.size).length = d.size := by simp; simp at hvl; omega
              refine ⟨_, run_loadVar_agg hdo ha hsl (fun j v hj => ?_), ?_⟩
              · rw [addr_add]
                refine hcell _ _ ?_
                rw [List.getElem?_take] at hj
                split at hj
                · simpa using hj
                · cases hj
              · simp only [RdA]; exact ⟨_, rfl, (hl.drop o).take d.size⟩
            · cases h
          · rename_i ha
            have h := map_true h
            obtain ⟨v, hv, hra⟩ := hl.get o x h
            exact ⟨v, run_loadVar_one hdo (by simpa using ha) (hcell _ _ hv), hra⟩
        · cases h
      | eptr τ z =>
        simp only [hd, hy] at h
        split at h
        · rename_i hc
          cases h
          simp only [RdA] at hr
          obtain ⟨b, o, cs, hv, hca, hel⟩ := hr
          rw [hv]
          have hl := hel.length
          have hav := RdA_avOf (β := β) hel
          by_cases ha : τ.agg = true
          · refine ⟨.agg cs.toArray, run_loadVar_agg hdo (hc.1.trans ha) (by rw [hl, hc.2]) (cells_load hca), ?_⟩
            rwa [if_pos ha] at hav
          · have ha' : τ.agg = false := by simpa using ha
            rw [Ty.agg_size ha'] at hl
            rw [if_neg ha] at hav
            match cs, hl with
            | [c], _ =>
              refine ⟨c, run_loadVar_one hdo (hc.1.trans ha') ?_, hav⟩
              have := cells_load hca 0 c rfl
              simpa [addr_add] using this
        · cases h
      | mptr b k i o =>
        simp only [hd, hy] at h
        simp only [RdA] at hr
        obtain ⟨blk, n, c, hbt, hv⟩ := hr
        rw [hv]
        split at h
        · rename_i e τ xs hxs
          split at h
          · rename_i hk
            obtain ⟨blk', c', vals, hg, hc1, hc2, hheap, ⟨rest, front, hvals, hels⟩, _⟩ := hb.ok b _ _ hbt hxs
            cases hg
            have key : i < xs.length → ∀ j v, ((front.drop (i * τ.size)).take τ.size)[j]? = some v → w.cell? ⟨blk, i * k + j, none⟩ = some v := by
              intro hi j v hj
              rw [cell_of_row w blk _ vals e (0, 0) hheap, hk]
              rw [List.getElem?_take] at hj
              split at hj
              · rename_i hjl
                have hj' : front[i * τ.size + j]? = some v := by simpa using hj
                have hlt := (List.getElem?_eq_some_iff.1 hj').1
                have : vals.toList[i * τ.size + j]? = some v := by rw [hvals, List.getElem?_append_left hlt]; exact hj'
                simpa using this
              · cases hj
            split at h
            · rename_i ha
              split at h
              · rename_i hc
                cases h
                have hi : i < xs.length := hob
                have hel := hels.get i hi
                have hav := RdA_avOf (β := β) hel
                rw [if_pos hc.2.2] at hav
                refine ⟨_, run_loadVar_agg hdo ha (by rw [hel.length, hc.2.1]) (fun j v hj => ?_), ?_⟩
                rotate_left
                · have : at0 τ xs (i : Int) = xs[i] := by rw [at0_get (by omega) (by omega)]; simp
                  rw [this]; exact hav
                · rw [addr_add, hc.1, Nat.add_zero]; exact key hi j v hj
              · cases h
            · rename_i ha
              simp only [Option.map_eq_some_iff] at h
              obtain ⟨q, hq, hqe⟩ := h
              cases hqe
              have hi : i < xs.length := hob
              have hel := hels.get i hi
              have : at0 τ xs (i : Int) = xs[i] := by rw [at0_get (by omega) (by omega)]; simp
              rw [this] at hq
              have hcs := RdL_cells (β := β) |>.1 (ElR_cells.1 hel)
              obtain ⟨v, hv1, hv2⟩ := hcs.get o q.av (by simp [hq])
              exact ⟨v, run_loadVar_one hdo (by simpa using ha) (key hi o v hv1), hv2⟩
          · cases h
        · cases h
      | _ => simp [hd, hy] at h

theorem val_slice (hf : FrR fz β w N a ρ) (hb : BoxesOk fz β w H) {t : TypeId} {y : Operand} {lo hi : Option Operand} {x : AV} {ob : Prop}
    (h : valOp E ρ H (.slice t y lo hi none) = some (x, ob)) (hob : ob) :
    ∃ v, (Instr.sliceAt t (a.eval y) (lo.map a.eval) (hi.map a.eval) none).run P w = .ok v w ∧ RdA fz β w x v := by
  have hbound : ∀ (d : Int) (z : Option Operand) (n : Int), boundA ρ d z = some n → (z = none ∧ n = d) ∨ ∃ k, z.map a.eval = some (.int k n) := by
    intro d z n hz
    cases z with
    | none => simp [boundA] at hz; exact .inl ⟨rfl, hz.symm⟩
    | some z =>
      simp only [boundA] at hz
      split at hz
      · rename_i k m hm
        cases hz
        have := evA_ok hf hm
        simp only [RdA, ElR, List.cons.injEq, and_true] at this
        exact .inr ⟨k, by simp [this]⟩
      · cases hz
  simp only [valOp] at h
  cases hd : E.el t with
  | none =>
    simp only [hd] at h
    cases hy : evA ρ y with
    | none => simp [hy] at h
    | some av =>
      have hr := froz_ok hb (evA_ok hf hy)
      simp only [hy, Option.map_some] at h
      generalize froz H av = fa at h hr
      cases fa with
      | d τ s =>
        cases τ with
        | str =>
          simp only at h
          cases hlo : boundA ρ 0 lo with
          | none => simp [hlo] at h
          | some l =>
            cases hhi : boundA ρ (List.length s) hi with
            | none => simp [hlo, hhi] at h
            | some u =>
              simp only [hlo, hhi] at h
              split at h
              · rename_i hstr
                cases h
                have hu := E.strok t hstr
                simp only [RdA, ElR, List.cons.injEq, and_true] at hr
                rw [hr]
                have hsz := ByteArray_size_mk s
                have hso : (s.length : Int) = ((ByteArray.mk s.toArray).size : Int) := by rw [hsz]
                obtain ⟨h0, h1, h2⟩ := hob
                have hres : ∀ l u : Nat, l ≤ u → u ≤ s.length → (ByteArray.mk s.toArray).extract l u = ⟨((s.take u).drop l).toArray⟩ := by
                  intro l u hlu hus
                  apply ByteArray.ext
                  simp [ByteArray.data_extract]
                  rw [List.drop_take]
                refine ⟨.string ⟨(cutL s l u).toArray⟩, ?_, by simp [RdA, ElR]⟩
                rcases hbound _ _ _ hlo with ⟨rfl, rfl⟩ | ⟨k1, e1⟩ <;> rcases hbound _ _ _ hhi with ⟨rfl, rfl⟩ | ⟨k2, e2⟩
                · simp [Instr.sliceAt, Instr.slice, run_underlying hu, Instr.sliceBounds, cutL, hsz, hres 0 s.length (by omega) (by omega)]
                · simp [Instr.sliceAt, Instr.slice, run_underlying hu, Instr.sliceBounds, cutL, e2, Instr.sliceBound, asIntOf, hsz, h1, h2, hres 0 u.toNat (by omega) (by omega)]
                · simp [Instr.sliceAt, Instr.slice, run_underlying hu, Instr.sliceBounds, cutL, e1, Instr.sliceBound, asIntOf, hsz, h0, h1, hres l.toNat s.length (by omega) (by omega)]
                · have h0u : 0 ≤ u := by omega
                  have hl2 : ¬ (max u 0 < l) := by omega
                  simp [Instr.sliceAt, Instr.slice, run_underlying hu, Instr.sliceBounds, cutL, e1, e2, Instr.sliceBound, asIntOf, hsz, h0, h0u, h2, hl2, hres l.toNat u.toNat (by omega) (by omega)]
              · cases h
        | _ => simp at h
      | _ => simp at h
  | some p =>
    obtain ⟨e, τ'⟩ := p
    have heo := E.elok t e τ' hd
    obtain ⟨i, z, hi1, hi2, hi3, _⟩ := heo.info
    have hsz : (sizeOf e).run P w = .ok τ'.size w := by simp [sizeOf, typeInfo, hi1, hi3]
    have hslice : ∀ (ad : Option Addr) (n c : Nat) (l u : Int), n ≤ c → boundA ρ 0 lo = some l → boundA ρ (n : Int) hi = some u → inC l u n →
        ∃ v : Unit, (Instr.sliceAt t (.slice ad n c) (lo.map a.eval) (hi.map a.eval) none).run P w = .ok (.slice (if c = l.toNat then ad else ad.map (·.add (l.toNat * τ'.size))) (u.toNat - l.toNat) (c - l.toNat)) w ∧ True := by
      intro ad n c l u hlc hlo hhi hob
      obtain ⟨h0, h1, h2⟩ := hob
      refine ⟨(), ?_, trivial⟩
      rcases hbound _ _ _ hlo with ⟨rfl, rfl⟩ | ⟨k1, e1⟩ <;> rcases hbound _ _ _ hhi with ⟨rfl, rfl⟩ | ⟨k2, e2⟩
      · simp [Instr.sliceAt, Instr.slice, run_underlying heo.under, Instr.sliceBounds, hsz]
      · have : u ≤ (c : Int) := by omega
        have h0u : 0 ≤ u := by omega
        simp [Instr.sliceAt, Instr.slice, run_underlying heo.under, Instr.sliceBounds, hsz, e2, Instr.sliceBound, asIntOf, this, h0u]
      · simp [Instr.sliceAt, Instr.slice, run_underlying heo.under, Instr.sliceBounds, hsz, e1, Instr.sliceBound, asIntOf, h0, h1]
      · have : u ≤ (c : Int) := by omega
        have h0u : 0 ≤ u := by omega
        have hl2 : ¬ (max u 0 < l) := by omega
        simp [Instr.sliceAt, Instr.slice, run_underlying heo.under, Instr.sliceBounds, hsz, e1, e2, Instr.sliceBound, asIntOf, this, h0, h0u, hl2]
    simp only [hd] at h
    cases hy : evA ρ y with
    | none => simp [hy] at h
    | some av =>
      have hr := froz_ok hb (evA_ok hf hy)
      simp only [hy, Option.map_some] at h
      generalize froz H av = fa at h hr
      cases fa with
      | nilsl =>
        simp only at h
        cases hlo : boundA ρ 0 lo with
        | none => simp [hlo] at h
        | some l =>
          cases hhi : boundA ρ 0 hi with
          | none => simp [hlo, hhi] at h
          | some u =>
            simp only [hlo, hhi] at h
            cases h
            obtain ⟨rfl, rfl⟩ := hob
            simp only [RdA] at hr
            rw [hr]
            refine ⟨.slice none 0 0, ?_, by simp only [RdA]; exact ⟨_, rfl, none, 0, rfl, Nat.le_refl _, by simp [maxLen], fun h => absurd rfl h⟩⟩
            rcases hbound _ _ _ hlo with ⟨rfl, _⟩ | ⟨k1, e1⟩ <;> rcases hbound _ _ _ hhi with ⟨rfl, _⟩ | ⟨k2, e2⟩
            · simp [Instr.sliceAt, Instr.slice, run_underlying heo.under, Instr.sliceBounds, hsz]
            · simp [Instr.sliceAt, Instr.slice, run_underlying heo.under, Instr.sliceBounds, hsz, e2, Instr.sliceBound, asIntOf]
            · simp [Instr.sliceAt, Instr.slice, run_underlying heo.under, Instr.sliceBounds, hsz, e1, Instr.sliceBound, asIntOf]
            · simp [Instr.sliceAt, Instr.slice, run_underlying heo.under, Instr.sliceBounds, hsz, e1, e2, Instr.sliceBound, asIntOf]
      | d σ xs =>
        cases σ with
        | sl τ =>
          simp only at h
          cases hlo : boundA ρ 0 lo with
          | none => simp [hlo] at h
          | some l =>
            cases hhi : boundA ρ (List.length xs) hi with
            | none => simp [hlo, hhi] at h
            | some u =>
              simp only [hlo, hhi] at h
              split at h
              · rename_i hss
                cases h
                obtain ⟨h0, h1, h2⟩ := hob
                simp only [RdA] at hr
                obtain ⟨v, hv, ad, c, rfl, hlc, hcm, hel⟩ := hr
                simp only [List.cons.injEq, and_true] at hv
                have hlen : (cutL xs l u).length = u.toNat - l.toNat := by simp [cutL]; omega
                have hun : u.toNat ≤ xs.length := by omega
                refine ⟨.slice (if c = l.toNat then ad else ad.map (·.add (l.toNat * τ'.size))) (u.toNat - l.toNat) (c - l.toNat), ?_, ?_⟩
                · rw [hv]
                  rcases hbound _ _ _ hlo with ⟨rfl, rfl⟩ | ⟨k1, e1⟩ <;> rcases hbound _ _ _ hhi with ⟨rfl, rfl⟩ | ⟨k2, e2⟩
                  · simp [Instr.sliceAt, Instr.slice, run_underlying heo.under, Instr.sliceBounds, hsz]
                  · have : u ≤ (c : Int) := by omega
                    have h0u : 0 ≤ u := by omega
                    simp [Instr.sliceAt, Instr.slice, run_underlying heo.under, Instr.sliceBounds, hsz, e2, Instr.sliceBound, asIntOf, this, h0u]
                  · simp [Instr.sliceAt, Instr.slice, run_underlying heo.under, Instr.sliceBounds, hsz, e1, Instr.sliceBound, asIntOf, h0, h1]
                  · have : u ≤ (c : Int) := by omega
                    have h0u : 0 ≤ u := by omega
                    have hl2 : ¬ (max u 0 < l) := by omega
                    simp [Instr.sliceAt, Instr.slice, run_underlying heo.under, Instr.sliceBounds, hsz, e1, e2, Instr.sliceBound, asIntOf, this, h0, h0u, hl2]
                · simp only [RdA]
                  refine ⟨_, rfl, _, _, by rw [hlen], by omega, by omega, fun hne => ?_⟩
                  have hpos : 0 < (cutL xs l u).length := List.length_pos_iff.2 hne
                  have hxne : xs ≠ [] := by intro e; subst e; simp [cutL] at hpos
                  obtain ⟨b, o, rfl, hc⟩ := hel hxne
                  have hcl : ¬ c = l.toNat := by omega
                  refine ⟨b, o + l.toNat * τ'.size, by rw [if_neg hcl, Option.map_some, addr_add], fun i hi => ?_⟩
                  obtain ⟨cs, hk, hj, hx⟩ := hc (l.toNat + i) (by omega)
                  refine ⟨cs, hk, fun j hjl => ?_, ?_⟩
                  · have := hj j hjl
                    rw [← hss, show o + l.toNat * τ.size + i * τ.size + j = o + (l.toNat + i) * τ.size + j by rw [Nat.add_mul]; omega]
                    exact this
                  · have : (cutL xs l u)[i] = xs[l.toNat + i]'(by omega) := by simp [cutL]
                    rw [this]; exact hx
              · cases h
        | _ => simp at h
      | mrow b =>
        simp only at h
        split at h
        · rename_i e' τ xs hxs
          cases hlo : boundA ρ 0 lo with
          | none => simp [hlo] at h
          | some l =>
            cases hhi : boundA ρ (List.length xs) hi with
            | none => simp [hlo, hhi] at h
            | some u =>
              simp only [hlo, hhi] at h
              split at h
              · rename_i hss
                cases h
                simp only [RdA] at hr
                obtain ⟨blk, c, vals, hg, hc1, hc2, _⟩ := hb.ok b _ _ hr hxs
                obtain ⟨v, h3, h4⟩ := hslice (some ⟨blk, 0, none⟩) xs.length c l u hc1 hlo hhi hob
                rw [hg]
                refine ⟨_, h3, ?_⟩
                simp only [RdA]
                refine ⟨blk, _, c, _, _, by rw [hr, hg], rfl, by have := hob.1; have := hob.2.1; have := hob.2.2; omega, by omega, fun hp => ?_⟩
                rw [if_neg (by have := hob.1; have := hob.2.1; have := hob.2.2; omega), Option.map_some, addr_add, hss]; simp
              · cases h
        · cases h
      | msl b k j n =>
        simp only at h
        cases hlo : boundA ρ 0 lo with
        | none => simp [hlo] at h
        | some l =>
          cases hhi : boundA ρ n hi with
          | none => simp [hlo, hhi] at h
          | some u =>
            simp only [hlo, hhi] at h
            split at h
            · rename_i hss
              cases h
              simp only [RdA] at hr
              obtain ⟨blk, m, c, ad, c2, hg, hv, hc1, hc2, hp⟩ := hr
              obtain ⟨v, h3, h4⟩ := hslice ad n c2 l u hc1 hlo hhi hob
              rw [hv]
              refine ⟨_, h3, ?_⟩
              simp only [RdA]
              refine ⟨blk, m, c, _, _, hg, rfl, by have := hob.1; have := hob.2.1; have := hob.2.2; omega, by omega, fun hq => ?_⟩
              rw [if_neg (by have := hob.1; have := hob.2.1; have := hob.2.2; omega), hp (by have := hob.1; have := hob.2.1; have := hob.2.2; omega), Option.map_some, addr_add, hss, Nat.add_mul]
            · cases h
      | _ => simp at h

theorem val_fieldAddr (hf : FrR fz β w N a ρ) {t : TypeId} {y : Operand} {f : Nat} {x : AV} {ob : Prop}
    (h : valOp E ρ H (.fieldAddr t y f) = some (x, ob)) : ∃ v, (Instr.fieldAt t (a.eval y) f).run P w = .ok v w ∧ RdA fz β w x v := by
  simp only [valOp] at h
  cases hd : E.td t with
  | none => simp [hd] at h
  | some d =>
    cases hy : evA ρ y with
    | none => simp [hd, hy] at h
    | some av =>
      have hr := evA_ok hf hy
      have hdo := E.tdok t d hd
      have hfield : d.agg = true → ∀ off, d.offs[f]? = some off → ∀ p : Addr, (Instr.fieldAt t (.pointer (some p)) f).run P w = .ok (.pointer (some (p.add off))) w := by
        intro ha off hoff p
        obtain ⟨fs, hu, ho, hs⟩ := hdo.fields ha
        have : (fs.toList.map (·.offset))[f]? = some off := by rw [ho]; exact hoff
        rw [List.getElem?_map, Option.map_eq_some_iff] at this
        obtain ⟨fd, hfd, rfl⟩ := this
        have hfa : fs[f]? = some fd := by simpa using hfd
        have hsz := (hs fd (List.mem_of_getElem? hfd) w).1
        simp [Instr.fieldAt, run_underlying hu, hfa, Instr.sureAddr, fieldPlace, hsz]
      cases av with
      | ptr b o =>
        simp only [hd, hy] at h
        simp only [RdA] at hr
        obtain ⟨blk, hbt, hv⟩ := hr
        split at h
        · rename_i ha
          rw [Option.map_eq_some_iff] at h
          obtain ⟨off, hoff, he⟩ := h
          cases he
          refine ⟨_, by rw [hv]; exact hfield ha off hoff _, ?_⟩
          simp only [RdA]; exact ⟨blk, hbt, by rw [addr_add]⟩
        · cases h
      | eptr τ z =>
        simp only [hd, hy] at h
        split at h
        · rename_i hc
          simp only [Option.map_map, Option.map_eq_some_iff] at h
          obtain ⟨q, hq, he⟩ := h
          cases he
          simp only [RdA] at hr
          obtain ⟨b, o, cs, hv, hca, hel⟩ := hr
          have hcr := ElR_cells.1 hel
          have hrl := RdL_cells (β := β) |>.1 hcr
          obtain ⟨u, hu1, hu2⟩ := hrl.get f q.av (by simp [hq])
          have hfl := (List.getElem?_eq_some_iff.1 hu1).1
          rw [hel.length] at hfl
          refine ⟨_, by rw [hv]; exact hfield hc.1 f (by rw [hc.2]; simp [List.getElem?_range, hfl]) _, ?_⟩
          simp only [RdA]
          refine ⟨b, o + f, [u], by rw [addr_add], fun j hj => ?_, by simpa [DV.av, RdA] using hu2⟩
          have : j = 0 := by simp at hj; omega
          subst this
          have := hca f (List.getElem?_eq_some_iff.1 hu1).1
          simpa [(List.getElem?_eq_some_iff.1 hu1).2] using this
        · cases h
      | mptr b k i o =>
        simp only [hd, hy] at h
        simp only [RdA] at hr
        obtain ⟨blk, n, c, hbt, hv⟩ := hr
        split at h
        · rename_i ha
          rw [Option.map_eq_some_iff] at h
          obtain ⟨off, hoff, he⟩ := h
          cases he
          refine ⟨_, by rw [hv]; exact hfield ha off hoff _, ?_⟩
          simp only [RdA]; exact ⟨blk, n, c, hbt, by rw [addr_add, Nat.add_assoc]⟩
        · cases h
      | _ => simp [hd, hy] at h

theorem val_field (hf : FrR fz β w N a ρ) {t : TypeId} {y : Operand} {f : Nat} {x : AV} {ob : Prop}
    (h : valOp E ρ H (.field t y f) = some (x, ob)) : ∃ v, (Instr.field t (a.eval y) f).run P w = .ok v w ∧ RdA fz β w x v := by
  simp only [valOp] at h
  cases hd : E.td t with
  | none => simp [hd] at h
  | some d =>
    cases hy : evA ρ y with
    | none => simp [hd, hy] at h
    | some av =>
      have hr := evA_ok hf hy
      have hdo := E.tdok t d hd
      cases av with
      | agg cs =>
        simp only [hd, hy] at h
        split at h
        · rename_i ha
          split at h
          · rename_i off hoff
            have h := map_true h
            obtain ⟨fs, hu, ho, hs⟩ := hdo.fields ha
            have : (fs.toList.map (·.offset))[f]? = some off := by rw [ho]; exact hoff
            rw [List.getElem?_map, Option.map_eq_some_iff] at this
            obtain ⟨fd, hfd, rfl⟩ := this
            have hfa : fs[f]? = some fd := by simpa using hfd
            have hsz := (hs fd (List.mem_of_getElem? hfd) w).2
            simp only [RdA] at hr
            obtain ⟨vs, hv, hl⟩ := hr
            obtain ⟨v, hv1, hv2⟩ := hl.get _ _ h
            refine ⟨v, ?_, hv2⟩
            rw [hv]
            simp [Instr.field, run_underlying hu, hfa, part, hsz, asAgg, hv1]
          · cases h
        · cases h
      | _ => simp [hd, hy] at h

theorem val_indexAddr (hf : FrR fz β w N a ρ) (hb : BoxesOk fz β w H) {t : TypeId} {y i : Operand} {x : AV} {ob : Prop}
    (h : valOp E ρ H (.indexAddr t y i) = some (x, ob)) (hob : ob) : ∃ v, (Instr.indexAt t (a.eval y) (a.eval i)).run P w = .ok v w ∧ RdA fz β w x v := by
  simp only [valOp] at h
  cases hd : E.el t with
  | none => simp [hd] at h
  | some p =>
    obtain ⟨e, τ'⟩ := p
    have heo := E.elok t e τ' hd
    obtain ⟨ti, z, hi1, hi2, hi3, _⟩ := heo.info
    have hsz : (sizeOf e).run P w = .ok τ'.size w := by simp [sizeOf, typeInfo, hi1, hi3]
    cases hy : evA ρ y with
    | none => simp [hd, hy] at h
    | some av =>
      cases hi : evA ρ i with
      | none => simp [hd, hy, hi] at h
      | some iv =>
        have hr := froz_ok hb (evA_ok hf hy)
        have hri := evA_ok hf hi
        simp only [hd, hy, hi, Option.map_some] at h
        generalize froz H av = fa at h hr
        cases fa with
        | d σ xs =>
          cases σ with
          | sl τ =>
            cases iv with
            | d κ n =>
              cases κ with
              | int k =>
                simp only at h
                split at h
                · rename_i hss
                  cases h
                  simp only [RdA, ElR, List.cons.injEq, and_true] at hri
                  simp only [RdA] at hr
                  obtain ⟨b, o, c, cs, hv, hca, hel⟩ := RdSl_index (elR_sl.1 hr) hob.1 hob.2
                  refine ⟨.pointer (some ⟨b, o + n.toNat * τ.size, none⟩), ?_, by simp only [RdA]; exact ⟨b, _, cs, rfl, hca, hel⟩⟩
                  rw [hri, hv]
                  have h1 := hob.1; have h2 := hob.2
                  simp [Instr.indexAt, asIntOf, run_underlying heo.under, h1, h2, hsz, addr_add, hss]
                · cases h
              | _ => simp at h
            | _ => simp at h
          | _ => simp at h
        | mrow b =>
          cases iv with
          | d κ n =>
            cases κ with
            | int k =>
              simp only at h
              split at h
              · rename_i e' τ xs hxs
                split at h
                · rename_i hss
                  cases h
                  simp only [RdA, ElR, List.cons.injEq, and_true] at hri
                  simp only [RdA] at hr
                  obtain ⟨blk, c, vals, hg, _⟩ := hb.ok b _ _ hr hxs
                  refine ⟨.pointer (some ⟨blk, n.toNat * τ.size, none⟩), ?_, by simp only [RdA]; exact ⟨blk, _, _, by rw [hr, hg], by simp⟩⟩
                  rw [hri, hg]
                  have h1 := hob.1; have h2 := hob.2
                  simp [Instr.indexAt, asIntOf, run_underlying heo.under, h1, h2, hsz, addr_add, hss]
                · cases h
              · cases h
            | _ => simp at h
          | _ => simp at h
        | msl b k j m =>
          cases iv with
          | d κ n =>
            cases κ with
            | int k2 =>
              simp only at h
              split at h
              · rename_i hss
                cases h
                simp only [RdA, ElR, List.cons.injEq, and_true] at hri
                simp only [RdA] at hr
                obtain ⟨blk, m0, c, ad, c2, hg, hv, hc1, hc2, hp⟩ := hr
                have h1 := hob.1; have h2 := hob.2
                refine ⟨.pointer (some ⟨blk, (j + n.toNat) * k, none⟩), ?_, by simp only [RdA]; exact ⟨blk, _, _, hg, by simp⟩⟩
                rw [hri, hv, hp (by omega)]
                simp [Instr.indexAt, asIntOf, run_underlying heo.under, h1, h2, hsz, addr_add, hss, Nat.add_mul]
              · cases h
            | _ => simp at h
          | _ => simp at h
        | _ => simp at h

end Go.Proofs.YtgapiecbinplfaaGreat
/- The model's run of an operation that only reckons gives what 'valOp' says: the rest, and all together. -/
namespace Go.Proofs.YtgapiecbinplfaaGreat
open Go.RowKit

variable {P : Program} (E : TEnv P) {fz : Fz} {β : List Value} {w : World} {N : Nat} {a : Act} {ρ : Fr} {H : List Box}

theorem beq_dec (p q : List UInt8) : (p == q) = decide (p = q) := by
  by_cases h : p = q <;> simp [h]

theorem bytes_eq (s : List UInt8) : (ByteArray.mk s.toArray).toList = s := by
  exact Go.ByteArray.toList_mk s

theorem val_bin (hf : FrR fz β w N a ρ) {op : BinOp} {t : TypeId} {y z : Operand} {yt : TypeId} {x : AV} {ob : Prop}
    (h : valOp E ρ H (.binOp op t y z yt) = some (x, ob)) (hob : ob) :
    ∃ v, (do eqGuard op t y z (a.eval y) (a.eval z); binOp op t (a.eval y) (a.eval z)).run P w = .ok v w ∧ RdA fz β w x v := by
  simp only [valOp] at h
  cases hy : evA ρ y with
  | none => simp [hy] at h
  | some av =>
    cases hz : evA ρ z with
    | none => simp [hy, hz] at h
    | some bv =>
      simp only [hy, hz] at h
      have hr := evA_ok hf hy
      have hs := evA_ok hf hz
      unfold binA at h
      split at h
      · rename_i k p k' q
        simp only [RdA, ElR, List.cons.injEq, and_true] at hr hs
        split at h
        · rename_i hk
          subst hk
          have hg : (eqGuard op t y z (Value.int k p) (Value.int k q)).run P w = .ok () w := by
            unfold eqGuard; cases op <;> rfl
          rw [hr, hs]
          split at h
          · rename_i b hcb
            cases h
            refine ⟨.bool b, ?_, by simp [RdA, ElR]⟩
            cases op <;> simp only [intCmpB, Option.some.injEq, reduceCtorEq] at hcb <;> subst hcb <;> simp [hg, binOp, Op.intCmp] <;> (by_cases e : p = q <;> simp [e])
          · rename_i hcb
            split at h
            · rename_i n hn
              cases h
              refine ⟨.int k n, ?_, by simp [RdA, ElR]⟩
              cases op <;> simp only [intArB, Option.some.injEq, reduceCtorEq] at hn <;> subst hn <;> simp [hg, binOp, Op.intArith]
            · split at h
              · cases h
                refine ⟨.int k (Int.tmod p q), ?_, by simp [RdA, ElR]⟩
                have hq : ¬ q = 0 := by have := hob.2.1; intro e; rw [e] at this; exact Int.lt_irrefl _ this
                simp [hg, binOp, Op.intDiv, hq]
              · cases h
                refine ⟨.int k (Int.fdiv p 2), ?_, by simp [RdA, ElR]⟩
                have hq : q = 1 := hob
                subst hq
                have hk : min (Int.toNat 1) k.bits = 1 := by cases k <;> rfl
                have h0 : ¬ (1 : Int) < 0 := by omega
                simp only [hg, binOp, Op.shift, Sem.run_bind, Result.andThen_ok, h0, if_false, hk, Sem.run_pure]
                rfl
              · cases h
        · cases h
      · rename_i p q
        simp only [RdA, ElR, List.cons.injEq, and_true] at hr hs
        have hg : (eqGuard op t y z (Value.string ⟨p.toArray⟩) (Value.string ⟨q.toArray⟩)).run P w = .ok () w := by
          unfold eqGuard; cases op <;> rfl
        rw [hr, hs]
        split at h
        · cases h
          exact ⟨.bool (decide (p = q)), by simp [hg, binOp, Op.stringOp, bytes_eq, beq_dec], by simp [RdA, ElR]⟩
        · cases h
          exact ⟨.bool (!decide (p = q)), by simp [hg, binOp, Op.stringOp, bytes_eq, beq_dec], by simp [RdA, ElR]⟩
        · cases h
          exact ⟨.bool (Op.bytesLess p q), by simp [hg, binOp, Op.stringOp, bytes_eq], by simp [RdA, ElR]⟩
        · cases h
          exact ⟨.bool (!(Op.bytesLess p q || decide (p = q))), by simp [hg, binOp, Op.stringOp, bytes_eq, beq_dec], by simp [RdA, ElR]⟩
        · cases h
          have hno : ¬ ((((ByteArray.mk p.toArray).size + (ByteArray.mk q.toArray).size : Nat) : Int) > IntKind.i64.max) := by
            have : p.length + q.length ≤ 1099511627776 := by simpa [big] using hob
            rw [ByteArray_size_mk, ByteArray_size_mk]
            have e : IntKind.i64.max = 9223372036854775807 := by decide
            rw [e]
            omega
          refine ⟨.string ⟨(p ++ q).toArray⟩, ?_, by simp [RdA, ElR]⟩
          simp only [Sem.run_bind, hg, Result.andThen_ok, binOp, Op.stringOp]
          rw [if_neg hno, Sem.run_pure]
          congr 2
        · cases h
      · rename_i p q
        simp only [RdA, ElR, List.cons.injEq, and_true] at hr hs
        have hg : (eqGuard op t y z (Value.bool p) (Value.bool q)).run P w = .ok () w := by
          unfold eqGuard; cases op <;> rfl
        split at h
        · rename_i hbl
          have hu := E.blok t hbl
          have he : (Op.equal t (Value.bool p) (Value.bool q)).run P w = .ok (p == q) w := run_equalIn_bool w 9999 t p q hu
          rw [hr, hs]
          split at h
          · cases h
            exact ⟨.bool (p == q), by simp [hg, binOp, he], by simp [RdA, ElR]⟩
          · cases h
            exact ⟨.bool (!(p == q)), by simp [hg, binOp, he], by simp [RdA, ElR]⟩
          · cases h
        · cases h
      · rename_i p q r p' q' r'
        simp only [RdA, RdL, ElR, List.cons.injEq, and_true] at hr hs
        obtain ⟨vs, hv, v1, r1, rfl, h1, v2, r2, rfl, h2, v3, r3, rfl, h3, rfl⟩ := hr
        obtain ⟨us, hu, u1, s1, rfl, k1, u2, s2, rfl, k2, u3, s3, rfl, k3, rfl⟩ := hs
        subst h1; subst h2; subst h3; subst k1; subst k2; subst k3
        rw [hv, hu]
        split at h
        · rename_i hc
          have hcell := E.cellok t hc ⟨p, q, r⟩ ⟨p', q', r'⟩ w y z
          split at h
          · cases h; exact ⟨_, hcell.1, by simp [RdA, ElR]⟩
          · cases h; exact ⟨_, hcell.2, by simp [RdA, ElR]⟩
          · cases h
        · cases h
      · rename_i τ xs
        split at h
        · rename_i hel
          obtain ⟨⟨e, τ'⟩, he⟩ := Option.isSome_iff_exists.1 hel
          have hu := (E.elok t e τ' he).under
          simp only [RdA] at hr hs
          obtain ⟨u, hu1, ad, c, hv, _, _, hne⟩ := hr
          simp only [List.cons.injEq, and_true] at hu1
          have hg : ∀ op, (eqGuard op t y z (.slice ad xs.length c) (.slice none 0 0)).run P w = .ok () w := by
            intro op; unfold eqGuard; cases op <;> rfl
          rw [hu1, hv, hs]
          split at h
          · cases h
            obtain ⟨b, o, rfl, _⟩ := hne hob
            exact ⟨.bool false, by simp [hg, Lib.run_eql_slice_nil w t e _ _ _ 0 0 hu], by simp [RdA, ElR]⟩
          · cases h
            obtain ⟨b, o, rfl, _⟩ := hne hob
            exact ⟨.bool true, by simp [hg, run_neq_slice_nil w t e _ _ _ hu], by simp [RdA, ElR]⟩
          · cases h
        · cases h
      · cases h

theorem val_index (hf : FrR fz β w N a ρ) {t : TypeId} {y i : Operand} {x : AV} {ob : Prop}
    (h : valOp E ρ H (.index t y i) = some (x, ob)) (hob : ob) : ∃ v, (Instr.index t (a.eval y) (a.eval i)).run P w = .ok v w ∧ RdA fz β w x v := by
  simp only [valOp] at h
  split at h
  · rename_i s k n hs hn
    split at h
    · rename_i hstr
      cases h
      have hr := evA_ok hf hs
      have hi := evA_ok hf hn
      simp only [RdA, ElR, List.cons.injEq, and_true] at hr hi
      have hu := E.strok t hstr
      obtain ⟨h0, h1⟩ := hob
      have hlt : n.toNat < List.length s := (Int.toNat_lt h0).2 h1
      have hsz : (ByteArray.mk s.toArray)[n.toNat]? = some s[n.toNat] := by
        rw [getElem?_pos _ _ (by rw [ByteArray_size_mk]; exact hlt)]
        simp [ByteArray.getElem_eq_getElem_data]
      refine ⟨.int .u8 (s[n.toNat].toNat : Int), ?_, by simp [RdA, ElR, List.getD, List.getElem?_eq_getElem hlt]⟩
      rw [hr, hi]
      simp [Instr.index, asIntOf, run_underlying hu, h0, hsz]
    · cases h
  · cases h

theorem capsOf_ok : ∀ {l : List AV} {c : List (Nat × Nat)} {vs : List Value}, capsOf l = some c → RdL fz β w l vs → CapsR β c vs
  | [], c, vs, h, hr => by simp only [capsOf, Option.some.injEq] at h; subst h; simp only [RdL] at hr; exact hr
  | .ptr b o :: r, c, vs, h, hr => by
    simp only [capsOf, Option.bind_eq_bind] at h
    cases hc : capsOf r with
    | none => simp [hc] at h
    | some c' =>
      simp [hc] at h; subst h
      simp only [RdL, RdA] at hr
      obtain ⟨v, s, rfl, ⟨blk, hb, rfl⟩, h3⟩ := hr
      exact ⟨blk, s, rfl, hb, capsOf_ok hc h3⟩

theorem evP_ok (hf : FrR fz β w N a ρ) (hb : BoxesOk fz β w H) : ∀ {ps : List (Nat × Operand)} {l : List (Nat × AV)}, evP ρ ps = some l →
    (l.map fun p => p.1) = (ps.map fun p => p.1) ∧ RdL fz β w (l.map fun p => froz H p.2) (ps.map fun p => a.eval p.2)
  | [], l, h => by simp only [evP, Option.some.injEq] at h; subst h; simp [RdL]
  | (i, x) :: ps, l, h => by
    simp only [evP, Option.bind_eq_bind] at h
    cases h1 : evA ρ x with
    | none => simp [h1] at h
    | some y =>
      cases h2 : evP ρ ps with
      | none => simp [h1, h2] at h
      | some r =>
        simp [h1, h2] at h; subst h
        obtain ⟨h3, h4⟩ := evP_ok hf hb h2
        refine ⟨by simp [h3], ?_⟩
        simp only [List.map_cons, RdL]
        exact ⟨_, _, rfl, froz_ok hb (evA_ok hf h1), h4⟩

theorem fill_one (offs : List Nat) (hone : ∀ (b : Nat) (g : Value), β[b]? = some g → g.oneCell' = true) : ∀ {cs : List AV} {l : List (Nat × AV)} {out : List AV} {vs : List Value} {us : List Value},
    fillA offs cs l = some out → RdL fz β w cs vs → RdL fz β w (l.map (·.2)) us →
    ∃ vs', Instr.fill ((offs.map fun o => (o, 1)).toArray[·]?) vs.toArray ((l.map (·.1)).zip us) = some vs'.toArray ∧ RdL fz β w out vs'
  | cs, [], out, vs, us, h, hc, hl => by
    simp only [fillA, Option.some.injEq] at h; subst h
    exact ⟨vs, by simp [Instr.fill], hc⟩
  | cs, (i, x) :: l, out, vs, us, h, hc, hl => by
    simp only [fillA] at h
    split at h
    · rename_i o ho
      split at h
      · rename_i hx
        simp only [List.map_cons, RdL] at hl
        obtain ⟨u, r, rfl, hu, hr⟩ := hl
        have h1 := hu.one hone hx.1
        have hlen := hc.length
        obtain ⟨vs', h2, h3⟩ := fill_one offs hone h (hc.set o x u hu) hr
        refine ⟨vs', ?_, h3⟩
        have hp : ((offs.map fun o => (o, 1)).toArray[i]?) = some (o, 1) := by simp [ho]
        have hno : ¬ (o + 1 > vs.length) := by omega
        simp only [List.map_cons, List.zip_cons_cons, Instr.fill, hp, Value.cells_one h1]
        simp [hno]
        simpa using h2
      · cases h
    · cases h

theorem val_build (hf : FrR fz β w N a ρ) (hb : BoxesOk fz β w H) {t : TypeId} {parts : Array (Nat × Operand)} {x : AV} {ob : Prop}
    (h : valOp E ρ H (.build t parts) = some (x, ob)) : ∃ v, (Instr.build t (parts.map fun (i, x) => (i, a.eval x))).run P w = .ok v w ∧ RdA fz β w x v := by
  simp only [valOp] at h
  split at h
  · rename_i d l hd hl
    split at h
    · rename_i ha
      rw [Option.map_eq_some_iff] at h
      obtain ⟨cs, hcs, he⟩ := h
      cases he
      have hdo := E.tdok t d hd
      obtain ⟨z, hz1, hz2, hz3⟩ := hdo.zero
      obtain ⟨h1, h2⟩ := evP_ok hf hb hl
      obtain ⟨vs', h3, h4⟩ := fill_one (fz := fz) (β := β) (w := w) d.offs hb.one hcs (hz2 fz β w) (by rw [List.map_map]; exact h2)
      refine ⟨.agg vs'.toArray, run_build w t _ _ ?_, by simp only [RdA]; exact ⟨vs', rfl, h4⟩⟩
      rw [hz3 ha]
      have e1 : (parts.map fun (i, x) => (i, a.eval x)).toList = ((l.map fun p => (p.1, froz H p.2)).map (·.1)).zip (parts.toList.map fun p => a.eval p.2) := by
        rw [List.map_map, show ((fun (p : Nat × AV) => p.1) ∘ fun (p : Nat × AV) => (p.1, froz H p.2)) = (fun p => p.1) from rfl, h1, List.zip_map', Array.toList_map]
      rw [e1]
      simpa using h3
    · cases h
  · cases h

theorem val_len (hf : FrR fz β w N a ρ) (hb : BoxesOk fz β w H) {as : Array Operand} {ts : Array TypeId} {x : AV} {ob : Prop} {rt : TypeId}
    (h : valOp E ρ H (.call { callee := .builtin .len, args := as, argTypes := ts }) = some (x, ob)) :
    ∃ v, (Builtin.len_ ts rt (as.map a.eval)).run P w = .ok v w ∧ RdA fz β w x v := by
  simp only [valOp] at h
  split at h
  · rename_i y t hy ht
    have has : as = #[y] := Array.toList_inj.1 hy
    have hts : ts = #[t] := Array.toList_inj.1 ht
    subst has; subst hts
    split at h
    · rename_i p τ xs hel hev
      obtain ⟨e, τ'⟩ := p
      cases h
      rw [Option.map_eq_some_iff] at hev
      obtain ⟨av, h1, h2⟩ := hev
      have hr := froz_ok hb (evA_ok hf h1)
      rw [h2] at hr
      simp only [RdA] at hr
      obtain ⟨ad, c, hv⟩ := RdSl_len (elR_sl.1 hr)
      exact ⟨.int .i64 (xs.length : Int), by simp [Builtin.len_, run_underlying (E.elok t e τ' hel).under, hv, goInt], by simp [RdA, ElR]⟩
    · rename_i p hel hev
      obtain ⟨e, τ'⟩ := p
      cases h
      rw [Option.map_eq_some_iff] at hev
      obtain ⟨av, h1, h2⟩ := hev
      have hr := froz_ok hb (evA_ok hf h1)
      rw [h2] at hr
      simp only [RdA] at hr
      exact ⟨.int .i64 0, by simp [Builtin.len_, run_underlying (E.elok t e τ' hel).under, hr, goInt], by simp [RdA, ElR]⟩
    · rename_i p b hel hev
      obtain ⟨e, τ'⟩ := p
      rw [Option.map_eq_some_iff] at hev
      obtain ⟨av, h1, h2⟩ := hev
      have hr := froz_ok hb (evA_ok hf h1)
      rw [h2] at hr
      simp only [RdA] at hr
      split at h
      · rename_i e' τ xs hxs
        cases h
        obtain ⟨blk, c, vals, hg, _⟩ := hb.ok b _ _ hr hxs
        exact ⟨.int .i64 (xs.length : Int), by simp [Builtin.len_, run_underlying (E.elok t e τ' hel).under, hg, goInt], by simp [RdA, ElR]⟩
      · cases h
    · rename_i p b k i n hel hev
      obtain ⟨e, τ'⟩ := p
      cases h
      rw [Option.map_eq_some_iff] at hev
      obtain ⟨av, h1, h2⟩ := hev
      have hr := froz_ok hb (evA_ok hf h1)
      rw [h2] at hr
      simp only [RdA] at hr
      obtain ⟨blk, m, c, ad, c2, _, hv, _⟩ := hr
      exact ⟨.int .i64 (n : Int), by simp [Builtin.len_, run_underlying (E.elok t e τ' hel).under, hv, goInt], by simp [RdA, ElR]⟩
    · rename_i s hel hev
      split at h
      · rename_i hstr
        cases h
        rw [Option.map_eq_some_iff] at hev
        obtain ⟨av, h1, h2⟩ := hev
        have hr := froz_ok hb (evA_ok hf h1)
        rw [h2] at hr
        simp only [RdA, ElR, List.cons.injEq, and_true] at hr
        exact ⟨.int .i64 (s.length : Int), by simp [Builtin.len_, run_underlying (E.strok t hstr), hr, goInt, ByteArray_size_mk], by simp [RdA, ElR]⟩
      · cases h
    · cases h
  · cases h

/-- ALL TOGETHER. -/
theorem valOp_ok (hf : FrR fz β w N a ρ) (hb : BoxesOk fz β w H) {o : Oper} {x : AV} {ob : Prop}
    (h : valOp E ρ H o.op = some (x, ob)) (hob : ob) : ∃ v, (execOp a.eval o).run P w = .ok (.value v) w ∧ RdA fz β w x v := by
  obtain ⟨dst, op, ty, pos, after, guard⟩ := o
  simp only at h
  cases op with
  | move y =>
    have h := map_true (by simpa only [valOp] using h)
    exact ⟨_, rfl, evA_ok hf h⟩
  | assign y =>
    have h := map_true (by simpa only [valOp] using h)
    exact ⟨_, rfl, evA_ok hf h⟩
  | pick c y z =>
    simp only [valOp] at h
    split at h
    · rename_i t ht
      have hr := evA_ok hf ht
      simp only [RdA, ElR, List.cons.injEq, and_true] at hr
      split at h
      · rename_i hc; subst hc
        exact ⟨_, by simp [execOp, hr, asBool], evA_ok hf (map_true h)⟩
      · rename_i hc
        have hc' : t = false := by simpa using hc
        subst hc'
        exact ⟨_, by simp [execOp, hr, asBool], evA_ok hf (map_true h)⟩
    · cases h
  | load t y =>
    obtain ⟨v, h1, h2⟩ := val_load E hf hb h hob
    exact ⟨v, run_v h1, h2⟩
  | nilCheck y =>
    simp only [valOp] at h
    split at h
    · rename_i b o hy
      cases h
      have hr := evA_ok hf hy
      have hr' := hr
      simp only [RdA] at hr
      obtain ⟨blk, _, hv⟩ := hr
      exact ⟨a.eval y, by simp [execOp, hv], hr'⟩
    · rename_i f cs hy
      cases h
      have hr := evA_ok hf hy
      have hr' := hr
      simp only [RdA] at hr
      obtain ⟨vs, hv, _⟩ := hr
      exact ⟨a.eval y, by simp [execOp, hv], hr'⟩
    · cases h
  | binOp op t y z yt =>
    obtain ⟨v, h1, h2⟩ := val_bin E hf h hob
    exact ⟨v, run_v h1, h2⟩
  | unOp op t y =>
    simp only [valOp] at h
    split at h
    · rename_i b hy
      cases h
      have hr := evA_ok hf hy
      simp only [RdA, ElR, List.cons.injEq, and_true] at hr
      exact ⟨.bool (!b), by simp [execOp, hr, Op.unary], by simp [RdA, ElR]⟩
    · rename_i k n hy
      cases h
      have hr := evA_ok hf hy
      simp only [RdA, ElR, List.cons.injEq, and_true] at hr
      exact ⟨.int k (k.wrap (0 - n)), by simp [execOp, hr, Op.unary, Op.intArith], by simp [RdA, ElR]⟩
    · cases h
  | convert s d y =>
    simp only [valOp] at h
    split at h
    · rename_i k0 k k1 n hs hd hy
      cases h
      have hr := evA_ok hf hy
      simp only [RdA, ElR, List.cons.injEq, and_true] at hr
      have hu := E.ikok d k hd
      have hu0 := E.ikok s k0 hs
      refine ⟨.int k (k.wrap n), ?_, by simp [RdA, ElR]⟩
      simp [execOp, hr, convert, run_underlying hu, run_underlying hu0, Conv.intToInt]
    · cases h
  | slice t y lo hi mx =>
    cases mx with
    | none =>
      obtain ⟨v, h1, h2⟩ := val_slice E hf hb h hob
      exact ⟨v, run_v h1, h2⟩
    | some m => simp [valOp] at h
  | fieldAddr t y f =>
    obtain ⟨v, h1, h2⟩ := val_fieldAddr E hf h
    exact ⟨v, run_v h1, h2⟩
  | field t y f =>
    obtain ⟨v, h1, h2⟩ := val_field E hf h
    exact ⟨v, run_v h1, h2⟩
  | indexAddr t y i =>
    obtain ⟨v, h1, h2⟩ := val_indexAddr E hf hb h hob
    exact ⟨v, run_v h1, h2⟩
  | index t y i =>
    obtain ⟨v, h1, h2⟩ := val_index E hf h hob
    exact ⟨v, run_v h1, h2⟩
  | extract y i =>
    simp only [valOp] at h
    split at h
    · rename_i xs hy
      have h := map_true h
      have hr := evA_ok hf hy
      simp only [RdA] at hr
      obtain ⟨vs, hv, hl⟩ := hr
      obtain ⟨v, hv1, hv2⟩ := hl.get i x h
      exact ⟨v, by simp [execOp, hv, Instr.extract, hv1], hv2⟩
    · cases h
  | makeFunc fn first caps =>
    cases fn with
    | func f =>
      simp only [valOp] at h
      split at h
      · rename_i hfst
        split at h
        · rename_i l hl
          rw [Option.map_eq_some_iff] at h
          obtain ⟨c, hc, he⟩ := h
          cases he
          have hrl := evL_ok hf hl
          have hcr := capsOf_ok hc hrl
          have hf0 : first = #[] := by
            have : first.toList = [] := List.eq_nil_of_length_eq_zero hfst
            exact Array.toList_inj.1 this
          subst hf0
          refine ⟨.func (.func f) #[] (caps.map a.eval), by simp [execOp, Instr.makeFunc], ?_⟩
          simp only [RdA]
          refine ⟨_, ?_, hcr⟩
          congr 1
          apply Array.ext'
          simp
        · cases h
      · cases h
    | _ => simp [valOp] at h
  | build t parts =>
    obtain ⟨v, h1, h2⟩ := val_build E hf hb h
    exact ⟨v, run_v h1, h2⟩
  | call c =>
    obtain ⟨callee, as, ts⟩ := c
    cases callee with
    | builtin b =>
      cases b with
      | len =>
        obtain ⟨v, h1, h2⟩ := val_len E (rt := ty) hf hb h
        exact ⟨v, by simp [execOp, resolve, invoke, builtin, h1], h2⟩
      | min =>
        simp only [valOp] at h
        split at h
        · rename_i y z hyz
          have has : as = #[y, z] := Array.toList_inj.1 hyz
          subst has
          split at h
          · rename_i k p k' q hy hz
            split at h
            · rename_i hk
              subst hk
              cases h
              have hr := evA_ok hf hy
              have hs := evA_ok hf hz
              simp only [RdA, ElR, List.cons.injEq, and_true] at hr hs
              exact ⟨.int k (if q < p then q else p), by simp [execOp, resolve, invoke, builtin, Builtin.min_, Builtin.min2, hr, hs], by simp [RdA, ElR]⟩
            · cases h
          · cases h
        · cases h
      | _ => simp [valOp] at h
    | _ => simp [valOp] at h
  | _ => simp [valOp] at h

end Go.Proofs.YtgapiecbinplfaaGreat
/- What operations that write do to the boxes: the steps of the relation. -/
namespace Go.Proofs.YtgapiecbinplfaaGreat
open Go.RowKit

variable {P : Program} {fz fz' : Fz} {β β' : List Value} {w w' : World} {m0 N : Nat} {a : Act} {ρ : Fr} {H : List Box} {S : Start}

/-- The block of a live box lies in the heap. -/
theorem BoxOk.lt {g : Value} {x : Box} (h : BoxOk fz β w g x) (hl : x.live = true) {k : Nat} (hk : blkOf g = some k) : k < w.heap.size := by
  cases x with
  | cells cs =>
    obtain ⟨blk, vs, e, rfl, hh, _⟩ := h
    cases hk
    exact (Array.getElem?_eq_some_iff.1 hh).1
  | orow e t xs =>
    obtain ⟨vals, ho, _, _⟩ := h
    rcases ho.2 with ⟨rfl, _⟩ | ⟨b, cap, cur, rfl, _, hh, _⟩
    · cases hk
    · cases hk; exact (Array.getElem?_eq_some_iff.1 hh).1
  | mrow e t xs =>
    obtain ⟨blk, c, vals, rfl, _, _, hh, _⟩ := h
    cases hk
    exact (Array.getElem?_eq_some_iff.1 hh).1
  | dead => cases hl

/-- A box whose block is not touched stands as before. -/
theorem BoxOk.keep {g : Value} {x : Box} (h : BoxOk fz β w g x) (hbl : ∀ k, blkOf g = some k → w'.heap[k]? = w.heap[k]?) (hl : Later fz w fz' w')
    (hnew : ∀ k o, blkOf g = some k → fz' k o → fz k o) : BoxOk fz' β w' g x := by
  cases x with
  | cells cs =>
    obtain ⟨blk, vs, e, rfl, hh, hr, hz⟩ := h
    exact ⟨blk, vs, e, rfl, by rw [hbl blk rfl]; exact hh, hr.mono hl, fun o ho => hz o (hnew blk o rfl ho)⟩
  | orow e t xs =>
    obtain ⟨vals, ho, he, hf⟩ := h
    refine ⟨vals, ⟨ho.1, ?_⟩, ElsR.mono hl _ _ he, fun blk hb o => ⟨fun hz => (hf blk hb o).1 (hnew blk o hb hz), fun hz => (hl _ _ ((hf blk hb o).2 hz)).1⟩⟩
    rcases ho.2 with h | ⟨b, cap, cur, rfl, hb, hh, r⟩
    · exact .inl h
    · exact .inr ⟨b, cap, cur, rfl, hb, by rw [hbl b rfl]; exact hh, r⟩
  | mrow e t xs =>
    obtain ⟨blk, c, vals, rfl, h1, h2, hh, ⟨rest, front, h3, h4⟩, hz⟩ := h
    exact ⟨blk, c, vals, rfl, h1, h2, by rw [hbl blk rfl]; exact hh, ⟨rest, front, h3, ElsR.mono hl _ _ h4⟩, fun o ho => hz o (hnew blk o rfl ho)⟩
  | dead => trivial

theorem BoxOk.ext {g : Value} {x : Box} (h : BoxOk fz β w g x) (he : Ext β β') : BoxOk fz β' w g x := by
  cases x with
  | cells cs =>
    obtain ⟨blk, vs, e, rfl, hh, hr, hz⟩ := h
    exact ⟨blk, vs, e, rfl, hh, RdL.ext he _ _ hr, hz⟩
  | orow e t xs => exact h
  | mrow e t xs => exact h
  | dead => trivial

/-- The block of box b. -/
def OwnAt (β : List Value) (b : Nat) (k : Nat) : Prop := ∃ g, β[b]? = some g ∧ blkOf g = some k

/-- One box is written. -/
theorem BoxesOk.touch (hb : BoxesOk fz β w H) (b : Nat) (x' : Box)
    (hsame : ∀ k, k < w.heap.size → ¬ OwnAt β b k → w'.heap[k]? = w.heap[k]?) (hl : Later fz w fz' w')
    (hnew : ∀ k o, fz' k o → fz k o ∨ w.heap.size ≤ k ∨ OwnAt β b k)
    (hok : ∀ g, β[b]? = some g → BoxOk fz' β w' g x') (hold : ∃ x, H[b]? = some x ∧ x.live = true) : BoxesOk fz' β w' (H.set b x') := by
  obtain ⟨x, hx, hxl⟩ := hold
  have hbl : b < H.length := (List.getElem?_eq_some_iff.1 hx).1
  refine ⟨by simpa using hb.len, hb.one, fun i g y hg hy => ?_, fun i j gi gj xi xj hij hgi hgj hxi hxj li lj => ?_⟩
  · rw [List.getElem?_set] at hy
    split at hy
    · rename_i hbi
      subst hbi
      first | (rw [if_pos hbl] at hy; cases hy; exact hok g hg) | (cases hy; exact hok g hg)
    · rename_i hbi
      by_cases hly : y.live = true
      · have hy0 := hb.ok i g y hg hy
        have hnot : ∀ k, blkOf g = some k → ¬ OwnAt β b k := fun k hk ⟨g', hg', hk'⟩ =>
          hb.apart i b g g' y x (Ne.symm hbi) hg hg' hy hx hly hxl k hk hk'
        have hlt := fun k hk => hy0.lt hly (k := k) hk
        exact hy0.keep (fun k hk => hsame k (hlt k hk) (hnot k hk)) hl (fun k o hk hz => by
          rcases hnew k o hz with h | h | h
          · exact h
          · have := hlt k hk; omega
          · exact absurd h (hnot k hk))
      · cases y with
        | dead => trivial
        | _ => simp [Box.live] at hly
  · have conv : ∀ (i : Nat) (y : Box), (H.set b x')[i]? = some y → y.live = true → ∃ z : Box, H[i]? = some z ∧ z.live = true := by
      intro i y hy hl
      rw [List.getElem?_set] at hy
      split at hy
      · rename_i hbi; subst hbi; exact ⟨x, hx, hxl⟩
      · exact ⟨y, hy, hl⟩
    obtain ⟨zi, hzi, lzi⟩ := conv i xi hxi li
    obtain ⟨zj, hzj, lzj⟩ := conv j xj hxj lj
    exact hb.apart i j gi gj zi zj hij hgi hgj hzi hzj lzi lzj

/-- A new box behind. -/
theorem BoxesOk.snoc (hb : BoxesOk fz β w H) (g : Value) (x : Box) (hone : g.oneCell' = true)
    (hsame : ∀ k, k < w.heap.size → w'.heap[k]? = w.heap[k]?) (hl : Later fz w fz' w')
    (hnew : ∀ k o, fz' k o → fz k o ∨ w.heap.size ≤ k) (hok : BoxOk fz' (β ++ [g]) w' g x) (hg : ∀ k, blkOf g = some k → w.heap.size ≤ k) :
    BoxesOk fz' (β ++ [g]) w' (H ++ [x]) := by
  have hlen := hb.len
  have old : ∀ (i : Nat) (g' : Value) (y : Box), (β ++ [g])[i]? = some g' → (H ++ [x])[i]? = some y → (β[i]? = some g' ∧ H[i]? = some y) ∨ (i = β.length ∧ g' = g ∧ y = x) := by
    intro i g' y h1 h2
    by_cases hi : i < β.length
    · rw [List.getElem?_append_left hi] at h1
      rw [List.getElem?_append_left (by omega)] at h2
      exact .inl ⟨h1, h2⟩
    · rw [List.getElem?_append_right (by omega)] at h1 h2
      have : i - β.length = 0 := by
        have := (List.getElem?_eq_some_iff.1 h1).1
        simp at this; omega
      have h2' : i - H.length = 0 := by omega
      rw [this] at h1; rw [h2'] at h2
      simp at h1 h2
      exact .inr ⟨by omega, h1.symm, h2.symm⟩
  refine ⟨by simp [hlen], fun i g' hi => ?_, fun i g' y h1 h2 => ?_, fun i j gi gj xi xj hij h1 h2 h3 h4 li lj k hk hk' => ?_⟩
  · by_cases h : i < β.length
    · rw [List.getElem?_append_left h] at hi; exact hb.one i g' hi
    · rw [List.getElem?_append_right (by omega)] at hi
      have := List.mem_of_getElem? hi
      simp at this; subst this; exact hone
  · rcases old i g' y h1 h2 with ⟨h1, h2⟩ | ⟨_, rfl, rfl⟩
    · by_cases hly : y.live = true
      · have hy0 := hb.ok i g' y h1 h2
        have hlt := fun k hk => hy0.lt hly (k := k) hk
        exact (hy0.keep (fun k hk => hsame k (hlt k hk)) hl (fun k o hk hz => by
          rcases hnew k o hz with h | h
          · exact h
          · have := hlt k hk; omega)).ext (Ext.snoc _ _)
      · cases y with
        | dead => trivial
        | _ => simp [Box.live] at hly
    · exact hok
  · rcases old i gi xi h1 h3 with ⟨a1, a2⟩ | ⟨e1, rfl, rfl⟩ <;> rcases old j gj xj h2 h4 with ⟨b1, b2⟩ | ⟨e2, rfl, rfl⟩
    · exact hb.apart i j gi gj xi xj hij a1 b1 a2 b2 li lj k hk hk'
    · have h5 := (hb.ok i gi xi a1 a2).lt li hk
      have h6 := hg k hk'
      omega
    · have h5 := (hb.ok j gj xj b1 b2).lt lj hk'
      have h6 := hg k hk
      omega
    · omega

theorem Pre.snoc (h : Pre S m0 β H) (hl : β.length = H.length) (g : Value) (x : Box) : Pre S m0 (β ++ [g]) (H ++ [x]) := by
  have hle := h.le
  refine ⟨h.len, by simp; omega, fun i hi => ?_, fun i y hi hy => ?_⟩
  · rw [List.getElem?_append_left (by omega)]; exact h.same i hi
  · rw [List.getElem?_append_left (by omega)] at hy; exact h.noO i y hi hy
theorem Pre.set (h : Pre S m0 β H) (b : Nat) (x : Box) (hx : x.isO = false) : Pre S m0 β (H.set b x) := by
  refine ⟨h.len, by simpa using h.le, h.same, fun i y hi hy => ?_⟩
  rw [List.getElem?_set] at hy
  split at hy
  · rename_i hb
    subst hb
    first | (split at hy <;> cases hy; exact hx) | (cases hy; exact hx)
  · exact h.noO i y hi hy

theorem FrR.later (hf : FrR fz β w N a ρ) (hl : Later fz w fz' w') : FrR fz' β w' N a ρ := ⟨hf.1, hf.2.1, fun t x h => ⟨(hf.2.2 t x h).1, (hf.2.2 t x h).2.mono hl⟩⟩
theorem FrR.ext (hf : FrR fz β w N a ρ) (he : Ext β β') : FrR fz β' w N a ρ := ⟨hf.1, hf.2.1, fun t x h => ⟨(hf.2.2 t x h).1, RdA.ext he _ _ (hf.2.2 t x h).2⟩⟩
theorem FrR.sub {ρ' : Fr} (hf : FrR fz β w N a ρ) (hs : ∀ p, p ∈ ρ' → p ∈ ρ) : FrR fz β w N a ρ' := ⟨hf.1, hf.2.1, fun t x h => hf.2.2 t x (hs _ h)⟩

/-- What an operation has put in a slot. -/
theorem FrR.put (hf : FrR fz β w N a ρ) {d : Nat} {x : AV} {v : Value} (hd : d < N) (hx : RdA fz β w x v) : FrR fz β w N (a.put (some d) v) ((d, x) :: del ρ d) := by
  refine ⟨hf.1, by simp [Act.put, hf.2.1], fun t y h => ?_⟩
  rcases List.mem_cons.1 h with h | h
  · cases h
    refine ⟨hd, ?_⟩
    simp only [Act.put, Array.getD_eq_getD_getElem?, Array.getElem?_setIfInBounds, hf.2.1]
    simp [hd, hx]
  · obtain ⟨h1, h2⟩ := del_mem h
    obtain ⟨h3, h4⟩ := hf.2.2 t y h1
    refine ⟨h3, ?_⟩
    simp only [Act.put, Array.getD_eq_getD_getElem?, Array.getElem?_setIfInBounds] at *
    rw [if_neg (Ne.symm h2)]
    exact h4
theorem FrR.drop (hf : FrR fz β w N a ρ) {d : Nat} {v : Value} : FrR fz β w N (a.put (some d) v) (del ρ d) := by
  refine ⟨hf.1, by simp [Act.put, hf.2.1], fun t y h => ?_⟩
  obtain ⟨h1, h2⟩ := del_mem h
  obtain ⟨h3, h4⟩ := hf.2.2 t y h1
  refine ⟨h3, ?_⟩
  simp only [Act.put, Array.getD_eq_getD_getElem?, Array.getElem?_setIfInBounds] at *
  rw [if_neg (Ne.symm h2)]
  exact h4

theorem Anc.step (h : Anc S fz w) (h1 : w'.os = w.os) (h2 : w'.tape = w.tape) (h3 : w'.output = w.output) (hd : w.drawn ≤ w'.drawn) (h4 : w.heap.size ≤ w'.heap.size)
    (h5 : ∀ k, k < S.w.heap.size → ¬ S.own k → w'.heap[k]? = w.heap[k]?) (h6 : Later fz w fz' w') (h7 : ∀ b o, fz' b o → fz b o ∨ S.w.heap.size ≤ b ∨ S.own b) : Anc S fz' w' :=
  ⟨h1.trans h.os, h2.trans h.tape, h3.trans h.output, Nat.le_trans h.drawn hd, Nat.le_trans h.size h4, fun k hk ho => (h5 k hk ho).trans (h.block k hk ho), h.later.trans h6,
    fun b o hf => by rcases h7 b o hf with h | h | h
                     · exact ‹Anc S fz w›.news b o h
                     · exact .inr (.inl h)
                     · exact .inr (.inr h)⟩

/-- A new box, in a new block. -/
theorem Rel.newBox (h : Rel S m0 N fz β w a ρ H) (o : Obj) (g : Value) (x : Box) (hone : g.oneCell' = true) (hnew : ∀ k o, fz' k o → fz k o ∨ k = w.heap.size)
    (hl : ∀ k o, fz k o → fz' k o) (hok : BoxOk fz' (β ++ [g]) (w.alloc o) g x) (hg : ∀ k, blkOf g = some k → k = w.heap.size) :
    Rel S m0 N fz' (β ++ [g]) (w.alloc o) a ρ (H ++ [x]) := by
  have hlater : Later fz w fz' (w.alloc o) := fun b k hf => ⟨hl b k hf, World.cell?_of_block (w := w) (Below.heap_alloc w o b (h.fzok b k hf))⟩
  have hsz : (w.alloc o).heap.size = w.heap.size + 1 := by simp
  refine ⟨(h.fr.later hlater).ext (Ext.snoc _ _), h.bx.snoc g x hone (fun k hk => Below.heap_alloc w o k hk) hlater (fun k o hf => ?_) hok (fun k hk => by rw [hg k hk]; exact Nat.le_refl _),
    fun i g' y h1 h2 hl' k hk => ?_, h.anc.step rfl rfl rfl (Nat.le_refl _) (by omega) (fun k hk _ => Below.heap_alloc w o k (by have := h.anc.size; omega)) hlater (fun b k hf => ?_), fun b k hf => ?_, h.pre.snoc h.bx.len g x⟩
  · rcases hnew k o hf with h | h
    · exact .inl h
    · exact .inr (by omega)
  · have hlen := h.bx.len
    by_cases hi : i < β.length
    · rw [List.getElem?_append_left hi] at h1
      rw [List.getElem?_append_left (by omega)] at h2
      exact h.mine i g' y h1 h2 hl' k hk
    · rw [List.getElem?_append_right (by omega)] at h1
      have := List.mem_of_getElem? h1
      simp at this; subst this
      rw [hg k hk]; exact .inl h.anc.size
  · rcases hnew b k hf with h' | h'
    · exact .inl h'
    · have := h.anc.size; exact .inr (.inl (by omega))
  · rcases hnew b k hf with h' | h'
    · have := h.fzok b k h'; omega
    · omega

/-- New frozen cells, in a new block. -/
theorem Rel.newFz (h : Rel S m0 N fz β w a ρ H) (o : Obj) (hnew : ∀ k o, fz' k o → fz k o ∨ k = w.heap.size) (hl : ∀ k o, fz k o → fz' k o) :
    Rel S m0 N fz' β (w.alloc o) a ρ H := by
  have hlater : Later fz w fz' (w.alloc o) := fun b k hf => ⟨hl b k hf, World.cell?_of_block (w := w) (Below.heap_alloc w o b (h.fzok b k hf))⟩
  have hsz : (w.alloc o).heap.size = w.heap.size + 1 := by simp
  refine ⟨h.fr.later hlater, ⟨h.bx.len, h.bx.one, fun i g y h1 h2 => ?_, h.bx.apart⟩, h.mine, h.anc.step rfl rfl rfl (Nat.le_refl _) (by omega) (fun k hk _ => Below.heap_alloc w o k (by have := h.anc.size; omega)) hlater (fun b k hf => ?_), fun b k hf => ?_, h.pre⟩
  · by_cases hly : y.live = true
    · have hy0 := h.bx.ok i g y h1 h2
      have hlt := fun k hk => hy0.lt hly (k := k) hk
      exact hy0.keep (fun k hk => Below.heap_alloc w o k (hlt k hk)) hlater (fun k o hk hz => by
          rcases hnew k o hz with h | h
          · exact h
          · have := hlt k hk; omega)
    · cases y with
      | dead => trivial
      | _ => simp [Box.live] at hly
  · rcases hnew b k hf with h' | h'
    · exact .inl h'
    · have := h.anc.size; exact .inr (.inl (by omega))
  · rcases hnew b k hf with h' | h'
    · have := h.fzok b k h'; omega
    · omega

/-- A draw. -/
theorem Rel.drew (h : Rel S m0 N fz β w a ρ H) : Rel S m0 N fz β w.drew a ρ H := by
  have hl : Later fz w fz w.drew := fun b o hf => ⟨hf, rfl⟩
  refine ⟨h.fr.later hl, ⟨h.bx.len, h.bx.one, fun i g y h1 h2 => (h.bx.ok i g y h1 h2).keep (fun _ _ => rfl) hl (fun _ _ _ h => h), h.bx.apart⟩, h.mine, h.anc.step rfl rfl rfl (Nat.le_succ _) (Nat.le_refl _) (fun _ _ _ => rfl) hl (fun b o hf => .inl hf), h.fzok, h.pre⟩

/-- A row of cells is written: that of box b. -/
theorem Rel.write (h : Rel S m0 N fz β w a ρ H) (b : Nat) (x x' : Box) (g : Value) (blk : Nat) (cs : Array Value) (hx : H[b]? = some x) (hxl : x.live = true) (hg : β[b]? = some g) (hk : blkOf g = some blk)
    (hz : ∀ o, ¬ fz blk o) (hO : x'.isO = false) (hok : Later fz w fz (w.setRow blk cs) → BoxOk fz β (w.setRow blk cs) g x') : Rel S m0 N fz β (w.setRow blk cs) a ρ (H.set b x') := by
  have hl : Later fz w fz (w.setRow blk cs) := fun b' o hf => ⟨hf, cell_setRow_other w blk cs _ (fun e => hz o (by rw [← e]; exact hf))⟩
  have hown : ∀ k, ¬ OwnAt β b k → k ≠ blk := fun k hn e => hn ⟨g, hg, by rw [e]; exact hk⟩
  refine ⟨h.fr.later hl, h.bx.touch b x' (fun k _ hn => setRow_other w blk k cs (hown k hn)) hl (fun k o hf => .inl hf) (fun g' hg' => ?_) ⟨x, hx, hxl⟩,
    fun i g' y h1 h2 hl' k hk' => ?_, h.anc.step rfl rfl rfl (Nat.le_refl _) (by simp) (fun k hk' hn => setRow_other w blk k cs ?_) hl (fun b o hf => .inl hf), fun b' o hf => by simpa using h.fzok b' o hf, h.pre.set b x' hO⟩
  · rw [hg] at hg'; cases hg'; exact hok hl
  · rw [List.getElem?_set] at h2
    split at h2
    · rename_i hbi; subst hbi
      exact h.mine b g' x h1 hx hxl k hk'
    · exact h.mine i g' y h1 h2 hl' k hk'
  · intro e
    rcases h.mine b g x hg hx hxl blk hk with h' | h'
    · omega
    · rw [e] at hn; exact hn h'

end Go.Proofs.YtgapiecbinplfaaGreat
/- Appending to a row of the call's own. -/
namespace Go.Proofs.YtgapiecbinplfaaGreat
open Go.RowKit

variable {P : Program} {fz fz' : Fz} {β β' : List Value} {w w' : World} {m0 N : Nat} {a : Act} {ρ : Fr} {H : List Box} {S : Start}

theorem RdSl_one {α : Type} {k : Nat} {R : α → List Value → Prop} {v : Value} {xs : List α} (h : RdSl fz w k R v xs) : v.oneCell' = true := by
  obtain ⟨a, c, rfl, _⟩ := h; rfl

theorem ElR_one : ∀ {t : Ty} {x : t.den} {cs : List Value}, ElR fz w t x cs → ∀ v ∈ cs, v.oneCell' = true := by
  intro t x cs h v hv
  cases t with
  | int k => cases h; simp at hv; subst hv; rfl
  | bool => cases h; simp at hv; subst hv; rfl
  | str => cases h; simp at hv; subst hv; rfl
  | cell => cases h; simp [cellVals] at hv; rcases hv with rfl | rfl | rfl <;> rfl
  | rule =>
    obtain ⟨p, q, rfl, h1, h2⟩ := h
    simp at hv; rcases hv with rfl | rfl | rfl
    · rfl
    · exact RdSl_one h1
    · exact RdSl_one h2
  | inst =>
    obtain ⟨r, p, q, rfl, h0, h1, h2⟩ := h
    simp at hv; rcases hv with rfl | rfl | rfl
    · exact RdSl_one h0
    · exact RdSl_one h1
    · exact RdSl_one h2
  | table =>
    obtain ⟨p, q, rfl, h1, h2⟩ := h
    simp at hv; rcases hv with rfl | rfl
    · exact RdSl_one h1
    · exact RdSl_one h2
  | bind =>
    obtain ⟨p, rfl, h1⟩ := h
    simp at hv; rcases hv with rfl | rfl
    · rfl
    · exact RdSl_one h1
  | sl t =>
    obtain ⟨u, rfl, h1⟩ := h
    simp at hv; subst hv; exact RdSl_one h1

theorem ElsR_one {t : Ty} : ∀ {xs : List t.den} {vs : List Value}, ElsR fz w t xs vs → ∀ v ∈ vs, v.oneCell' = true
  | [], _, h, v, hv => by cases h; cases hv
  | _ :: xs, _, ⟨cs, r, h1, h2, h3⟩, v, hv => by
    subst h1
    rcases List.mem_append.1 hv with hv | hv
    · exact ElR_one h2 v hv
    · exact ElsR_one h3 v hv

/-- All the cells of a slice's elements, in one row. -/
theorem els_of {τ : Ty} {b : Nat} : ∀ (xs : List τ.den) (o : Nat), (∀ i (h : i < xs.length), ∃ cs : List Value, cs.length = τ.size ∧
      (∀ j (hj : j < cs.length), fz b (o + i * τ.size + j) ∧ w.cell? ⟨b, o + i * τ.size + j, none⟩ = some cs[j]) ∧ ElR fz w τ xs[i] cs) →
    ∃ news, ElsR fz w τ xs news ∧ ∀ (j : Nat) (u : Value), news[j]? = some u → w.cell? ⟨b, o + j, none⟩ = some u
  | [], o, _ => ⟨[], rfl, fun j u h => by simp at h⟩
  | x :: xs, o, h => by
    obtain ⟨cs, hk, hj, hx⟩ := h 0 (by simp)
    obtain ⟨news, h1, h2⟩ := els_of xs (o + τ.size) (fun i hi => by
      obtain ⟨cs, a1, a2, a3⟩ := h (i + 1) (by simpa using hi)
      exact ⟨cs, a1, fun j hjl => by have := a2 j hjl; rwa [show o + (i + 1) * τ.size + j = o + τ.size + i * τ.size + j by rw [Nat.add_mul]; omega] at this, a3⟩)
    refine ⟨cs ++ news, ⟨cs, news, rfl, hx, h1⟩, fun j u hu => ?_⟩
    by_cases hjl : j < cs.length
    · rw [List.getElem?_append_left hjl] at hu
      have := (hj j hjl).2
      simp only [Nat.zero_mul, Nat.add_zero] at this
      rw [this, ← hu, List.getElem?_eq_getElem hjl]
    · rw [List.getElem?_append_right (by omega)] at hu
      have := h2 _ _ hu
      rwa [show o + τ.size + (j - cs.length) = o + j by omega] at this

theorem RdSl_news {τ : Ty} {v : Value} {xs : List τ.den} (h : RdSl fz w τ.size (ElR fz w τ) v xs) :
    ∃ news, ElsR fz w τ xs news ∧ ((xs = [] ∧ ∃ ad c, v = .slice ad 0 c) ∨ ∃ b o c, v = .slice (some ⟨b, o, none⟩) xs.length c ∧ ∀ (j : Nat) (u : Value), news[j]? = some u → w.cell? ((⟨b, o, none⟩ : Addr).add j) = some u) := by
  obtain ⟨ad, c, hv, h1, h2, h3⟩ := h
  by_cases hne : xs = []
  · subst hne
    exact ⟨[], rfl, .inl ⟨rfl, ad, c, hv⟩⟩
  · obtain ⟨b, o, rfl, hc⟩ := h3 hne
    obtain ⟨news, h4, h5⟩ := els_of xs o hc
    exact ⟨news, h4, .inr ⟨b, o, c, hv, fun j u hu => by rw [addr_add]; exact h5 j u hu⟩⟩

theorem run_append_empty (w : World) (t ty e : TypeId) (i : TypeInfo) (ht : P.underlying t = some (.slice e)) (hi : P.info? e = some i) (s ad : Option Addr) (n cap c : Nat) (hc : n ≤ cap) :
    (Builtin.append_ #[t, t] ty #[.slice s n cap, .slice ad 0 c]).run P w = .ok (.slice s n cap) w := by
  have hf : (Builtin.firstCells i.size 0 (.slice ad 0 c)).run P w = .ok #[] w := by
    cases ad <;> simp [Builtin.firstCells, loadCells, loadCellsFrom]
  cases s <;> simp [Builtin.append_, run_underlying ht, sizeOf, typeInfo, hi, Builtin.lenOf, hc, hf, storeCells]

/-- What an append to a row of the call's own comes to: three ways. -/
theorem append_run {t e : TypeId} {τ τ' : Ty} (heo : ElOk P t e τ') (hsz : τ.size = τ'.size) {v : Value} {n : Nat} {vals : List Value} (ho : w.ownsRow 0 e τ.size v n vals)
    {ys : List τ.den} {xv : Value} (hx : RdSl fz w τ.size (ElR fz w τ) xv ys) (hbig : n + ys.length ≤ big) (ty : TypeId) :
    ∃ v' w' news, (Builtin.append_ #[t, t] ty #[v, xv]).run P w = .ok v' w' ∧ ElsR fz w τ ys news ∧ w'.ownsRow 0 e τ.size v' (n + ys.length) (vals ++ news) ∧
      ((w' = w ∧ v' = v ∧ ys = []) ∨ (∃ o, w' = w.drew.alloc o ∧ blkOf v' = some w.heap.size) ∨
       ∃ blk cs, blkOf v = some blk ∧ blkOf v' = some blk ∧ w' = w.setRow blk cs ∧ ∀ j, j < vals.length → (w.setRow blk cs).cell? ⟨blk, j, none⟩ = w.cell? ⟨blk, j, none⟩) := by
  obtain ⟨i, z, hi1, hi2, hi3, hi4, hi5, hi6⟩ := heo.info
  obtain ⟨news, hn, hx⟩ := RdSl_news hx
  have hnl := hn.length
  rw [hsz, ← hi3] at hnl
  have hone := ElsR_one hn
  have hbytes : (n + ys.length) * i.bytes ≤ 140737488355328 := by
    have : (n + ys.length) * i.bytes ≤ big * 128 := Nat.mul_le_mul hbig hi4
    simpa [big] using this
  have hml : n + ys.length ≤ maxLen := by simp [big, maxLen] at hbig ⊢; omega
  have h63 : ((n + ys.length : Nat) : Int) ≤ 9223372036854775807 := by simp [maxLen] at hml; omega
  have hzs : z.cells.size = i.size := by
    have := (hi6 (fun _ _ => False) w).length
    rw [Array.length_toList] at this
    omega
  have hsl : (vals ++ news).length = (n + ys.length) * τ.size := by rw [List.length_append, ho.1, hn.length, Nat.add_mul]
  rcases hx with ⟨hy, ad, c, rfl⟩ | ⟨b, o, c, rfl, hcells⟩
  · subst hy
    have hn0 : news = [] := List.eq_nil_of_length_eq_zero (by simpa using hnl)
    subst hn0
    refine ⟨v, w, [], ?_, hn, by simpa using ho, .inl ⟨rfl, rfl, rfl⟩⟩
    rcases ho.2 with ⟨rfl, rfl⟩ | ⟨g, cap, cur, rfl, _, _, hc, _⟩
    · exact run_append_empty w t ty e i heo.under hi1 none ad 0 0 c (Nat.le_refl _)
    · exact run_append_empty w t ty e i heo.under hi1 (some ⟨g, 0, none⟩) ad n cap c hc
  · have own : ∀ (old : Nat), old < n + ys.length →
        (w.drew.alloc (.cells (vals.toArray ++ news.toArray ++ Builtin.zeroCells z.cells (grownCap w (n + ys.length) old e - (n + ys.length))) e)).ownsRow 0 e τ.size
          (.slice (some ⟨w.heap.size, 0, none⟩) (n + ys.length) (grownCap w (n + ys.length) old e)) (n + ys.length) (vals ++ news) := by
      intro old hold
      have hge := grownCap_ge w (n + ys.length) old e
      have hcm := grownCap_le_maxLen w (n + ys.length) old e hml
      refine ⟨hsl, .inr ⟨w.heap.size, _, _, rfl, Nat.zero_le _, heap_alloc_new w.drew _, hge, hcm, ?_, ?_⟩⟩
      · simp only [Array.size_append, List.size_toArray, size_zeroCells, hzs, ho.1, hnl, hi3, hsz, ← Nat.add_mul]
        congr 1; omega
      · simp only [Array.toList_append, List.append_assoc]
        rw [← List.append_assoc, ← hsl]
        exact List.take_left
    rcases ho.2 with ⟨rfl, rfl⟩ | ⟨g, cap, cur, rfl, hg0, hgg, hc, hcm, hcs, htk⟩
    · have hv0 : vals = [] := List.eq_nil_of_length_eq_zero (by simpa using ho.1)
      subst hv0
      by_cases hy0 : ys.length = 0
      · have hy : ys = [] := List.eq_nil_of_length_eq_zero hy0
        subst hy
        have hn0 : news = [] := List.eq_nil_of_length_eq_zero (by simpa using hnl)
        subst hn0
        exact ⟨_, w, [], run_append_empty w t ty e i heo.under hi1 none _ 0 0 c (Nat.le_refl _), hn, by simpa using ho, .inl ⟨rfl, rfl, rfl⟩⟩
      · have hr := run_append_nil (P := P) w t ty e i z heo.under hi1 hi2 ⟨b, o, none⟩ ys.length c news hnl hcells (by omega) (by simpa using h63) (by simp only [Nat.zero_add] at hbytes; omega)
        have hw := own 0 (by omega)
        simp only [Nat.zero_add, List.nil_append, Array.empty_append] at hw ⊢
        exact ⟨_, _, news, hr, hn, hw, .inr (.inl ⟨_, rfl, rfl⟩)⟩
    · by_cases hroom : n + ys.length ≤ cap
      · have hfit : n * i.size + news.length ≤ cur.size := by rw [hnl, hcs, hsz, ← hi3, ← Nat.add_mul]; exact Nat.mul_le_mul_right _ hroom
        have hr := run_append_room (P := P) w t ty e i heo.under hi1 g n cap cur hgg ⟨b, o, none⟩ ys.length c news hnl hcells hone hroom hfit
        have hvl : vals.length = n * i.size := by rw [ho.1, hsz, hi3]
        have htk' : cur.toList.take (n * i.size) = vals := by rw [hi3, ← hsz]; exact htk
        refine ⟨_, _, news, hr, hn, ⟨hsl, .inr ⟨g, cap, _, rfl, Nat.zero_le _, setRow_heap w g cur _ e _ hgg, hroom, hcm, ?_, ?_⟩⟩, .inr (.inr ⟨g, _, rfl, rfl, rfl, fun j hj => ?_⟩)⟩
        · simp only [List.size_toArray, List.length_append, List.length_take, List.length_drop, Array.length_toList]
          rw [← hcs]; omega
        · rw [htk', ← hsl]
          exact List.take_left
        · rw [cell_setRow_same w g j cur _ e (0, 0) hgg, cell_of_row w g j cur e (0, 0) hgg, htk']
          rw [List.append_assoc]
          simp only [List.getElem?_toArray]
          rw [List.getElem?_append_left hj, ← htk', List.getElem?_take, if_pos (by omega)]
          simp
      · have holds : ∀ j u, vals[j]? = some u → w.cell? ((⟨g, 0, none⟩ : Addr).add j) = some u := ho.cells (g := g) rfl
        have hr := run_append_grow (P := P) w t ty e i z heo.under hi1 hi2 ⟨g, 0, none⟩ n cap vals (by rw [ho.1, hsz, hi3]) holds ⟨b, o, none⟩ ys.length c news hnl hcells (by omega) h63 (growslice_fits (by omega) hbytes)
        exact ⟨_, _, news, hr, hn, own cap (by omega), .inr (.inl ⟨_, rfl, rfl⟩)⟩

mutual
theorem snap_ok {b : Nat} {e : TypeId} {τ : Ty} {xs : List τ.den} {v0 : Value} (hv : β[b]? = some v0) (hr : RdSl fz w τ.size (ElR fz w τ) v0 xs) (hl : Later fz w fz' w')
    (hβ : ∀ (i : Nat) (g : Value), i ≠ b → β[i]? = some g → β'[i]? = some g) : ∀ (x : AV) (v : Value), RdA fz β w x v → RdA fz' β' w' (snap b τ xs x) v
  | .orow c, v, h => by
    simp only [RdA] at h
    simp only [snap]
    split
    · rename_i hc; subst hc
      rw [hv] at h; cases h
      simp only [RdA]
      exact ElR.mono hl (.sl τ) xs _ (elR_sl.2 hr)
    · rename_i hc; simp only [RdA]; exact hβ _ _ hc h
  | .mrow c, v, h => by
    simp only [RdA] at h
    simp only [snap]
    split
    · simp only [RdA]
    · rename_i hc; simp only [RdA]; exact hβ _ _ hc h
  | .mptr c k i o, v, h => by
    simp only [RdA] at h
    simp only [snap]
    split
    · simp only [RdA]
    · rename_i hc
      obtain ⟨blk, n, cc, h1, h2⟩ := h
      simp only [RdA]; exact ⟨blk, n, cc, hβ _ _ hc h1, h2⟩
  | .msl c k i n, v, h => by
    simp only [RdA] at h
    simp only [snap]
    split
    · simp only [RdA]
    · rename_i hc
      obtain ⟨blk, m, cc, ad, c2, h1, h2⟩ := h
      simp only [RdA]; exact ⟨blk, m, cc, ad, c2, hβ _ _ hc h1, h2⟩
  | .agg cs, v, h => by
    simp only [RdA] at h
    obtain ⟨vs, h1, h2⟩ := h
    simp only [snap, RdA]
    exact ⟨vs, h1, snapL_ok (e := e) hv hr hl hβ cs vs h2⟩
  | .tup cs, v, h => by
    simp only [RdA] at h
    obtain ⟨vs, h1, h2⟩ := h
    simp only [snap, RdA]
    exact ⟨vs, h1, snapL_ok (e := e) hv hr hl hβ cs vs h2⟩
  | .ptr c o, v, h => by
    simp only [RdA] at h
    obtain ⟨blk, h1, h2⟩ := h
    simp only [snap, RdA]
    refine ⟨blk, hβ _ _ (fun e => ?_) h1, h2⟩
    subst e
    unfold BAt at h1; rw [hv] at h1; cases h1
    obtain ⟨ad, c, hh, _⟩ := hr; cases hh
  | .fn f caps, v, h => by
    simp only [RdA] at h
    obtain ⟨vs, h1, h2⟩ := h
    simp only [snap, RdA]
    refine ⟨vs, h1, ?_⟩
    clear h1
    induction caps generalizing vs with
    | nil => exact h2
    | cons c cs ih =>
      obtain ⟨blk, r, e1, e2, e3⟩ := h2
      refine ⟨blk, r, e1, hβ _ _ (fun e => ?_) e2, ih _ e3⟩
      unfold BAt at e2; rw [e, hv] at e2; cases e2
      obtain ⟨ad, c, hh, _⟩ := hr; cases hh
  | .d t x, v, h => by simp only [snap]; exact h.mono hl |> fun h => by simpa only [RdA] using h
  | .eptr t x, v, h => by
    simp only [snap]
    have := RdA.mono hl _ _ h
    simpa only [RdA] using this
  | .nilsl, v, h => by simp only [RdA] at h; simp only [snap, RdA]; exact h
  | .nilfn, v, h => by simp only [RdA] at h; simp only [snap, RdA]; exact h
  | .top, v, h => by simp only [snap, RdA]
theorem snapL_ok {b : Nat} {e : TypeId} {τ : Ty} {xs : List τ.den} {v0 : Value} (hv : β[b]? = some v0) (hr : RdSl fz w τ.size (ElR fz w τ) v0 xs) (hl : Later fz w fz' w')
    (hβ : ∀ (i : Nat) (g : Value), i ≠ b → β[i]? = some g → β'[i]? = some g) : ∀ (cs : List AV) (vs : List Value), RdL fz β w cs vs → RdL fz' β' w' (snapL b τ xs cs) vs
  | [], vs, h => by simp only [RdL] at h; simp only [snapL, RdL]; exact h
  | c :: cs, vs, h => by
    simp only [RdL] at h
    obtain ⟨v, r, h1, h2, h3⟩ := h
    simp only [snapL, RdL]
    exact ⟨v, r, h1, snap_ok (e := e) hv hr hl hβ c v h2, snapL_ok (e := e) hv hr hl hβ cs r h3⟩
end

theorem snapF_mem {b : Nat} {τ : Ty} {xs : List τ.den} : ∀ {ρ : Fr} {t : Nat} {x : AV}, (t, x) ∈ snapF b τ xs ρ → ∃ y, (t, y) ∈ ρ ∧ x = snap b τ xs y
  | (k, y) :: r, t, x, h => by
    simp only [snapF] at h
    rcases List.mem_cons.1 h with h | h
    · cases h; exact ⟨y, List.mem_cons_self, rfl⟩
    · obtain ⟨z, h1, h2⟩ := snapF_mem h
      exact ⟨z, List.mem_cons_of_mem _ h1, h2⟩

theorem snapH_get {b : Nat} {τ : Ty} {xs : List τ.den} : ∀ {H : List Box} {i : Nat}, (snapH b τ xs H)[i]? = (H[i]?).map (Box.snap b τ xs)
  | [], i => by simp [snapH]
  | x :: r, 0 => by simp [snapH]
  | x :: r, i + 1 => by simp [snapH, snapH_get (H := r) (i := i)]

theorem snapH_length {b : Nat} {τ : Ty} {xs : List τ.den} : ∀ {H : List Box}, (snapH b τ xs H).length = H.length
  | [] => rfl
  | x :: r => by simp [snapH, snapH_length (H := r)]

theorem Box.snap_live {b : Nat} {τ : Ty} {xs : List τ.den} (x : Box) : (x.snap b τ xs).live = x.live := by cases x <;> rfl

end Go.Proofs.YtgapiecbinplfaaGreat
