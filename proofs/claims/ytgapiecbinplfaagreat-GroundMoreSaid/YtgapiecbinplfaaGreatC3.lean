/- Own framework, walks and plain laws behind the laws of this seat, part C3: lemmas, no statement of the seat. -/
import Derived.Test.YtgapiecbinplfaaGreatC2
set_option linter.all false
/- The relation behind an append; new boxes; stores. -/
namespace Go.Proofs.YtgapiecbinplfaaGreat
open Go.RowKit

variable {P : Program} {fz fz' : Fz} {β β' : List Value} {w w' : World} {m0 N : Nat} {a : Act} {ρ : Fr} {H : List Box} {S : Start}

/-- What is frozen when a row's first cells are. -/
def fzRow (fz : Fz) (v : Value) (n : Nat) : Fz := fun b o => fz b o ∨ (blkOf v = some b ∧ o < n)

theorem Rel.append {b : Nat} {e : TypeId} {τ : Ty} {xs ys : List τ.den} {v v' : Value} {vals news : List Value} (h : Rel S m0 N fz β w a ρ H) (hx : H[b]? = some (.orow e τ xs)) (hv : β[b]? = some v)
    (ho : w.ownsRow 0 e τ.size v xs.length vals) (he : ElsR fz w τ xs vals) (hf : ∀ blk, blkOf v = some blk → ∀ o, fz blk o ↔ o < vals.length)
    (hn : ElsR fz w τ ys news) (ho' : w'.ownsRow 0 e τ.size v' (xs.length + ys.length) (vals ++ news))
    (hw : (w' = w ∧ v' = v ∧ ys = []) ∨ (∃ o, w' = w.drew.alloc o ∧ blkOf v' = some w.heap.size) ∨
       ∃ blk cs, blkOf v = some blk ∧ blkOf v' = some blk ∧ w' = w.setRow blk cs ∧ ∀ j, j < vals.length → (w.setRow blk cs).cell? ⟨blk, j, none⟩ = w.cell? ⟨blk, j, none⟩) :
    ∃ fz', Rel S m0 N fz' (β.set b v') w' a (snapF b τ xs ρ) ((snapH b τ xs H).set b (.orow e τ (xs ++ ys))) ∧ (β.set b v')[b]? = some v' := by
  have hbH : b < H.length := (List.getElem?_eq_some_iff.1 hx).1
  have hbβ : b < β.length := by rw [h.bx.len]; exact hbH
  have hlive : (Box.orow e τ xs).live = true := rfl
  have hvlt : ∀ k, blkOf v = some k → k < w.heap.size := fun k hk => (h.bx.ok b v _ hv hx).lt hlive hk
  -- sizes, other blocks
  have hsz : w.heap.size ≤ w'.heap.size := by
    rcases hw with ⟨rfl, _⟩ | ⟨o, rfl, _⟩ | ⟨blk, cs, _, _, rfl, _⟩ <;> simp
  have hblock : ∀ k, k < w.heap.size → blkOf v ≠ some k → w'.heap[k]? = w.heap[k]? := by
    intro k hk hne
    rcases hw with ⟨rfl, _⟩ | ⟨o, rfl, _⟩ | ⟨blk, cs, h1, _, rfl, _⟩
    · rfl
    · exact Below.heap_alloc w.drew o k hk
    · exact setRow_other w blk k cs (fun e => hne (by rw [h1, e]))
  have hcell : ∀ k o, fz k o → w'.cell? ⟨k, o, none⟩ = w.cell? ⟨k, o, none⟩ := by
    intro k o hfz
    rcases hw with ⟨rfl, _⟩ | ⟨ob, rfl, _⟩ | ⟨blk, cs, h1, _, rfl, h4⟩
    · rfl
    · exact World.cell?_of_block (w := w) (Below.heap_alloc w.drew ob k (h.fzok k o hfz))
    · by_cases hk : k = blk
      · subst hk; exact h4 o ((hf k h1 o).1 hfz)
      · exact cell_setRow_other w blk cs _ hk
  have hos : w'.os = w.os ∧ w'.tape = w.tape ∧ w'.output = w.output ∧ w.drawn ≤ w'.drawn := by
    rcases hw with ⟨rfl, _⟩ | ⟨o, rfl, _⟩ | ⟨blk, cs, _, _, rfl, _⟩ <;> exact ⟨rfl, rfl, rfl, by first | exact Nat.le_refl _ | exact Nat.le_succ _⟩
  have hv'blk : ∀ k, blkOf v' = some k → k = w.heap.size ∨ blkOf v = some k := by
    intro k hk
    rcases hw with ⟨_, rfl, _⟩ | ⟨o, _, h2⟩ | ⟨blk, cs, h1, h2, _⟩
    · exact .inr hk
    · rw [h2] at hk; cases hk; exact .inl rfl
    · rw [h2] at hk; cases hk; exact .inr h1
  have hv'lt : ∀ k, blkOf v' = some k → k < w'.heap.size := by
    intro k hk
    rcases ho'.2 with ⟨rfl, _⟩ | ⟨g, cap, cur, rfl, _, hg, _⟩
    · cases hk
    · cases hk; exact (Array.getElem?_eq_some_iff.1 hg).1
  have hvl : vals.length = xs.length * τ.size := he.length
  have hnl : news.length = ys.length * τ.size := hn.length
  let fz2 : Fz := fzRow fz v' (vals ++ news).length
  have hl : Later fz w fz2 w' := fun k o hfz => ⟨.inl hfz, hcell k o hfz⟩
  have hβ : ∀ (i : Nat) (g : Value), i ≠ b → β[i]? = some g → (β.set b v')[i]? = some g := fun i g hi hg => by
    rw [List.getElem?_set, if_neg (Ne.symm hi)]; exact hg
  have hβb : (β.set b v')[b]? = some v' := by rw [List.getElem?_set, if_pos rfl]; simp [hbβ]
  have hrd := RdSl_own ho he hf
  have hsnap := fun x v0 hh => snap_ok (fz' := fz2) (w' := w') (β' := β.set b v') (e := e) hv hrd hl hβ x v0 hh
  have hnew : ∀ k o, fz2 k o → fz k o ∨ k = w.heap.size ∨ blkOf v = some k := by
    intro k o hz
    rcases hz with hz | ⟨hz, _⟩
    · exact .inl hz
    · exact .inr (hv'blk k hz)
  have hm0 : m0 ≤ b := Nat.le_of_not_lt fun hlt => by have := h.pre.noO b _ hlt hx; simp [Box.isO] at this
  have hpre : Pre S m0 (β.set b v') ((snapH b τ xs H).set b (.orow e τ (xs ++ ys))) := by
    refine ⟨h.pre.len, by simpa [snapH_length] using h.pre.le, fun i hi => ?_, fun i y hi hy => ?_⟩
    · rw [List.getElem?_set, if_neg (by omega)]; exact h.pre.same i hi
    · rw [List.getElem?_set, if_neg (by omega), snapH_get] at hy
      obtain ⟨x0, hx0, rfl⟩ := Option.map_eq_some_iff.1 hy
      have := h.pre.noO i x0 hi hx0
      cases x0 <;> exact this
  refine ⟨fz2, ⟨⟨h.fr.1, h.fr.2.1, fun t x hm => ?_⟩, ⟨?_, ?_, ?_, ?_⟩, ?_, ?_, ?_, hpre⟩, hβb⟩
  · obtain ⟨y, hy, rfl⟩ := snapF_mem hm
    exact ⟨(h.fr.2.2 t y hy).1, hsnap _ _ (h.fr.2.2 t y hy).2⟩
  · simp [snapH_length, h.bx.len]
  · intro i g hg
    rw [List.getElem?_set] at hg
    split at hg
    · cases hg
      rcases ho'.2 with ⟨rfl, _⟩ | ⟨g, cap, cur, rfl, _⟩ <;> rfl
    · exact h.bx.one i g hg
  · intro i g x hg hxi
    by_cases hib : i = b
    · subst hib
      rw [hβb] at hg; cases hg
      rw [List.getElem?_set, if_pos rfl, if_pos (by rw [snapH_length]; exact hbH)] at hxi
      cases hxi
      refine ⟨vals ++ news, by rw [List.length_append]; exact ho', (ElsR.mono hl _ _ he).append (ElsR.mono hl _ _ hn), fun blk hblk o => ⟨fun hz => ?_, fun hz => .inr ⟨hblk, hz⟩⟩⟩
      rcases hz with hz | ⟨_, hz⟩
      · rcases hv'blk blk hblk with hk | hk
        · have := h.fzok blk o hz; omega
        · have := (hf blk hk o).1 hz
          rw [List.length_append]; omega
      · exact hz
    · rw [List.getElem?_set, if_neg (Ne.symm hib)] at hg hxi
      rw [snapH_get] at hxi
      obtain ⟨x0, hx0, rfl⟩ := Option.map_eq_some_iff.1 hxi
      by_cases hly : x0.live = true
      · have hy0 := h.bx.ok i g x0 hg hx0
        have hne : ∀ k, blkOf g = some k → blkOf v ≠ some k := fun k hk => h.bx.apart i b g v x0 _ hib hg hv hx0 hx hly hlive k hk
        have hlt := fun k hk => hy0.lt hly (k := k) hk
        have hk := hy0.keep (w' := w') (fz' := fz2) (fun k hk => hblock k (hlt k hk) (hne k hk)) hl (fun k o hk hz => by
          rcases hnew k o hz with h' | h' | h'
          · exact h'
          · have := hlt k hk; omega
          · exact absurd h' (hne k hk))
        cases x0 with
        | cells cs =>
          obtain ⟨blk, vs, e', rfl, hh, _, hz⟩ := hk
          obtain ⟨_, _, _, e1, e2, hr, _⟩ := hy0
          cases e1
          rw [hblock blk (hlt blk rfl) (hne blk rfl), e2] at hh
          cases hh
          exact ⟨blk, _, _, rfl, by rw [hblock blk (hlt blk rfl) (hne blk rfl), e2], snapL_ok (fz' := fz2) (w' := w') (β' := β.set b v') (e := e) hv hrd hl hβ _ _ hr, hz⟩
        | orow _ _ _ => exact hk
        | mrow _ _ _ => exact hk
        | dead => trivial
      · cases x0 with
        | dead => trivial
        | _ => simp [Box.live] at hly
  · have conv : ∀ (i : Nat) (g : Value) (x : Box), (β.set b v')[i]? = some g → ((snapH b τ xs H).set b (.orow e τ (xs ++ ys)))[i]? = some x → x.live = true →
        (i = b ∧ g = v') ∨ (i ≠ b ∧ β[i]? = some g ∧ ∃ x0 : Box, H[i]? = some x0 ∧ x0.live = true) := by
      intro i g x hg hxi hlx
      by_cases hib : i = b
      · subst hib; rw [hβb] at hg; cases hg; exact .inl ⟨rfl, rfl⟩
      · rw [List.getElem?_set, if_neg (Ne.symm hib)] at hg hxi
        rw [snapH_get] at hxi
        obtain ⟨x0, hx0, rfl⟩ := Option.map_eq_some_iff.1 hxi
        exact .inr ⟨hib, hg, x0, hx0, by rw [← Box.snap_live (b := b) (xs := xs)]; exact hlx⟩
    intro i j gi gj xi xj hij h1 h2 h3 h4 li lj k hk hk'
    rcases conv i gi xi h1 h3 li with ⟨rfl, rfl⟩ | ⟨ib, a1, x0, a2, a3⟩ <;> rcases conv j gj xj h2 h4 lj with ⟨rfl, rfl⟩ | ⟨jb, b1, y0, b2, b3⟩
    · exact hij rfl
    · have := (h.bx.ok j gj y0 b1 b2).lt b3 hk'
      rcases hv'blk k hk with h' | h'
      · omega
      · exact h.bx.apart i j v gj _ y0 hij hv b1 hx b2 hlive b3 k h' hk'
    · have := (h.bx.ok i gi x0 a1 a2).lt a3 hk
      rcases hv'blk k hk' with h' | h'
      · omega
      · exact h.bx.apart i j gi v x0 _ hij a1 hv a2 hx a3 hlive k hk h'
    · exact h.bx.apart i j gi gj x0 y0 hij a1 b1 a2 b2 a3 b3 k hk hk'
  · intro i g x hg hxi hlx k hk
    by_cases hib : i = b
    · subst hib; rw [hβb] at hg; cases hg
      rcases hv'blk k hk with h' | h'
      · have := h.anc.size; exact .inl (by omega)
      · exact h.mine i v _ hv hx hlive k h'
    · rw [List.getElem?_set, if_neg (Ne.symm hib)] at hg hxi
      rw [snapH_get] at hxi
      obtain ⟨x0, hx0, rfl⟩ := Option.map_eq_some_iff.1 hxi
      exact h.mine i g x0 hg hx0 (by rw [← Box.snap_live (b := b) (xs := xs)]; exact hlx) k hk
  · refine h.anc.step hos.1 hos.2.1 hos.2.2.1 hos.2.2.2 hsz (fun k hk ho => hblock k (by have := h.anc.size; omega) (fun e => ?_)) hl (fun k o hz => ?_)
    · rcases h.mine b v _ hv hx hlive k e with h' | h'
      · omega
      · exact ho h'
    · rcases hnew k o hz with h' | h' | h'
      · exact .inl h'
      · have := h.anc.size; exact .inr (.inl (by omega))
      · rcases h.mine b v _ hv hx hlive k h' with h' | h'
        · exact .inr (.inl h')
        · exact .inr (.inr h')
  · intro k o hz
    rcases hz with hz | ⟨hz, _⟩
    · have := h.fzok k o hz; omega
    · exact hv'lt k hz

/-- A row of one's own that is not there yet: the nil slice. -/
theorem Rel.addNil (h : Rel S m0 N fz β w a ρ H) (e : TypeId) (τ : Ty) : Rel S m0 N fz (β ++ [.slice none 0 0]) w a ρ (H ++ [.orow e τ []]) := by
  refine ⟨h.fr.ext (Ext.snoc _ _), h.bx.snoc _ _ rfl (fun _ _ => rfl) (Later.refl _ _) (fun k o hf => .inl hf) ⟨[], ⟨by simp, .inl ⟨rfl, rfl⟩⟩, rfl, fun blk hb => by cases hb⟩ (fun k hk => by cases hk),
    fun i g y h1 h2 hl k hk => ?_, h.anc, h.fzok, h.pre.snoc h.bx.len _ _⟩
  have hlen := h.bx.len
  by_cases hi : i < β.length
  · rw [List.getElem?_append_left hi] at h1
    rw [List.getElem?_append_left (by omega)] at h2
    exact h.mine i g y h1 h2 hl k hk
  · rw [List.getElem?_append_right (by omega)] at h1
    have := List.mem_of_getElem? h1
    simp at this; subst this; cases hk

/-- A new variable. -/
theorem Rel.newVar (h : Rel S m0 N fz β w a ρ H) {cs : List AV} {vs : List Value} (e : TypeId) (hr : RdL fz β w cs vs) :
    Rel S m0 N fz (β ++ [.pointer (some ⟨w.heap.size, 0, none⟩)]) (w.alloc (.cells vs.toArray e)) a ρ (H ++ [.cells cs]) := by
  have hlater : Later fz w fz (w.alloc (.cells vs.toArray e)) := fun b k hf => ⟨hf, World.cell?_of_block (w := w) (Below.heap_alloc w _ b (h.fzok b k hf))⟩
  refine h.newBox _ _ _ rfl (fun k o hf => .inl hf) (fun _ _ h => h) ⟨w.heap.size, vs.toArray, e, rfl, heap_alloc_new w _, RdL.ext (Ext.snoc _ _) _ _ (hr.mono hlater), fun o hf => ?_⟩ (fun k hk => by cases hk; rfl)
  have := h.fzok _ _ hf; omega

/-- A new growing row. -/
theorem Rel.newRow (h : Rel S m0 N fz β w a ρ H) {τ : Ty} {xs : List τ.den} {vals : List Value} (e : TypeId) (he : ElsR fz w τ xs vals) (hm : xs.length ≤ maxLen) :
    ∃ fz', Rel S m0 N fz' (β ++ [.slice (some ⟨w.heap.size, 0, none⟩) xs.length xs.length]) (w.alloc (.cells vals.toArray e)) a ρ (H ++ [.orow e τ xs]) := by
  let v : Value := .slice (some ⟨w.heap.size, 0, none⟩) xs.length xs.length
  let fz2 : Fz := fzRow fz v vals.length
  have hlater : Later fz w fz2 (w.alloc (.cells vals.toArray e)) := fun b k hf => ⟨.inl hf, World.cell?_of_block (w := w) (Below.heap_alloc w _ b (h.fzok b k hf))⟩
  refine ⟨fz2, h.newBox _ v _ rfl (fun k o hf => ?_) (fun _ _ h => .inl h) ⟨vals, ⟨he.length, .inr ⟨w.heap.size, xs.length, vals.toArray, rfl, Nat.zero_le _, heap_alloc_new w _, Nat.le_refl _, hm, ?_, ?_⟩⟩, ElsR.mono hlater _ _ he, fun blk hb o => ?_⟩ (fun k hk => by cases hk; rfl)⟩
  · rcases hf with hf | ⟨hf, _⟩
    · exact .inl hf
    · cases hf; exact .inr rfl
  · simpa using he.length
  · rw [← he.length]; simp
  · cases hb
    refine ⟨fun hz => ?_, fun hz => .inr ⟨rfl, hz⟩⟩
    rcases hz with hz | ⟨_, hz⟩
    · exact absurd (h.fzok _ _ hz) (Nat.lt_irrefl _)
    · exact hz

/-- New frozen elements. -/
theorem Rel.newData (h : Rel S m0 N fz β w a ρ H) {τ : Ty} {xs : List τ.den} {vals : List Value} (e : TypeId) (he : ElsR fz w τ xs vals) (hm : xs.length ≤ maxLen) :
    Later fz w (fzRow fz (.slice (some ⟨w.heap.size, 0, none⟩) xs.length xs.length) vals.length) (w.alloc (.cells vals.toArray e)) ∧
    Rel S m0 N (fzRow fz (.slice (some ⟨w.heap.size, 0, none⟩) xs.length xs.length) vals.length) β (w.alloc (.cells vals.toArray e)) a ρ H ∧
    RdA (fzRow fz (.slice (some ⟨w.heap.size, 0, none⟩) xs.length xs.length) vals.length) β (w.alloc (.cells vals.toArray e)) (.d (.sl τ) xs) (.slice (some ⟨w.heap.size, 0, none⟩) xs.length xs.length) := by
  let v : Value := .slice (some ⟨w.heap.size, 0, none⟩) xs.length xs.length
  let fz2 : Fz := fzRow fz v vals.length
  have hlater : Later fz w fz2 (w.alloc (.cells vals.toArray e)) := fun b k hf => ⟨.inl hf, World.cell?_of_block (w := w) (Below.heap_alloc w _ b (h.fzok b k hf))⟩
  refine ⟨hlater, h.newFz _ (fun k o hf => ?_) (fun _ _ h => .inl h), ?_⟩
  · rcases hf with hf | ⟨hf, _⟩
    · exact .inl hf
    · cases hf; exact .inr rfl
  · simp only [RdA]
    refine elR_sl.2 (RdSl_own (e := e) (vals := vals) ⟨he.length, .inr ⟨w.heap.size, xs.length, vals.toArray, rfl, Nat.zero_le _, heap_alloc_new w _, Nat.le_refl _, hm, by simpa using he.length, by rw [← he.length]; simp⟩⟩ (ElsR.mono hlater _ _ he) (fun blk hb o => ?_))
    cases hb
    refine ⟨fun hz => ?_, fun hz => .inr ⟨rfl, hz⟩⟩
    rcases hz with hz | ⟨_, hz⟩
    · exact absurd (h.fzok _ _ hz) (Nat.lt_irrefl _)
    · exact hz

/-- A new row of fixed length. -/
theorem Rel.newMrow (h : Rel S m0 N fz β w a ρ H) {τ : Ty} {xs : List τ.den} {vals : Array Value} (e : TypeId) (he : ElsR fz w τ xs vals.toList) (hm : xs.length ≤ maxLen) :
    Rel S m0 N fz (β ++ [.slice (some ⟨w.heap.size, 0, none⟩) xs.length xs.length]) (w.alloc (.cells vals e)) a ρ (H ++ [.mrow e τ xs]) := by
  have hlater : Later fz w fz (w.alloc (.cells vals e)) := fun b k hf => ⟨hf, World.cell?_of_block (w := w) (Below.heap_alloc w _ b (h.fzok b k hf))⟩
  refine h.newBox _ _ _ rfl (fun k o hf => .inl hf) (fun _ _ h => h) ⟨w.heap.size, xs.length, vals, rfl, Nat.le_refl _, hm, heap_alloc_new w _, ⟨[], vals.toList, by simp, ElsR.mono hlater _ _ he⟩, fun o hf => ?_⟩ (fun k hk => by cases hk; rfl)
  have := h.fzok _ _ hf; omega

end Go.Proofs.YtgapiecbinplfaaGreat
/- Calls: a contract under the caller's names; stores. -/
namespace Go.Proofs.YtgapiecbinplfaaGreat
open Go.RowKit

variable {P : Program} {fz fz' : Fz} {β β' : List Value} {w w' : World} {m0 N : Nat} {a : Act} {ρ : Fr} {H : List Box} {S : Start}

theorem caps_in {β0 β : List Value} {σ : List Nat} {n : Nat} (hβ : ∀ i, i < n → β0[i]? = β[σ.getD i 0]?) : ∀ {caps : List (Nat × Nat)} {vs : List Value}, (caps.all fun c => decide (c.1 < n)) = true →
    CapsR β (caps.map fun c => (σ.getD c.1 0, c.2)) vs → CapsR β0 caps vs
  | [], _, _, h => h
  | c :: cs, _, hs, ⟨blk, r, h1, h2, h3⟩ => by
    simp only [List.all_cons, Bool.and_eq_true, decide_eq_true_eq] at hs
    exact ⟨blk, r, h1, by unfold BAt at h2 ⊢; rw [hβ _ hs.1]; exact h2, caps_in hβ hs.2 h3⟩
theorem caps_out {β0 β : List Value} {σ : List Nat} {n : Nat} (hβ : ∀ i, i < n → β0[i]? = β[σ.getD i 0]?) : ∀ {caps : List (Nat × Nat)} {vs : List Value}, (caps.all fun c => decide (c.1 < n)) = true →
    CapsR β0 caps vs → CapsR β (caps.map fun c => (σ.getD c.1 0, c.2)) vs
  | [], _, _, h => h
  | c :: cs, _, hs, ⟨blk, r, h1, h2, h3⟩ => by
    simp only [List.all_cons, Bool.and_eq_true, decide_eq_true_eq] at hs
    exact ⟨blk, r, h1, by unfold BAt at h2 ⊢; rw [← hβ _ hs.1]; exact h2, caps_out hβ hs.2 h3⟩

mutual
theorem ren_in {β0 β : List Value} {σ : List Nat} {n : Nat} (hβ : ∀ i, i < n → β0[i]? = β[σ.getD i 0]?) : ∀ (x : AV) (v : Value), scop n x = true → RdA fz β w (ren σ x) v → RdA fz β0 w x v
  | .ptr b o, v, hs, h => by
    simp only [scop, decide_eq_true_eq] at hs
    simp only [ren, RdA] at h ⊢
    obtain ⟨blk, h1, h2⟩ := h
    exact ⟨blk, by unfold BAt at h1 ⊢; rw [hβ _ hs]; exact h1, h2⟩
  | .mptr b k i o, v, hs, h => by
    simp only [scop, decide_eq_true_eq] at hs
    simp only [ren, RdA] at h ⊢
    obtain ⟨blk, m, c, h1, h2⟩ := h
    exact ⟨blk, m, c, by rw [hβ _ hs]; exact h1, h2⟩
  | .orow b, v, hs, h => by
    simp only [scop, decide_eq_true_eq] at hs
    simp only [ren, RdA] at h ⊢; rw [hβ _ hs]; exact h
  | .mrow b, v, hs, h => by
    simp only [scop, decide_eq_true_eq] at hs
    simp only [ren, RdA] at h ⊢; rw [hβ _ hs]; exact h
  | .msl b k i m, v, hs, h => by
    simp only [scop, decide_eq_true_eq] at hs
    simp only [ren, RdA] at h ⊢
    obtain ⟨blk, m0, c, ad, c2, h1, h2⟩ := h
    exact ⟨blk, m0, c, ad, c2, by rw [hβ _ hs]; exact h1, h2⟩
  | .fn f caps, v, hs, h => by
    simp only [scop] at hs
    simp only [ren, RdA] at h ⊢
    obtain ⟨vs, h1, h2⟩ := h
    exact ⟨vs, h1, caps_in hβ hs h2⟩
  | .agg cs, v, hs, h => by
    simp only [scop] at hs
    simp only [ren, RdA] at h ⊢
    obtain ⟨vs, h1, h2⟩ := h
    exact ⟨vs, h1, renL_in hβ cs vs hs h2⟩
  | .tup cs, v, hs, h => by
    simp only [scop] at hs
    simp only [ren, RdA] at h ⊢
    obtain ⟨vs, h1, h2⟩ := h
    exact ⟨vs, h1, renL_in hβ cs vs hs h2⟩
  | .d t x, v, hs, h => by simp only [ren, RdA] at h ⊢; exact h
  | .eptr t x, v, hs, h => by simp only [ren, RdA] at h ⊢; exact h
  | .nilsl, v, hs, h => by simp only [ren, RdA] at h ⊢; exact h
  | .nilfn, v, hs, h => by simp only [ren, RdA] at h ⊢; exact h
  | .top, v, hs, h => by simp only [RdA]
theorem renL_in {β0 β : List Value} {σ : List Nat} {n : Nat} (hβ : ∀ i, i < n → β0[i]? = β[σ.getD i 0]?) : ∀ (xs : List AV) (vs : List Value), scopL n xs = true → RdL fz β w (renL σ xs) vs → RdL fz β0 w xs vs
  | [], vs, hs, h => by simp only [renL, RdL] at h ⊢; exact h
  | c :: cs, vs, hs, h => by
    simp only [scopL, Bool.and_eq_true] at hs
    simp only [renL, RdL] at h ⊢
    obtain ⟨v, r, h1, h2, h3⟩ := h
    exact ⟨v, r, h1, ren_in hβ c v hs.1 h2, renL_in hβ cs r hs.2 h3⟩
end

mutual
theorem ren_out {β0 β : List Value} {σ : List Nat} {n : Nat} (hβ : ∀ i, i < n → β0[i]? = β[σ.getD i 0]?) : ∀ (x : AV) (v : Value), scop n x = true → RdA fz β0 w x v → RdA fz β w (ren σ x) v
  | .ptr b o, v, hs, h => by
    simp only [scop, decide_eq_true_eq] at hs
    simp only [ren, RdA] at h ⊢
    obtain ⟨blk, h1, h2⟩ := h
    exact ⟨blk, by unfold BAt at h1 ⊢; rw [← hβ _ hs]; exact h1, h2⟩
  | .mptr b k i o, v, hs, h => by
    simp only [scop, decide_eq_true_eq] at hs
    simp only [ren, RdA] at h ⊢
    obtain ⟨blk, m, c, h1, h2⟩ := h
    exact ⟨blk, m, c, by rw [← hβ _ hs]; exact h1, h2⟩
  | .orow b, v, hs, h => by
    simp only [scop, decide_eq_true_eq] at hs
    simp only [ren, RdA] at h ⊢; rw [← hβ _ hs]; exact h
  | .mrow b, v, hs, h => by
    simp only [scop, decide_eq_true_eq] at hs
    simp only [ren, RdA] at h ⊢; rw [← hβ _ hs]; exact h
  | .msl b k i m, v, hs, h => by
    simp only [scop, decide_eq_true_eq] at hs
    simp only [ren, RdA] at h ⊢
    obtain ⟨blk, m0, c, ad, c2, h1, h2⟩ := h
    exact ⟨blk, m0, c, ad, c2, by rw [← hβ _ hs]; exact h1, h2⟩
  | .fn f caps, v, hs, h => by
    simp only [scop] at hs
    simp only [ren, RdA] at h ⊢
    obtain ⟨vs, h1, h2⟩ := h
    exact ⟨vs, h1, caps_out hβ hs h2⟩
  | .agg cs, v, hs, h => by
    simp only [scop] at hs
    simp only [ren, RdA] at h ⊢
    obtain ⟨vs, h1, h2⟩ := h
    exact ⟨vs, h1, renL_out hβ cs vs hs h2⟩
  | .tup cs, v, hs, h => by
    simp only [scop] at hs
    simp only [ren, RdA] at h ⊢
    obtain ⟨vs, h1, h2⟩ := h
    exact ⟨vs, h1, renL_out hβ cs vs hs h2⟩
  | .d t x, v, hs, h => by simp only [ren, RdA] at h ⊢; exact h
  | .eptr t x, v, hs, h => by simp only [ren, RdA] at h ⊢; exact h
  | .nilsl, v, hs, h => by simp only [ren, RdA] at h ⊢; exact h
  | .nilfn, v, hs, h => by simp only [ren, RdA] at h ⊢; exact h
  | .top, v, hs, h => by simp only [ren, RdA]
theorem renL_out {β0 β : List Value} {σ : List Nat} {n : Nat} (hβ : ∀ i, i < n → β0[i]? = β[σ.getD i 0]?) : ∀ (xs : List AV) (vs : List Value), scopL n xs = true → RdL fz β0 w xs vs → RdL fz β w (renL σ xs) vs
  | [], vs, hs, h => by simp only [renL, RdL] at h ⊢; exact h
  | c :: cs, vs, hs, h => by
    simp only [scopL, Bool.and_eq_true] at hs
    simp only [renL, RdL] at h ⊢
    obtain ⟨v, r, h1, h2, h3⟩ := h
    exact ⟨v, r, h1, ren_out hβ c v hs.1 h2, renL_out hβ cs r hs.2 h3⟩
end

mutual
theorem ren_id {σ : List Nat} : ∀ (x : AV), scop 0 x = true → ren σ x = x
  | .ptr b o, h => by simp [scop] at h
  | .mptr b k i o, h => by simp [scop] at h
  | .orow b, h => by simp [scop] at h
  | .mrow b, h => by simp [scop] at h
  | .msl b k i n, h => by simp [scop] at h
  | .fn f caps, h => by
    cases caps with
    | nil => rfl
    | cons c cs => simp [scop] at h
  | .agg cs, h => by simp only [scop] at h; simp only [ren, renL_id cs h]
  | .tup cs, h => by simp only [scop] at h; simp only [ren, renL_id cs h]
  | .d t x, h => rfl
  | .eptr t x, h => rfl
  | .nilsl, h => rfl
  | .nilfn, h => rfl
  | .top, h => rfl
theorem renL_id {σ : List Nat} : ∀ (xs : List AV), scopL 0 xs = true → renL σ xs = xs
  | [], _ => rfl
  | c :: cs, h => by
    simp only [scopL, Bool.and_eq_true] at h
    simp only [renL, ren_id c h.1, renL_id cs h.2]
end

/-- The boxes that a callee takes. -/
def subβ (β : List Value) (σ : List Nat) : List Value := σ.map fun i => β.getD i undef

structure Takes (H : List Box) (σ : List Nat) (Hin : List Box) : Prop where
  len : σ.length = Hin.length
  nodup : σ.Nodup
  is : ∀ (i : Nat) (s : Nat) (x : Box), σ[i]? = some s → Hin[i]? = some x → H[s]? = some (x.ren σ) ∧ x.live = true ∧ x.scop σ.length = true

theorem Box.ren_live {σ : List Nat} (x : Box) : (x.ren σ).live = x.live := by cases x <;> rfl

theorem putH_length : ∀ {σ : List Nat} {H X : List Box}, (putH H σ X).length = H.length
  | [], H, X => by cases X <;> rfl
  | i :: σ, H, [] => rfl
  | i :: σ, H, x :: X => by rw [putH, putH_length]; simp

theorem putH_out : ∀ {σ : List Nat} {H X : List Box} {j : Nat}, j ∉ σ → (putH H σ X)[j]? = H[j]?
  | [], H, X, j, _ => by cases X <;> rfl
  | i :: σ, H, [], j, _ => rfl
  | i :: σ, H, x :: X, j, h => by
    simp only [List.mem_cons, not_or] at h
    rw [putH, putH_out h.2, List.getElem?_set, if_neg (Ne.symm h.1)]

theorem putH_in : ∀ {σ : List Nat} {H X : List Box} {i j : Nat} {x : Box}, σ.Nodup → σ[i]? = some j → X[i]? = some x → j < H.length → (putH H σ X)[j]? = some x
  | s :: σ, H, y :: X, 0, j, x, hn, h1, h2, hj => by
    simp at h1 h2; subst h1; subst h2
    rw [putH, putH_out (List.nodup_cons.1 hn).1, List.getElem?_set]
    simp [hj]
  | s :: σ, H, y :: X, i + 1, j, x, hn, h1, h2, hj => by
    rw [putH]
    exact putH_in (List.nodup_cons.1 hn).2 (by simpa using h1) (by simpa using h2) (by simpa using hj)
  | s :: σ, H, [], i, j, x, hn, h1, h2, hj => by simp at h2
  | [], H, X, i, j, x, hn, h1, h2, hj => by simp at h1

theorem BoxOk.ren_in {σ : List Nat} {n : Nat} {β0 : List Value} (hβ : ∀ i, i < n → β0[i]? = β[σ.getD i 0]?) {g : Value} {x : Box} (hs : x.scop n = true) (h : BoxOk fz β w g (x.ren σ)) : BoxOk fz β0 w g x := by
  cases x with
  | cells cs =>
    obtain ⟨blk, vs, e, rfl, hh, hr, hz⟩ := h
    exact ⟨blk, vs, e, rfl, hh, renL_in hβ cs _ hs hr, hz⟩
  | orow e t xs => exact h
  | mrow e t xs => exact h
  | dead => trivial
theorem BoxOk.ren_out {σ : List Nat} {n : Nat} {β0 : List Value} (hβ : ∀ i, i < n → β0[i]? = β[σ.getD i 0]?) {g : Value} {x : Box} (hs : x.scop n = true) (h : BoxOk fz β0 w g x) : BoxOk fz β w g (x.ren σ) := by
  cases x with
  | cells cs =>
    obtain ⟨blk, vs, e, rfl, hh, hr, hz⟩ := h
    exact ⟨blk, vs, e, rfl, hh, renL_out hβ cs _ hs hr, hz⟩
  | orow e t xs => exact h
  | mrow e t xs => exact h
  | dead => trivial

section
variable {Hin Hout : List Box} {σ : List Nat}

theorem Takes.lt (ht : Takes H σ Hin) : ∀ s ∈ σ, s < H.length := by
  intro s hs
  obtain ⟨i, hi, rfl⟩ := List.getElem_of_mem hs
  obtain ⟨h1, _⟩ := ht.is i σ[i] (Hin[i]'(by rw [← ht.len]; exact hi)) (List.getElem?_eq_getElem hi) (List.getElem?_eq_getElem _)
  exact (List.getElem?_eq_some_iff.1 h1).1

theorem Takes.sub (ht : Takes H σ Hin) (hlen : β.length = H.length) : ∀ i, i < σ.length → (subβ β σ)[i]? = β[σ.getD i 0]? := by
  intro i hi
  have hs := ht.lt σ[i] (List.getElem_mem hi)
  simp [subβ, List.getD, List.getElem?_eq_getElem hi, List.getElem?_eq_getElem (show σ[i] < β.length by omega)]

theorem Takes.get (ht : Takes H σ Hin) (hlen : β.length = H.length) : ∀ (i : Nat) (g : Value), (subβ β σ)[i]? = some g → ∃ s, σ[i]? = some s ∧ β[s]? = some g := by
  intro i g hg
  have hi : i < σ.length := by have := (List.getElem?_eq_some_iff.1 hg).1; simpa [subβ] using this
  rw [ht.sub hlen i hi] at hg
  exact ⟨σ[i], List.getElem?_eq_getElem hi, by simpa [List.getD, List.getElem?_eq_getElem hi] using hg⟩

theorem Takes.boxes (ht : Takes H σ Hin) (hb : BoxesOk fz β w H) : BoxesOk fz (subβ β σ) w Hin := by
  have hβ := ht.sub hb.len
  have hget := ht.get hb.len
  refine ⟨by simp [subβ, ht.len], fun i g hg => ?_, fun i g x hg hx => ?_, fun i j gi gj xi xj hij hgi hgj hxi hxj li lj => ?_⟩
  · obtain ⟨s, _, h2⟩ := hget i g hg; exact hb.one s g h2
  · obtain ⟨s, h1, h2⟩ := hget i g hg
    obtain ⟨h3, h4, h5⟩ := ht.is i s x h1 hx
    exact (hb.ok s g _ h2 h3).ren_in hβ h5
  · obtain ⟨s, h1, h2⟩ := hget i gi hgi
    obtain ⟨t, h3, h4⟩ := hget j gj hgj
    obtain ⟨h5, h6, _⟩ := ht.is i s xi h1 hxi
    obtain ⟨h7, h8, _⟩ := ht.is j t xj h3 hxj
    have hst : s ≠ t := fun e => by
      subst e
      have hil := (List.getElem?_eq_some_iff.1 h1).1
      exact hij ((List.getElem?_inj hil ht.nodup).1 (h1.trans h3.symm))
    exact hb.apart s t gi gj _ _ hst h2 h4 h5 h7 (by rw [Box.ren_live]; exact h6) (by rw [Box.ren_live]; exact h8)

/-- What a callee's end says of the caller's state. -/
theorem Rel.after (h : Rel S m0 N fz β w a ρ H) (ht : Takes H σ Hin) (hout : Hout.length = Hin.length ∧ (∀ x ∈ Hout, x.scop σ.length = true ∧ x.live = true ∧ x.isO = false))
    (hb' : BoxesOk fz' (subβ β σ) w' Hout) (ha' : Anc ⟨w, fz, OwnOf (subβ β σ), subβ β σ⟩ fz' w') (hz' : FzOk fz' w') : Rel S m0 N fz' β w' a ρ (putH H σ (Hout.map (Box.ren σ))) := by
  have hσ := ht.lt
  have hβ := ht.sub h.bx.len
  have hget := ht.get h.bx.len
  have hown : ∀ k, OwnOf (subβ β σ) k → ∃ s g x, s ∈ σ ∧ β[s]? = some g ∧ H[s]? = some x ∧ x.live = true ∧ blkOf g = some k := by
    rintro k ⟨i, g, hg, hk⟩
    obtain ⟨s, h1, h2⟩ := hget i g hg
    have hi := (List.getElem?_eq_some_iff.1 h1).1
    obtain ⟨h3, h4, _⟩ := ht.is i s (Hin[i]'(by rw [← ht.len]; exact hi)) h1 (List.getElem?_eq_getElem _)
    exact ⟨s, g, _, List.mem_of_getElem? h1, h2, h3, by rw [Box.ren_live]; exact h4, hk⟩
  have hl : Later fz w fz' w' := ha'.later
  have hnotown : ∀ (i : Nat) (g : Value) (x : Box), i ∉ σ → β[i]? = some g → H[i]? = some x → x.live = true → ∀ k, blkOf g = some k → ¬ OwnOf (subβ β σ) k := by
    intro i g x hi hg hx hlx k hk ho
    obtain ⟨s, g', x', hs, hg', hx', hl', hk'⟩ := hown k ho
    exact h.bx.apart i s g g' x x' (fun e => hi (by rw [e]; exact hs)) hg hg' hx hx' hlx hl' k hk hk'
  refine ⟨h.fr.later hl, ⟨by rw [putH_length]; exact h.bx.len, h.bx.one, fun i g x hg hx => ?_, fun i j gi gj xi xj hij hgi hgj hxi hxj li lj => ?_⟩, fun i g x hg hx hlx k hk => ?_, ?_, hz', ?_⟩
  · by_cases hi : i ∈ σ
    · obtain ⟨m, hm, rfl⟩ := List.getElem_of_mem hi
      have hm' : m < Hout.length := by rw [hout.1, ← ht.len]; exact hm
      rw [putH_in ht.nodup (List.getElem?_eq_getElem hm) (x := (Hout[m]).ren σ) (by simp [hm']) (hσ _ (List.getElem_mem hm))] at hx
      cases hx
      exact (hb'.ok m g Hout[m] (by rw [hβ m hm]; simpa [List.getD, List.getElem?_eq_getElem hm] using hg) (List.getElem?_eq_getElem hm')).ren_out hβ (hout.2 _ (List.getElem_mem hm')).1
    · rw [putH_out hi] at hx
      by_cases hlx : x.live = true
      · have hy0 := h.bx.ok i g x hg hx
        have hlt := fun k hk => hy0.lt hlx (k := k) hk
        exact hy0.keep (fun k hk => ha'.block k (hlt k hk) (hnotown i g x hi hg hx hlx k hk)) hl (fun k o hk hz => by
          rcases ha'.news k o hz with h' | h' | h'
          · exact h'
          · have := hlt k hk
            have h'' : w.heap.size ≤ k := h'
            omega
          · exact absurd h' (hnotown i g x hi hg hx hlx k hk))
      · cases x with
        | dead => trivial
        | _ => simp [Box.live] at hlx
  · have conv : ∀ (i : Nat) (x : Box), (putH H σ (Hout.map (Box.ren σ)))[i]? = some x → x.live = true → ∃ y : Box, H[i]? = some y ∧ y.live = true := by
      intro i x hx hlx
      by_cases hi : i ∈ σ
      · obtain ⟨m, hm, rfl⟩ := List.getElem_of_mem hi
        obtain ⟨h1, h2, _⟩ := ht.is m σ[m] (Hin[m]'(by rw [← ht.len]; exact hm)) (List.getElem?_eq_getElem hm) (List.getElem?_eq_getElem _)
        exact ⟨_, h1, by rw [Box.ren_live]; exact h2⟩
      · rw [putH_out hi] at hx; exact ⟨x, hx, hlx⟩
    obtain ⟨yi, a1, a2⟩ := conv i xi hxi li
    obtain ⟨yj, b1, b2⟩ := conv j xj hxj lj
    exact h.bx.apart i j gi gj yi yj hij hgi hgj a1 b1 a2 b2
  · by_cases hi : i ∈ σ
    · obtain ⟨m, hm, rfl⟩ := List.getElem_of_mem hi
      obtain ⟨h1, h2, _⟩ := ht.is m σ[m] (Hin[m]'(by rw [← ht.len]; exact hm)) (List.getElem?_eq_getElem hm) (List.getElem?_eq_getElem _)
      exact h.mine _ g _ hg h1 (by rw [Box.ren_live]; exact h2) k hk
    · rw [putH_out hi] at hx
      exact h.mine i g x hg hx hlx k hk
  · refine h.anc.step ha'.os ha'.tape ha'.output ha'.drawn ha'.size (fun k hk ho => ha'.block k (by have := h.anc.size; exact Nat.lt_of_lt_of_le hk this) (fun ho' => ?_)) hl (fun b o hz => ?_)
    · obtain ⟨s, g, x, _, hg, hx, hlx, hk'⟩ := hown k ho'
      rcases h.mine s g x hg hx hlx k hk' with h' | h'
      · omega
      · exact ho h'
    · rcases ha'.news b o hz with h' | h' | h'
      · exact .inl h'
      · have := h.anc.size
        exact .inr (.inl (Nat.le_trans this h'))
      · obtain ⟨s, g, x, _, hg, hx, hlx, hk'⟩ := hown b h'
        exact .inr (h.mine s g x hg hx hlx b hk')
  · refine ⟨h.pre.len, by rw [putH_length]; exact h.pre.le, h.pre.same, fun i x hi hx => ?_⟩
    by_cases his : i ∈ σ
    · obtain ⟨m, hm, rfl⟩ := List.getElem_of_mem his
      have hm' : m < Hout.length := by rw [hout.1, ← ht.len]; exact hm
      rw [putH_in ht.nodup (List.getElem?_eq_getElem hm) (x := (Hout[m]).ren σ) (by simp [hm']) (hσ _ (List.getElem_mem hm))] at hx
      cases hx
      have := (hout.2 _ (List.getElem_mem hm')).2.2
      cases hh : Hout[m] <;> rw [hh] at this <;> first | rfl | exact this
    · rw [putH_out his] at hx; exact h.pre.noO i x hi hx

end

/-- A CALL BY CONTRACT, under the caller's names. -/
theorem Rel.call (h : Rel S m0 N fz β w a ρ H) {f : FuncId} {args0 : List AV} {Hin Hout : List Box} {r0 : AV} {σ : List Nat} {vs : List Value} (hc : Ctr P f args0 Hin r0 Hout) (ht : Takes H σ Hin)
    (hout : Hout.length = Hin.length ∧ (∀ x ∈ Hout, x.scop σ.length = true ∧ x.live = true ∧ x.isO = false) ∧ scop σ.length r0 = true ∧ scopL σ.length args0 = true)
    (hr : RdL fz β w (renL σ args0) vs) :
    Calls P f vs.toArray w fun e w' => ∃ v fz', e = .returned v ∧ RdA fz' β w' (ren σ r0) v ∧ BoxesOk fz' (subβ β σ) w' Hout ∧ Anc ⟨w, fz, OwnOf (subβ β σ), subβ β σ⟩ fz' w' ∧ FzOk fz' w' := by
  have hβ := ht.sub h.bx.len
  refine (hc fz (subβ β σ) w vs (ht.boxes h.bx) h.fzok (renL_in hβ _ _ hout.2.2.2 hr)).mono fun e w' ⟨v, fz', he, hv, hb', ha', hz'⟩ => ?_
  exact ⟨v, fz', he, ren_out hβ _ _ hout.2.2.1 hv, hb', ha', hz'⟩

/-- The same of a function that takes no box. -/
theorem takes_nil : Takes H [] [] := ⟨rfl, List.nodup_nil, fun i s x h => by simp at h⟩

theorem Rel.afterPure (h : Rel S m0 N fz β w a ρ H) (hb' : BoxesOk fz' [] w' []) (ha' : Anc ⟨w, fz, OwnOf [], []⟩ fz' w') (hz' : FzOk fz' w') : Rel S m0 N fz' β w' a ρ H :=
  h.after takes_nil ⟨rfl, fun x hx => by cases hx⟩ hb' ha' hz'

theorem Rel.callPure (h : Rel S m0 N fz β w a ρ H) {f : FuncId} {args : List AV} {r : AV} {vs : List Value} (hc : Ctr P f args [] r []) (hs : scopL 0 args = true ∧ scop 0 r = true)
    (hr : RdL fz β w args vs) :
    Calls P f vs.toArray w fun e w' => ∃ v fz', e = .returned v ∧ RdA fz' β w' r v ∧ BoxesOk fz' [] w' [] ∧ Anc ⟨w, fz, OwnOf [], []⟩ fz' w' ∧ FzOk fz' w' := by
  have := h.call (σ := []) hc takes_nil ⟨rfl, (fun x hx => by cases hx), hs.2, hs.1⟩ (by rw [renL_id _ hs.1]; exact hr)
  refine this.mono fun e w' ⟨v, fz', he, hv, hrel⟩ => ⟨v, fz', he, ?_, hrel⟩
  rwa [ren_id _ hs.2] at hv

theorem Rel.afterOwn (h : Rel S m0 N fz β w a ρ H) {v : Value} {bx : Box} (hone : v.oneCell' = true) (hb' : BoxOk fz' [] w' v bx) (hn : ∀ k, blkOf v = some k → w.heap.size ≤ k) (ha' : Anc ⟨w, fz, OwnOf [], []⟩ fz' w') (hz' : FzOk fz' w') :
    Rel S m0 N fz' (β ++ [v]) w' a ρ (H ++ [bx]) := by
  have no : ∀ k, ¬ OwnOf [] k := fun k ⟨i, g, h1, _⟩ => by simp at h1
  have hnews : ∀ b o, fz' b o → fz b o ∨ w.heap.size ≤ b := fun b o hf => by
    rcases ha'.news b o hf with h1 | h1 | h1
    · exact .inl h1
    · exact .inr h1
    · exact absurd h1 (no b)
  refine ⟨(h.fr.later ha'.later).ext (Ext.snoc _ _), h.bx.snoc v bx hone (fun k hk => ha'.block k hk (no k)) ha'.later hnews (hb'.ext (fun i g hi => by simp at hi)) hn,
    fun i g' y h1 h2 hl' k hk => ?_, h.anc.step ha'.os ha'.tape ha'.output ha'.drawn ha'.size (fun k hk _ => ha'.block k (Nat.lt_of_lt_of_le hk h.anc.size) (no k)) ha'.later (fun b k hf => ?_), hz', h.pre.snoc h.bx.len v bx⟩
  · have hlen := h.bx.len
    by_cases hi : i < β.length
    · rw [List.getElem?_append_left hi] at h1
      rw [List.getElem?_append_left (by omega)] at h2
      exact h.mine i g' y h1 h2 hl' k hk
    · rw [List.getElem?_append_right (by omega)] at h1
      have := List.mem_of_getElem? h1
      simp at this; subst this
      exact .inl (Nat.le_trans h.anc.size (hn k hk))
  · rcases hnews b k hf with h' | h'
    · exact .inl h'
    · exact .inr (.inl (Nat.le_trans h.anc.size h'))

theorem Rel.callOwn (h : Rel S m0 N fz β w a ρ H) {f : FuncId} {args : List AV} {bx : Box} {vs : List Value} (hc : CtrO P f args bx) (hs : scopL 0 args = true) (hr : RdL fz β w args vs) :
    Calls P f vs.toArray w fun e w' => ∃ v fz', e = .returned v ∧ v.oneCell' = true ∧ BoxOk fz' [] w' v bx ∧ (∀ k, blkOf v = some k → w.heap.size ≤ k) ∧ Anc ⟨w, fz, OwnOf [], []⟩ fz' w' ∧ FzOk fz' w' :=
  hc fz w vs h.fzok (renL_in (β := β) (σ := []) (n := 0) (fun i hi => absurd hi (Nat.not_lt_zero _)) _ _ hs (by rw [renL_id _ hs]; exact hr))

end Go.Proofs.YtgapiecbinplfaaGreat
/- Operations that write, lay blocks, or call: the function, and that the model's run does what it says. -/
namespace Go.Proofs.YtgapiecbinplfaaGreat
open Go.RowKit

/-- What a call gives: of a function that takes no box its result; of any other which boxes, and so on. -/
inductive CO where
  | pure (r : AV)
  | full (σ : List Nat) (args : List AV) (Hin : List Box) (r : AV) (Hout : List Box)
  | own (bx : Box)

/-- How a row of one's own is named. -/
def Box.named (b : Nat) : Box → Option AV
  | .orow .. => some (.orow b)
  | .mrow .. => some (.mrow b)
  | _ => none

def putCells (cs : List AV) (o : Nat) (xc : List AV) : List AV := cs.take o ++ xc ++ cs.drop (o + xc.length)

/-- A value's cells, as a variable of a type takes them. -/
def storeC (d : TD) (x : AV) : Option (List AV) :=
  match x with
  | .agg xc => if d.agg = true ∧ xc.length = d.size ∧ xc.all AV.one = true then some xc else none
  | x => if d.agg = false ∧ x.one = true then some [x] else none

/-- A value whose growing rows are seen as what they hold. -/
def frozA (H : List Box) : AV → AV
  | .agg cs => .agg (cs.map (froz H))
  | x => froz H x

def elems (τ : Ty) (H : List Box) : List (Nat × AV) → Option (List τ.den)
  | [] => some []
  | (_, x) :: r => do some ((← ofAV τ (frozA H x)) :: (← elems τ H r))

def callArgs (ρ : Fr) (H : List Box) (f : Operand) (args : Array Operand) : Option (Nat × List AV) :=
  match evA ρ f, evL ρ args.toList with
  | some (.fn g caps), some l => some (g, l.map (froz H) ++ caps.map fun c => .ptr c.1 c.2)
  | _, _ => none

variable {P : Program}

def callOp (E : TEnv P) (ρ : Fr) (H : List Box) (f : Operand) (args : Array Operand) : CO → Option Res
  | .pure r => match callArgs ρ H f args with
    | some (g, l) => if E.fnb g = true ∧ scopL 0 l = true ∧ scop 0 r = true then some ⟨some r, ρ, H, Ctr P g l [] r []⟩ else none
    | none => none
  | .full σ args0 Hin r Hout => match callArgs ρ H f args with
    | some (g, l) => if E.fnb g = true then some ⟨some (ren σ r), ρ, putH H σ (Hout.map (Box.ren σ)),
        Ctr P g args0 Hin r Hout ∧ l = renL σ args0 ∧ Takes H σ Hin ∧ (Hout.length = Hin.length ∧ (∀ x ∈ Hout, x.scop σ.length = true ∧ x.live = true ∧ x.isO = false) ∧ scop σ.length r = true ∧ scopL σ.length args0 = true)⟩ else none
    | none => none
  | .own bx => match callArgs ρ H f args, bx.named H.length with
    | some (g, l), some x => if E.fnb g = true ∧ scopL 0 l = true then some ⟨some x, ρ, H ++ [bx], CtrO P g l bx⟩ else none
    | _, _ => none

/-- A row some of whose things are wiped. -/
def clr (τ : Ty) (xs : List τ.den) (i n : Nat) : List τ.den := xs.take i ++ List.replicate n τ.dflt ++ xs.drop (i + n)

/-- What an operation does that writes or lays blocks. 'frz': a slice literal is taken as data. -/
def stOp (E : TEnv P) (frz : Bool) (ρ : Fr) (H : List Box) : Op → Option Res
  | .alloc e => match E.td e with
    | some d => some ⟨some (.ptr H.length 0), ρ, H ++ [.cells d.zero], True⟩
    | none => none
  | .box e v => match E.td e, evA ρ v with
    | some d, some x => match storeC d x with
      | some xc => some ⟨some (.ptr H.length 0), ρ, H ++ [.cells xc], True⟩
      | none => none
    | _, _ => none
  | .buildSlice t n parts => match E.el t, evP ρ parts.toList with
    | some (e, τ), some l => match elems τ H l with
      | some xs => if l.map (·.1) = List.range n ∧ n ≤ 1000 then
          (if frz = true then some ⟨some (.d (.sl τ) xs), ρ, H, True⟩ else some ⟨some (.orow H.length), ρ, H ++ [.orow e τ xs], True⟩)
        else none
      | none => none
    | _, _ => none
  | .makeSlice t l c => match E.el t, evA ρ l, evA ρ c with
    | some (e, τ), some (.d (.int _) n), some (.d (.int _) m) => some ⟨some (.mrow H.length), ρ, H ++ [.mrow e τ (List.replicate n.toNat τ.dflt)], inM m n⟩
    | _, _, _ => none
  | .store t y z => match E.td t, evA ρ y, evA ρ z with
    | some d, some (.ptr b o), some x => match storeC d x, H[b]? with
      | some xc, some (.cells cs) => if o + xc.length ≤ cs.length then some ⟨none, ρ, H.set b (.cells (putCells cs o xc)), True⟩ else none
      | _, _ => none
    | some d, some (.mptr b k i o), some x => match storeC d (frozA H x), H[b]? with
      | some xc, some (.mrow e τ xs) => if k = τ.size ∧ o + xc.length ≤ k then
          (match ofCells τ (putCells ((τ.cells (at0 τ xs i)).map DV.av) o xc) with
           | some y => some ⟨none, ρ, H.set b (.mrow e τ (xs.set i y)), i < xs.length⟩
           | none => none) else none
      | _, _ => none
    | _, _, _ => none
  | .call { callee := .builtin .append, args := as, argTypes := ts } => match as.toList, ts.toList with
    | [y, z], [t, t'] => if t = t' then (match E.el t, evA ρ y, (evA ρ z).map (froz H) with
      | some (e, τ'), some (.orow b), some x => match H[b]? with
        | some (.orow e' τ xs) => if e' = e ∧ τ.size = τ'.size then
            (match asTy (.sl τ) x with
             | some ys => some ⟨some (.orow b), snapF b τ xs ρ, (snapH b τ xs H).set b (.orow e τ (xs ++ ys)), xs.length + ys.length ≤ big⟩
             | none => none) else none
        | _ => none
      | some (e, τ), some .nilsl, some x => match asTy (.sl τ) x with
        | some ys => some ⟨some (.orow H.length), snapF H.length τ [] ρ, (snapH H.length τ [] (H ++ [.orow e τ []])).set H.length (.orow e τ ys), ys.length ≤ big⟩
        | none => none
      | _, _, _ => none) else none
    | _, _ => none
  | .call { callee := .builtin .clear, args := as, argTypes := ts } => match as.toList, ts.toList with
    | [y], [t] => match E.el t, evA ρ y with
      | some (_, τ'), some (.msl b k i n) => match H[b]? with
        | some (.mrow e τ xs) => if k = τ.size ∧ τ' = τ then some ⟨some (.tup []), ρ, H.set b (.mrow e τ (clr τ xs i n)), i + n ≤ xs.length⟩ else none
        | _ => none
      | _, _ => none
    | _, _ => none
  | _ => none

section
variable {fz fz' : Fz} {β β' : List Value} {w w' : World} {m0 N : Nat} {a : Act} {ρ : Fr} {H : List Box} {S : Start}

theorem wp_value {o : Oper} {v : Value} {K : Act → World → Prop} {Q : Exit → Act → World → Prop} (h : (execOp a.eval o).run P w = .ok (.value v) w') (hK : K (a.put o.dst v) w') : o.wp P a w K Q := by
  unfold Oper.wp; rw [h]; exact hK
theorem wp_skipped {o : Oper} {K : Act → World → Prop} {Q : Exit → Act → World → Prop} (h : (execOp a.eval o).run P w = .ok .skip w') (hK : K (a.put o.dst undef) w') : o.wp P a w K Q := by
  unfold Oper.wp; rw [h]; exact hK

theorem storeC_ok (hone : ∀ (b : Nat) (g : Value), β[b]? = some g → g.oneCell' = true) {d : TD} (h1 : d.agg = false → d.size = 1) {x : AV} {xc : List AV} {v : Value} (h : storeC d x = some xc) (hr : RdA fz β w x v) :
    RdL fz β w xc v.cells.toList ∧ xc.length = d.size ∧ ∀ u ∈ v.cells.toList, u.oneCell' = true := by
  unfold storeC at h
  split at h
  · rename_i ys
    split at h
    · rename_i hc
      cases h
      simp only [RdA] at hr
      obtain ⟨vs, rfl, hl⟩ := hr
      refine ⟨hl, hc.2.1, fun u hu => ?_⟩
      simp only [Value.cells] at hu
      obtain ⟨i, hi, rfl⟩ := List.getElem_of_mem hu
      have hlen := hl.length
      have hi' : i < vs.length := hi
      obtain ⟨v', hv', hra⟩ := hl.get i _ (List.getElem?_eq_getElem (by omega))
      rw [List.getElem?_eq_getElem hi'] at hv'
      cases hv'
      exact hra.one hone (List.all_eq_true.1 hc.2.2 _ (List.getElem_mem _))
    · cases h
  · rename_i x hx
    split at h
    · rename_i hc
      cases h
      have ho := hr.one hone hc.2
      rw [Value.cells_one ho]
      refine ⟨?_, (h1 hc.1).symm, fun u hu => by simp at hu; subst hu; exact ho⟩
      simp only [RdL]; exact ⟨v, [], rfl, hr, rfl⟩
    · cases h

theorem frozA_ok (hb : BoxesOk fz β w H) {x : AV} {v : Value} (h : RdA fz β w x v) : RdA fz β w (frozA H x) v := by
  unfold frozA
  split
  · simp only [RdA] at h ⊢
    obtain ⟨vs, h1, h2⟩ := h
    exact ⟨vs, h1, frozL_ok hb h2⟩
  · exact froz_ok hb h

theorem ofAV_ok (hone : ∀ (b : Nat) (g : Value), β[b]? = some g → g.oneCell' = true) {t : Ty} {x : AV} {y : t.den} {v : Value} (h : ofAV t x = some y) (hr : RdA fz β w x v) : ElR fz w t y v.cells.toList := by
  unfold ofAV at h
  cases x with
  | agg cs =>
    simp only [RdA] at hr
    obtain ⟨vs, rfl, hl⟩ := hr
    exact ofCells_ok h hl
  | _ =>
    simp only [AV.cs] at h
    have he : ElR fz w t y [v] := ofCells_ok h (by simp only [RdL]; exact ⟨v, [], rfl, hr, rfl⟩)
    have := ElR_one he v (by simp)
    rw [Value.cells_one this]
    exact he

/-- Slice literals: the cells of the parts, one behind the other. -/
theorem fold_put : ∀ (us : List Value) (off j : Nat) (cells : Array Value), off + j + us.length ≤ cells.size →
    ((us.zipIdx j).foldl (fun cs p => cs.setIfInBounds (off + p.2) p.1) cells).toList = cells.toList.take (off + j) ++ us ++ cells.toList.drop (off + j + us.length)
  | [], off, j, cells, _ => by simp
  | u :: us, off, j, cells, h => by
    simp only [List.length_cons] at h
    rw [List.zipIdx_cons, List.foldl_cons, fold_put us off (j + 1) _ (by simp; omega)]
    rw [Array.toList_setIfInBounds]
    have := list_seg_step cells.toList (off + j) u us (by simp; omega)
    simpa [Nat.add_assoc] using this

theorem fill_rows {k : Nat} : ∀ (vs : List Value) (m : Nat) (cells : Array Value), (∀ v ∈ vs, v.cells.size = k) → (m + vs.length) * k ≤ cells.size →
    ∃ out, Instr.fill (fun i => some (i * k, k)) cells ((List.range' m vs.length).zip vs) = some out ∧
      out.toList = cells.toList.take (m * k) ++ vs.flatMap (fun v => v.cells.toList) ++ cells.toList.drop ((m + vs.length) * k)
  | [], m, cells, _, _ => ⟨cells, by simp [Instr.fill], by simp⟩
  | v :: vs, m, cells, h1, h2 => by
    have hv := h1 v (by simp)
    simp only [List.length_cons] at h2
    have hk : (m + (vs.length + 1)) * k = m * k + k + vs.length * k := by rw [Nat.add_mul, Nat.add_mul]; omega
    rw [hk] at h2
    simp only [List.length_cons, List.range'_succ, List.zip_cons_cons, Instr.fill]
    have hno : ¬ (m * k + v.cells.size > cells.size) := by omega
    simp only [hv, ne_eq, not_true_eq_false, decide_false, Bool.false_or, decide_eq_true_eq, hno, if_false]
    have hf : (v.cells.zipIdx.foldl (fun cs (x : Value × Nat) => cs.setIfInBounds (m * k + x.2) x.1) cells).toList = cells.toList.take (m * k) ++ v.cells.toList ++ cells.toList.drop (m * k + k) := by
      rw [← Array.foldl_toList, Array.toList_zipIdx]
      have := fold_put v.cells.toList (m * k) 0 cells (by simp; omega)
      simpa [hv] using this
    have hsz : (v.cells.zipIdx.foldl (fun cs (x : Value × Nat) => cs.setIfInBounds (m * k + x.2) x.1) cells).size = cells.size := by
      rw [← Array.length_toList, hf]; simp [hv]; omega
    obtain ⟨out, h3, h4⟩ := fill_rows vs (m + 1) (v.cells.zipIdx.foldl (fun cs (x : Value × Nat) => cs.setIfInBounds (m * k + x.2) x.1) cells) (fun u hu => h1 u (by simp [hu])) (by rw [hsz, Nat.add_mul, Nat.add_mul]; omega)
    have hno' : (decide (m * k + k > cells.size)) = false := by simp; omega
    refine ⟨out, ?_, ?_⟩
    · rw [if_neg (by omega)]
      exact h3
    · rw [h4, hf]
      have e1 : (m + 1) * k = m * k + k := by rw [Nat.add_mul]; omega
      have e2 : (m + 1 + vs.length) * k = m * k + k + vs.length * k := by rw [Nat.add_mul, Nat.add_mul]; omega
      have l1 : (cells.toList.take (m * k) ++ v.cells.toList).length = m * k + k := by simp [hv]; omega
      rw [e1, e2, hk, List.take_append_of_le_length (by omega), List.take_of_length_le (by omega), List.drop_append, l1]
      rw [List.drop_eq_nil_of_le (by omega)]
      simp [List.drop_drop, Nat.add_assoc]

theorem elems_ok (hb : BoxesOk fz β w H) {τ : Ty} : ∀ {l : List (Nat × AV)} {xs : List τ.den} {vs : List Value}, elems τ H l = some xs → RdL fz β w (l.map (·.2)) vs →
    ElsR fz w τ xs (vs.flatMap fun v => v.cells.toList) ∧ (∀ v ∈ vs, v.cells.size = τ.size) ∧ xs.length = l.length
  | [], xs, vs, h, hr => by
    simp only [elems, Option.some.injEq] at h; subst h
    simp only [List.map_nil, RdL] at hr; subst hr
    exact ⟨rfl, by simp, rfl⟩
  | (i, x) :: l, xs, vs, h, hr => by
    simp only [elems, Option.bind_eq_bind, Option.bind_eq_some_iff] at h
    obtain ⟨y, hy, ys, hys, he⟩ := h
    cases he
    simp only [List.map_cons, RdL] at hr
    obtain ⟨v, r, rfl, h2, h3⟩ := hr
    have h4 := ofAV_ok hb.one hy (frozA_ok hb h2)
    obtain ⟨h5, h6, h7⟩ := elems_ok hb hys h3
    refine ⟨⟨_, _, by simp, h4, h5⟩, fun u hu => ?_, by simp [h7]⟩
    rcases List.mem_cons.1 hu with hu | hu
    · subst hu; rw [← Array.length_toList]; exact h4.length
    · exact h6 u hu

theorem evP_raw (hf : FrR fz β w N a ρ) : ∀ {ps : List (Nat × Operand)} {l : List (Nat × AV)}, evP ρ ps = some l →
    (l.map fun p => p.1) = (ps.map fun p => p.1) ∧ RdL fz β w (l.map fun p => p.2) (ps.map fun p => a.eval p.2)
  | [], l, h => by simp only [evP, Option.some.injEq] at h; subst h; simp [RdL]
  | (i, x) :: ps, l, h => by
    simp only [evP, Option.bind_eq_bind] at h
    cases h1 : evA ρ x with
    | none => simp [h1] at h
    | some y =>
      cases h2 : evP ρ ps with
      | none => simp [h1, h2] at h
      | some r =>
        simp [h1, h2] at h; subst h
        obtain ⟨h3, h4⟩ := evP_raw hf h2
        refine ⟨by simp [h3], ?_⟩
        simp only [List.map_cons, RdL]
        exact ⟨_, _, rfl, evA_ok hf h1, h4⟩

theorem run_buildSlice (E : TEnv P) (hf : FrR fz β w N a ρ) (hb : BoxesOk fz β w H) {t : TypeId} {n : Nat} {parts : Array (Nat × Operand)} {e : TypeId} {τ : Ty} {l : List (Nat × AV)} {xs : List τ.den}
    (he : E.el t = some (e, τ)) (hl : evP ρ parts.toList = some l) (hx : elems τ H l = some xs) (hn : l.map (·.1) = List.range n) (hn2 : n ≤ 1000) :
    ∃ vals, (Instr.buildSlice t n (parts.map fun (i, x) => (i, a.eval x))).run P w = .ok (.slice (some ⟨w.heap.size, 0, none⟩) n n) (w.alloc (.cells vals e)) ∧ ElsR fz w τ xs vals.toList ∧ xs.length = n := by
  have heo := E.elok t e τ he
  obtain ⟨i, z, hi1, hi2, hi3, hi4, hi5, hi6⟩ := heo.info
  obtain ⟨h1, h2⟩ := evP_raw hf hl
  obtain ⟨h3, h4, h5⟩ := elems_ok hb hx h2
  have hlen : l.length = n := by have := congrArg List.length hn; simpa using this
  have hzs : z.cells.size = τ.size := by have := (hi6 (fun _ _ => False) w).length; rw [Array.length_toList] at this; exact this
  have hτ : 0 < τ.size ∧ τ.size ≤ 3 := by cases τ <;> simp [Ty.size]
  have hpl : parts.toList.length = n := by have := congrArg List.length h1; simp at this; simpa [hlen] using this.symm
  have hparts : (parts.map fun (i, x) => (i, a.eval x)).toList = (List.range' 0 (parts.toList.map fun p => a.eval p.2).length).zip (parts.toList.map fun p => a.eval p.2) := by
    rw [List.length_map, hpl, ← List.range_eq_range', ← hn]
    rw [show l.map (·.1) = l.map fun p => p.1 from rfl, h1, List.zip_map', Array.toList_map]
  have hcs : n * τ.size ≤ 16777216 := by
    have : n * τ.size ≤ 1000 * 3 := Nat.mul_le_mul hn2 hτ.2
    omega
  let zeros : Array Value := (Array.range (n * τ.size)).map (z.cells[· % z.cells.size]!)
  obtain ⟨out, h6, h7⟩ := fill_rows (k := τ.size) (parts.toList.map fun p => a.eval p.2) 0 zeros h4 (by simp [zeros]; rw [show parts.size = n from by simpa using hpl]; exact Nat.le_refl _)
  refine ⟨out, ?_, ?_, by rw [h5, hlen]⟩
  · have hno : ¬ (16777216 < n * τ.size) := by omega
    by_cases hz : n * τ.size = 0
    · have hn0 : n = 0 := by rcases Nat.mul_eq_zero.1 hz with h | h <;> omega
      have hz0 : zeros = #[] := by simp [zeros, hz]
      rw [← hparts, hz0] at h6
      subst hn0
      simp [Instr.buildSlice, run_underlying heo.under, sizeOf, typeInfo, hi1, hi3]
      simp at h6
      simp [show Array.range 0 = #[] from rfl, h6, newRow]
    · rw [← hparts] at h6
      simp [Instr.buildSlice, run_underlying heo.under, sizeOf, typeInfo, zeroValue, hi1, hi2, hi3, hno, hz]
      have h6' : Instr.fill (fun i => some (i * τ.size, τ.size)) (Array.map (fun x => z.cells[x % z.cells.size]!) (Array.range (n * τ.size))) ((parts.map fun (i, x) => (i, a.eval x)).toList) = some out := h6
      simp at h6'
      simp [h6', newRow]
  · rw [h7]
    have : (0 + (parts.toList.map fun p => a.eval p.2).length) * τ.size = zeros.toList.length := by simp [zeros]; rw [show parts.size = n from by simpa using hpl]
    rw [this, List.drop_length]
    simpa using h3

end
end Go.Proofs.YtgapiecbinplfaaGreat
/- Operations that write, lay blocks, or call: the model's run does what the function says. -/
namespace Go.Proofs.YtgapiecbinplfaaGreat
open Go.RowKit

variable {P : Program} {fz fz' : Fz} {β β' : List Value} {w w' : World} {m0 N : Nat} {a : Act} {ρ : Fr} {H : List Box} {S : Start}

/-- What has been shown of an operation. -/
def OpOk (P : Program) (S : Start) (m0 N : Nat) (o : Oper) (a : Act) (w : World) (r : Res) : Prop :=
  ∀ (K : Act → World → Prop) (Q : Exit → Act → World → Prop),
    (∀ fz' β' w' v, Rel S m0 N fz' β' w' a r.ρ r.H → (∀ x, r.x = some x → RdA fz' β' w' x v) → K (a.put o.dst v) w') → o.wp P a w K Q

theorem callArgs_ok (h : Rel S m0 N fz β w a ρ H) {f : Operand} {args : Array Operand} {g : Nat} {l : List AV} (hc : callArgs ρ H f args = some (g, l)) :
    ∃ caps : List Value, a.eval f = .func (.func g) #[] caps.toArray ∧ RdL fz β w l ((args.toList.map a.eval) ++ caps) := by
  unfold callArgs at hc
  split at hc
  · rename_i g' caps l' hf hl
    cases hc
    have hr := evA_ok h.fr hf
    simp only [RdA] at hr
    obtain ⟨vs, hv, hcr⟩ := hr
    refine ⟨vs, hv, (frozL_ok h.bx (evL_ok h.fr hl)).append ?_⟩
    clear hv hf
    induction caps generalizing vs with
    | nil => cases hcr; simp [RdL]
    | cons c cs ih =>
      obtain ⟨blk, r, rfl, h2, h3⟩ := hcr
      simp only [List.map_cons, RdL]
      exact ⟨_, r, rfl, by simp only [RdA]; exact ⟨blk, h2, rfl⟩, ih r h3⟩
  · cases hc

theorem callOp_ok (E : TEnv P) (h : Rel S m0 N fz β w a ρ H) {o : Oper} {f : Operand} {args : Array Operand} {ts : Array TypeId} (ho : o.op = .call { callee := .value f, args := args, argTypes := ts }) {co : CO} {r : Res}
    (hs : callOp E ρ H f args co = some r) (hob : r.ob) : OpOk P S m0 N o a w r := by
  intro K Q hK
  have run : ∀ (g : Nat) (caps : List Value), a.eval f = .func (.func g) #[] caps.toArray → E.fnb g = true → (execOp a.eval o).run P w = .ok (.enter g ((args.toList.map a.eval) ++ caps).toArray) w := by
    intro g caps hf hg
    have := E.fnok g hg ((args.toList.map a.eval) ++ caps).toArray w
    have e : (args.map a.eval ++ caps.toArray) = ((args.toList.map a.eval) ++ caps).toArray := by apply Array.ext'; simp
    simp only [execOp, ho, resolve, hf, Deferred.ofValue, Sem.run_bind, Sem.run_pure, Result.andThen_ok, invoke, Array.empty_append]
    rw [e]; exact this
  cases co with
  | pure r0 =>
    simp only [callOp] at hs
    split at hs
    · rename_i g l hc
      split at hs
      · rename_i hcond
        cases hs
        obtain ⟨caps, hf, hr⟩ := callArgs_ok h hc
        unfold Oper.wp
        rw [run g caps hf hcond.1]
        refine (h.callPure hob ⟨hcond.2.1, hcond.2.2⟩ hr).mono fun e w' ⟨v, fz', he, hv, hb', ha', hz'⟩ => ?_
        subst he
        exact hK fz' β w' v (h.afterPure hb' ha' hz') (fun x hx => by cases hx; exact hv)
      · cases hs
    · cases hs
  | full σ args0 Hin r0 Hout =>
    simp only [callOp] at hs
    split at hs
    · rename_i g l hc
      split at hs
      · rename_i hcond
        cases hs
        obtain ⟨caps, hf, hr⟩ := callArgs_ok h hc
        obtain ⟨h1, h2, h3, h4⟩ := hob
        unfold Oper.wp
        rw [run g caps hf hcond]
        rw [h2] at hr
        refine (h.call h1 h3 h4 hr).mono fun e w' ⟨v, fz', he, hv, hb', ha', hz'⟩ => ?_
        subst he
        exact hK fz' β w' v (h.after h3 ⟨h4.1, h4.2.1⟩ hb' ha' hz') (fun x hx => by cases hx; exact hv)
      · cases hs
    · cases hs
  | own bx =>
    simp only [callOp] at hs
    split at hs
    · rename_i g l x hc hx
      split at hs
      · rename_i hcond
        cases hs
        obtain ⟨caps, hf, hr⟩ := callArgs_ok h hc
        unfold Oper.wp
        rw [run g caps hf hcond.1]
        refine (h.callOwn hob hcond.2 hr).mono fun e w' ⟨v, fz', he, h1, hb', hn, ha', hz'⟩ => ?_
        subst he
        refine hK fz' _ w' v (h.afterOwn h1 hb' hn ha' hz') (fun y hy => ?_)
        cases hy
        have hl := h.bx.len
        cases bx with
        | orow => simp only [Box.named, Option.some.injEq] at hx; subst hx; simp only [RdA]; rw [← hl]; simp
        | mrow => simp only [Box.named, Option.some.injEq] at hx; subst hx; simp only [RdA]; rw [← hl]; simp
        | _ => simp [Box.named] at hx
      · cases hs
    · cases hs

theorem st_alloc (E : TEnv P) (h : Rel S m0 N fz β w a ρ H) {o : Oper} {frz : Bool} {e : TypeId} (ho : o.op = .alloc e) {r : Res} (hs : stOp E frz ρ H (.alloc e) = some r) : OpOk P S m0 N o a w r := by
  intro K Q hK
  simp only [stOp] at hs
  split at hs
  · rename_i d hd
    cases hs
    obtain ⟨z, hz1, hz2, _⟩ := (E.tdok e d hd).zero
    have hrun : (execOp a.eval o).run P w = .ok (.value (.pointer (some ⟨w.heap.size, 0, none⟩))) (w.alloc (.cells z.cells e)) := by
      simp [execOp, ho, Instr.alloc, hz1, newVar, newRow]
    refine wp_value hrun (hK fz _ _ _ (h.newVar (cs := d.zero) (vs := z.cells.toList) e (hz2 fz β w)) (fun x hx => ?_))
    cases hx
    simp only [RdA]
    exact ⟨w.heap.size, by unfold BAt; rw [← h.bx.len]; simp, rfl⟩
  · cases hs

theorem st_box (E : TEnv P) (h : Rel S m0 N fz β w a ρ H) {o : Oper} {frz : Bool} {e : TypeId} {y : Operand} (ho : o.op = .box e y) {r : Res} (hs : stOp E frz ρ H (.box e y) = some r) : OpOk P S m0 N o a w r := by
  intro K Q hK
  simp only [stOp] at hs
  split at hs
  · rename_i d x hd hx
    split at hs
    · rename_i xc hxc
      cases hs
      obtain ⟨h1, h2, h3⟩ := storeC_ok h.bx.one (E.tdok e d hd).one hxc (evA_ok h.fr hx)
      have hrun : (execOp a.eval o).run P w = .ok (.value (.pointer (some ⟨w.heap.size, 0, none⟩))) (w.alloc (.cells (a.eval y).cells e)) := by
        simp [execOp, ho, Instr.box, newVar, newRow]
      refine wp_value hrun (hK fz _ _ _ (by simpa using h.newVar (cs := xc) (vs := (a.eval y).cells.toList) e h1) (fun x hx => ?_))
      cases hx
      simp only [RdA]
      exact ⟨w.heap.size, by unfold BAt; rw [← h.bx.len]; simp, rfl⟩
    · cases hs
  · cases hs

theorem st_buildSlice (E : TEnv P) (h : Rel S m0 N fz β w a ρ H) {o : Oper} {frz : Bool} {t : TypeId} {n : Nat} {parts : Array (Nat × Operand)} (ho : o.op = .buildSlice t n parts) {r : Res}
    (hs : stOp E frz ρ H (.buildSlice t n parts) = some r) : OpOk P S m0 N o a w r := by
  intro K Q hK
  simp only [stOp] at hs
  split at hs
  · rename_i e τ l he hl
    split at hs
    · rename_i xs hx
      split at hs
      · rename_i hc
        obtain ⟨vals, h1, h2, h3⟩ := run_buildSlice E h.fr h.bx he hl hx hc.1 hc.2
        have hrun : (execOp a.eval o).run P w = .ok (.value (.slice (some ⟨w.heap.size, 0, none⟩) n n)) (w.alloc (.cells vals e)) := by
          have := run_v h1
          simpa only [execOp, ho] using this
        have hm : xs.length ≤ maxLen := by rw [h3]; have := hc.2; simp only [maxLen]; omega
        split at hs
        · cases hs
          obtain ⟨_, h4, h5⟩ := h.newData (vals := vals.toList) e h2 hm
          refine wp_value hrun (hK _ β _ _ h4 (fun x hx => ?_))
          cases hx
          rw [h3] at h5
          exact h5
        · cases hs
          obtain ⟨fz', h4⟩ := h.newRow (vals := vals.toList) e h2 hm
          refine wp_value hrun (hK fz' _ _ _ h4 (fun x hx => ?_))
          cases hx
          simp only [RdA]
          rw [← h.bx.len, h3]; simp
      · cases hs
    · cases hs
  · cases hs

theorem els_replicate {τ : Ty} {cs : List Value} (hc : ElR fz w τ τ.dflt cs) : ∀ n, ElsR fz w τ (List.replicate n τ.dflt) ((List.replicate n cs).flatten)
  | 0 => rfl
  | n + 1 => ⟨cs, _, rfl, hc, els_replicate hc n⟩

theorem madeCells_eq (z : Array Value) (n : Nat) (hz : 0 < z.size) : (madeCells z (n * z.size)).toList = (List.replicate n z.toList).flatten := by
  apply List.ext_getElem?
  intro j
  induction n generalizing j with
  | zero => simp [madeCells]
  | succ n ih =>
    rw [List.replicate_succ, List.flatten_cons]
    by_cases hj : j < z.size
    · rw [List.getElem?_append_left (by simpa using hj)]
      have h1 : j < (n + 1) * z.size := by rw [Nat.add_mul]; omega
      simp [madeCells, h1, Nat.mod_eq_of_lt hj, hj]
    · rw [List.getElem?_append_right (by simpa using Nat.le_of_not_lt hj), Array.length_toList, ← ih (j - z.size)]
      have e : (j - z.size) % z.size = j % z.size := (Nat.mod_eq_sub_mod (Nat.le_of_not_lt hj)).symm
      by_cases h1 : j < (n + 1) * z.size
      · have h2 : j - z.size < n * z.size := by rw [Nat.add_mul] at h1; omega
        simp [madeCells, h1, h2, e]
      · have h2 : ¬ (j - z.size < n * z.size) := by rw [Nat.add_mul] at h1; omega
        simp [madeCells, h1, h2]

theorem st_makeSlice (E : TEnv P) (h : Rel S m0 N fz β w a ρ H) {o : Oper} {frz : Bool} {t : TypeId} {y z : Operand} (ho : o.op = .makeSlice t y z) {r : Res}
    (hs : stOp E frz ρ H (.makeSlice t y z) = some r) (hob : r.ob) : OpOk P S m0 N o a w r := by
  intro K Q hK
  simp only [stOp] at hs
  split at hs
  · rename_i e τ k n k' m he hy hz
    cases hs
    obtain ⟨rfl, h0, hb⟩ := hob
    have heo := E.elok t e τ he
    obtain ⟨i, zz, hi1, hi2, hi3, hi4, hi5, hi6⟩ := heo.info
    have hr1 := evA_ok h.fr hy
    have hr2 := evA_ok h.fr hz
    simp only [RdA, ElR, List.cons.injEq, and_true] at hr1 hr2
    obtain ⟨q, hq⟩ : ∃ q : Int, q = m := ⟨m, rfl⟩
    have hbb : q ≤ ((big : Nat) : Int) := by rw [hq]; exact hb
    have h0 : (0 : Int) ≤ q := by rw [hq]; exact h0
    have hbb : q ≤ (1099511627776 : Int) := by simpa [big] using hbb
    clear hb
    subst hq
    have hbytes : (i.bytes : Int) * q ≤ 281474976710656 := by
      have h1 : (i.bytes : Int) ≤ 128 := by omega
      calc (i.bytes : Int) * q ≤ 128 * q := Int.mul_le_mul_of_nonneg_right h1 h0
        _ ≤ _ := by omega
    have hmk := run_make (P := P) w t e i zz heo.under hi1 hi2 k k' q q h0 (Int.le_refl _) hbytes (by omega)
    have hzs : zz.cells.size = τ.size := by have := (hi6 (fun _ _ => False) w).length; rw [Array.length_toList] at this; exact this
    have hτ : 0 < τ.size := by cases τ <;> simp [Ty.size]
    have hel : ElsR fz w τ (List.replicate q.toNat τ.dflt) (madeCells zz.cells (q.toNat * i.size)).toList := by
      rw [hi3, ← hzs, madeCells_eq _ _ (by omega)]
      exact els_replicate (hi6 fz w) _
    have hrun : (execOp a.eval o).run P w = .ok (.value (.slice (some ⟨w.heap.size, 0, none⟩) q.toNat q.toNat)) (w.alloc (.cells (madeCells zz.cells (q.toNat * i.size)) e)) := by
      have := run_v hmk
      simpa only [execOp, ho, hr1, hr2] using this
    have hrel := h.newMrow e hel (by simp [maxLen]; omega)
    simp only [List.length_replicate] at hrel
    refine wp_value hrun (hK fz _ _ _ hrel (fun x hx => ?_))
    cases hx
    simp only [RdA]
    rw [← h.bx.len]; simp
  · cases hs

theorem run_storeAt {t : TypeId} {d : TD} (hd : TdOk P t d) {blk o : Nat} {v : Value} {cur : Array Value} {e : TypeId} (hg : w.heap[blk]? = some (.cells cur e (0, 0))) (hl : v.cells.toList.length = d.size)
    (ho : o + v.cells.toList.length ≤ cur.size) (h1 : ∀ u ∈ v.cells.toList, u.oneCell' = true) :
    (Instr.storeAt t (.pointer (some ⟨blk, o, none⟩)) v).run P w = .ok () (w.setRow blk (cur.toList.take o ++ v.cells.toList ++ cur.toList.drop (o + v.cells.toList.length)).toArray) := by
  have hst := run_storeCells_at P blk o e v.cells.toList 0 cur w hg (by simpa using ho) h1
  have hsz : v.cells.size = d.size := by rw [← Array.length_toList]; exact hl
  simp only [Nat.add_zero] at hst
  simp [Instr.storeAt, Instr.sureAddr, storeVar, hd.sizeOf, hsz, hst]

theorem putCells_ok {cs xc : List AV} {vs us : List Value} (h : RdL fz β w cs vs) (k : RdL fz β w xc us) (o : Nat) :
    RdL fz β w (putCells cs o xc) (vs.take o ++ us ++ vs.drop (o + us.length)) := by
  unfold putCells
  have hl := k.length
  rw [← hl]
  exact ((h.take o).append k).append (h.drop _)

theorem ElsR.split {τ : Ty} : ∀ {xs : List τ.den} {vs : List Value}, ElsR fz w τ xs vs → ∀ i (h : i < xs.length), ∃ A old B, vs = A ++ old ++ B ∧ A.length = i * τ.size ∧ ElR fz w τ xs[i] old ∧
    ∀ (y : τ.den) (new : List Value), ElR fz w τ y new → ElsR fz w τ (xs.set i y) (A ++ new ++ B)
  | _ :: xs, _, ⟨cs, r, h1, h2, h3⟩, 0, _ => ⟨[], cs, r, by simp [h1], by simp, by simpa using h2, fun y new hy => ⟨new, r, by simp, hy, h3⟩⟩
  | x :: xs, _, ⟨cs, r, h1, h2, h3⟩, i + 1, hi => by
    obtain ⟨A, old, B, h4, h5, h6, h7⟩ := ElsR.split h3 i (by simpa using hi)
    refine ⟨cs ++ A, old, B, by rw [h1, h4]; simp, by rw [List.length_append, h2.length, h5, Nat.add_mul]; omega, by simpa using h6, fun y new hy => ?_⟩
    exact ⟨cs, A ++ new ++ B, by simp, h2, h7 y new hy⟩

theorem st_store (E : TEnv P) (h : Rel S m0 N fz β w a ρ H) {o : Oper} {frz : Bool} {t : TypeId} {y z : Operand} (ho : o.op = .store t y z) {r : Res}
    (hs : stOp E frz ρ H (.store t y z) = some r) (hob : r.ob) : OpOk P S m0 N o a w r := by
  intro K Q hK
  simp only [stOp] at hs
  split at hs
  · rename_i d b o' x hd hy hz
    split at hs
    · rename_i xc cs hxc hcs
      split at hs
      · rename_i hlen
        cases hs
        have hdo := E.tdok t d hd
        have hr := evA_ok h.fr hy
        simp only [RdA] at hr
        obtain ⟨blk, hbt, hv⟩ := hr
        obtain ⟨h1, h2, h3⟩ := storeC_ok h.bx.one hdo.one hxc (evA_ok h.fr hz)
        obtain ⟨blk', vs, e, hg, hheap, hl, hzf⟩ := h.bx.ok b _ _ hbt hcs
        cases hg
        have hvl := hl.length
        have hul := h1.length
        have hst := run_storeAt (w := w) hdo (v := a.eval z) (o := o') hheap (by rw [hul, h2]) (by simp at hvl; omega) h3
        rw [← hv] at hst
        have hrun : (execOp a.eval o).run P w = .ok .skip (w.setRow blk (vs.toList.take o' ++ (a.eval z).cells.toList ++ vs.toList.drop (o' + (a.eval z).cells.toList.length)).toArray) := by
          simp only [execOp, ho, Sem.run_bind, hst, Result.andThen_ok, Sem.run_pure]
        refine wp_skipped hrun (hK fz β _ undef (h.write b _ _ _ blk _ hcs rfl hbt rfl hzf rfl (fun hlat => ⟨blk, _, e, rfl, setRow_heap w blk vs _ e _ hheap, ?_, hzf⟩)) (fun x hx => by cases hx))
        exact (putCells_ok hl h1 o').mono hlat
      · cases hs
    · cases hs
  · rename_i d b k i o' x hd hy hz
    split at hs
    · rename_i xc e τ xs hxc hxs
      split at hs
      · rename_i hc
        split at hs
        · rename_i yy hyy
          cases hs
          have hi : i < xs.length := hob
          have hdo := E.tdok t d hd
          have hr := evA_ok h.fr hy
          simp only [RdA] at hr
          obtain ⟨blk, n, c, hbt, hv⟩ := hr
          obtain ⟨h1, h2, h3⟩ := storeC_ok h.bx.one hdo.one hxc (frozA_ok h.bx (evA_ok h.fr hz))
          obtain ⟨blk', c', vals, hg, hc1, hc2, hheap, ⟨rest, front, hvals, hels⟩, hzf⟩ := h.bx.ok b _ _ hbt hxs
          cases hg
          obtain ⟨A, old, B, e1, e2, e3, e4⟩ := hels.split i hi
          have hul := h1.length
          have hol := e3.length
          have hvlen : vals.toList = A ++ old ++ B ++ rest := by rw [hvals, e1]
          have hsize : vals.size = A.length + old.length + B.length + rest.length := by rw [← Array.length_toList, hvlen]; simp [Nat.add_assoc]
          have hst := run_storeAt (w := w) hdo (v := a.eval z) (o := i * k + o') hheap (by rw [hul, h2]) (by rw [hc.1, hul]; have := hc.2; rw [hc.1] at this; omega) h3
          rw [← hv] at hst
          have hrun : (execOp a.eval o).run P w = .ok .skip (w.setRow blk (vals.toList.take (i * k + o') ++ (a.eval z).cells.toList ++ vals.toList.drop (i * k + o' + (a.eval z).cells.toList.length)).toArray) := by
            simp only [execOp, ho, Sem.run_bind, hst, Result.andThen_ok, Sem.run_pure]
          have hat : at0 τ xs (i : Int) = xs[i] := by rw [at0_get (by omega) (by omega)]; simp
          have hnew : ElR fz w τ yy (old.take o' ++ (a.eval z).cells.toList ++ old.drop (o' + (a.eval z).cells.toList.length)) := by
            have hcells := RdL_cells (β := β) |>.1 (ElR_cells.1 e3)
            rw [← hat] at hcells
            exact ofCells_ok hyy (putCells_ok hcells h1 o')
          have hrow : vals.toList.take (i * k + o') ++ (a.eval z).cells.toList ++ vals.toList.drop (i * k + o' + (a.eval z).cells.toList.length)
              = (A ++ (old.take o' ++ (a.eval z).cells.toList ++ old.drop (o' + (a.eval z).cells.toList.length)) ++ B) ++ rest := by
            have hu : o' + (a.eval z).cells.toList.length ≤ old.length := by rw [hul, hol, ← hc.1]; exact hc.2
            rw [hvlen, hc.1, ← e2]
            simp only [List.append_assoc]
            rw [List.take_length_add_append, Nat.add_assoc, List.drop_length_add_append, List.take_append_of_le_length (by omega), List.drop_append_of_le_length hu]
            simp
          refine wp_skipped hrun (hK fz β _ undef (h.write b _ _ _ blk _ hxs rfl hbt rfl hzf rfl (fun hlat => ⟨blk, c, _, by simp, by simpa using hc1, hc2, setRow_heap w blk vals _ e _ hheap, ⟨rest, _, ?_, ElsR.mono hlat _ _ (e4 yy _ hnew)⟩, hzf⟩)) (fun x hx => by cases hx))
          simpa using hrow
        · cases hs
      · cases hs
    · cases hs
  · cases hs

theorem st_append (E : TEnv P) (h : Rel S m0 N fz β w a ρ H) {o : Oper} {frz : Bool} {as : Array Operand} {ts : Array TypeId} (ho : o.op = .call { callee := .builtin .append, args := as, argTypes := ts }) {r : Res}
    (hs : stOp E frz ρ H (.call { callee := .builtin .append, args := as, argTypes := ts }) = some r) (hob : r.ob) : OpOk P S m0 N o a w r := by
  intro K Q hK
  simp only [stOp] at hs
  split at hs
  · rename_i y z t t' hyz htt
    have has : as = #[y, z] := Array.toList_inj.1 hyz
    have hts : ts = #[t, t'] := Array.toList_inj.1 htt
    subst has; subst hts
    split at hs
    · rename_i htt'
      subst htt'
      split at hs
      · rename_i e τ' b x he hy hz
        split at hs
        · rename_i e' τ xs hxs
          split at hs
          · rename_i hc
            obtain ⟨rfl, hsz⟩ := hc
            split at hs
            · rename_i ys hys
              cases hs
              rw [Option.map_eq_some_iff] at hz
              obtain ⟨av, hz1, hz2⟩ := hz
              have hrz := froz_ok h.bx (evA_ok h.fr hz1)
              rw [hz2] at hrz
              have hel := elR_sl.1 (asTy_ok hys hrz)
              have hry := evA_ok h.fr hy
              simp only [RdA] at hry
              obtain ⟨vals, h1, h2, h3⟩ := h.bx.ok b _ _ hry hxs
              obtain ⟨v', w', news, h4, h5, h6, h7⟩ := append_run (E.elok t e' τ' he) hsz h1 hel hob o.type
              obtain ⟨fz', h8, h9⟩ := h.append hxs hry h1 h2 h3 h5 h6 h7
              have hrun : (execOp a.eval o).run P w = .ok (.value v') w' := by
                simp [execOp, ho, resolve, invoke, builtin, h4]
              refine wp_value hrun (hK fz' _ w' v' h8 (fun x hx => ?_))
              cases hx
              simp only [RdA]; exact h9
            · cases hs
          · cases hs
        · cases hs
      · rename_i e τ x he hy hz
        split at hs
        · rename_i ys hys
          cases hs
          rw [Option.map_eq_some_iff] at hz
          obtain ⟨av, hz1, hz2⟩ := hz
          have hrz := froz_ok h.bx (evA_ok h.fr hz1)
          rw [hz2] at hrz
          have hel := elR_sl.1 (asTy_ok hys hrz)
          have hry := evA_ok h.fr hy
          simp only [RdA] at hry
          have hn := h.addNil e τ
          have hxs : (H ++ [Box.orow e τ []])[H.length]? = some (.orow e τ []) := by simp
          have hg : (β ++ [Value.slice none 0 0])[H.length]? = some (.slice none 0 0) := by rw [← h.bx.len]; simp
          obtain ⟨vals, h1, h2, h3⟩ := hn.bx.ok H.length _ _ hg hxs
          obtain ⟨v', w', news, h4, h5, h6, h7⟩ := append_run (E.elok t e τ he) rfl h1 hel (by simpa using hob) o.type
          obtain ⟨fz', h8, h9⟩ := hn.append hxs hg h1 h2 h3 h5 h6 h7
          have hrun : (execOp a.eval o).run P w = .ok (.value v') w' := by
            simp [execOp, ho, resolve, invoke, builtin, hry, h4]
          refine wp_value hrun (hK fz' _ w' v' (by simpa using h8) (fun x hx => ?_))
          cases hx
          simp only [RdA]; exact h9
        · cases hs
      · cases hs
    · cases hs
  · cases hs

theorem ElsR.append_split {τ : Ty} : ∀ {xs ys : List τ.den} {vs : List Value}, ElsR fz w τ (xs ++ ys) vs → ∃ A B, vs = A ++ B ∧ ElsR fz w τ xs A ∧ ElsR fz w τ ys B
  | [], _, vs, h => ⟨[], vs, rfl, rfl, h⟩
  | x :: xs, ys, vs, ⟨cs, r, h1, h2, h3⟩ => by
    obtain ⟨A, B, h4, h5, h6⟩ := ElsR.append_split (xs := xs) (ys := ys) h3
    exact ⟨cs ++ A, B, by rw [h1, h4, List.append_assoc], ⟨cs, A, rfl, h2, h5⟩, h6⟩

theorem zeroCells_rep (z : Array Value) (n : Nat) (hz : 0 < z.size) : (Builtin.zeroCells z n).toList = (List.replicate n z.toList).flatten := by
  apply List.ext_getElem?
  intro j
  induction n generalizing j with
  | zero => simp [Builtin.zeroCells]
  | succ n ih =>
    rw [List.replicate_succ, List.flatten_cons]
    by_cases hj : j < z.size
    · rw [List.getElem?_append_left (by simpa using hj)]
      have h1 : j < (n + 1) * z.size := by rw [Nat.add_mul]; omega
      simp [Builtin.zeroCells, h1, Nat.mod_eq_of_lt hj, hj]
    · rw [List.getElem?_append_right (by simpa using Nat.le_of_not_lt hj), Array.length_toList, ← ih (j - z.size)]
      have e : (j - z.size) % z.size = j % z.size := (Nat.mod_eq_sub_mod (Nat.le_of_not_lt hj)).symm
      by_cases h1 : j < (n + 1) * z.size
      · have h2 : j - z.size < n * z.size := by rw [Nat.add_mul] at h1; omega
        simp [Builtin.zeroCells, h1, h2, e]
      · have h2 : ¬ (j - z.size < n * z.size) := by rw [Nat.add_mul] at h1; omega
        simp [Builtin.zeroCells, h1, h2]

theorem ElR.ones {τ : Ty} {x : τ.den} {cs : List Value} (h : ElR fz w τ x cs) : ∀ u ∈ cs, u.oneCell' = true := by
  cases τ with
  | int k => cases h; simp [Value.oneCell']
  | bool => cases h; simp [Value.oneCell']
  | str => cases h; simp [Value.oneCell']
  | cell => cases h; simp [cellVals, Value.oneCell']
  | rule => obtain ⟨p, q, rfl, ⟨a, c, rfl, _⟩, ⟨a', c', rfl, _⟩⟩ := h; simp [Value.oneCell']
  | inst => obtain ⟨p, q, r, rfl, ⟨a, c, rfl, _⟩, ⟨a', c', rfl, _⟩, ⟨a'', c'', rfl, _⟩⟩ := h; simp [Value.oneCell']
  | table => obtain ⟨p, q, rfl, ⟨a, c, rfl, _⟩, ⟨a', c', rfl, _⟩⟩ := h; simp [Value.oneCell']
  | bind => obtain ⟨p, rfl, ⟨a, c, rfl, _⟩⟩ := h; simp [Value.oneCell']
  | sl t => obtain ⟨v, rfl, ⟨a, c, rfl, _⟩⟩ := h; simp [Value.oneCell']

theorem st_clear (E : TEnv P) (h : Rel S m0 N fz β w a ρ H) {o : Oper} {frz : Bool} {as : Array Operand} {ts : Array TypeId} (ho : o.op = .call { callee := .builtin .clear, args := as, argTypes := ts }) {r : Res}
    (hs : stOp E frz ρ H (.call { callee := .builtin .clear, args := as, argTypes := ts }) = some r) (hob : r.ob) : OpOk P S m0 N o a w r := by
  intro K Q hK
  simp only [stOp] at hs
  split at hs
  · rename_i y t hy ht
    have has : as = #[y] := Array.toList_inj.1 hy
    have hts : ts = #[t] := Array.toList_inj.1 ht
    subst has; subst hts
    split at hs
    · rename_i e0 τ' b k i n he hy'
      split at hs
      · rename_i e τ xs hxs
        split at hs
        · rename_i hc
          obtain ⟨hk, rfl⟩ := hc
          cases hs
          have hin : i + n ≤ xs.length := hob
          have heo := E.elok t e0 τ' he
          obtain ⟨ti, z, hi1, hi2, hi3, hi4, hi5, hi6⟩ := heo.info
          have hr := evA_ok h.fr hy'
          simp only [RdA] at hr
          obtain ⟨blk, m0', c0, ad, c2, hbt, hv, hc1, hc2, hp⟩ := hr
          have hRd : RdA fz β w (.tup []) (.tuple #[]) := by simp only [RdA, RdL]; exact ⟨[], rfl, rfl⟩
          by_cases hn : n = 0
          · subst hn
            have hH : H.set b (.mrow e τ' (clr τ' xs i 0)) = H := by
              have e1 : clr τ' xs i 0 = xs := by simp [clr]
              rw [e1]
              apply List.ext_getElem?
              intro j
              rw [List.getElem?_set]
              split
              · rename_i hbj; subst hbj
                have := (List.getElem?_eq_some_iff.1 hxs).1
                rw [if_pos this, hxs]
              · rfl
            have hrun : (execOp a.eval o).run P w = .ok (.value (.tuple #[])) w := by
              cases ad <;> simp [execOp, ho, resolve, invoke, builtin, hv, Builtin.clear_, run_underlying heo.under]
            refine wp_value hrun (hK fz β w _ (by rw [hH]; exact h) (fun x hx => ?_))
            cases hx; exact hRd
          · obtain ⟨blk', c', vals, hg, hl1, hl2, hheap, ⟨rest, front, hvals, hels⟩, hzf⟩ := h.bx.ok b _ _ hbt hxs
            cases hg
            have had := hp (by omega)
            have e1 : xs = xs.take i ++ ((xs.drop i).take n ++ xs.drop (i + n)) := by
              rw [← List.drop_drop, List.take_append_drop, List.take_append_drop]
            rw [e1] at hels
            obtain ⟨A, BC, e2, hA, hBC⟩ := hels.append_split
            obtain ⟨B, C, e3, hB, hC⟩ := hBC.append_split
            have lA : A.length = i * τ'.size := by rw [hA.length, List.length_take]; congr 1; omega
            have lB : B.length = n * τ'.size := by rw [hB.length, List.length_take, List.length_drop]; congr 1; omega
            have hzs : z.cells.size = τ'.size := by have := (hi6 (fun _ _ => False) w).length; rw [Array.length_toList] at this; exact this
            have hτ : 0 < τ'.size := by cases τ' <;> simp [Ty.size]
            have hzl : (Builtin.zeroCells z.cells n).toList = (List.replicate n z.cells.toList).flatten := zeroCells_rep _ _ (by omega)
            have hZ : ElsR fz w τ' (List.replicate n τ'.dflt) (Builtin.zeroCells z.cells n).toList := by rw [hzl]; exact els_replicate (hi6 fz w) n
            have lZ : (Builtin.zeroCells z.cells n).toList.length = n * τ'.size := by rw [hZ.length, List.length_replicate]
            have hsize : vals.toList = A ++ (B ++ C) ++ rest := by rw [hvals, e2, e3]
            have hone : ∀ u ∈ (Builtin.zeroCells z.cells n).toList, u.oneCell' = true := by
              intro u hu
              rw [hzl] at hu
              obtain ⟨l, hl, hul⟩ := List.mem_flatten.1 hu
              have := List.eq_of_mem_replicate hl
              subst this
              exact ElR.ones (hi6 fz w) u hul
            have hst := run_storeCells_at P blk (i * k) e (Builtin.zeroCells z.cells n).toList 0 vals w hheap (by rw [← Array.length_toList, hsize, lZ, hk]; simp only [List.length_append, lA, lB]; omega) hone
            simp only [Nat.add_zero] at hst
            have hrun : (execOp a.eval o).run P w = .ok (.value (.tuple #[])) (w.setRow blk (vals.toList.take (i * k) ++ (Builtin.zeroCells z.cells n).toList ++ vals.toList.drop (i * k + (Builtin.zeroCells z.cells n).toList.length)).toArray) := by
              obtain ⟨n', rfl⟩ : ∃ n', n = n' + 1 := ⟨n - 1, by omega⟩
              simp [execOp, ho, resolve, invoke, builtin, hv, had, Builtin.clear_, run_underlying heo.under, zeroValue, typeInfo, hi1, hi2, hst]
            have hrow : vals.toList.take (i * k) ++ (Builtin.zeroCells z.cells n).toList ++ vals.toList.drop (i * k + (Builtin.zeroCells z.cells n).toList.length) = (A ++ (Builtin.zeroCells z.cells n).toList ++ C) ++ rest := by
              rw [hsize, lZ, hk, ← lA, ← lB]
              simp only [List.append_assoc]
              rw [List.take_left, List.drop_append, List.drop_of_length_le (by omega), show A.length + B.length - A.length = B.length by omega, List.drop_left]
              simp
            refine wp_value hrun (hK fz β _ _ (h.write b _ _ _ blk _ hxs rfl hbt rfl hzf rfl (fun hlat => ⟨blk, _, _, ?_, ?_, hl2, setRow_heap w blk vals _ e _ hheap, ⟨rest, A ++ (Builtin.zeroCells z.cells n).toList ++ C, by simpa using hrow, ?_⟩, hzf⟩)) (fun x hx => ?_))
            · simp [clr]; omega
            · simp [clr]; omega
            · exact ElsR.mono hlat _ _ ((hA.append hZ).append hC)
            · cases hx; exact hRd
        · cases hs
      · cases hs
    · cases hs
  · cases hs

/-- ALL TOGETHER. -/
theorem stOp_ok (E : TEnv P) (h : Rel S m0 N fz β w a ρ H) {o : Oper} {frz : Bool} {r : Res} (hs : stOp E frz ρ H o.op = some r) (hob : r.ob) : OpOk P S m0 N o a w r := by
  cases ho : o.op with
  | alloc e => rw [ho] at hs; exact st_alloc E h ho hs
  | box e y => rw [ho] at hs; exact st_box E h ho hs
  | buildSlice t n parts => rw [ho] at hs; exact st_buildSlice E h ho hs
  | makeSlice t y z => rw [ho] at hs; exact st_makeSlice E h ho hs hob
  | store t y z => rw [ho] at hs; exact st_store E h ho hs hob
  | call c =>
    obtain ⟨callee, as, ts⟩ := c
    cases callee with
    | builtin b =>
      cases b with
      | append => rw [ho] at hs; exact st_append E h ho hs hob
      | clear => rw [ho] at hs; exact st_clear E h ho hs hob
      | _ => rw [ho] at hs; simp [stOp] at hs
    | _ => rw [ho] at hs; simp [stOp] at hs
  | _ => rw [ho] at hs; simp [stOp] at hs

end Go.Proofs.YtgapiecbinplfaaGreat
