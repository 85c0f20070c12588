/- Own framework, walks and plain laws behind the laws of this seat, part C12: lemmas, no statement of the seat. -/
import Derived.Test.YtgapiecbinplfaaGreatC11
set_option linter.all false
/- What an atom leans on: the document's set and package ground's marks are one. Plain laws. -/
namespace Go.Proofs.YtgapiecbinplfaaGreat
open Go.RowKit

def Succ (g : Prg) (n m : Int) : Prop := ∃ r ∈ g.rules, r.head = n ∧ (m ∈ r.pos ∨ m ∈ r.neg)
inductive Reach (g : Prg) (n : Int) : Int → Prop
  | refl : Reach g n n
  | step {k m : Int} : Reach g n k → Succ g k m → Reach g n m
theorem Reach.trans {g : Prg} {a b c : Int} (h : Reach g a b) (k : Reach g b c) : Reach g a c := by
  induction k with
  | refl => exact h
  | step _ hs ih => exact .step ih hs
theorem Reach.head {g : Prg} {a b c : Int} (h : Succ g a b) (k : Reach g b c) : Reach g a c := Reach.trans (.step .refl h) k
/-- Is a number an atom's? -/
def InP (g : Prg) (n : Int) : Prop := 0 ≤ n ∧ n < g.atoms.length
theorem Succ.inP {g : Prg} (hr : RightP g) {n m : Int} (h : Succ g n m) : InP g m := by
  obtain ⟨r, h1, _, h3⟩ := h
  rcases h3 with h3 | h3
  · exact (setOk_iff.1 (hr.pos r h1)).1 m h3
  · exact (setOk_iff.1 (hr.neg r h1)).1 m h3
theorem Succ.inH {g : Prg} (hr : RightP g) {n m : Int} (h : Succ g n m) : InP g n := by
  obtain ⟨r, h1, rfl, _⟩ := h
  exact hr.head r h1
theorem Reach.inP {g : Prg} (hr : RightP g) {n m : Int} (hn : InP g n) (h : Reach g n m) : InP g m := by
  cases h with
  | refl => exact hn
  | step _ hs => exact hs.inP hr

/-! ### the document's set -/
theorem putIs_all (l s : List Int) (hs : Ris subI s) : Ris subI (putIs l s) ∧ ∀ k, k ∈ putIs l s ↔ k ∈ s ∨ k ∈ l := by
  obtain ⟨h1, h2, _⟩ := foldl_put subI_ord (l := l) (s := s) (fun _ _ => trivial) (fun _ _ => trivial) hs
  exact ⟨h1, h2⟩
theorem stepR_all {l : List Int} (r : Rule) (hs : Ris subI l) : Ris subI (stepR l r) ∧ ∀ k, k ∈ stepR l r ↔ k ∈ l ∨ (r.head ∈ l ∧ (k ∈ r.pos ∨ k ∈ r.neg)) := by
  unfold stepR
  split
  · rename_i h
    obtain ⟨h1, h2⟩ := putIs_all r.pos l hs
    obtain ⟨h3, h4⟩ := putIs_all r.neg _ h1
    refine ⟨h3, fun k => ?_⟩
    rw [h4, h2]; simp only [h, true_and, or_assoc]
  · rename_i h
    exact ⟨hs, fun k => by simp [h]⟩
theorem roundR_all : ∀ (rs : List Rule) (l : List Int), Ris subI l → Ris subI (roundR rs l) ∧ (∀ k ∈ l, k ∈ roundR rs l) ∧ (∀ r ∈ rs, r.head ∈ l → ∀ k, k ∈ r.pos ∨ k ∈ r.neg → k ∈ roundR rs l) ∧
    ∀ (C : Int → Prop), (∀ k ∈ l, C k) → (∀ r ∈ rs, C r.head → ∀ k, k ∈ r.pos ∨ k ∈ r.neg → C k) → ∀ k ∈ roundR rs l, C k
  | [], l, hs => ⟨hs, fun _ h => h, fun _ h => by simp at h, fun C h _ => h⟩
  | r :: rs, l, hs => by
    obtain ⟨h1, h2⟩ := stepR_all r hs
    obtain ⟨h3, h4, h5, h6⟩ := roundR_all rs (stepR l r) h1
    refine ⟨h3, fun k hk => h4 k ((h2 k).2 (.inl hk)), fun r' hr' hh k hk => ?_, fun C hC hr k hk => ?_⟩
    · rcases List.mem_cons.1 hr' with rfl | hr'
      · exact h4 k ((h2 k).2 (.inr ⟨hh, hk⟩))
      · exact h5 r' hr' ((h2 _).2 (.inl hh)) k hk
    · refine h6 C (fun j hj => ?_) (fun r' hr' => hr r' (List.mem_cons_of_mem _ hr')) k hk
      rcases (h2 j).1 hj with hj | ⟨hh, hj⟩
      · exact hC j hj
      · exact hr r (by simp) (hC _ hh) j hj

theorem ris_len {l : List Int} {N : Nat} (hr : Ris subI l) (h : ∀ x ∈ l, 0 ≤ x ∧ x < N) : l.length ≤ N := by
  have hlt : ∀ i (hi : i < l.length), (i : Int) ≤ l[i] := by
    intro i
    induction i with
    | zero => intro hi; exact (h _ (List.getElem_mem hi)).1
    | succ i ih =>
      intro hi
      have a := ih (by omega)
      have b := Ris.lt hr i (i + 1) (by omega) hi (by omega)
      simp only [subI] at b
      omega
  by_cases c : l.length = 0
  · omega
  · have a := hlt (l.length - 1) (by omega)
    have b := h _ (List.getElem_mem (l := l) (n := l.length - 1) (by omega))
    omega
theorem ris_sublist : ∀ {l m : List Int}, Ris subI l → Ris subI m → (∀ k ∈ l, k ∈ m) → l.Sublist m
  | [], _, _, _, _ => List.nil_sublist _
  | a :: l, [], _, _, h => by have := h a (by simp); simp at this
  | a :: l, b :: m, hl, hm, h => by
    have h1 := List.pairwise_cons.1 hl
    have h2 := List.pairwise_cons.1 hm
    by_cases e : a = b
    · subst e
      refine List.Sublist.cons_cons a (ris_sublist h1.2 h2.2 fun k hk => ?_)
      rcases List.mem_cons.1 (h k (by simp [hk])) with rfl | hk'
      · have := h1.1 k hk; simp [subI] at this
      · exact hk'
    · refine List.Sublist.cons b (ris_sublist hl h2.2 fun k hk => ?_)
      rcases List.mem_cons.1 (h k hk) with rfl | hk'
      · rcases List.mem_cons.1 (h a (by simp)) with ea | ea
        · exact absurd ea e
        · have x1 := h2.1 a ea
          rcases List.mem_cons.1 hk with rfl | hk2
          · exact absurd rfl e
          · have x2 := h1.1 k hk2
            simp only [subI] at x1 x2; omega
      · exact hk'
/-- A set within another one of its length is that. -/
theorem ris_sub_eq {l m : List Int} (hl : Ris subI l) (hm : Ris subI m) (h : ∀ k ∈ l, k ∈ m) (hlen : m.length ≤ l.length) : l = m := by
  exact (ris_sublist hl hm h).eq_of_length_le hlen

structure LeadOk (g : Prg) (n : Int) (l : List Int) : Prop where
  ris : Ris subI l
  has : n ∈ l
  sub : ∀ k ∈ l, Reach g n k
theorem LeadOk.round {g : Prg} {n : Int} {l : List Int} (h : LeadOk g n l) : LeadOk g n (roundR g.rules l) := by
  obtain ⟨h1, h2, _, h4⟩ := roundR_all g.rules l h.ris
  exact ⟨h1, h2 n h.has, h4 (Reach g n) h.sub fun r hr hh k hk => .step hh ⟨r, hr, rfl, hk⟩⟩
theorem leadsF_all {g : Prg} (hr : RightP g) {n : Int} (hn : InP g n) : ∀ (f many : Nat) (l : List Int), LeadOk g n l → g.atoms.length + 1 ≤ f + many → (many = 0 ∨ ∃ p, LeadOk g n p ∧ p.length = many ∧ l = roundR g.rules p) →
    LeadOk g n (leadsF g.rules f many l) ∧ roundR g.rules (leadsF g.rules f many l) = leadsF g.rules f many l
  | 0, many, l, hl, hf, hp => by
    rcases hp with rfl | ⟨p, h1, h2, _⟩
    · omega
    · have := ris_len h1.ris (fun x hx => (h1.sub x hx).inP hr hn)
      omega
  | f + 1, many, l, hl, hf, hp => by
    simp only [leadsF]
    split
    · exact leadsF_all hr hn f l.length _ hl.round (by omega) (.inr ⟨l, hl, rfl, rfl⟩)
    · rename_i hlt
      refine ⟨hl, ?_⟩
      rcases hp with rfl | ⟨p, h1, h2, rfl⟩
      · have := List.length_pos_of_mem hl.has; omega
      · have e := ris_sub_eq h1.ris hl.ris (roundR_all g.rules p h1.ris).2.1 (by omega)
        rw [← e, ← e]
theorem leadsR_all {g : Prg} (hr : RightP g) {n : Int} (hn : InP g n) : Ris subI (leadsR g n) ∧ ∀ k, k ∈ leadsR g n ↔ Reach g n k := by
  obtain ⟨h1, h2⟩ := leadsF_all hr hn (g.atoms.length + 2) 0 [n] ⟨by simp [Ris], by simp, fun k hk => by simp at hk; subst hk; exact .refl⟩ (by omega) (.inl rfl)
  refine ⟨h1.ris, fun k => ⟨h1.sub k, fun hk => ?_⟩⟩
  induction hk with
  | refl => exact h1.has
  | step _ hs ih =>
    obtain ⟨r, hr1, hr2, hr3⟩ := hs
    have := (roundR_all g.rules _ h1.ris).2.2.1 r hr1 (by rw [hr2]; exact ih) _ hr3
    rw [h2] at this
    exact this

/-! ### package ground's marks -/
def zerosN (s : List Int) : Nat := s.countP fun x => decide (x ≤ 0)
def Mk (s : List Int) (k : Int) : Prop := 0 < gi s k
theorem gi_set {s : List Int} {n k : Int} (hn : 0 ≤ n ∧ n < s.length) (hk : 0 ≤ k) (x : Int) : gi (s.set n.toNat x) k = if k = n then x else gi s k := by
  simp only [gi, List.getD_eq_getElem?_getD, List.getElem?_set]
  by_cases e : k = n
  · subst e; rw [if_pos rfl, if_pos rfl, if_pos (by omega)]; rfl
  · rw [if_neg (by omega), if_neg e]
theorem zeros_set {s : List Int} {n : Int} (hn : 0 ≤ n ∧ n < s.length) (h : ¬ Mk s n) : zerosN (s.set n.toNat 1) + 1 = zerosN s := by
  have hi : n.toNat < s.length := by omega
  have h0 : s[n.toNat] ≤ 0 := by
    simp only [Mk, gi, List.getD_eq_getElem?_getD, List.getElem?_eq_getElem hi, Option.getD_some] at h; omega
  simp only [zerosN]
  have e : s = s.take n.toNat ++ s[n.toNat] :: s.drop (n.toNat + 1) := by rw [← List.drop_eq_getElem_cons hi, List.take_append_drop]
  have e2 : s.set n.toNat 1 = s.take n.toNat ++ 1 :: s.drop (n.toNat + 1) := by rw [List.set_eq_take_append_cons_drop, if_pos hi]
  rw [e2]
  conv => rhs; rw [e]
  simp only [List.countP_append, List.countP_cons, h0]
  simp; omega

structure MarkOk (g : Prg) (s s' : List Int) (from_ : Int → Prop) : Prop where
  len : s'.length = s.length
  mono : ∀ k, InP g k → Mk s k → Mk s' k
  zer : zerosN s' ≤ zerosN s
  only : ∀ k, InP g k → Mk s' k → Mk s k ∨ ∃ j, from_ j ∧ Reach g j k
  clos : ∀ k, InP g k → Mk s' k → ¬ Mk s k → ∀ m, Succ g k m → Mk s' m
theorem MarkOk.refl {g : Prg} {s : List Int} {c : Int → Prop} : MarkOk g s s c := ⟨rfl, fun _ _ h => h, Nat.le_refl _, fun _ _ h => .inl h, fun _ _ h h' => absurd h h'⟩
theorem MarkOk.trans {g : Prg} (hr : RightP g) {s s' s'' : List Int} {c d e : Int → Prop} (h : MarkOk g s s' c) (k : MarkOk g s' s'' d) (hc : ∀ j, c j → e j) (hd : ∀ j, d j → e j) : MarkOk g s s'' e := by
  refine ⟨k.len.trans h.len, fun n hn hm => k.mono n hn (h.mono n hn hm), Nat.le_trans k.zer h.zer, fun n hn hm => ?_, fun n hn hm hs m hsu => ?_⟩
  · rcases k.only n hn hm with h1 | ⟨j, h1, h2⟩
    · rcases h.only n hn h1 with h1 | ⟨j, h1, h2⟩
      · exact .inl h1
      · exact .inr ⟨j, hc j h1, h2⟩
    · exact .inr ⟨j, hd j h1, h2⟩
  · by_cases h' : Mk s' n
    · exact k.mono m (hsu.inP hr) (h.clos n hn h' hs m hsu)
    · exact k.clos n hn hm h' m hsu

theorem fold_mark {g : Prg} (hr : RightP g) {f : Nat} (ih : ∀ (n : Int) (s : List Int), s.length = g.atoms.length → InP g n → zerosN s ≤ f → MarkOk g s (markF g f n s) (· = n) ∧ Mk (markF g f n s) n) :
    ∀ (ks : List Int) (s : List Int), s.length = g.atoms.length → (∀ k ∈ ks, InP g k) → zerosN s ≤ f → MarkOk g s (ks.foldl (fun s k => markF g f k s) s) (· ∈ ks) ∧ ∀ k ∈ ks, Mk (ks.foldl (fun s k => markF g f k s) s) k
  | [], s, _, _, _ => ⟨.refl, fun _ h => by simp at h⟩
  | a :: ks, s, hl, hk, hz => by
    have ha := hk a (by simp)
    obtain ⟨h1, h2⟩ := ih a s hl ha hz
    obtain ⟨h3, h4⟩ := fold_mark hr ih ks (markF g f a s) (h1.len.trans hl) (fun k h => hk k (by simp [h])) (Nat.le_trans h1.zer hz)
    refine ⟨h1.trans hr h3 (fun j e => by simp [e]) (fun j e => by simp [e]), fun k hkm => ?_⟩
    rcases List.mem_cons.1 hkm with rfl | hkm
    · exact h3.mono k ha h2
    · exact h4 k hkm
theorem fold_rules {g : Prg} (hr : RightP g) {f : Nat} (ih : ∀ (n : Int) (s : List Int), s.length = g.atoms.length → InP g n → zerosN s ≤ f → MarkOk g s (markF g f n s) (· = n) ∧ Mk (markF g f n s) n) :
    ∀ (is : List Int) (s : List Int), s.length = g.atoms.length → (∀ i ∈ is, 0 ≤ i ∧ i < g.rules.length) → zerosN s ≤ f →
      MarkOk g s (is.foldl (fun s i => ((gr g.rules i).pos ++ (gr g.rules i).neg).foldl (fun s k => markF g f k s) s) s) (fun k => ∃ i ∈ is, k ∈ (gr g.rules i).pos ++ (gr g.rules i).neg) ∧
      ∀ i ∈ is, ∀ k ∈ (gr g.rules i).pos ++ (gr g.rules i).neg, Mk (is.foldl (fun s i => ((gr g.rules i).pos ++ (gr g.rules i).neg).foldl (fun s k => markF g f k s) s) s) k
  | [], s, _, _, _ => ⟨.refl, fun _ h => by simp at h⟩
  | a :: is, s, hl, hi, hz => by
    have ha := hi a (by simp)
    have hra : gr g.rules a ∈ g.rules := by
      have : a.toNat < g.rules.length := by omega
      rw [show a = (a.toNat : Int) by omega, gr_lt this]; exact List.getElem_mem _
    have hin : ∀ k ∈ (gr g.rules a).pos ++ (gr g.rules a).neg, InP g k := fun k hk => Succ.inP hr (n := (gr g.rules a).head) ⟨_, hra, rfl, List.mem_append.1 hk⟩
    obtain ⟨h1, h2⟩ := fold_mark hr ih ((gr g.rules a).pos ++ (gr g.rules a).neg) s hl hin hz
    obtain ⟨h3, h4⟩ := fold_rules hr ih is _ (h1.len.trans hl) (fun i h => hi i (by simp [h])) (Nat.le_trans h1.zer hz)
    refine ⟨h1.trans hr h3 (fun j e => ⟨a, by simp, e⟩) (fun j ⟨i, e, e2⟩ => ⟨i, by simp [e], e2⟩), fun i him k hk => ?_⟩
    rcases List.mem_cons.1 him with rfl | him
    · exact h3.mono k (hin k hk) (h2 k hk)
    · exact h4 i him k hk

theorem mem_ofR {l : List Rule} {n : Int} {i : Int} : i ∈ ofR l n l.length ↔ ∃ k : Nat, ∃ h : k < l.length, i = k ∧ l[k].head = n := by
  simp only [ofR, List.mem_map, List.mem_filter, List.mem_range, decide_eq_true_eq]
  constructor
  · rintro ⟨k, ⟨h1, h2⟩, rfl⟩; rw [gr_lt h1] at h2; exact ⟨k, h1, rfl, h2⟩
  · rintro ⟨k, h1, rfl, h2⟩; exact ⟨k, ⟨h1, by rw [gr_lt h1]; exact h2⟩, rfl⟩

theorem mark_all {g : Prg} (hr : RightP g) : ∀ (f : Nat) (n : Int) (s : List Int), s.length = g.atoms.length → InP g n → zerosN s ≤ f → MarkOk g s (markF g f n s) (· = n) ∧ Mk (markF g f n s) n
  | 0, n, s, hl, hn, hz => by
    refine ⟨.refl, ?_⟩
    by_cases h : Mk s n
    · exact h
    · have := zeros_set (s := s) (n := n) (by rw [hl]; exact hn) h
      omega
  | f + 1, n, s, hl, hn, hz => by
    simp only [markF]
    split
    · rename_i h; exact ⟨.refl, h⟩
    · rename_i h
      have hn' : 0 ≤ n ∧ n < s.length := by rw [hl]; exact hn
      have hz' := zeros_set hn' h
      obtain ⟨h1, h2⟩ := fold_rules hr (mark_all hr f) (ofR g.rules n g.rules.length) (s.set n.toNat 1) (by simpa using hl) (fun i hi => by obtain ⟨k, h1, rfl, _⟩ := mem_ofR.1 hi; omega) (by omega)
      have hset : ∀ k, InP g k → (Mk (s.set n.toNat 1) k ↔ k = n ∨ Mk s k) := fun k hk => by
        simp only [Mk, gi_set hn' hk.1]
        by_cases e : k = n
        · simp [e]
        · simp [e]
      have hsucc : ∀ m, Succ g n m → ∃ i ∈ ofR g.rules n g.rules.length, m ∈ (gr g.rules i).pos ++ (gr g.rules i).neg := by
        rintro m ⟨r, hr1, hr2, hr3⟩
        obtain ⟨k, hk, rfl⟩ := List.getElem_of_mem hr1
        exact ⟨k, mem_ofR.2 ⟨k, hk, rfl, hr2⟩, by rw [gr_lt hk]; exact List.mem_append.2 hr3⟩
      have hfrom : ∀ j, (∃ i ∈ ofR g.rules n g.rules.length, j ∈ (gr g.rules i).pos ++ (gr g.rules i).neg) → Succ g n j := by
        rintro j ⟨i, hi, hj⟩
        obtain ⟨k, hk, rfl, hh⟩ := mem_ofR.1 hi
        rw [gr_lt hk] at hj
        exact ⟨_, List.getElem_mem hk, hh, List.mem_append.1 hj⟩
      refine ⟨⟨by rw [h1.len]; simp, fun k hk hm => h1.mono k hk ((hset k hk).2 (.inr hm)), by have := h1.zer; omega, fun k hk hm => ?_, fun k hk hm hs m hsu => ?_⟩, h1.mono n hn ((hset n hn).2 (.inl rfl))⟩
      · rcases h1.only k hk hm with h3 | ⟨j, h3, h4⟩
        · rcases (hset k hk).1 h3 with rfl | h3
          · exact .inr ⟨k, rfl, .refl⟩
          · exact .inl h3
        · exact .inr ⟨n, rfl, Reach.head (hfrom j h3) h4⟩
      · by_cases e : k = n
        · subst e
          obtain ⟨i, hi, hmi⟩ := hsucc m hsu
          exact h2 i hi m hmi
        · exact h1.clos k hk hm (fun h' => by rcases (hset k hk).1 h' with h' | h'; exact e h'; exact hs h') m hsu

theorem marks_all {g : Prg} (hr : RightP g) {n : Int} (hn : InP g n) : (marksG g n).length = g.atoms.length ∧ ∀ k, InP g k → (Mk (marksG g n) k ↔ Reach g n k) := by
  have h0 : ∀ k, ¬ Mk (List.replicate g.atoms.length 0) k := fun k => by
    simp only [Mk, gi, List.getD_eq_getElem?_getD, List.getElem?_replicate]; split <;> simp
  obtain ⟨h1, h2⟩ := mark_all hr (g.atoms.length + 1) n (List.replicate g.atoms.length 0) (by simp) hn (by have := List.countP_le_length (p := fun x : Int => decide (x ≤ 0)) (l := List.replicate g.atoms.length (0 : Int)); rw [List.length_replicate] at this; exact Nat.le_succ_of_le this)
  refine ⟨by rw [marksG, h1.len]; simp, fun k hk => ⟨fun hm => ?_, fun h => ?_⟩⟩
  · rcases h1.only k hk hm with h3 | ⟨j, rfl, h4⟩
    · exact absurd h3 (h0 k)
    · exact h4
  · induction h with
    | refl => exact h2
    | step h3 hs ih => exact h1.clos _ (h3.inP hr hn) (ih (h3.inP hr hn)) (h0 _) _ hs

/-! ### new numbers -/
theorem mem_markedL : ∀ (s : List Int) (i : Nat) (k : Int), k ∈ markedL s i ↔ ∃ j : Nat, ∃ h : j < s.length, k = (i + j : Nat) ∧ 0 < s[j]
  | [], i, k => by simp [markedL]
  | x :: xs, i, k => by
    have ih := mem_markedL xs (i + 1) k
    have hz : (∃ j : Nat, ∃ h : j < (x :: xs).length, k = (i + j : Nat) ∧ 0 < (x :: xs)[j]) ↔ (k = i ∧ 0 < x) ∨ ∃ j : Nat, ∃ h : j < xs.length, k = (i + 1 + j : Nat) ∧ 0 < xs[j] := by
      constructor
      · rintro ⟨j, h, h1, h2⟩
        cases j with
        | zero => exact .inl ⟨by simpa using h1, by simpa using h2⟩
        | succ j => exact .inr ⟨j, by simpa using h, by rw [h1]; congr 1; omega, by simpa using h2⟩
      · rintro (⟨h1, h2⟩ | ⟨j, h, h1, h2⟩)
        · exact ⟨0, by simp, by simpa using h1, by simpa using h2⟩
        · exact ⟨j + 1, by simpa using h, by rw [h1]; congr 1; omega, by simpa using h2⟩
    rw [hz, ← ih]
    simp only [markedL]
    split
    · rename_i hx; simp [hx]
    · rename_i hx; simp [hx]
theorem markedL_ris : ∀ (s : List Int) (i : Nat), Ris subI (markedL s i)
  | [], i => by simp [markedL, Ris]
  | x :: xs, i => by
    have ih := markedL_ris xs (i + 1)
    simp only [markedL]
    split
    · refine List.pairwise_cons.2 ⟨fun y hy => ?_, ih⟩
      obtain ⟨j, _, rfl, _⟩ := (mem_markedL xs (i + 1) y).1 hy
      simp only [subI]; omega
    · exact ih
theorem numF_len : ∀ (s : List Int) (c : Int), (numF s c).length = s.length
  | [], _ => rfl
  | x :: xs, c => by simp only [numF]; split <;> simp [numF_len]
/-- A marked number's new one is its place among the marked, and one. -/
theorem numF_at : ∀ (s : List Int) (c : Int) (i j : Nat) (h : j < s.length), 0 < s[j] → (numF s c)[j]'(by rw [numF_len]; exact h) = c + 1 + idxP (fun x => decide (x = ((i + j : Nat) : Int))) (markedL s i) 0
  | x :: xs, c, i, 0, _, h => by
    have h' : 0 < x := by simpa using h
    simp [numF, markedL, h', idxP]
  | x :: xs, c, i, j + 1, hj, h => by
    have hj' : j < xs.length := by simpa using hj
    have ih := fun c => numF_at xs c (i + 1) j hj' (by simpa using h)
    have shift : ∀ (l : List Int) (p : Int → Bool) (k : Nat), l.any p = true → idxP p l (k + 1) = 1 + idxP p l k := by
      intro l p
      induction l with
      | nil => intro k h; simp at h
      | cons y ys ihl =>
        intro k h
        simp only [idxP]
        split
        · omega
        · rename_i hy
          exact ihl (k + 1) (by simpa [hy] using h)
    have hmem : (markedL xs (i + 1)).any (fun x => decide (x = ((i + (j + 1) : Nat) : Int))) = true := by
      rw [List.any_eq_true]
      exact ⟨_, (mem_markedL xs (i + 1) _).2 ⟨j, hj', rfl, by simpa using h⟩, by simp; omega⟩
    have e : (i + 1 + j : Nat) = i + (j + 1) := by omega
    by_cases hx : 0 < x
    · have e1 : markedL (x :: xs) i = (i : Int) :: markedL xs (i + 1) := by rw [markedL, if_pos hx]
      have e2 : numF (x :: xs) c = (c + 1) :: numF xs (c + 1) := by rw [numF, if_pos hx]
      simp only [e1, e2, List.getElem_cons_succ, idxP]
      rw [if_neg (by simp; omega), shift _ _ _ hmem, ih (c + 1), e]; omega
    · have e1 : markedL (x :: xs) i = markedL xs (i + 1) := by rw [markedL, if_neg hx]
      have e2 : numF (x :: xs) c = x :: numF xs c := by rw [numF, if_neg hx]
      simp only [e1, e2, List.getElem_cons_succ]
      rw [ih c, e]
theorem numF_pos : ∀ (s : List Int) (c : Int) (j : Nat) (h : j < s.length), 0 ≤ c → (0 < (numF s c)[j]'(by rw [numF_len]; exact h) ↔ 0 < s[j])
  | x :: xs, c, 0, _, hc => by
    simp only [numF]; split <;> simp <;> omega
  | x :: xs, c, j + 1, hj, hc => by
    have hj' : j < xs.length := by simpa using hj
    by_cases hx : 0 < x
    · have e2 : numF (x :: xs) c = (c + 1) :: numF xs (c + 1) := by rw [numF, if_pos hx]
      simp only [e2, List.getElem_cons_succ]; exact numF_pos xs (c + 1) j hj' (by omega)
    · have e2 : numF (x :: xs) c = x :: numF xs c := by rw [numF, if_neg hx]
      simp only [e2, List.getElem_cons_succ]; exact numF_pos xs c j hj' hc

theorem gi_nat {l : List Int} {k : Int} (h : 0 ≤ k ∧ k < l.length) : ∃ (j : Nat) (hj : j < l.length), k = j ∧ gi l k = l[j] := by
  refine ⟨k.toNat, by omega, by omega, ?_⟩
  have h1 : k.toNat < l.length := by omega
  rw [show gi l k = gi l ((k.toNat : Nat) : Int) by congr 1; omega, gi_lt h1]

theorem leads_marks {g : Prg} (hr : RightP g) {n : Int} (hn : InP g n) : leadsR g n = markedL (marksG g n) 0 := by
  obtain ⟨h1, h2⟩ := leadsR_all hr hn
  obtain ⟨h3, h4⟩ := marks_all hr hn
  refine ris_ext subI_ord (fun _ _ => trivial) (fun _ _ => trivial) h1 (markedL_ris _ 0) fun k => ?_
  rw [h2, mem_markedL]
  constructor
  · intro h
    have hk := h.inP hr hn
    have hm := (h4 k hk).2 h
    obtain ⟨j, hj, rfl, e⟩ := gi_nat (l := marksG g n) (k := k) (by rw [h3]; exact hk)
    exact ⟨j, hj, by simp, by rw [← e]; exact hm⟩
  · rintro ⟨j, hj, rfl, hm⟩
    have hk : InP g ((0 + j : Nat) : Int) := ⟨by omega, by rw [← h3]; omega⟩
    refine (h4 _ hk).1 ?_
    simp only [Mk]
    rw [Nat.zero_add, gi_lt hj]; exact hm

/-- The two cuts are the same. -/
theorem cut_eq {g : Prg} (hr : RightP g) (n : Int) : cutG g n = cutR g n := by
  unfold cutG cutR
  split
  · rfl
  · rename_i h
    have hn : InP g n := ⟨by omega, by omega⟩
    obtain ⟨h1, h2⟩ := leadsR_all hr hn
    obtain ⟨h3, h4⟩ := marks_all hr hn
    have hlm := leads_marks hr hn
    have hin : ∀ k, InP g k → (0 < gi (numF (marksG g n) 0) k ↔ k ∈ leadsR g n) := fun k hk => by
      obtain ⟨j, hj, rfl, e⟩ := gi_nat (l := marksG g n) (k := k) (by rw [h3]; exact hk)
      rw [h2, ← h4 _ hk, Mk, e, gi_lt (by rw [numF_len]; exact hj), numF_pos _ _ _ hj (by omega)]
    have hnum : ∀ k, k ∈ leadsR g n → gi (numF (marksG g n) 0) k - 1 = placeI (leadsR g n) k := fun k hk => by
      have hk' := ((h2 k).1 hk).inP hr hn
      have hm := (h4 k hk').2 ((h2 k).1 hk)
      obtain ⟨j, hj, rfl, e⟩ := gi_nat (l := marksG g n) (k := k) (by rw [h3]; exact hk')
      rw [Mk, e] at hm
      rw [gi_lt (by rw [numF_len]; exact hj), numF_at _ _ 0 j hj hm, hlm, placeI, Nat.zero_add]; omega
    unfold cutOf onlyR
    rw [← hlm]
    congr 1
    have hf : (g.rules.filter fun r => decide (0 < gi (numF (marksG g n) 0) r.head)) = g.rules.filter fun r => decide (r.head ∈ leadsR g n) :=
      List.filter_congr fun r hr' => by rw [decide_eq_decide]; exact hin _ (hr.head r hr')
    rw [hf]
    refine List.map_congr_left fun r hrm => ?_
    obtain ⟨hr1, hr2⟩ := List.mem_filter.1 hrm
    have hh : r.head ∈ leadsR g n := by simpa using hr2
    have hb : ∀ k, k ∈ r.pos ∨ k ∈ r.neg → k ∈ leadsR g n := fun k hk => (h2 k).2 (.step ((h2 _).1 hh) ⟨r, hr1, rfl, hk⟩)
    simp only [cutRule, anewRule, anewR, hnum _ hh]
    congr 1
    · exact List.map_congr_left fun k hk => hnum k (hb k (.inl hk))
    · exact List.map_congr_left fun k hk => hnum k (hb k (.inr hk))
end Go.Proofs.YtgapiecbinplfaaGreat
/- Walks: the instances that laws are made of; leaning, by the document. Printed by walk.py from annotations. -/
namespace Go.Proofs.YtgapiecbinplfaaGreat
open Go.RowKit


set_option maxRecDepth 8000 in
set_option maxHeartbeats 4000000 in
theorem atom200_ctr (t : List Cell) (hn : NmOk t) : Ctr Tryz.prog 107 [.d .term t] [] (.d .bool (atom200 t)) [] := by
  refine ctr_pure E Tryz.func107 rfl Tryz.ntmps107 Tryz.results107 (Nat.le_of_ble_eq_true rfl) rfl ?_
  have k1 := atomT_ctr t hn
  have k2 : t.length ≤ 200 → Ctr Tryz.prog 116 [.d .term t] [] (.d .bool (groundT t)) [] := fun h => groundT_ctr t (by omega)
  repeat refine ok_seq ?_
  refine ok_reg E [0] [] (by simp [-Option.some.injEq, -Prod.mk.injEq]; rfl) (by first | trivial | omega | simp | (simp; omega)) ?_
  repeat refine ok_seq ?_
  refine ok_regJ E [(2, .d .bool (atom200 t))] [] [2] [.pure (.d .bool (atomT t)), .pure (.d .bool (groundT t))] ?_ ?_
  · skip
    by_cases q0 : (t.length : Int) ≤ 200
    rotate_left
    · refine ⟨_, _, _, by simp [q0, atom200, -Option.some.injEq, -Prod.mk.injEq]; rfl, (by first | trivial | (have k3 := k2 (by omega); (try simp at k1); (try simp at k3); simp_all; done) | ((try simp at k1); simp_all; done)), by constructor <;> simp [EntF, EntH, EntB, Conv, scop, q0, atom200] <;> first | omega | (rw [Bool.eq_iff_iff]; simp; omega)⟩
    by_cases q1 : atomT t = true
    rotate_left
    · refine ⟨_, _, _, by simp [q0, q1, atom200, -Option.some.injEq, -Prod.mk.injEq]; rfl, (by first | trivial | (have k3 := k2 (by omega); (try simp at k1); (try simp at k3); simp_all; done) | ((try simp at k1); simp_all; done)), by constructor <;> simp [EntF, EntH, EntB, Conv, scop, q0, q1, atom200] <;> first | omega | (rw [Bool.eq_iff_iff]; simp; omega)⟩
    refine ⟨_, _, _, by simp [q0, q1, atom200, -Option.some.injEq, -Prod.mk.injEq]; rfl, (by first | trivial | (have k3 := k2 (by omega); (try simp at k1); (try simp at k3); simp_all; done) | ((try simp at k1); simp_all; done)), by constructor <;> simp [EntF, EntH, EntB, Conv, scop, q0, q1, atom200] <;> first | omega | (rw [Bool.eq_iff_iff]; simp; omega)⟩
  refine ok_ret ⟨.inr rfl, ?_⟩
  -- ret1
  simp [resAll, resL, resA, frozE]

def NmI (x : Inst) : Prop := NmOk x.head ∧ (∀ t ∈ x.pos, NmOk t) ∧ ∀ t ∈ x.neg, NmOk t
def madeHd (x : Inst) : Bool := atom200 x.head && decide (x.pos.length ≤ 10 ∧ x.neg.length ≤ 10)
theorem madeOk_hd (x : Inst) : madeOk x = (madeHd x && x.pos.all atom200 && x.neg.all atom200) := by simp [madeOk, madeHd, Bool.and_assoc]
theorem filt_step {l : List Inst} {i : Nat} (h : i < l.length) : (l.take (i + 1)).filter madeOk = (l.take i).filter madeOk ++ (if madeOk (gin l i) = true then [gin l i] else []) := by
  rw [List.take_succ_eq_append_getElem h, List.filter_append, gin_lt h]; congr 1
  by_cases c : madeOk l[i] = true <;> simp [c]
theorem all_step {p : Term → Bool} {l : List Term} {i : Nat} (h : i < l.length) : (l.take (i + 1)).all p = ((l.take i).all p && p (gt l i)) := by
  rw [List.take_succ_eq_append_getElem h, List.all_append, gt_lt h]; simp
theorem all_take_false {p : Term → Bool} {l : List Term} {i : Nat} (h : (l.take i).all p = false) : l.all p = false := by
  rw [Bool.eq_false_iff] at h ⊢
  intro h2; apply h
  rw [List.all_eq_true] at h2 ⊢
  exact fun x hx => h2 x (List.mem_of_mem_take hx)

set_option maxRecDepth 8000 in
set_option maxHeartbeats 4000000 in
theorem made_ctr (l : List Inst) (hn : ∀ x ∈ l, NmI x) : Ctr Tryz.prog 37 [.d (.sl .inst) l] [] (.d (.sl .inst) (madeR l)) [] := by
  refine ctr_pure E Tryz.func37 rfl Tryz.ntmps37 Tryz.results37 (Nat.le_of_ble_eq_true rfl) rfl ?_
  repeat refine ok_seq ?_
  refine ok_reg E [0] [] (by simp [-Option.some.injEq, -Prod.mk.injEq]; rfl) (by first | trivial | omega | simp | (simp; omega)) ?_
  repeat refine ok_seq ?_
  refine ok_reg E [0, 3] [] (by simp [-Option.some.injEq, -Prod.mk.injEq]; rfl) (by first | trivial | omega | simp | (simp; omega)) ?_
  repeat refine ok_seq ?_
  refine ok_reg E [0, 3, 4] [] (by simp [-Option.some.injEq, -Prod.mk.injEq]; rfl) (by first | trivial | omega | simp | (simp; omega)) ?_
  repeat refine ok_seq ?_
  refine ok_block ?_
  repeat refine ok_seq ?_
  refine ok_loop (σ := Nat) (fun i => [(0, .d (.sl .inst) l), (3, .orow 0), (4, .d .i (i : Int))]) (fun i => [.orow 51 .inst ((l.take i).filter madeOk)]) (fun i => i ≤ l.length ∧ i ≤ 60) (fun i => 60 - i) 0 (by simp) ?_ ?_
  · constructor <;> simp [EntF, EntH, EntB, Conv, scop]
  rintro i ⟨hi1, hi2⟩
  repeat refine ok_seq ?_
  refine ok_regJ E [(16, .d .bool (decide (i < l.length ∧ i < 60)))] [0, 3, 4] [0, 3, 4, 16] [] ?_ ?_
  · skip
    by_cases q0 : i < l.length
    rotate_left
    · refine ⟨_, _, _, by simp [q0, -Option.some.injEq, -Prod.mk.injEq]; rfl, (by first | trivial | omega | simp | (simp; omega)), by constructor <;> simp [EntF, EntH, EntB, Conv, scop, q0] <;> first | omega | (rw [Bool.eq_iff_iff]; simp; omega)⟩
    refine ⟨_, _, _, by simp [q0, -Option.some.injEq, -Prod.mk.injEq]; rfl, (by first | trivial | omega | simp | (simp; omega)), by constructor <;> simp [EntF, EntH, EntB, Conv, scop, q0] <;> first | omega | (rw [Bool.eq_iff_iff]; simp; omega)⟩
  repeat refine ok_seq ?_
  refine ok_if rfl (fun c1 => ?_) (fun c1 => ?_)
  · try simp at c1
    all_goals
      have hx := hn (gin l i) (by rw [gin_lt c1.1]; exact List.getElem_mem _)
      refine ok_skip ?_
      repeat refine ok_seq ?_
      refine ok_block ?_
      repeat refine ok_seq ?_
      refine ok_regJ E [(5, .d .bool (madeHd (gin l i)))] [0, 3, 4] [0, 3, 4, 5] [.pure (.d .bool (atom200 (gin l i).head))] ?_ ?_
      · skip
        by_cases q0 : atom200 (gin l i).head = true
        rotate_left
        · refine ⟨_, _, _, by simp [q0, madeHd, -Option.some.injEq, -Prod.mk.injEq]; rfl, (by first | trivial | (have k1 := atom200_ctr (gin l i).head hx.1; (try simp at k1); simp_all; done) | (have k1 := atom200_ctr (gin l i).head hx.1; (try simp at k1); simp_all; omega)), by constructor <;> simp [EntF, EntH, EntB, Conv, scop, q0, madeHd] <;> first | omega | (rw [Bool.eq_iff_iff]; simp; omega)⟩
        by_cases q1 : ((gin l i).pos.length : Int) ≤ 10
        rotate_left
        · refine ⟨_, _, _, by simp [q0, q1, madeHd, -Option.some.injEq, -Prod.mk.injEq]; rfl, (by first | trivial | (have k1 := atom200_ctr (gin l i).head hx.1; (try simp at k1); simp_all; done) | (have k1 := atom200_ctr (gin l i).head hx.1; (try simp at k1); simp_all; omega)), by constructor <;> simp [EntF, EntH, EntB, Conv, scop, q0, q1, madeHd] <;> first | omega | (rw [Bool.eq_iff_iff]; simp; omega)⟩
        refine ⟨_, _, _, by simp [q0, q1, madeHd, -Option.some.injEq, -Prod.mk.injEq]; rfl, (by first | trivial | (have k1 := atom200_ctr (gin l i).head hx.1; (try simp at k1); simp_all; done) | (have k1 := atom200_ctr (gin l i).head hx.1; (try simp at k1); simp_all; omega)), by constructor <;> simp [EntF, EntH, EntB, Conv, scop, q0, q1, madeHd] <;> first | omega | (rw [Bool.eq_iff_iff]; simp; omega)⟩
      repeat refine ok_seq ?_
      refine ok_reg E [0, 3, 4, 5, 6] [] (by simp [-Option.some.injEq, -Prod.mk.injEq]; rfl) (by first | trivial | omega | simp | (simp; omega)) ?_
      repeat refine ok_seq ?_
      refine ok_block ?_
      repeat refine ok_seq ?_
      refine ok_loop (σ := Nat) (fun k => [(0, .d (.sl .inst) l), (3, .orow 0), (4, .d .i (i : Int)), (5, .d .bool (madeHd (gin l i) && ((gin l i).pos.take k).all atom200)), (6, .d .i (k : Int))]) (fun k => [.orow 51 .inst ((l.take i).filter madeOk)]) (fun k => k ≤ (gin l i).pos.length ∧ (0 < k → (gin l i).pos.length ≤ 10)) (fun k => (gin l i).pos.length - k) 0 (by simp) ?_ ?_
      · constructor <;> simp [EntF, EntH, EntB, Conv, scop]
      rintro k ⟨hk1, hk2⟩
      repeat refine ok_seq ?_
      refine ok_regJ E [(53, .d .bool (decide (k < (gin l i).pos.length) && (madeHd (gin l i) && ((gin l i).pos.take k).all atom200)))] [0, 3, 4, 5, 6] [0, 3, 4, 5, 6, 53] [] ?_ ?_
      · skip
        by_cases q0 : k < (gin l i).pos.length
        rotate_left
        · refine ⟨_, _, _, by simp [q0, -Option.some.injEq, -Prod.mk.injEq]; rfl, (by first | trivial | omega | simp | (simp; omega)), by constructor <;> simp [EntF, EntH, EntB, Conv, scop, q0] <;> first | omega | (rw [Bool.eq_iff_iff]; simp; omega)⟩
        refine ⟨_, _, _, by simp [q0, -Option.some.injEq, -Prod.mk.injEq]; rfl, (by first | trivial | omega | simp | (simp; omega)), by constructor <;> simp [EntF, EntH, EntB, Conv, scop, q0] <;> first | omega | (rw [Bool.eq_iff_iff]; simp; omega)⟩
      repeat refine ok_seq ?_
      refine ok_if rfl (fun c2 => ?_) (fun c2 => ?_)
      · try simp at c2
        all_goals
          have hkl := c2.1
          refine ok_skip ?_
          repeat refine ok_seq ?_
          refine ok_block ?_
          repeat refine ok_seq ?_
          refine ok_reg E [0, 3, 4, 5, 6] [.pure (.d .bool (atom200 (gt (gin l i).pos k)))] (by simp [-Option.some.injEq, -Prod.mk.injEq]; rfl) (by (have k1 := atom200_ctr (gt (gin l i).pos k) (hx.2.1 _ (by rw [gt_lt hkl]; exact List.getElem_mem _)); (try simp at k1); simp [k1]; omega)) ?_
          repeat refine ok_seq ?_
          refine ok_reg E [0, 3, 4, 5, 6] [] (by simp [-Option.some.injEq, -Prod.mk.injEq]; rfl) (by first | trivial | omega | simp | (simp; omega)) ?_
          -- end21
          have e1 : (madeHd (gin l i) && ((gin l i).pos.take (k + 1)).all atom200) = atom200 (gt (gin l i).pos k) := by rw [all_step hkl, c2.2.1, List.all_eq_true.2 c2.2.2]; simp
          have e2 := c2.2.1
          simp [madeHd] at e2
          exact ⟨k + 1, by omega, by omega, by constructor <;> simp (disch := omega) [EntF, EntH, EntB, Conv, ConvL, scop, scopL, wrap_i64, ← e1]⟩
      · try simp at c2
        all_goals
          skip
          refine ok_exit ?_
          repeat refine ok_seq ?_
          refine ok_reg E [0, 3, 4, 5, 7] [] (by simp [-Option.some.injEq, -Prod.mk.injEq]; rfl) (by first | trivial | omega | simp | (simp; omega)) ?_
          repeat refine ok_seq ?_
          refine ok_block ?_
          repeat refine ok_seq ?_
          have eP : (madeHd (gin l i) && ((gin l i).pos.take k).all atom200) = (madeHd (gin l i) && (gin l i).pos.all atom200) := by
            by_cases hk : k = (gin l i).pos.length
            · rw [hk, List.take_length]
            · by_cases h1 : madeHd (gin l i) = true
              · obtain ⟨x, hx1, hx2⟩ := c2 (by omega) h1
                have h2 : ((gin l i).pos.take k).all atom200 = false := List.all_eq_false.2 ⟨x, hx1, by simp [hx2]⟩
                rw [h2, all_take_false h2]
              · simp [h1]
          refine ok_loop (σ := Nat) (fun m => [(0, .d (.sl .inst) l), (3, .orow 0), (4, .d .i (i : Int)), (5, .d .bool (madeHd (gin l i) && (gin l i).pos.all atom200 && ((gin l i).neg.take m).all atom200)), (7, .d .i (m : Int))]) (fun m => [.orow 51 .inst ((l.take i).filter madeOk)]) (fun m => m ≤ (gin l i).neg.length) (fun m => (gin l i).neg.length - m) 0 (by simp) ?_ ?_
          · constructor <;> simp [EntF, EntH, EntB, Conv, ConvL, scop, scopL, eP]
          rintro m hm1
          repeat refine ok_seq ?_
          refine ok_regJ E [(75, .d .bool (decide (m < (gin l i).neg.length) && (madeHd (gin l i) && (gin l i).pos.all atom200 && ((gin l i).neg.take m).all atom200)))] [0, 3, 4, 5, 7] [0, 3, 4, 5, 7, 75] [] ?_ ?_
          · skip
            by_cases q0 : m < (gin l i).neg.length
            rotate_left
            · refine ⟨_, _, _, by simp [q0, -Option.some.injEq, -Prod.mk.injEq]; rfl, (by first | trivial | omega | simp | (simp; omega)), by constructor <;> simp [EntF, EntH, EntB, Conv, scop, q0] <;> first | omega | (rw [Bool.eq_iff_iff]; simp; omega)⟩
            refine ⟨_, _, _, by simp [q0, -Option.some.injEq, -Prod.mk.injEq]; rfl, (by first | trivial | omega | simp | (simp; omega)), by constructor <;> simp [EntF, EntH, EntB, Conv, scop, q0] <;> first | omega | (rw [Bool.eq_iff_iff]; simp; omega)⟩
          repeat refine ok_seq ?_
          refine ok_if rfl (fun c3 => ?_) (fun c3 => ?_)
          · try simp at c3
            all_goals
              have hml := c3.1
              refine ok_skip ?_
              repeat refine ok_seq ?_
              refine ok_block ?_
              repeat refine ok_seq ?_
              refine ok_reg E [0, 3, 4, 5, 7] [.pure (.d .bool (atom200 (gt (gin l i).neg m)))] (by simp [-Option.some.injEq, -Prod.mk.injEq]; rfl) (by (have k1 := atom200_ctr (gt (gin l i).neg m) (hx.2.2 _ (by rw [gt_lt hml]; exact List.getElem_mem _)); (try simp at k1); simp [k1]; omega)) ?_
              repeat refine ok_seq ?_
              refine ok_reg E [0, 3, 4, 5, 7] [] (by simp [-Option.some.injEq, -Prod.mk.injEq]; rfl) (by first | trivial | omega | simp | (simp; omega)) ?_
              -- end41
              have e1 : (madeHd (gin l i) && (gin l i).pos.all atom200 && ((gin l i).neg.take (m + 1)).all atom200) = atom200 (gt (gin l i).neg m) := by rw [all_step hml, c3.2.1.1, List.all_eq_true.2 c3.2.1.2, List.all_eq_true.2 c3.2.2]; simp
              have e2 := c3.2.1.1
              simp [madeHd] at e2
              exact ⟨m + 1, by omega, by omega, by constructor <;> simp (disch := omega) [EntF, EntH, EntB, Conv, ConvL, scop, scopL, wrap_i64, ← e1]⟩
          · try simp at c3
            all_goals
              skip
              refine ok_exit ?_
              repeat refine ok_seq ?_
              refine ok_reg E [0, 3, 4, 87] [] (by simp [-Option.some.injEq, -Prod.mk.injEq]; rfl) (by first | trivial | omega | simp | (simp; omega)) ?_
              repeat refine ok_seq ?_
              refine ok_if rfl (fun c4 => ?_) (fun c4 => ?_)
              · try simp at c4
                all_goals
                  repeat refine ok_seq ?_
                  refine ok_reg E [0, 3, 4] [] (by simp [-Option.some.injEq, -Prod.mk.injEq]; rfl) (by have hf := List.length_filter_le madeOk (l.take i); simp at hf; simp [big]; omega) ?_
                  repeat refine ok_seq ?_
                  refine ok_reg E [0, 3, 4] [] (by simp [-Option.some.injEq, -Prod.mk.injEq]; rfl) (by first | trivial | omega | simp | (simp; omega)) ?_
                  -- end01
                  have hm : m = (gin l i).neg.length := Classical.byContradiction fun h => by obtain ⟨x, h1, h2⟩ := c3 (by omega) c4.1.1 c4.1.2; rw [c4.2 x h1] at h2; cases h2
                  have e0 : madeOk (gin l i) = true := by
                    have h3 := List.all_eq_true.2 c4.2
                    rw [hm, List.take_length] at h3
                    rw [madeOk_hd, c4.1.1, List.all_eq_true.2 c4.1.2, h3]; rfl
                  have e1 := filt_step c1.1
                  rw [if_pos e0] at e1
                  exact ⟨i + 1, ⟨by omega, by omega⟩, by omega, by constructor <;> simp (disch := omega) [EntF, EntH, EntB, Conv, ConvL, scop, scopL, wrap_i64, e1]⟩
              · try simp at c4
                all_goals
                  refine ok_skip ?_
                  repeat refine ok_seq ?_
                  refine ok_reg E [0, 3, 4] [] (by simp [-Option.some.injEq, -Prod.mk.injEq]; rfl) (by first | trivial | omega | simp | (simp; omega)) ?_
                  -- end02
                  have e0 : ¬ madeOk (gin l i) = true := by
                    intro h
                    rw [madeOk_hd] at h; simp only [Bool.and_eq_true, List.all_eq_true] at h
                    obtain ⟨x, h1, h2⟩ := c4 h.1.1 h.1.2
                    rw [h.2 x (List.mem_of_mem_take h1)] at h2; cases h2
                  have e1 := filt_step c1.1
                  rw [if_neg e0, List.append_nil] at e1
                  exact ⟨i + 1, ⟨by omega, by omega⟩, by omega, by constructor <;> simp (disch := omega) [EntF, EntH, EntB, Conv, ConvL, scop, scopL, wrap_i64, e1]⟩
  · try simp at c1
    all_goals
      skip
      refine ok_exit ?_
      repeat refine ok_seq ?_
      refine ok_reg E [2] [] (by simp [-Option.some.injEq, -Prod.mk.injEq]; rfl) (by first | trivial | omega | simp | (simp; omega)) ?_
      refine ok_ret ⟨.inr rfl, ?_⟩
      -- ret1
      have e1 : l.take i = l.take 60 := by
        by_cases h : i = 60
        · rw [h]
        · rw [List.take_of_length_le (by omega), List.take_of_length_le (by omega)]
      simp [madeR, e1]

end Go.Proofs.YtgapiecbinplfaaGreat
/- Walks: leaning, by the document. Printed by walk.py from annotations. -/
namespace Go.Proofs.YtgapiecbinplfaaGreat
open Go.RowKit


theorem LeadOk.part {g : Prg} {n : Int} {l : List Int} (h : LeadOk g n l) (i : Nat) : LeadOk g n (roundR (g.rules.take i) l) := by
  obtain ⟨h1, h2, _, h4⟩ := roundR_all (g.rules.take i) l h.ris
  exact ⟨h1, h2 n h.has, h4 (Reach g n) h.sub fun r hr hh k hk => .step hh ⟨r, List.mem_of_mem_take hr, rfl, hk⟩⟩
theorem LeadOk.len {g : Prg} {n : Int} {l : List Int} (hr : RightP g) (hn : InP g n) (h : LeadOk g n l) : l.length ≤ g.atoms.length := ris_len h.ris fun x hx => (h.sub x hx).inP hr hn
theorem roundR_step {rs : List Rule} {l : List Int} {i : Nat} (h : i < rs.length) : roundR (rs.take (i + 1)) l = stepR (roundR (rs.take i) l) (gr rs i) := by
  rw [List.take_succ_eq_append_getElem h, roundR, List.foldl_append, gr_lt h]; rfl
theorem putIs_step {l s : List Int} {i : Nat} (h : i < l.length) : putIs (l.take (i + 1)) s = putBy subI (putIs (l.take i) s) (gi l i) := by
  rw [List.take_succ_eq_append_getElem h, putIs, List.foldl_append, gi_lt h]; rfl
theorem putIs_len : ∀ (l s : List Int), (putIs l s).length ≤ s.length + l.length
  | [], s => by simp [putIs]
  | t :: l, s => by
    have h := putIs_len l (putBy subI s t)
    have h2 := putBy_len subI t s
    simp only [putIs, List.foldl_cons, List.length_cons] at h ⊢; omega
theorem setOk_len {l : List Int} {n : Nat} (h : setOk l n = true) : l.length ≤ n := by
  obtain ⟨h1, h2⟩ := setOk_iff.1 h
  exact ris_len h2 h1

set_option maxRecDepth 8000 in
set_option maxHeartbeats 4000000 in
theorem leadsR_ctr (g : Prg) (n : Int) (hr : RightP g) (hn : InP g n) (hN : g.atoms.length ≤ 100000) (hR : g.rules.length ≤ 1000000) : Ctr Tryz.prog 119 [pav g, .d .i n] [] (.d .ints (leadsR g n)) [] := by
  refine ctr_pure E Tryz.func119 rfl Tryz.ntmps119 Tryz.results119 (Nat.le_of_ble_eq_true rfl) rfl ?_
  simp only [pav]
  repeat refine ok_seq ?_
  refine ok_reg E [1, 2] [] (by simp [-Option.some.injEq, -Prod.mk.injEq]; rfl) (by first | trivial | omega | simp | (simp; omega)) ?_
  repeat refine ok_seq ?_
  refine ok_reg E [2, 5] [] (by simp [-Option.some.injEq, -Prod.mk.injEq]; rfl) (by first | trivial | omega | simp | (simp; omega)) ?_
  repeat refine ok_seq ?_
  refine ok_reg E [2, 5, 6] [] (by simp [-Option.some.injEq, -Prod.mk.injEq]; rfl) (by first | trivial | omega | simp | (simp; omega)) ?_
  repeat refine ok_seq ?_
  refine ok_block ?_
  repeat refine ok_seq ?_
  refine ok_loop (σ := (Nat × Nat × List Int)) (fun s => [(2, .ptr 0 0), (5, .d .ints s.2.2), (6, .d .i (s.2.1 : Int))]) (fun s => [.cells [.d .terms g.atoms, .d (.sl .rule) g.rules]]) (fun s => LeadOk g n s.2.2 ∧ g.atoms.length + 1 ≤ s.1 + s.2.1 ∧ leadsF g.rules s.1 s.2.1 s.2.2 = leadsR g n) (fun s => s.1) (g.atoms.length + 2, 0, [n]) ⟨⟨by simp [Ris], by simp, fun k hk => by simp at hk; subst hk; exact .refl⟩, by simp only; omega, rfl⟩ ?_ ?_
  · constructor <;> simp [EntF, EntH, EntB, Conv, scop]
  rintro ⟨f, many, L⟩ ⟨hl, hf, hi⟩
  simp only at hl hf hi ⊢
  have hlen := hl.len hr hn
  repeat refine ok_seq ?_
  refine ok_reg E [2, 5, 16] [] (by simp [-Option.some.injEq, -Prod.mk.injEq]; rfl) (by first | trivial | omega | simp | (simp; omega)) ?_
  repeat refine ok_seq ?_
  refine ok_if rfl (fun c1 => ?_) (fun c1 => ?_)
  · try simp at c1
    all_goals
      obtain ⟨f, rfl⟩ : ∃ f0, f = f0 + 1 := ⟨f - 1, by omega⟩
      refine ok_skip ?_
      repeat refine ok_seq ?_
      refine ok_block ?_
      repeat refine ok_seq ?_
      refine ok_reg E [2, 5, 6] [] (by simp [-Option.some.injEq, -Prod.mk.injEq]; rfl) (by first | trivial | omega | simp | (simp; omega)) ?_
      repeat refine ok_seq ?_
      refine ok_reg E [2, 5, 6, 7] [] (by simp [-Option.some.injEq, -Prod.mk.injEq]; rfl) (by first | trivial | omega | simp | (simp; omega)) ?_
      repeat refine ok_seq ?_
      refine ok_block ?_
      repeat refine ok_seq ?_
      refine ok_loop (σ := Nat) (fun i => [(2, .ptr 0 0), (5, .d .ints (roundR (g.rules.take i) L)), (6, .d .i (L.length : Int)), (7, .d .i (i : Int))]) (fun i => [.cells [.d .terms g.atoms, .d (.sl .rule) g.rules]]) (fun i => i ≤ g.rules.length) (fun i => g.rules.length - i) 0 (by simp) ?_ ?_
      · constructor <;> simp [EntF, EntH, EntB, Conv, ConvL, scop, scopL, roundR]
      rintro i hj
      have hp := hl.part i
      have hpl := hp.len hr hn
      repeat refine ok_seq ?_
      refine ok_reg E [2, 5, 6, 7, 23] [] (by simp [-Option.some.injEq, -Prod.mk.injEq]; rfl) (by first | trivial | omega | simp | (simp; omega)) ?_
      repeat refine ok_seq ?_
      refine ok_if rfl (fun c2 => ?_) (fun c2 => ?_)
      · try simp at c2
        all_goals
          refine ok_skip ?_
          repeat refine ok_seq ?_
          refine ok_block ?_
          repeat refine ok_seq ?_
          refine ok_reg E [2, 5, 6, 7, 8] [] (by simp [-Option.some.injEq, -Prod.mk.injEq]; rfl) (by first | trivial | omega | simp | (simp; omega)) ?_
          repeat refine ok_seq ?_
          refine ok_reg E [2, 5, 6, 7, 8, 35] [.pure (.d .bool (decide ((gr g.rules i).head ∈ roundR (g.rules.take i) L)))] (by simp [-Option.some.injEq, -Prod.mk.injEq]; rfl) (by (have k1 := isIn_ctr (roundR (g.rules.take i) L) (gr g.rules i).head; (try simp at k1); simp [k1]; try omega)) ?_
          repeat refine ok_seq ?_
          refine ok_if rfl (fun c3 => ?_) (fun c3 => ?_)
          · try simp at c3
            all_goals
              refine ok_exit ?_
              repeat refine ok_seq ?_
              refine ok_reg E [2, 5, 6, 7] [] (by simp [-Option.some.injEq, -Prod.mk.injEq]; rfl) (by first | trivial | omega | simp | (simp; omega)) ?_
              -- end21
              have e1 := roundR_step (l := L) c2
              rw [stepR, if_neg c3] at e1
              exact ⟨i + 1, by omega, by omega, by constructor <;> simp (disch := omega) [EntF, EntH, EntB, Conv, ConvL, scop, scopL, wrap_i64, e1]⟩
          · try simp at c3
            all_goals
              refine ok_skip ?_
              repeat refine ok_seq ?_
              refine ok_reg E [2, 5, 6, 7, 8, 9] [] (by simp [-Option.some.injEq, -Prod.mk.injEq]; rfl) (by first | trivial | omega | simp | (simp; omega)) ?_
              repeat refine ok_seq ?_
              refine ok_block ?_
              repeat refine ok_seq ?_
              have hr1 := setOk_len (hr.pos (gr g.rules i) (by rw [gr_lt c2]; exact List.getElem_mem _))
              have hr2 := setOk_len (hr.neg (gr g.rules i) (by rw [gr_lt c2]; exact List.getElem_mem _))
              refine ok_loop (σ := Nat) (fun k => [(2, .ptr 0 0), (5, .d .ints (putIs ((gr g.rules i).pos.take k) (roundR (g.rules.take i) L))), (6, .d .i (L.length : Int)), (7, .d .i (i : Int)), (8, .ptr 1 0), (9, .d .i (k : Int))]) (fun k => [.cells [.d .terms g.atoms, .d (.sl .rule) g.rules], .cells [.d .i (gr g.rules i).head, .d .ints (gr g.rules i).pos, .d .ints (gr g.rules i).neg]]) (fun k => k ≤ (gr g.rules i).pos.length) (fun k => (gr g.rules i).pos.length - k) 0 (by simp) ?_ ?_
              · constructor <;> simp [EntF, EntH, EntB, Conv, ConvL, scop, scopL, putIs]
              rintro k hk
              repeat refine ok_seq ?_
              refine ok_reg E [2, 5, 6, 7, 8, 9, 40] [] (by simp [-Option.some.injEq, -Prod.mk.injEq]; rfl) (by first | trivial | omega | simp | (simp; omega)) ?_
              repeat refine ok_seq ?_
              refine ok_if rfl (fun c4 => ?_) (fun c4 => ?_)
              · try simp at c4
                all_goals
                  refine ok_skip ?_
                  repeat refine ok_seq ?_
                  refine ok_block ?_
                  repeat refine ok_seq ?_
                  refine ok_reg E [2, 5, 6, 7, 8, 9] [.pure (.d .ints (putBy subI (putIs ((gr g.rules i).pos.take k) (roundR (g.rules.take i) L)) (gi (gr g.rules i).pos k)))] (by simp [-Option.some.injEq, -Prod.mk.injEq]; rfl) (by (have h1 := putIs_len ((gr g.rules i).pos.take k) (roundR (g.rules.take i) L); have h2 : ((gr g.rules i).pos.take k).length ≤ k := List.length_take_le _ _; have k1 := putI_ctr (putIs ((gr g.rules i).pos.take k) (roundR (g.rules.take i) L)) (gi (gr g.rules i).pos k) (by omega); simp [k1]; try omega)) ?_
                  repeat refine ok_seq ?_
                  refine ok_reg E [2, 5, 6, 7, 8, 9] [] (by simp [-Option.some.injEq, -Prod.mk.injEq]; rfl) (by first | trivial | omega | simp | (simp; omega)) ?_
                  -- end41
                  have e1 := putIs_step (s := roundR (g.rules.take i) L) c4
                  exact ⟨k + 1, by omega, by omega, by constructor <;> simp (disch := omega) [EntF, EntH, EntB, Conv, ConvL, scop, scopL, wrap_i64, e1]⟩
              · try simp at c4
                all_goals
                  refine ok_exit ?_
                  repeat refine ok_seq ?_
                  refine ok_reg E [2, 5, 6, 7, 8, 10] [] (by simp [-Option.some.injEq, -Prod.mk.injEq]; rfl) (by first | trivial | omega | simp | (simp; omega)) ?_
                  repeat refine ok_seq ?_
                  refine ok_block ?_
                  repeat refine ok_seq ?_
                  have e3 : (gr g.rules i).pos.take k = (gr g.rules i).pos := List.take_of_length_le c4
                  have hpl2 := putIs_len (gr g.rules i).pos (roundR (g.rules.take i) L)
                  refine ok_loop (σ := Nat) (fun m => [(2, .ptr 0 0), (5, .d .ints (putIs ((gr g.rules i).neg.take m) (putIs (gr g.rules i).pos (roundR (g.rules.take i) L)))), (6, .d .i (L.length : Int)), (7, .d .i (i : Int)), (8, .ptr 1 0), (10, .d .i (m : Int))]) (fun m => [.cells [.d .terms g.atoms, .d (.sl .rule) g.rules], .cells [.d .i (gr g.rules i).head, .d .ints (gr g.rules i).pos, .d .ints (gr g.rules i).neg]]) (fun m => m ≤ (gr g.rules i).neg.length) (fun m => (gr g.rules i).neg.length - m) 0 (by simp) ?_ ?_
                  · constructor <;> simp [EntF, EntH, EntB, Conv, ConvL, scop, scopL, putIs, e3]
                  rintro m hm
                  repeat refine ok_seq ?_
                  refine ok_reg E [2, 5, 6, 7, 8, 10, 54] [] (by simp [-Option.some.injEq, -Prod.mk.injEq]; rfl) (by first | trivial | omega | simp | (simp; omega)) ?_
                  repeat refine ok_seq ?_
                  refine ok_if rfl (fun c5 => ?_) (fun c5 => ?_)
                  · try simp at c5
                    all_goals
                      refine ok_skip ?_
                      repeat refine ok_seq ?_
                      refine ok_block ?_
                      repeat refine ok_seq ?_
                      refine ok_reg E [2, 5, 6, 7, 8, 10] [.pure (.d .ints (putBy subI (putIs ((gr g.rules i).neg.take m) (putIs (gr g.rules i).pos (roundR (g.rules.take i) L))) (gi (gr g.rules i).neg m)))] (by simp [-Option.some.injEq, -Prod.mk.injEq]; rfl) (by (have h1 := putIs_len ((gr g.rules i).neg.take m) (putIs (gr g.rules i).pos (roundR (g.rules.take i) L)); have h2 : ((gr g.rules i).neg.take m).length ≤ m := List.length_take_le _ _; have k1 := putI_ctr (putIs ((gr g.rules i).neg.take m) (putIs (gr g.rules i).pos (roundR (g.rules.take i) L))) (gi (gr g.rules i).neg m) (by omega); simp [k1]; try omega)) ?_
                      repeat refine ok_seq ?_
                      refine ok_reg E [2, 5, 6, 7, 8, 10] [] (by simp [-Option.some.injEq, -Prod.mk.injEq]; rfl) (by first | trivial | omega | simp | (simp; omega)) ?_
                      -- end61
                      have e1 := putIs_step (s := putIs (gr g.rules i).pos (roundR (g.rules.take i) L)) c5
                      exact ⟨m + 1, by omega, by omega, by constructor <;> simp (disch := omega) [EntF, EntH, EntB, Conv, ConvL, scop, scopL, wrap_i64, e1]⟩
                  · try simp at c5
                    all_goals
                      refine ok_exit ?_
                      repeat refine ok_seq ?_
                      refine ok_reg E [2, 5, 6, 7] [] (by simp [-Option.some.injEq, -Prod.mk.injEq]; rfl) (by first | trivial | omega | simp | (simp; omega)) ?_
                      -- end22
                      have e1 := roundR_step (l := L) c2
                      have e4 : (gr g.rules i).neg.take m = (gr g.rules i).neg := List.take_of_length_le c5
                      rw [stepR, if_pos c3] at e1
                      exact ⟨i + 1, by omega, by omega, by constructor <;> simp (disch := omega) [EntF, EntH, EntB, Conv, ConvL, scop, scopL, wrap_i64, e1, e4]⟩
      · try simp at c2
        all_goals
          refine ok_exit ?_
          -- end01
          have e1 : g.rules.take i = g.rules := List.take_of_length_le c2
          exact ⟨(f, L.length, roundR g.rules L), ⟨hl.round, by simp only; omega, by simp only; rw [← hi]; simp [leadsF, c1]⟩, by simp only; omega, by constructor <;> simp [EntF, EntH, EntB, Conv, ConvL, scop, scopL, e1]⟩
  · try simp at c1
    all_goals
      skip
      refine ok_exit ?_
      repeat refine ok_seq ?_
      refine ok_reg E [4] [] (by simp [-Option.some.injEq, -Prod.mk.injEq]; rfl) (by first | trivial | omega | simp | (simp; omega)) ?_
      refine ok_ret ⟨.inr rfl, ?_⟩
      -- ret1
      simp [resAll, resL, resA, frozE]
      rw [← hi]; cases f with
      | zero => rfl
      | succ f => rw [leadsF, if_neg (by omega)]

end Go.Proofs.YtgapiecbinplfaaGreat
/- Walks: what is cut, and instances, by the document. Printed by walk.py from annotations. -/
namespace Go.Proofs.YtgapiecbinplfaaGreat
open Go.RowKit


theorem mapT_step {α : Type} {f : Int → α} {l : List Int} {i : Nat} (h : i < l.length) : (l.take (i + 1)).map f = (l.take i).map f ++ [f (gi l i)] := by
  rw [List.take_succ_eq_append_getElem h, List.map_append, gi_lt h]; rfl
theorem filtR_step {β : Type} {p : Rule → Bool} {f : Rule → β} {l : List Rule} {i : Nat} (h : i < l.length) : ((l.take (i + 1)).filter p).map f = ((l.take i).filter p).map f ++ (if p (gr l i) = true then [f (gr l i)] else []) := by
  rw [List.take_succ_eq_append_getElem h, List.filter_append, List.map_append, gr_lt h]; congr 1
  by_cases c : p l[i] = true <;> simp [c]
theorem filtR_len (p : Rule → Bool) (l : List Rule) (i : Nat) : ((l.take i).filter p).length ≤ i := by
  exact Nat.le_trans (List.length_filter_le _ _) (List.length_take_le _ _)
theorem gi_mem {l : List Int} {i : Nat} (h : i < l.length) : gi l i ∈ l := by rw [gi_lt h]; exact List.getElem_mem _
theorem gr_mem {l : List Rule} {i : Nat} (h : i < l.length) : gr l i ∈ l := by rw [gr_lt h]; exact List.getElem_mem _
theorem gt_mem {l : List Term} {i : Nat} (h : i < l.length) : gt l i ∈ l := by rw [gt_lt h]; exact List.getElem_mem _

set_option maxRecDepth 8000 in
set_option maxHeartbeats 4000000 in
theorem onlyR_ctr (g : Prg) (l : List Int) (hl : ∀ k ∈ l, InP g k) (hb : l.length ≤ 1000000) (hR : g.rules.length ≤ 1000000) (hp : ∀ r ∈ g.rules, r.pos.length ≤ 1000000 ∧ r.neg.length ≤ 1000000) : Ctr Tryz.prog 118 [pav g, .d .ints l] [] (pav (onlyR g l)) [] := by
  refine ctr_pure E Tryz.func118 rfl Tryz.ntmps118 Tryz.results118 (Nat.le_of_ble_eq_true rfl) rfl ?_
  simp only [pav]
  repeat refine ok_seq ?_
  refine ok_reg E [1, 2, 4] [] (by simp [-Option.some.injEq, -Prod.mk.injEq]; rfl) (by first | trivial | omega | simp | (simp; omega)) ?_
  repeat refine ok_seq ?_
  refine ok_reg E [1, 2, 4, 5] [] (by simp [-Option.some.injEq, -Prod.mk.injEq]; rfl) (by first | trivial | omega | simp | (simp; omega)) ?_
  repeat refine ok_seq ?_
  refine ok_reg E [1, 2, 4, 5, 6] [] (by simp [-Option.some.injEq, -Prod.mk.injEq]; rfl) (by first | trivial | omega | simp | (simp; omega)) ?_
  repeat refine ok_seq ?_
  refine ok_block ?_
  repeat refine ok_seq ?_
  refine ok_ownC 2 0 36 .term rfl rfl ?_
  refine ok_loop (σ := Nat) (fun i => [(1, .d .ints l), (2, .ptr 0 0), (4, .ptr 1 0), (5, .ptr 2 0), (6, .d .i (i : Int))]) (fun i => [.cells [.d .terms g.atoms, .d (.sl .rule) g.rules], .cells [.nilsl, .nilsl], .cells [.orow 3, .nilsl], .orow 36 .term ((l.take i).map (gt g.atoms))]) (fun i => i ≤ l.length) (fun i => l.length - i) 0 (by simp) ?_ ?_
  · constructor <;> simp [EntF, EntH, EntB, Conv, ConvL, scop, scopL]
  rintro i hi
  repeat refine ok_seq ?_
  refine ok_reg E [1, 2, 4, 5, 6, 13] [] (by simp [-Option.some.injEq, -Prod.mk.injEq]; rfl) (by first | trivial | omega | simp | (simp; omega)) ?_
  repeat refine ok_seq ?_
  refine ok_if rfl (fun c1 => ?_) (fun c1 => ?_)
  · try simp at c1
    all_goals
      have hk := hl _ (gi_mem c1)
      simp only [InP] at hk
      refine ok_skip ?_
      repeat refine ok_seq ?_
      refine ok_block ?_
      repeat refine ok_seq ?_
      refine ok_dr E rfl [1, 2, 4, 5, 6] 11 [] (by decide) (by simp [nodupF]) (by simp [-Option.some.injEq, -Prod.mk.injEq]; rfl) (by simp [big]; omega) ?_
      repeat refine ok_seq ?_
      refine ok_reg E [1, 2, 4, 5, 6] [] (by simp [-Option.some.injEq, -Prod.mk.injEq]; rfl) (by first | trivial | omega | simp | (simp; omega)) ?_
      -- end01
      have e1 := mapT_step (f := gt g.atoms) c1
      exact ⟨i + 1, by omega, by omega, by constructor <;> simp (disch := omega) [EntF, EntH, EntB, Conv, ConvL, scop, scopL, wrap_i64, e1]⟩
  · try simp at c1
    all_goals
      skip
      refine ok_exit ?_
      repeat refine ok_seq ?_
      refine ok_reg E [1, 2, 4, 5, 7] [] (by simp [-Option.some.injEq, -Prod.mk.injEq]; rfl) (by first | trivial | omega | simp | (simp; omega)) ?_
      repeat refine ok_seq ?_
      refine ok_block ?_
      repeat refine ok_seq ?_
      refine ok_ownC 2 1 55 .rule rfl rfl ?_
      have e3 := List.take_of_length_le (l := l.map (gt g.atoms)) (i := i) (by simpa using c1)
      refine ok_loop (σ := Nat) (fun i => [(1, .d .ints l), (2, .ptr 0 0), (4, .ptr 1 0), (5, .ptr 2 0), (7, .d .i (i : Int))]) (fun i => [.cells [.d .terms g.atoms, .d (.sl .rule) g.rules], .cells [.nilsl, .nilsl], .cells [.orow 3, .orow 4], .orow 36 .term (l.map (gt g.atoms)), .orow 55 .rule (((g.rules.take i).filter fun r => decide (r.head ∈ l)).map (anewRule l))]) (fun i => i ≤ g.rules.length) (fun i => g.rules.length - i) 0 (by simp) ?_ ?_
      · constructor <;> simp [EntF, EntH, EntB, Conv, ConvL, scop, scopL, e3]
      rintro i hj
      repeat refine ok_seq ?_
      refine ok_reg E [1, 2, 4, 5, 7, 33] [] (by simp [-Option.some.injEq, -Prod.mk.injEq]; rfl) (by first | trivial | omega | simp | (simp; omega)) ?_
      repeat refine ok_seq ?_
      refine ok_if rfl (fun c2 => ?_) (fun c2 => ?_)
      · try simp at c2
        all_goals
          have hq := hp _ (gr_mem c2)
          have hf := filtR_len (fun r => decide (r.head ∈ l)) g.rules i
          refine ok_skip ?_
          repeat refine ok_seq ?_
          refine ok_block ?_
          repeat refine ok_seq ?_
          refine ok_reg E [1, 2, 4, 5, 7, 8] [] (by simp [-Option.some.injEq, -Prod.mk.injEq]; rfl) (by first | trivial | omega | simp | (simp; omega)) ?_
          repeat refine ok_seq ?_
          refine ok_reg E [1, 2, 4, 5, 7, 8, 44] [.pure (.d .bool (decide ((gr g.rules i).head ∈ l)))] (by simp [-Option.some.injEq, -Prod.mk.injEq]; rfl) (by (have k1 := isIn_ctr l (gr g.rules i).head; (try simp at k1); simp [k1]; try omega)) ?_
          repeat refine ok_seq ?_
          refine ok_if rfl (fun c3 => ?_) (fun c3 => ?_)
          · try simp at c3
            all_goals
              repeat refine ok_seq ?_
              refine ok_dr E rfl [1, 2, 4, 5, 7] 16 [.pure (.d .i (placeI l (gr g.rules i).head)), .pure (.d .ints (anewR (gr g.rules i).pos l)), .pure (.d .ints (anewR (gr g.rules i).neg l))] (by decide) (by simp [nodupF]) (by simp [-Option.some.injEq, -Prod.mk.injEq]; rfl) (by (have k1 := placeI_ctr l (gr g.rules i).head; have k2 := anewR_ctr (gr g.rules i).pos l hq.1; have k3 := anewR_ctr (gr g.rules i).neg l hq.2; (try simp at k1 k2 k3); simp [k1, k2, k3, big]; omega)) ?_
              repeat refine ok_seq ?_
              refine ok_reg E [1, 2, 4, 5, 7] [] (by simp [-Option.some.injEq, -Prod.mk.injEq]; rfl) (by first | trivial | omega | simp | (simp; omega)) ?_
              -- end21
              have e1 := filtR_step (p := fun r => decide (r.head ∈ l)) (f := anewRule l) c2
              rw [if_pos (by simpa using c3)] at e1
              exact ⟨i + 1, by omega, by omega, by constructor <;> simp (disch := omega) [EntF, EntH, EntB, Conv, ConvL, scop, scopL, wrap_i64, e1, anewRule]⟩
          · try simp at c3
            all_goals
              refine ok_skip ?_
              repeat refine ok_seq ?_
              refine ok_reg E [1, 2, 4, 5, 7] [] (by simp [-Option.some.injEq, -Prod.mk.injEq]; rfl) (by first | trivial | omega | simp | (simp; omega)) ?_
              -- end22
              have e1 := filtR_step (p := fun r => decide (r.head ∈ l)) (f := anewRule l) c2
              rw [if_neg (by simpa using c3), List.append_nil] at e1
              exact ⟨i + 1, by omega, by omega, by constructor <;> simp (disch := omega) [EntF, EntH, EntB, Conv, ConvL, scop, scopL, wrap_i64, e1]⟩
      · try simp at c2
        all_goals
          skip
          refine ok_exit ?_
          repeat refine ok_seq ?_
          refine ok_reg E [4] [] (by simp [-Option.some.injEq, -Prod.mk.injEq]; rfl) (by first | trivial | omega | simp | (simp; omega)) ?_
          refine ok_ret ⟨.inr rfl, ?_⟩
          -- ret1
          have e1 := List.take_of_length_le c2
          simp [onlyR, e1]

set_option maxRecDepth 8000 in
set_option maxHeartbeats 4000000 in
theorem cutR_ctr (g : Prg) (n : Int) (hr : RightP g) (hN : g.atoms.length ≤ 100000) (hR : g.rules.length ≤ 1000000) : Ctr Tryz.prog 44 [pav g, .d .i n] [] (pav (cutR g n)) [] := by
  refine ctr_pure E Tryz.func44 rfl Tryz.ntmps44 Tryz.results44 (Nat.le_of_ble_eq_true rfl) rfl ?_
  simp only [pav]
  have hq : ∀ r ∈ g.rules, r.pos.length ≤ 1000000 ∧ r.neg.length ≤ 1000000 := fun r h => by have h1 := setOk_len (hr.pos r h); have h2 := setOk_len (hr.neg r h); exact ⟨by omega, by omega⟩
  repeat refine ok_seq ?_
  refine ok_reg E [1, 2, 4] [] (by simp [-Option.some.injEq, -Prod.mk.injEq]; rfl) (by first | trivial | omega | simp | (simp; omega)) ?_
  repeat refine ok_seq ?_
  refine ok_regJ E [(13, .d .bool (decide (n < 0 ∨ (g.atoms.length : Int) ≤ n)))] [1, 2, 4] [1, 2, 4, 13] [] ?_ ?_
  · skip
    by_cases q0 : n < 0
    · refine ⟨_, _, _, by simp [q0, -Option.some.injEq, -Prod.mk.injEq]; rfl, (by first | trivial | omega | simp | (simp; omega)), by constructor <;> simp [EntF, EntH, EntB, Conv, scop, q0] <;> first | omega | (rw [Bool.eq_iff_iff]; simp; omega)⟩
    refine ⟨_, _, _, by simp [q0, -Option.some.injEq, -Prod.mk.injEq]; rfl, (by first | trivial | omega | simp | (simp; omega)), by constructor <;> simp [EntF, EntH, EntB, Conv, scop, q0] <;> first | omega | (rw [Bool.eq_iff_iff]; simp; omega)⟩
  repeat refine ok_seq ?_
  refine ok_if rfl (fun c1 => ?_) (fun c1 => ?_)
  · try simp at c1
    all_goals
      repeat refine ok_seq ?_
      refine ok_reg E [4] [] (by simp [-Option.some.injEq, -Prod.mk.injEq]; rfl) (by first | trivial | omega | simp | (simp; omega)) ?_
      refine ok_ent (ρ1 := [(4, .ptr 1 0)]) (H1 := [.dead, .cells [.d .terms [], .d (.sl .rule) []]]) (by constructor <;> simp [EntF, EntH, EntB, Conv, ConvL, scop, scopL]) ?_
      refine ok_ret ⟨.inr rfl, ?_⟩
      -- ret1
      simp [cutR, c1]
  · try simp at c1
    all_goals
      refine ok_skip ?_
      repeat refine ok_seq ?_
      refine ok_dr E rfl [4] 5 [.pure (.d .ints (leadsR g n)), .pure (pav (onlyR g (leadsR g n)))] (by decide) (by simp [nodupF]) (by simp [-Option.some.injEq, -Prod.mk.injEq]; rfl) (by (have hi : InP g n := ⟨c1.1, c1.2⟩; have h1 := leadsR_all hr hi; have h2 : ∀ k ∈ leadsR g n, InP g k := fun k hk => ((h1.2 k).1 hk).inP hr hi; have h3 := ris_len h1.1 h2; have k1 := leadsR_ctr g n hr hi hN hR; have k2 := onlyR_ctr g (leadsR g n) h2 (by omega) hR hq; (try simp at k1 k2); simp [k1, k2])) ?_
      refine ok_ret ⟨.inr rfl, ?_⟩
      -- ret2
      have c2 : ¬ (n < 0 ∨ (g.atoms.length : Int) ≤ n) := by omega
      simp [cutR, c2]

set_option maxRecDepth 8000 in
set_option maxHeartbeats 4000000 in
theorem instR_ctr (g : Prg) (r : Rule) (h0 : InP g r.head) (hp : ∀ k ∈ r.pos, InP g k) (hn : ∀ k ∈ r.neg, InP g k) (hlp : r.pos.length ≤ 1000000) (hln : r.neg.length ≤ 1000000) : Ctr Tryz.prog 46 [pav g, avOf .rule r] [] (avOf .inst (instR g r)) [] := by
  refine ctr_pure E Tryz.func46 rfl Tryz.ntmps46 Tryz.results46 (Nat.le_of_ble_eq_true rfl) rfl ?_
  simp only [pav]
  simp only [InP] at h0 hp hn
  repeat refine ok_seq ?_
  refine ok_reg E [2, 3, 4] [] (by simp [-Option.some.injEq, -Prod.mk.injEq]; rfl) (by first | trivial | omega | simp | (simp; omega)) ?_
  repeat refine ok_seq ?_
  refine ok_reg E [2, 3, 4, 5] [] (by simp [-Option.some.injEq, -Prod.mk.injEq]; rfl) (by omega) ?_
  repeat refine ok_seq ?_
  refine ok_reg E [2, 3, 4, 5, 6] [] (by simp [-Option.some.injEq, -Prod.mk.injEq]; rfl) (by first | trivial | omega | simp | (simp; omega)) ?_
  repeat refine ok_seq ?_
  refine ok_block ?_
  repeat refine ok_seq ?_
  refine ok_ownC 3 1 36 .term rfl rfl ?_
  refine ok_loop (σ := Nat) (fun i => [(2, .ptr 0 0), (3, .ptr 1 0), (4, .ptr 2 0), (5, .ptr 3 0), (6, .d .i (i : Int))]) (fun i => [.cells [.d .terms g.atoms, .d (.sl .rule) g.rules], .cells [.d .i r.head, .d .ints r.pos, .d .ints r.neg], .cells [.nilsl, .nilsl, .nilsl], .cells [.d .term (gt g.atoms r.head), .orow 4, .nilsl], .orow 36 .term ((r.pos.take i).map (gt g.atoms))]) (fun i => i ≤ r.pos.length) (fun i => r.pos.length - i) 0 (by simp) ?_ ?_
  · constructor <;> simp [EntF, EntH, EntB, Conv, ConvL, scop, scopL]
  rintro i hi
  repeat refine ok_seq ?_
  refine ok_reg E [2, 3, 4, 5, 6, 19] [] (by simp [-Option.some.injEq, -Prod.mk.injEq]; rfl) (by first | trivial | omega | simp | (simp; omega)) ?_
  repeat refine ok_seq ?_
  refine ok_if rfl (fun c1 => ?_) (fun c1 => ?_)
  · try simp at c1
    all_goals
      refine ok_skip ?_
      repeat refine ok_seq ?_
      refine ok_block ?_
      repeat refine ok_seq ?_
      refine ok_dr E rfl [2, 3, 4, 5, 6] 12 [] (by decide) (by simp [nodupF]) (by simp [-Option.some.injEq, -Prod.mk.injEq]; rfl) (by (have hk := hp _ (gi_mem c1); simp [big]; omega)) ?_
      repeat refine ok_seq ?_
      refine ok_reg E [2, 3, 4, 5, 6] [] (by simp [-Option.some.injEq, -Prod.mk.injEq]; rfl) (by first | trivial | omega | simp | (simp; omega)) ?_
      -- end01
      have e1 := mapT_step (f := gt g.atoms) c1
      exact ⟨i + 1, by omega, by omega, by constructor <;> simp (disch := omega) [EntF, EntH, EntB, Conv, ConvL, scop, scopL, wrap_i64, e1]⟩
  · try simp at c1
    all_goals
      refine ok_exit ?_
      repeat refine ok_seq ?_
      refine ok_reg E [2, 3, 4, 5, 7] [] (by simp [-Option.some.injEq, -Prod.mk.injEq]; rfl) (by first | trivial | omega | simp | (simp; omega)) ?_
      repeat refine ok_seq ?_
      refine ok_block ?_
      repeat refine ok_seq ?_
      refine ok_ownC 3 2 36 .term rfl rfl ?_
      have e3 := List.take_of_length_le (l := r.pos.map (gt g.atoms)) (i := i) (by simpa using c1)
      refine ok_loop (σ := Nat) (fun j => [(2, .ptr 0 0), (3, .ptr 1 0), (4, .ptr 2 0), (5, .ptr 3 0), (7, .d .i (j : Int))]) (fun j => [.cells [.d .terms g.atoms, .d (.sl .rule) g.rules], .cells [.d .i r.head, .d .ints r.pos, .d .ints r.neg], .cells [.nilsl, .nilsl, .nilsl], .cells [.d .term (gt g.atoms r.head), .orow 4, .orow 5], .orow 36 .term (r.pos.map (gt g.atoms)), .orow 36 .term ((r.neg.take j).map (gt g.atoms))]) (fun j => j ≤ r.neg.length) (fun j => r.neg.length - j) 0 (by simp) ?_ ?_
      · constructor <;> simp [EntF, EntH, EntB, Conv, ConvL, scop, scopL, e3]
      rintro j hj
      repeat refine ok_seq ?_
      refine ok_reg E [2, 3, 4, 5, 7, 40] [] (by simp [-Option.some.injEq, -Prod.mk.injEq]; rfl) (by first | trivial | omega | simp | (simp; omega)) ?_
      repeat refine ok_seq ?_
      refine ok_if rfl (fun c2 => ?_) (fun c2 => ?_)
      · try simp at c2
        all_goals
          refine ok_skip ?_
          repeat refine ok_seq ?_
          refine ok_block ?_
          repeat refine ok_seq ?_
          refine ok_dr E rfl [2, 3, 4, 5, 7] 12 [] (by decide) (by simp [nodupF]) (by simp [-Option.some.injEq, -Prod.mk.injEq]; rfl) (by (have hk := hn _ (gi_mem c2); simp [big]; omega)) ?_
          repeat refine ok_seq ?_
          refine ok_reg E [2, 3, 4, 5, 7] [] (by simp [-Option.some.injEq, -Prod.mk.injEq]; rfl) (by first | trivial | omega | simp | (simp; omega)) ?_
          -- end21
          have e1 := mapT_step (f := gt g.atoms) c2
          exact ⟨j + 1, by omega, by omega, by constructor <;> simp (disch := omega) [EntF, EntH, EntB, Conv, ConvL, scop, scopL, wrap_i64, e1]⟩
      · try simp at c2
        all_goals
          refine ok_exit ?_
          repeat refine ok_seq ?_
          refine ok_reg E [4] [] (by simp [-Option.some.injEq, -Prod.mk.injEq]; rfl) (by first | trivial | omega | simp | (simp; omega)) ?_
          refine ok_ret ⟨.inr rfl, ?_⟩
          -- ret1
          have e1 := List.take_of_length_le (l := r.neg.map (gt g.atoms)) (i := j) (by simpa using c2)
          simp [instR, e1]

theorem take1_ne {l : List Term} (h : l ≠ []) : l.take 1 = [gt l 0] := by
  cases l with
  | nil => exact absurd rfl h
  | cons a r => rfl
theorem rev_step {l : List Term} {i : Nat} (h : i < l.length) : l.reverse.take (i + 1) = l.reverse.take i ++ [gt l ((l.length : Int) - 1 - i)] := by
  have h2 : i < l.reverse.length := by simpa using h
  rw [List.take_succ_eq_append_getElem h2, List.getElem_reverse, show ((l.length : Int) - 1 - i) = ((l.length - 1 - i : Nat) : Int) by omega, gt_lt (by omega)]

set_option maxRecDepth 8000 in
set_option maxHeartbeats 4000000 in
theorem turnedR_ctr (x : Inst) (hp : x.pos.length ≤ 1000000) (hn : x.neg.length ≤ 1000000) : Ctr Tryz.prog 45 [avOf .inst x] [] (avOf .inst (turnedR x)) [] := by
  refine ctr_pure E Tryz.func45 rfl Tryz.ntmps45 Tryz.results45 (Nat.le_of_ble_eq_true rfl) rfl ?_
  repeat refine ok_seq ?_
  refine ok_reg E [1, 2] [] (by simp [-Option.some.injEq, -Prod.mk.injEq]; rfl) (by first | trivial | omega | simp | (simp; omega)) ?_
  repeat refine ok_seq ?_
  refine ok_reg E [1, 2, 3] [] (by simp [-Option.some.injEq, -Prod.mk.injEq]; rfl) (by first | trivial | omega | simp | (simp; omega)) ?_
  repeat refine ok_seq ?_
  refine ok_reg E [1, 2, 3, 4] [] (by simp [-Option.some.injEq, -Prod.mk.injEq]; rfl) (by first | trivial | omega | simp | (simp; omega)) ?_
  repeat refine ok_seq ?_
  refine ok_block ?_
  repeat refine ok_seq ?_
  refine ok_ownC 2 1 36 .term rfl rfl ?_
  refine ok_loop (σ := Nat) (fun i => [(1, .ptr 0 0), (2, .ptr 1 0), (3, .ptr 2 0), (4, .d .i ((x.pos.length : Int) - 1 - i))]) (fun i => [.cells [.d .term x.head, .d .terms x.pos, .d .terms x.neg], .cells [.nilsl, .nilsl, .nilsl], .cells [.d .term x.head, .orow 3, .nilsl], .orow 36 .term (x.pos.reverse.take i)]) (fun i => i ≤ x.pos.length) (fun i => x.pos.length - i) 0 (by simp) ?_ ?_
  · constructor <;> simp (disch := omega) [EntF, EntH, EntB, Conv, ConvL, scop, scopL, wrap_i64]
  rintro i hi
  repeat refine ok_seq ?_
  refine ok_reg E [1, 2, 3, 4, 14] [] (by simp [-Option.some.injEq, -Prod.mk.injEq]; rfl) (by first | trivial | omega | simp | (simp; omega)) ?_
  repeat refine ok_seq ?_
  refine ok_if rfl (fun c1 => ?_) (fun c1 => ?_)
  · try simp at c1
    all_goals
      refine ok_skip ?_
      repeat refine ok_seq ?_
      refine ok_block ?_
      repeat refine ok_seq ?_
      refine ok_dr E rfl [1, 2, 3, 4] 8 [] (by decide) (by simp [nodupF]) (by simp [-Option.some.injEq, -Prod.mk.injEq]; rfl) (by simp [big]; omega) ?_
      repeat refine ok_seq ?_
      refine ok_reg E [1, 2, 3, 4] [] (by simp [-Option.some.injEq, -Prod.mk.injEq]; rfl) (by first | trivial | omega | simp | (simp; omega)) ?_
      -- end01
      have e1 := rev_step (l := x.pos) (i := i) (by omega)
      exact ⟨i + 1, by omega, by omega, by constructor <;> simp (disch := omega) [EntF, EntH, EntB, Conv, ConvL, scop, scopL, wrap_i64, e1] <;> (show (_ : Int) = (_ : Int); omega)⟩
  · try simp at c1
    all_goals
      refine ok_exit ?_
      repeat refine ok_seq ?_
      refine ok_reg E [1, 2, 3, 30] [] (by simp [-Option.some.injEq, -Prod.mk.injEq]; rfl) (by first | trivial | omega | simp | (simp; omega)) ?_
      repeat refine ok_seq ?_
      refine ok_if rfl (fun c2 => ?_) (fun c2 => ?_)
      · try simp at c2
        all_goals
          have e4 : x.pos.take 1 = [gt x.pos 0] := take1_ne (by intro h; simp [h] at c2)
          repeat refine ok_seq ?_
          refine ok_dr E rfl [1, 2, 3] 7 [] (by decide) (by simp [nodupF]) (by simp [-Option.some.injEq, -Prod.mk.injEq]; rfl) (by simp [big]; omega) ?_
          repeat refine ok_seq ?_
          refine ok_reg E [1, 2, 3, 5] [] (by simp [-Option.some.injEq, -Prod.mk.injEq]; rfl) (by first | trivial | omega | simp | (simp; omega)) ?_
          repeat refine ok_seq ?_
          refine ok_block ?_
          repeat refine ok_seq ?_
          refine ok_ownC 2 2 36 .term rfl rfl ?_
          have e3 : x.pos.reverse.take i = x.pos.reverse := List.take_of_length_le (by simp; omega)
          refine ok_loop (σ := Nat) (fun j => [(1, .ptr 0 0), (2, .ptr 1 0), (3, .ptr 2 0), (5, .d .i ((x.neg.length : Int) - 1 - j))]) (fun j => [.cells [.d .term x.head, .d .terms x.pos, .d .terms x.neg], .cells [.nilsl, .nilsl, .nilsl], .cells [.d .term x.head, .orow 3, .orow 4], .orow 36 .term (x.pos.reverse ++ x.pos.take 1), .orow 36 .term (x.neg.reverse.take j)]) (fun j => j ≤ x.neg.length) (fun j => x.neg.length - j) 0 (by simp) ?_ ?_
          · constructor <;> simp (disch := omega) [EntF, EntH, EntB, Conv, ConvL, scop, scopL, wrap_i64, e3, e4]
          rintro j hj
          repeat refine ok_seq ?_
          refine ok_reg E [1, 2, 3, 5, 45] [] (by simp [-Option.some.injEq, -Prod.mk.injEq]; rfl) (by first | trivial | omega | simp | (simp; omega)) ?_
          repeat refine ok_seq ?_
          refine ok_if rfl (fun c3 => ?_) (fun c3 => ?_)
          · try simp at c3
            all_goals
              refine ok_skip ?_
              repeat refine ok_seq ?_
              refine ok_block ?_
              repeat refine ok_seq ?_
              refine ok_dr E rfl [1, 2, 3, 5] 8 [] (by decide) (by simp [nodupF]) (by simp [-Option.some.injEq, -Prod.mk.injEq]; rfl) (by simp [big]; omega) ?_
              repeat refine ok_seq ?_
              refine ok_reg E [1, 2, 3, 5] [] (by simp [-Option.some.injEq, -Prod.mk.injEq]; rfl) (by first | trivial | omega | simp | (simp; omega)) ?_
              -- end21
              have e1 := rev_step (l := x.neg) (i := j) (by omega)
              exact ⟨j + 1, by omega, by omega, by constructor <;> simp (disch := omega) [EntF, EntH, EntB, Conv, ConvL, scop, scopL, wrap_i64, e1] <;> (show (_ : Int) = (_ : Int); omega)⟩
          · try simp at c3
            all_goals
              refine ok_exit ?_
              repeat refine ok_seq ?_
              refine ok_reg E [2] [] (by simp [-Option.some.injEq, -Prod.mk.injEq]; rfl) (by first | trivial | omega | simp | (simp; omega)) ?_
              refine ok_ret ⟨.inr rfl, ?_⟩
              -- ret1
              have e5 : x.neg.reverse.take j = x.neg.reverse := List.take_of_length_le (by simp; omega)
              simp [turnedR, e5]
      · try simp at c2
        all_goals
          have e4 : x.pos.take 1 = [] := by simp [c2]
          refine ok_skip ?_
          repeat refine ok_seq ?_
          refine ok_reg E [1, 2, 3, 5] [] (by simp [-Option.some.injEq, -Prod.mk.injEq]; rfl) (by first | trivial | omega | simp | (simp; omega)) ?_
          repeat refine ok_seq ?_
          refine ok_block ?_
          repeat refine ok_seq ?_
          refine ok_ownC 2 2 36 .term rfl rfl ?_
          have e3 : x.pos.reverse.take i = x.pos.reverse := List.take_of_length_le (by simp; omega)
          refine ok_loop (σ := Nat) (fun j => [(1, .ptr 0 0), (2, .ptr 1 0), (3, .ptr 2 0), (5, .d .i ((x.neg.length : Int) - 1 - j))]) (fun j => [.cells [.d .term x.head, .d .terms x.pos, .d .terms x.neg], .cells [.nilsl, .nilsl, .nilsl], .cells [.d .term x.head, .orow 3, .orow 4], .orow 36 .term (x.pos.reverse ++ x.pos.take 1), .orow 36 .term (x.neg.reverse.take j)]) (fun j => j ≤ x.neg.length) (fun j => x.neg.length - j) 0 (by simp) ?_ ?_
          · constructor <;> simp (disch := omega) [EntF, EntH, EntB, Conv, ConvL, scop, scopL, wrap_i64, e3, e4]
          rintro j hj
          repeat refine ok_seq ?_
          refine ok_reg E [1, 2, 3, 5, 45] [] (by simp [-Option.some.injEq, -Prod.mk.injEq]; rfl) (by first | trivial | omega | simp | (simp; omega)) ?_
          repeat refine ok_seq ?_
          refine ok_if rfl (fun c4 => ?_) (fun c4 => ?_)
          · try simp at c4
            all_goals
              refine ok_skip ?_
              repeat refine ok_seq ?_
              refine ok_block ?_
              repeat refine ok_seq ?_
              refine ok_dr E rfl [1, 2, 3, 5] 8 [] (by decide) (by simp [nodupF]) (by simp [-Option.some.injEq, -Prod.mk.injEq]; rfl) (by simp [big]; omega) ?_
              repeat refine ok_seq ?_
              refine ok_reg E [1, 2, 3, 5] [] (by simp [-Option.some.injEq, -Prod.mk.injEq]; rfl) (by first | trivial | omega | simp | (simp; omega)) ?_
              -- end22
              have e1 := rev_step (l := x.neg) (i := j) (by omega)
              exact ⟨j + 1, by omega, by omega, by constructor <;> simp (disch := omega) [EntF, EntH, EntB, Conv, ConvL, scop, scopL, wrap_i64, e1] <;> (show (_ : Int) = (_ : Int); omega)⟩
          · try simp at c4
            all_goals
              refine ok_exit ?_
              repeat refine ok_seq ?_
              refine ok_reg E [2] [] (by simp [-Option.some.injEq, -Prod.mk.injEq]; rfl) (by first | trivial | omega | simp | (simp; omega)) ?_
              refine ok_ret ⟨.inr rfl, ?_⟩
              -- ret2
              have e5 : x.neg.reverse.take j = x.neg.reverse := List.take_of_length_le (by simp; omega)
              simp [turnedR, e5]

end Go.Proofs.YtgapiecbinplfaaGreat
