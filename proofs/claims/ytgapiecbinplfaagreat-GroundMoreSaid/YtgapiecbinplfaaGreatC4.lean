/- Own framework, walks and plain laws behind the laws of this seat, part C4: lemmas, no statement of the seat. -/
import Derived.Test.YtgapiecbinplfaaGreatC3
set_option linter.all false
/- A string as a row of runes: the one conversion that lays a block. -/
namespace Go.Proofs.YtgapiecbinplfaaGreat
open Go.RowKit

def rns (s : ByteArray) : Nat → Nat → List Int
  | 0, _ => []
  | b + 1, i => if i < s.size then (Int.ofNat (Utf8.decode s i).1) :: rns s b (i + (Utf8.decode s i).2) else []
theorem runesFrom_eq (s : ByteArray) : ∀ (b i : Nat) (acc : Array Value), Conv.runesFrom s b i acc = acc ++ ((rns s b i).map (Value.int .i32)).toArray
  | 0, i, acc => by simp [Conv.runesFrom, rns]
  | b + 1, i, acc => by
    unfold Conv.runesFrom rns
    split
    · show Conv.runesFrom s b (i + (Utf8.decode s i).2) (acc.push (.int .i32 (Int.ofNat (Utf8.decode s i).1))) = _
      rw [runesFrom_eq s b]; simp [List.map_cons]
    · simp
theorem rns_len (s : ByteArray) : ∀ (b i : Nat), (rns s b i).length ≤ b
  | 0, i => by simp [rns]
  | b + 1, i => by
    unfold rns; split
    · have := rns_len s b (i + (Utf8.decode s i).2); simp; omega
    · simp
def runes (s : List UInt8) : List Int := rns ⟨s.toArray⟩ s.length 0

variable {P : Program}

section
variable {fz : Fz} {β : List Value} {w : World} {m0 N : Nat} {a : Act} {ρ : Fr} {H : List Box} {S : Start}

theorem els_ints {k : IntKind} : ∀ (l : List Int), ElsR fz w (.int k) l (l.map (Value.int k))
  | [] => rfl
  | n :: l => ⟨[.int k n], l.map (Value.int k), rfl, rfl, els_ints l⟩

theorem Rel.newDataC (h : Rel S m0 N fz β w a ρ H) {τ : Ty} {xs : List τ.den} {news pads : List Value} (e : TypeId) (he : ElsR fz w τ xs news) {cap : Nat} (hc : xs.length ≤ cap) (hm : cap ≤ maxLen) (hl : news.length + pads.length = cap * τ.size) :
    Rel S m0 N (fzRow fz (.slice (some ⟨w.heap.size, 0, none⟩) xs.length cap) news.length) β (w.alloc (.cells (news ++ pads).toArray e)) a ρ H ∧
    RdA (fzRow fz (.slice (some ⟨w.heap.size, 0, none⟩) xs.length cap) news.length) β (w.alloc (.cells (news ++ pads).toArray e)) (.d (.sl τ) xs) (.slice (some ⟨w.heap.size, 0, none⟩) xs.length cap) := by
  let v : Value := .slice (some ⟨w.heap.size, 0, none⟩) xs.length cap
  let fz2 : Fz := fzRow fz v news.length
  have hlater : Later fz w fz2 (w.alloc (.cells (news ++ pads).toArray e)) := fun b k hf => ⟨.inl hf, World.cell?_of_block (w := w) (Below.heap_alloc w _ b (h.fzok b k hf))⟩
  refine ⟨h.newFz _ (fun k o hf => ?_) (fun _ _ h => .inl h), ?_⟩
  · rcases hf with hf | ⟨hf, _⟩
    · exact .inl hf
    · cases hf; exact .inr rfl
  · simp only [RdA]
    refine elR_sl.2 (RdSl_own (e := e) (vals := news) ⟨he.length, .inr ⟨w.heap.size, cap, (news ++ pads).toArray, rfl, Nat.zero_le _, heap_alloc_new w _, hc, hm, by simpa using hl, by rw [← he.length]; simp⟩⟩ (ElsR.mono hlater _ _ he) (fun blk hb o => ?_))
    cases hb
    refine ⟨fun hz => ?_, fun hz => .inr ⟨rfl, hz⟩⟩
    rcases hz with hz | ⟨_, hz⟩
    · exact absurd (h.fzok _ _ hz) (Nat.lt_irrefl _)
    · exact hz

/-- A string converted to a row of runes. -/
def cvOp (E : TEnv P) (ρ : Fr) (H : List Box) : Op → Option Res
  | .convert s d x => match E.el d, evA ρ x with
    | some (e, .int .i32), some (.d .str b) => if E.str s = true ∧ E.ik e = some .i32 then some ⟨some (.d (.sl (.int .i32)) (runes b)), ρ, H, b.length ≤ big⟩ else none
    | _, _ => none
  | _ => none

theorem cvOp_ok (E : TEnv P) (h : Rel S m0 N fz β w a ρ H) {o : Oper} {r : Res} (hs : cvOp E ρ H o.op = some r) (hob : r.ob) : OpOk P S m0 N o a w r := by
  cases ho : o.op with
  | convert s d x =>
    rw [ho] at hs
    simp only [cvOp] at hs
    split at hs
    · rename_i e b hd hx
      split at hs
      · rename_i hc
        cases hs
        have hr := evA_ok h.fr hx
        simp only [RdA, ElR, List.cons.injEq, and_true] at hr
        have heo := E.elok d e (.int .i32) hd
        have hu := E.strok s hc.1
        have hue := E.ikok e .i32 hc.2
        have hlen : (runes b).length ≤ b.length := rns_len _ _ _
        have hml : (runes b).length ≤ maxLen := by have : b.length ≤ big := hob; simp only [big] at this; simp only [maxLen]; omega
        intro K Q hK
        have hge := grownCap_ge w (runes b).length 0 e
        have hcm := grownCap_le_maxLen w (runes b).length 0 e hml
        have hsz : ((rns ⟨b.toArray⟩ b.length 0).map (Value.int .i32)).toArray.size = (runes b).length := by simp [runes]
        have hrun : (execOp a.eval o).run P w = .ok (.value (.slice (some ⟨w.heap.size, 0, none⟩) (runes b).length (grownCap w (runes b).length 0 e)))
            (w.drew.alloc (.cells ((runes b).map (Value.int .i32) ++ List.replicate (grownCap w (runes b).length 0 e - (runes b).length) (Value.int .i32 0)).toArray e)) := by
          have h1 : (Conv.stringToRunes e ⟨b.toArray⟩).run P w = .ok (.slice (some ⟨w.heap.size, 0, none⟩) (runes b).length (grownCap w (runes b).length 0 e))
            (w.drew.alloc (.cells ((runes b).map (Value.int .i32) ++ List.replicate (grownCap w (runes b).length 0 e - (runes b).length) (Value.int .i32 0)).toArray e)) := by
            unfold Conv.stringToRunes
            rw [runesFrom_eq, ByteArray_size_mk]
            simp [runes, Question.forced, newRow, grownCap]
            congr 2
            apply Array.ext'
            simp
          simp [ho, execOp, hr, convert, run_underlying hu, run_underlying heo.under, run_underlying hue, h1]
        have hd := h.drew
        obtain ⟨h4, h5⟩ := hd.newDataC (τ := .int .i32) (xs := runes b) (pads := List.replicate (grownCap w (runes b).length 0 e - (runes b).length) (Value.int .i32 0)) e (els_ints (runes b)) hge hcm (by simp [Ty.size]; omega)
        exact wp_value hrun (hK _ β _ _ h4 (fun x hx => by cases hx; exact h5))
      · cases hs
    · cases hs
  | _ => rw [ho] at hs; simp [cvOp] at hs
end
end Go.Proofs.YtgapiecbinplfaaGreat
/- Statements: regions in the order of the text, sequences, branches, blocks, loops. -/
namespace Go.Proofs.YtgapiecbinplfaaGreat
open Go.RowKit

def guardA (all : List Oper) (ρ : Fr) : Option (Nat × Bool) → Option Bool
  | none => some true
  | some (j, want) => match (all[j]?).bind (·.dst) with
    | some t => match look ρ t with
      | some (.d .bool b) => some (b == want)
      | some (.tup []) => some false
      | _ => none
    | none => none

def put1 (N : Nat) (dst : Option Tmp) (r : Res) : Option Fr :=
  match dst with
  | none => some r.ρ
  | some d => if d < N then (match r.x with
    | some x => some ((d, x) :: del r.ρ d)
    | none => some (del r.ρ d)) else none

/-- Which of the three functions knows an operation. -/
def opKind : Op → Nat
  | .alloc _ | .box .. | .buildSlice .. | .makeSlice .. | .store .. => 1
  | .call c => match c.callee with
    | .value _ => 2
    | .builtin .append => 1
    | .builtin .clear => 1
    | _ => 0
  | _ => 0

variable {P : Program}

def op1 (E : TEnv P) (frz : Bool) (ρ : Fr) (H : List Box) (op : Op) (cs : List CO) : Option (Res × List CO) :=
  match opKind op with
  | 0 => (valOp E ρ H op).map fun p => (⟨some p.1, ρ, H, p.2⟩, cs)
  | 1 => (stOp E frz ρ H op).map fun r => (r, cs)
  | _ => match op, cs with
    | .call { callee := .value f, args := as, argTypes := _ }, c :: cs' => (callOp E ρ H f as c).map fun r => (r, cs')
    | _, _ => none

/-- With the conversion that lays a block. -/
def op1x (E : TEnv P) (frz : Bool) (ρ : Fr) (H : List Box) (op : Op) (cs : List CO) : Option (Res × List CO) :=
  match op1 E frz ρ H op cs with
  | some r => some r
  | none => match cvOp E ρ H op with
    | some r => some (r, cs)
    | none => none

/-- A row of operations, in the order of the text: what is known behind it, and what must hold. -/
def runOps (E : TEnv P) (N : Nat) (frz : Bool) (all : List Oper) : List Oper → Fr → List Box → List CO → Option (Fr × List Box × Prop)
  | [], ρ, H, _ => some (ρ, H, True)
  | o :: rest, ρ, H, cs => match guardA all ρ o.guard with
    | some true => match op1x E frz ρ H o.op cs with
      | some (r, cs') => match put1 N o.dst r with
        | some ρ' => match runOps E N frz all rest ρ' r.H cs' with
          | some (ρ2, H2, ob) => some (ρ2, H2, r.ob ∧ ob)
          | none => none
        | none => none
      | none => none
    | some false => match o.dst with
      | some d => if d < N then runOps E N frz all rest ((d, .tup []) :: del ρ d) H cs else none
      | none => runOps E N frz all rest ρ H cs
    | none => none

section
variable {fz fz' : Fz} {β β' : List Value} {w w' : World} {m0 N : Nat} {a : Act} {ρ : Fr} {H : List Box} {S : Start}

theorem op1_ok (E : TEnv P) (h : Rel S m0 N fz β w a ρ H) {o : Oper} {frz : Bool} {cs cs' : List CO} {r : Res} (hs : op1 E frz ρ H o.op cs = some (r, cs')) (hob : r.ob) : OpOk P S m0 N o a w r := by
  unfold op1 at hs
  split at hs
  · rw [Option.map_eq_some_iff] at hs
    obtain ⟨⟨x, ob⟩, hv, he⟩ := hs
    cases he
    obtain ⟨v, h1, h2⟩ := valOp_ok E h.fr h.bx hv hob
    intro K Q hK
    exact wp_value h1 (hK fz β w v h (fun x hx => by cases hx; exact h2))
  · rw [Option.map_eq_some_iff] at hs
    obtain ⟨r', hv, he⟩ := hs
    cases he
    exact stOp_ok E h hv hob
  · split at hs
    · rename_i f as ts c cs'' hop
      rw [Option.map_eq_some_iff] at hs
      obtain ⟨r', hv, he⟩ := hs
      cases he
      exact callOp_ok E h hop hv hob
    · cases hs

theorem op1x_ok (E : TEnv P) (h : Rel S m0 N fz β w a ρ H) {o : Oper} {frz : Bool} {cs cs' : List CO} {r : Res} (hs : op1x E frz ρ H o.op cs = some (r, cs')) (hob : r.ob) : OpOk P S m0 N o a w r := by
  unfold op1x at hs
  split at hs
  · rename_i r0 h1
    cases hs
    exact op1_ok E h h1 hob
  · split at hs
    · rename_i r0 h1
      cases hs
      exact cvOp_ok E h h1 hob
    · cases hs

theorem put1_ok {r : Res} {dst : Option Tmp} {v : Value} (h : Rel S m0 N fz β w a r.ρ r.H) (hx : ∀ x, r.x = some x → RdA fz β w x v) {ρ' : Fr} (hp : put1 N dst r = some ρ') :
    Rel S m0 N fz β w (a.put dst v) ρ' r.H := by
  unfold put1 at hp
  split at hp
  · cases hp; exact h
  · split at hp
    · rename_i hd
      split at hp
      · rename_i x hx'
        cases hp
        exact ⟨h.fr.put hd (hx x hx'), h.bx, h.mine, h.anc, h.fzok, h.pre⟩
      · cases hp
        exact ⟨h.fr.drop, h.bx, h.mine, h.anc, h.fzok, h.pre⟩
    · cases hp

theorem guardA_ok {ops : Array Oper} (hf : FrR fz β w N a ρ) {o : Oper} {b : Bool} (hg : guardA ops.toList ρ o.guard = some b) : Region.wanted o (yielded ops a.tmps) = b := by
  unfold Region.wanted
  cases hgd : o.guard with
  | none => rw [hgd] at hg; simp only [guardA, Option.some.injEq] at hg; simpa using hg
  | some p =>
    obtain ⟨j, want⟩ := p
    rw [hgd] at hg
    simp only [guardA] at hg
    split at hg
    · rename_i t ht
      have ht' : (ops[j]?).bind (·.dst) = some t := by simpa using ht
      split at hg
      · rename_i c hc
        cases hg
        obtain ⟨h1, h2⟩ := hf.2.2 t _ (look_mem hc)
        simp only [RdA, ElR, List.cons.injEq, and_true] at h2
        have : a.tmps[t]? = some (.bool c) := by
          rw [Array.getD_eq_getD_getElem?] at h2
          rw [Array.getElem?_eq_getElem (by rw [hf.2.1]; exact h1)] at h2 ⊢
          simpa using h2
        simp [yielded, ht', this]
      · rename_i hc
        cases hg
        obtain ⟨h1, h2⟩ := hf.2.2 t _ (look_mem hc)
        simp only [RdA, RdL] at h2
        obtain ⟨vs, h2, rfl⟩ := h2
        have : a.tmps[t]? = some (.tuple #[]) := by
          rw [Array.getD_eq_getD_getElem?] at h2
          rw [Array.getElem?_eq_getElem (by rw [hf.2.1]; exact h1)] at h2 ⊢
          simpa using h2
        simp [yielded, ht', this]
      · cases hg
    · cases hg

theorem undef_ok : RdA fz β w (.tup []) undef := by
  simp only [RdA, RdL]; exact ⟨[], rfl, rfl⟩

theorem runOps_ok (E : TEnv P) {ops : Array Oper} {frz : Bool} {Q : Exit → Act → World → Prop} : ∀ {l : List Oper} {ρ : Fr} {H : List Box} {cs : List CO} {fz : Fz} {β : List Value} {w : World} {a : Act} {ρ' : Fr} {H' : List Box} {ob : Prop},
    runOps E N frz ops.toList l ρ H cs = some (ρ', H', ob) → ob → Rel S m0 N fz β w a ρ H →
    (∀ fz' β' w' a', Rel S m0 N fz' β' w' a' ρ' H' → Q .normal a' w') → wpList P ops Q l a w
  | [], ρ, H, cs, fz, β, w, a, ρ', H', ob, hs, hob, h, hk => by
    simp only [runOps, Option.some.injEq, Prod.mk.injEq] at hs
    obtain ⟨rfl, rfl, rfl⟩ := hs
    exact hk fz β w a h
  | o :: rest, ρ, H, cs, fz, β, w, a, ρ', H', ob, hs, hob, h, hk => by
    simp only [runOps] at hs
    split at hs
    · rename_i hg
      split at hs
      · rename_i r cs' h1
        split at hs
        · rename_i ρ1 hp
          split at hs
          · rename_i ρ2 H2 ob2 h2
            cases hs
            unfold wpList
            rw [if_pos (guardA_ok h.fr hg)]
            refine .inl (op1x_ok E h h1 hob.1 _ _ fun fz' β' w' v hr hx => ?_)
            exact runOps_ok E h2 hob.2 (put1_ok hr hx hp) hk
          · cases hs
        · cases hs
      · cases hs
    · rename_i hg
      unfold wpList
      rw [if_neg (by rw [guardA_ok h.fr hg]; simp)]
      split at hs
      · rename_i d hd
        split at hs
        · rename_i hdN
          refine runOps_ok E hs hob (β := β) (fz := fz) ?_ hk
          rw [hd]
          exact ⟨h.fr.put hdN undef_ok, h.bx, h.mine, h.anc, h.fzok, h.pre⟩
        · cases hs
      · rename_i hd
        rw [hd]
        exact runOps_ok E hs hob h hk
    · cases hs
end

/-- WHAT A STATEMENT DOES TO WHAT IS KNOWN. -/
def Ok (P : Program) (m0 N : Nat) (c : Code) (Q : Exit → Fr → List Box → Prop) (ρ : Fr) (H : List Box) : Prop :=
  ∀ (S : Start) (fz : Fz) (β : List Value) (w : World) (a : Act), Rel S m0 N fz β w a ρ H →
    c.wp P (fun e a' w' => ∃ fz' β' ρ' H', Rel S m0 N fz' β' w' a' ρ' H' ∧ Q e ρ' H') a w

def thenA (next : Fr → List Box → Prop) (Q : Exit → Fr → List Box → Prop) : Exit → Fr → List Box → Prop
  | .normal => next
  | e => Q e
def blockA (id : Nat) (Q : Exit → Fr → List Box → Prop) : Exit → Fr → List Box → Prop
  | .exit id' => if id' = id then Q .normal else Q (.exit id')
  | e => Q e

def keepF (keep : List Nat) : Fr → Fr
  | [] => []
  | (t, x) :: r => if keep.contains t = true then (t, x) :: keepF keep r else keepF keep r
theorem keepF_mem {keep : List Nat} : ∀ {ρ : Fr} {p : Nat × AV}, p ∈ keepF keep ρ → p ∈ ρ
  | (t, x) :: r, p, h => by
    simp only [keepF] at h
    split at h
    · rcases List.mem_cons.1 h with h | h
      · subst h; exact List.mem_cons_self
      · exact List.mem_cons_of_mem _ (keepF_mem h)
    · exact List.mem_cons_of_mem _ (keepF_mem h)

section
variable {m0 N : Nat} {ρ ρ' : Fr} {H H' : List Box} {Q : Exit → Fr → List Box → Prop}

theorem Rel.keep {S : Start} {fz : Fz} {β : List Value} {w : World} {a : Act} (keep : List Nat) (h : Rel S m0 N fz β w a ρ H) : Rel S m0 N fz β w a (keepF keep ρ) H :=
  ⟨h.fr.sub fun _ hp => keepF_mem hp, h.bx, h.mine, h.anc, h.fzok, h.pre⟩

/-- A region in the order of the text. -/
theorem ok_region (E : TEnv P) (keep : List Nat) (cs : List CO) {id : Nat} {ops : Array Oper} {ob : Prop} (hr : runOps E N false ops.toList ops.toList ρ H cs = some (ρ', H', ob)) (hob : ob)
    (k : Q .normal (keepF keep ρ') H') : Ok P m0 N (.region id ops false) Q ρ H := by
  intro S fz β w a h
  exact wp_region_list (runOps_ok E hr hob h fun fz' β' w' a' hrel => ⟨fz', β', _, _, hrel.keep keep, k⟩)

theorem ok_seq {x y : Code} (h : Ok P m0 N x (thenA (Ok P m0 N y Q) Q) ρ H) : Ok P m0 N (.seq x y) Q ρ H := by
  intro S fz β w a hr
  refine wp_seq (wp_mono (h S fz β w a hr) fun e a' w' ⟨fz', β', ρ', H', hrel, hq⟩ => ?_)
  cases e with
  | normal => exact hq S fz' β' w' a' hrel
  | _ => exact ⟨fz', β', ρ', H', hrel, hq⟩

/-- A region ahead of the rest. -/
theorem ok_next (E : TEnv P) (keep : List Nat) (cs : List CO) {id : Nat} {ops : Array Oper} {y : Code} {ob : Prop} (hr : runOps E N false ops.toList ops.toList ρ H cs = some (ρ', H', ob)) (hob : ob)
    (k : Ok P m0 N y Q (keepF keep ρ') H') : Ok P m0 N (.seq (.region id ops false) y) Q ρ H :=
  ok_seq (ok_region E keep cs hr hob k)

end
end Go.Proofs.YtgapiecbinplfaaGreat
/- Branches, blocks, loops; functions. -/
namespace Go.Proofs.YtgapiecbinplfaaGreat
open Go.RowKit

variable {P : Program} {m0 N : Nat} {ρ ρ' : Fr} {H H' : List Box} {Q : Exit → Fr → List Box → Prop}

theorem ok_mono {c : Code} {Q' : Exit → Fr → List Box → Prop} (h : Ok P m0 N c Q ρ H) (hq : ∀ e ρ H, Q e ρ H → Q' e ρ H) : Ok P m0 N c Q' ρ H :=
  fun S fz β w a hr => wp_mono (h S fz β w a hr) fun _ _ _ ⟨fz', β', ρ', H', hrel, hQ⟩ => ⟨fz', β', ρ', H', hrel, hq _ _ _ hQ⟩

theorem ok_skip (h : Q .normal ρ H) : Ok P m0 N .skip Q ρ H := fun _ fz β _ _ hr => wp_skip ⟨fz, β, ρ, H, hr, h⟩
theorem ok_ret (h : Q .ret ρ H) : Ok P m0 N .ret Q ρ H := fun _ fz β _ _ hr => wp_ret ⟨fz, β, ρ, H, hr, h⟩
theorem ok_exit {id : Nat} (h : Q (.exit id) ρ H) : Ok P m0 N (.exit id) Q ρ H := fun _ fz β _ _ hr => wp_exit ⟨fz, β, ρ, H, hr, h⟩
theorem ok_block {id : Nat} {c : Code} (h : Ok P m0 N c (blockA id Q) ρ H) : Ok P m0 N (.block id c) Q ρ H := by
  intro S fz β w a hr
  refine wp_block (wp_mono (h S fz β w a hr) fun e a' w' ⟨fz', β', ρ', H', hrel, hq⟩ => ?_)
  cases e with
  | exit id' =>
    simp only [blockA] at hq
    simp only [Exit.inBlock]
    split at hq
    · rename_i hi; rw [if_pos hi]; exact ⟨fz', β', ρ', H', hrel, hq⟩
    · rename_i hi; rw [if_neg hi]; exact ⟨fz', β', ρ', H', hrel, hq⟩
  | _ => exact ⟨fz', β', ρ', H', hrel, hq⟩

theorem ok_cond {c : Operand} {b : Bool} {x y : Code} (hc : evA ρ c = some (.d .bool b)) (h : Ok P m0 N (if b = true then x else y) Q ρ H) : Ok P m0 N (.cond c x y) Q ρ H := by
  intro S fz β w a hr
  have := evA_ok hr.fr hc
  simp only [RdA, ElR, List.cons.injEq, and_true] at this
  refine wp_cond this ?_
  have hx := h S fz β w a hr
  cases b <;> exact hx
theorem ok_if {c : Operand} {b : Bool} {x y : Code} (hc : evA ρ c = some (.d .bool b)) (ht : b = true → Ok P m0 N x Q ρ H) (hf : b = false → Ok P m0 N y Q ρ H) : Ok P m0 N (.cond c x y) Q ρ H := by
  refine ok_cond hc ?_
  cases b
  · exact hf rfl
  · exact ht rfl

/-- One value known as another one. -/
def Conv (H : List Box) (y x : AV) : Prop := y = x ∨ froz H y = x ∨ (y = .nilsl ∧ ∃ t, x = .d (.sl t) []) ∨ ∃ b e t xs, y = .mrow b ∧ H[b]? = some (.mrow e t xs) ∧ x = .msl b t.size 0 xs.length

theorem Conv.ok {fz : Fz} {β : List Value} {w : World} (hb : BoxesOk fz β w H) {y x : AV} {v : Value} (h : Conv H y x) (hr : RdA fz β w y v) : RdA fz β w x v := by
  rcases h with rfl | h | ⟨rfl, t, rfl⟩ | ⟨b, e, t, xs, rfl, hx, rfl⟩
  · exact hr
  · subst h; exact froz_ok hb hr
  · simp only [RdA] at hr ⊢
    subst hr
    exact ⟨_, rfl, none, 0, rfl, Nat.le_refl _, by simp [maxLen], fun h => absurd rfl h⟩
  · simp only [RdA] at hr ⊢
    obtain ⟨blk, c, vals, rfl, h1, h2, _⟩ := hb.ok b v _ hr hx
    exact ⟨blk, _, c, _, c, hr, rfl, h1, h2, fun _ => by simp⟩

/-- What is known entails what is asked. -/
def EntF (ρ : Fr) (H : List Box) (n : Nat) : Fr → Prop
  | [] => True
  | (t, x) :: r => (∃ y, look ρ t = some y ∧ Conv H y x) ∧ scop n x = true ∧ EntF ρ H n r

def ConvL (H : List Box) : List AV → List AV → Prop
  | [], [] => True
  | y :: ys, x :: xs => Conv H y x ∧ ConvL H ys xs
  | _, _ => False
def EntB (H : List Box) (n : Nat) : Box → Box → Prop
  | y, x => x = .dead ∨ (y = x ∧ x.scop n = true) ∨ ∃ ys xs, y = .cells ys ∧ x = .cells xs ∧ ConvL H ys xs ∧ scopL n xs = true
def EntH (H0 : List Box) (n : Nat) : List Box → List Box → Prop
  | _, [] => True
  | y :: ys, x :: xs => EntB H0 n y x ∧ EntH H0 n ys xs
  | [], _ :: _ => False

structure Ent (ρ : Fr) (H : List Box) (ρ1 : Fr) (H1 : List Box) : Prop where
  fr : EntF ρ H H1.length ρ1
  bx : EntH H H1.length H H1

mutual
theorem ren_same {n : Nat} : ∀ (x : AV), scop n x = true → ren (List.range n) x = x
  | .ptr b o, h => by simp only [scop, decide_eq_true_eq] at h; simp [ren, List.getD, h]
  | .mptr b k i o, h => by simp only [scop, decide_eq_true_eq] at h; simp [ren, List.getD, h]
  | .orow b, h => by simp only [scop, decide_eq_true_eq] at h; simp [ren, List.getD, h]
  | .mrow b, h => by simp only [scop, decide_eq_true_eq] at h; simp [ren, List.getD, h]
  | .msl b k i n, h => by simp only [scop, decide_eq_true_eq] at h; simp [ren, List.getD, h]
  | .fn f caps, h => by
    simp only [scop, List.all_eq_true, decide_eq_true_eq] at h
    simp only [ren, AV.fn.injEq, true_and]
    rw [List.map_congr_left (g := id) (fun c hc => by simp [List.getD, h c hc]), List.map_id]
  | .agg cs, h => by simp only [scop] at h; simp only [ren, renL_same cs h]
  | .tup cs, h => by simp only [scop] at h; simp only [ren, renL_same cs h]
  | .d t x, h => rfl
  | .eptr t x, h => rfl
  | .nilsl, h => rfl
  | .nilfn, h => rfl
  | .top, h => rfl
theorem renL_same {n : Nat} : ∀ (xs : List AV), scopL n xs = true → renL (List.range n) xs = xs
  | [], _ => rfl
  | c :: cs, h => by
    simp only [scopL, Bool.and_eq_true] at h
    simp only [renL, ren_same c h.1, renL_same cs h.2]
end

theorem take_get {β : List Value} {n : Nat} : ∀ i, i < n → (β.take n)[i]? = β[(List.range n).getD i 0]? := fun i hi => by
  simp [List.getElem?_take, hi, List.getD]

section
variable {fz : Fz} {β : List Value} {w : World} {n : Nat}
theorem RdA.less {x : AV} {v : Value} (hs : scop n x = true) (h : RdA fz β w x v) : RdA fz (β.take n) w x v :=
  ren_in take_get x v hs (by rw [ren_same x hs]; exact h)
theorem RdL.less {xs : List AV} {vs : List Value} (hs : scopL n xs = true) (h : RdL fz β w xs vs) : RdL fz (β.take n) w xs vs :=
  renL_in take_get xs vs hs (by rw [renL_same xs hs]; exact h)

theorem ConvL.ok (hb : BoxesOk fz β w H) : ∀ {ys xs : List AV} {vs : List Value}, ConvL H ys xs → RdL fz β w ys vs → RdL fz β w xs vs
  | [], [], _, _, h => h
  | y :: ys, x :: xs, vs, hc, h => by
    simp only [RdL] at h ⊢
    obtain ⟨v, r, h1, h2, h3⟩ := h
    exact ⟨v, r, h1, hc.1.ok hb h2, ConvL.ok hb hc.2 h3⟩

theorem EntF.mem : ∀ {ρ1 : Fr} {t : Nat} {x : AV}, EntF ρ H n ρ1 → (t, x) ∈ ρ1 → (∃ y, look ρ t = some y ∧ Conv H y x) ∧ scop n x = true
  | (k, z) :: r, t, x, h, hm => by
    rcases List.mem_cons.1 hm with hm | hm
    · cases hm; exact ⟨h.1, h.2.1⟩
    · exact EntF.mem h.2.2 hm

theorem EntH.get : ∀ {H0 H H1 : List Box} {i : Nat} {x : Box}, EntH H0 n H H1 → H1[i]? = some x → ∃ y : Box, H[i]? = some y ∧ EntB H0 n y x
  | H0, y :: ys, x :: xs, 0, z, h, hz => by simp at hz; subst hz; exact ⟨y, by simp, h.1⟩
  | H0, y :: ys, x :: xs, i + 1, z, h, hz => by
    obtain ⟨u, h1, h2⟩ := EntH.get h.2 (i := i) (by simpa using hz)
    exact ⟨u, by simpa using h1, h2⟩
  | H0, [], x :: xs, i, z, h, hz => h.elim
  | H0, H, [], i, z, h, hz => by simp at hz

theorem EntH.length : ∀ {H0 H H1 : List Box}, EntH H0 n H H1 → H1.length ≤ H.length
  | H0, y :: ys, x :: xs, h => by simpa using EntH.length h.2
  | H0, [], x :: xs, h => h.elim
  | H0, H, [], h => by simp

/-- Less may be known. -/
theorem Rel.ent {S : Start} {a : Act} {ρ1 : Fr} {H1 : List Box} (h : Rel S m0 N fz β w a ρ H) (he : Ent ρ H ρ1 H1) (hm : m0 ≤ H1.length) : Rel S m0 N fz (β.take H1.length) w a ρ1 H1 := by
  have hlen := he.bx.length
  have get : ∀ (i : Nat) (g : Value), (β.take H1.length)[i]? = some g → β[i]? = some g ∧ i < H1.length := by
    intro i g hg
    rw [List.getElem?_take] at hg
    split at hg
    · exact ⟨hg, by assumption⟩
    · cases hg
  have liv : ∀ (y x : Box), EntB H H1.length y x → x.live = true → y.live = true := by
    intro y x hb hl
    rcases hb with rfl | ⟨rfl, _⟩ | ⟨ys, xs, rfl, rfl, _⟩
    · simp [Box.live] at hl
    · exact hl
    · rfl
  refine ⟨⟨h.fr.1, h.fr.2.1, fun t x hm => ?_⟩, ⟨by simp [h.bx.len]; omega, fun i g hg => h.bx.one i g (get i g hg).1, fun i g x hg hx => ?_, fun i j gi gj xi xj hij hgi hgj hxi hxj li lj => ?_⟩, fun i g x hg hx hl k hk => ?_, h.anc, h.fzok, ⟨h.pre.len, hm, fun i hi => by rw [List.getElem?_take, if_pos (by omega)]; exact h.pre.same i hi, fun i x hi hx => ?_⟩⟩
  · obtain ⟨⟨y, hy, hc⟩, hs⟩ := he.fr.mem hm
    obtain ⟨h1, h2⟩ := h.fr.2.2 t y (look_mem hy)
    exact ⟨h1, (hc.ok h.bx h2).less hs⟩
  · obtain ⟨hg, hi⟩ := get i g hg
    obtain ⟨y, hy, hb⟩ := he.bx.get hx
    have hbox := h.bx.ok i g y hg hy
    rcases hb with rfl | ⟨rfl, hs⟩ | ⟨ys, xs, rfl, rfl, hc, hs⟩
    · trivial
    · cases y with
      | cells cs =>
        obtain ⟨blk, vs, e, rfl, hh, hr, hz⟩ := hbox
        exact ⟨blk, vs, e, rfl, hh, hr.less hs, hz⟩
      | _ => exact hbox
    · obtain ⟨blk, vs, e, rfl, hh, hr, hz⟩ := hbox
      exact ⟨blk, vs, e, rfl, hh, (hc.ok h.bx hr).less hs, hz⟩
  · obtain ⟨yi, a1, a2⟩ := he.bx.get hxi
    obtain ⟨yj, b1, b2⟩ := he.bx.get hxj
    exact h.bx.apart i j gi gj yi yj hij (get i gi hgi).1 (get j gj hgj).1 a1 b1 (liv _ _ a2 li) (liv _ _ b2 lj)
  · obtain ⟨y, a1, a2⟩ := he.bx.get hx
    exact h.mine i g y (get i g hg).1 a1 (liv _ _ a2 hl) k hk
  · obtain ⟨y, a1, a2⟩ := he.bx.get hx
    have := h.pre.noO i y hi a1
    rcases a2 with rfl | ⟨rfl, _⟩ | ⟨ys, xs, rfl, rfl, _⟩
    · rfl
    · exact this
    · rfl
end

theorem ok_ent {c : Code} {ρ1 : Fr} {H1 : List Box} (he : Ent ρ H ρ1 H1) (h : Ok P m0 N c Q ρ1 H1) (hm : m0 ≤ H1.length := by first | exact Nat.zero_le _ | simp) : Ok P m0 N c Q ρ H :=
  fun S fz _ w a hr => h S fz _ w a (hr.ent he hm)

/-- A nil slice is a row of one's own. -/
theorem ok_own {c : Code} (t : Nat) (e : TypeId) (τ : Ty) (ht : look ρ t = some .nilsl) (h : Ok P m0 N c Q ((t, .orow H.length) :: del ρ t) (H ++ [.orow e τ []])) : Ok P m0 N c Q ρ H := by
  intro S fz β w a hr
  have hn := hr.addNil e τ
  refine h S fz _ w a ⟨⟨hn.fr.1, hn.fr.2.1, fun u x hm => ?_⟩, hn.bx, hn.mine, hn.anc, hn.fzok, hn.pre⟩
  rcases List.mem_cons.1 hm with hm | hm
  · cases hm
    obtain ⟨h1, h2⟩ := hr.fr.2.2 t _ (look_mem ht)
    simp only [RdA] at h2 ⊢
    exact ⟨h1, by rw [← hr.bx.len, h2]; simp⟩
  · exact hn.fr.2.2 u x (del_mem hm).1

/-- A LOOP: what is known at each round's head is told by a state 's'; a measure goes down. -/
theorem ok_loop {σ : Type} {body : Code} (F : σ → Fr) (B : σ → List Box) (p : σ → Prop) (μ : σ → Nat) (s0 : σ) (h0 : p s0) (hin : Ent ρ H (F s0) (B s0))
    (round : ∀ s, p s → Ok P m0 N body (thenA (fun ρ' H' => ∃ s', p s' ∧ μ s' < μ s ∧ Ent ρ' H' (F s') (B s')) Q) (F s) (B s)) (hm : ∀ s, m0 ≤ (B s).length := by intro _; first | exact Nat.zero_le _ | simp) : Ok P m0 N (.loop body) Q ρ H := by
  intro S fz β w a hr
  have key : ∀ n s, μ s = n → p s → ∀ fz β w a, Rel S m0 N fz β w a (F s) (B s) → ∀ (b : Frame) (k : List Item) (cs : List Frame),
      ∃ e a' w', (∃ fz' β' ρ' H', Rel S m0 N fz' β' w' a' ρ' H' ∧ Q e ρ' H') ∧ Arrives P (lone (b.at a (.code body :: .inLoop body :: k)) cs w) b k cs e a' w' := by
    intro n
    induction n using Nat.strongRecOn with
    | _ n ih =>
      intro s hn hp fz β w a hrel b k cs
      obtain ⟨e, a₁, w₁, ⟨fz', β', ρ', H', hrel', hq⟩, harr⟩ := round s hp S fz β w a hrel b (.inLoop body :: k) cs
      cases e with
      | normal =>
        obtain ⟨s', hp', hlt, hent⟩ := hq
        obtain ⟨e₂, a₂, w₂, hq₂, harr₂⟩ := ih (μ s') (hn ▸ hlt) s' rfl hp' _ _ _ _ (hrel'.ent hent (hm s')) b k cs
        exact ⟨e₂, a₂, w₂, hq₂, .of_steps (Steps.trans harr (.one step_inLoop)) harr₂⟩
      | exit id => exact ⟨_, a₁, w₁, ⟨fz', β', ρ', H', hrel', hq⟩, .pass (x := .inLoop body) rfl (fun _ _ => .inl (by simp)) harr⟩
      | goto l => exact ⟨_, a₁, w₁, ⟨fz', β', ρ', H', hrel', hq⟩, .pass (x := .inLoop body) rfl (fun _ _ => .inl (by simp)) harr⟩
      | ret => exact ⟨_, a₁, w₁, ⟨fz', β', ρ', H', hrel', hq⟩, .pass (x := .inLoop body) rfl (fun _ _ => .inl (by simp)) harr⟩
      | panic ch => exact ⟨_, a₁, w₁, ⟨fz', β', ρ', H', hrel', hq⟩, .pass (x := .inLoop body) rfl (fun _ _ => .inl (by simp)) harr⟩
      | outgrown => exact ⟨_, a₁, w₁, ⟨fz', β', ρ', H', hrel', hq⟩, .pass (x := .inLoop body) rfl (fun _ _ => .inl (by simp)) harr⟩
  intro b k cs
  obtain ⟨e, a', w', hq, harr⟩ := key _ s0 rfl h0 _ _ _ _ (hr.ent hin (hm s0)) b k cs
  exact ⟨e, a', w', hq, .of_steps (.one step_loop) harr⟩

/-- What a slice tells of its length. -/
theorem ok_len {c : Code} {τ : Ty} {xs : List τ.den} (t : Nat) (ht : look ρ t = some (.d (.sl τ) xs)) (h : xs.length ≤ maxLen → Ok P m0 N c Q ρ H) : Ok P m0 N c Q ρ H := by
  intro S fz β w a hr
  have h2 := (hr.fr.2.2 t _ (look_mem ht)).2
  simp only [RdA] at h2
  obtain ⟨ad, cc, _, h3, h4, _⟩ := elR_sl.1 h2
  exact h (Nat.le_trans h3 h4) S fz β w a hr

/-! FUNCTIONS -/

/-- At the end of a call: rows of the call's own are what they hold. -/
def frozE (n : Nat) (H : List Box) : AV → AV
  | .orow b => match H[b]? with
    | some (.orow _ t xs) => .d (.sl t) xs
    | _ => .orow b
  | .mrow b => if n ≤ b then (match H[b]? with
    | some (.mrow _ t xs) => .d (.sl t) xs
    | _ => .mrow b) else .mrow b
  | .msl b k i m => if n ≤ b then (match H[b]? with
    | some (.mrow _ t xs) => if k = t.size ∧ i + m ≤ xs.length then .d (.sl t) ((xs.drop i).take m) else .msl b k i m
    | _ => .msl b k i m) else .msl b k i m
  | x => x

def resA (td : TypeId → Option TD) (n : Nat) (H : List Box) (ρ : Fr) : ResultVar → Option AV
  | .tmp t => (look ρ t).map (frozE n H)
  | .cell t T => match look ρ t, td T with
    | some (.ptr b o), some d => match H[b]? with
      | some (.cells cs) => if d.agg = true then (if o + d.size ≤ cs.length then some (.agg (((cs.drop o).take d.size).map (frozE n H))) else none) else (cs[o]?).map (frozE n H)
      | _ => none
    | _, _ => none

def resL (td : TypeId → Option TD) (n : Nat) (H : List Box) (ρ : Fr) : List ResultVar → Option (List AV)
  | [] => some []
  | r :: rs => match resA td n H ρ r, resL td n H ρ rs with
    | some x, some l => some (x :: l)
    | _, _ => none

def resAll (td : TypeId → Option TD) (n : Nat) (H : List Box) (ρ : Fr) (rs : List ResultVar) : Option AV :=
  match resL td n H ρ rs with
  | some [x] => some x
  | some l => some (.tup l)
  | none => none

/-- How the caller's boxes are left. -/
def endH (n : Nat) (H : List Box) : Nat → List Box → List Box
  | 0, _ => []
  | _, [] => []
  | k + 1, .cells cs :: r => .cells (cs.map (frozE n H)) :: endH n H k r
  | k + 1, x :: r => x :: endH n H k r

def frame0 : Nat → List AV → Fr
  | _, [] => []
  | i, x :: xs => (i, x) :: frame0 (i + 1) xs

end Go.Proofs.YtgapiecbinplfaaGreat
/- A function meets its contract, if its body does. -/
namespace Go.Proofs.YtgapiecbinplfaaGreat
open Go.RowKit

variable {P : Program} {m0 N : Nat} {ρ ρ' : Fr} {H H' : List Box} {Q : Exit → Fr → List Box → Prop}

/-- The cells of rows of the call's own are frozen at its end. -/
def fzEnd (n : Nat) (fz : Fz) (β : List Value) (H : List Box) : Fz := fun b o =>
  fz b o ∨ ∃ (i : Nat) (g : Value) (e : TypeId) (t : Ty) (xs : List t.den), n ≤ i ∧ β[i]? = some g ∧ H[i]? = some (.mrow e t xs) ∧ blkOf g = some b ∧ o < xs.length * t.size

section
variable {fz : Fz} {β : List Value} {w : World} {a : Act} {S : Start}

theorem later_end (n : Nat) (fz : Fz) (β : List Value) (H : List Box) (w : World) : Later fz w (fzEnd n fz β H) w := fun _ _ h => ⟨.inl h, rfl⟩

theorem frozE_ok (hb : BoxesOk fz β w H) {n : Nat} {x : AV} {v : Value} (h : RdA fz β w x v) : RdA (fzEnd n fz β H) β w (frozE n H x) v := by
  have hl := later_end n fz β H w
  cases x with
  | orow b =>
    have := (froz_ok hb h).mono hl
    exact this
  | mrow b =>
    simp only [frozE]
    split
    · rename_i hn
      split
      · rename_i e t xs hx
        simp only [RdA] at h ⊢
        obtain ⟨blk, c, vals, rfl, h1, h2, hh, ⟨rest, front, h3, h4⟩, hz⟩ := hb.ok b v _ h hx
        refine ⟨_, rfl, some ⟨blk, 0, none⟩, c, rfl, h1, h2, fun hne => ⟨blk, 0, rfl, fun i hi => ?_⟩⟩
        have hel := (ElsR.mono hl _ _ h4).get i hi
        have hlen := h4.length
        have hle : i * t.size + t.size ≤ xs.length * t.size := by
          have : (i + 1) * t.size ≤ xs.length * t.size := Nat.mul_le_mul_right _ hi
          rwa [Nat.add_mul, Nat.one_mul] at this
        refine ⟨_, hel.length, fun j hj => ?_, hel⟩
        have hj' : j < t.size := by rw [hel.length] at hj; exact hj
        refine ⟨.inr ⟨b, _, e, t, xs, hn, h, hx, rfl, by omega⟩, ?_⟩
        rw [cell_of_row w blk _ vals e (0, 0) hh, Nat.zero_add]
        have hh2 : front[i * t.size + j]? = some (((front.drop (i * t.size)).take t.size)[j]'hj) := by
          rw [List.getElem?_eq_getElem (by omega)]; simp [List.getElem_take, List.getElem_drop]
        have : vals.toList[i * t.size + j]? = front[i * t.size + j]? := by rw [h3, List.getElem?_append_left (by omega)]
        rw [← hh2, ← this]; simp
      · exact h.mono hl
    · exact h.mono hl
  | msl b k p m =>
    simp only [frozE]
    split
    · rename_i hn
      split
      · rename_i e t xs hx
        split
        · rename_i hkm
          obtain ⟨hk, hm⟩ := hkm
          simp only [RdA] at h ⊢
          obtain ⟨blk0, m0, c0, ad, c2, hg, rfl, hc1, hc2, hp⟩ := h
          obtain ⟨blk, c, vals, hg', h1, h2, hh, ⟨rest, front, h3, h4⟩, hz⟩ := hb.ok b _ _ hg hx
          cases hg'
          have hlm : ((xs.drop p).take m).length = m := by simp; omega
          refine ⟨_, rfl, ad, c2, by rw [hlm], by omega, hc2, fun hne => ?_⟩
          have hpos : 0 < m := by rw [← hlm]; exact List.length_pos_iff.2 hne
          refine ⟨blk0, p * k, hp hpos, fun i hi => ?_⟩
          rw [hlm] at hi
          have hel := (ElsR.mono hl _ _ h4).get (p + i) (by omega)
          have hlen := h4.length
          have hle : (p + i) * t.size + t.size ≤ xs.length * t.size := by
            have : (p + i + 1) * t.size ≤ xs.length * t.size := Nat.mul_le_mul_right _ (by omega)
            rwa [Nat.add_mul, Nat.one_mul] at this
          have hpi : p * k + i * t.size = (p + i) * t.size := by rw [hk, Nat.add_mul]
          refine ⟨_, hel.length, fun j hj => ?_, ?_⟩
          · have hj' : j < t.size := by rw [hel.length] at hj; exact hj
            rw [hpi]
            refine ⟨.inr ⟨b, _, e, t, xs, hn, hg, hx, rfl, by omega⟩, ?_⟩
            rw [cell_of_row w blk0 _ vals e (0, 0) hh]
            have hh2 : front[(p + i) * t.size + j]? = some (((front.drop ((p + i) * t.size)).take t.size)[j]'hj) := by
              rw [List.getElem?_eq_getElem (by omega)]; simp [List.getElem_take, List.getElem_drop]
            have : vals.toList[(p + i) * t.size + j]? = front[(p + i) * t.size + j]? := by rw [h3, List.getElem?_append_left (by omega)]
            rw [← hh2, ← this]; simp
          · have : ((xs.drop p).take m)[i]'(by rw [hlm]; exact hi) = xs[p + i]'(by omega) := by simp
            rw [this]; exact hel
        · exact h.mono hl
      · exact h.mono hl
    · exact h.mono hl
  | _ => exact h.mono hl

theorem frozEL_ok (hb : BoxesOk fz β w H) {n : Nat} : ∀ {xs : List AV} {vs : List Value}, RdL fz β w xs vs → RdL (fzEnd n fz β H) β w (xs.map (frozE n H)) vs
  | [], _, h => h
  | c :: cs, vs, h => by
    simp only [RdL] at h
    obtain ⟨v, r, h1, h2, h3⟩ := h
    simp only [List.map_cons, RdL]
    exact ⟨v, r, h1, frozE_ok hb h2, frozEL_ok hb h3⟩

def resOne (tmps : Array Value) : ResultVar → Sem Value
  | .tmp t => pure (tmps.getD t undef)
  | .cell a t => do loadVar t (← asAddr (tmps.getD a undef))

theorem results_eq (fn : Func) (tmps : Array Value) : results fn tmps = (do let vs ← fn.results.mapM (resOne tmps); pure (if h : vs.size = 1 then vs[0] else .tuple vs)) := by
  unfold results
  congr 1

theorem resA_ok (E : TEnv P) (h : Rel S m0 N fz β w a ρ H) {n : Nat} {rv : ResultVar} {x : AV} (hr : resA E.td n H ρ rv = some x) :
    ∃ v, (resOne a.tmps rv).run P w = .ok v w ∧ RdA (fzEnd n fz β H) β w x v := by
  cases rv with
  | tmp t =>
    simp only [resA, Option.map_eq_some_iff] at hr
    obtain ⟨y, hy, rfl⟩ := hr
    exact ⟨_, rfl, frozE_ok h.bx (h.fr.2.2 t y (look_mem hy)).2⟩
  | cell t T =>
    simp only [resA] at hr
    split at hr
    · rename_i b o d hy hd
      have hdo := E.tdok T d hd
      have h2 := (h.fr.2.2 t _ (look_mem hy)).2
      simp only [RdA] at h2
      obtain ⟨blk, hbt, hv⟩ := h2
      simp only [resOne, hv, asAddr]
      split at hr
      · rename_i cs hcs
        obtain ⟨blk', vs, e, hg, hheap, hl, _⟩ := h.bx.ok b _ _ hbt hcs
        cases hg
        have hcell : ∀ j v, vs.toList[j]? = some v → w.cell? ⟨blk, j, none⟩ = some v := fun j v hj => by
          rw [cell_of_row w blk j vs e (0, 0) hheap]; simpa using hj
        split at hr
        · rename_i ha
          split at hr
          · rename_i hlen
            cases hr
            have hvl := hl.length
            have hsl : ((vs.toList.drop o).take d.size).length = d.size := by simp; simp at hvl; omega
            have hld := run_loadVar_agg hdo ha (w := w) (p := ⟨blk, o, none⟩) hsl (fun j v hj => by
              rw [addr_add]
              refine hcell _ _ ?_
              rw [List.getElem?_take] at hj
              split at hj
              · simpa using hj
              · cases hj)
            refine ⟨_, by simpa [Instr.loadAt, Instr.sureAddr] using hld, ?_⟩
            simp only [RdA]; exact ⟨_, rfl, frozEL_ok h.bx ((hl.drop o).take d.size)⟩
          · cases hr
        · rename_i ha
          rw [Option.map_eq_some_iff] at hr
          obtain ⟨y, hy', rfl⟩ := hr
          obtain ⟨v, hv', hra⟩ := hl.get o y hy'
          have hld := run_loadVar_one hdo (by simpa using ha) (hcell _ _ hv')
          exact ⟨v, by simpa [Instr.loadAt, Instr.sureAddr] using hld, frozE_ok h.bx hra⟩
      · cases hr
    · cases hr

theorem resL_ok (E : TEnv P) (h : Rel S m0 N fz β w a ρ H) {n : Nat} : ∀ {rs : List ResultVar} {l : List AV}, resL E.td n H ρ rs = some l →
    ∃ vs, (rs.mapM (resOne a.tmps)).run P w = .ok vs w ∧ RdL (fzEnd n fz β H) β w l vs ∧ vs.length = rs.length
  | [], l, hr => by
    simp only [resL, Option.some.injEq] at hr; subst hr
    exact ⟨[], by simp, by simp [RdL], rfl⟩
  | rv :: rs, l, hr => by
    simp only [resL] at hr
    split at hr
    · rename_i x l' h1 h2
      cases hr
      obtain ⟨v, h3, h4⟩ := resA_ok E h h1
      obtain ⟨vs, h5, h6, h7⟩ := resL_ok E h h2
      refine ⟨v :: vs, ?_, by simp only [RdL]; exact ⟨v, vs, rfl, h4, h6⟩, by simp [h7]⟩
      rw [List.mapM_cons]
      simp only [Sem.run_bind, h3, Result.andThen_ok, h5, Sem.run_pure]
    · cases hr

theorem results_ok (E : TEnv P) (h : Rel S m0 N fz β w a ρ H) {n : Nat} {fn : Func} {x : AV} (hr : resAll E.td n H ρ fn.results.toList = some x) :
    ∃ v, (results fn a.tmps).run P w = .ok v w ∧ RdA (fzEnd n fz β H) β w x v := by
  unfold resAll at hr
  have key : ∀ l, resL E.td n H ρ fn.results.toList = some l → ∃ vs, (results fn a.tmps).run P w = .ok (if h : vs.toArray.size = 1 then vs.toArray[0] else .tuple vs.toArray) w ∧ RdL (fzEnd n fz β H) β w l vs := by
    intro l hl
    obtain ⟨vs, h1, h2, h3⟩ := resL_ok E h hl
    refine ⟨vs, ?_, h2⟩
    rw [results_eq, Array.mapM_eq_mapM_toList]
    simp only [Sem.run_bind, Sem.run_map, h1, Result.andThen_ok, Sem.run_pure]
  split at hr
  · rename_i y hl
    cases hr
    obtain ⟨vs, h1, h2⟩ := key _ hl
    simp only [RdL] at h2
    obtain ⟨v, r, rfl, h3, rfl⟩ := h2
    exact ⟨v, by rw [h1]; simp, h3⟩
  · rename_i l hne hl
    cases hr
    obtain ⟨vs, h1, h2⟩ := key _ hl
    have hlen := h2.length
    have : ¬ vs.toArray.size = 1 := by
      intro e
      simp at e
      match l, hlen with
      | [y], _ => exact hne y rfl
      | [], hl0 => simp at hl0; subst hl0; simp at e
      | _ :: _ :: _, hl2 => simp at hl2; omega
    rw [dif_neg this] at h1
    exact ⟨_, h1, by simp only [RdA]; exact ⟨vs, rfl, h2⟩⟩
  · cases hr

theorem endH_get {n : Nat} {H : List Box} : ∀ {k : Nat} {L : List Box} {i : Nat} {x : Box}, (endH n H k L)[i]? = some x → i < k ∧ ∃ y : Box, L[i]? = some y ∧ ((∃ cs, y = .cells cs ∧ x = .cells (cs.map (frozE n H))) ∨ ((∀ cs, y ≠ .cells cs) ∧ x = y))
  | 0, L, i, x, h => by simp [endH] at h
  | k + 1, [], i, x, h => by simp [endH] at h
  | k + 1, y :: r, 0, x, h => by
    refine ⟨by omega, y, rfl, ?_⟩
    cases y with
    | cells cs => simp [endH] at h; exact .inl ⟨cs, rfl, h.symm⟩
    | _ => simp [endH] at h; exact .inr ⟨(fun cs e => by cases e), h.symm⟩
  | k + 1, y :: r, i + 1, x, h => by
    have : (endH n H (k + 1) (y :: r))[i + 1]? = (endH n H k r)[i]? := by cases y <;> simp [endH]
    rw [this] at h
    obtain ⟨h1, z, h2, h3⟩ := endH_get h
    exact ⟨by omega, z, by simpa using h2, h3⟩

theorem frame0_mem : ∀ {xs : List AV} {i t : Nat} {x : AV}, (t, x) ∈ frame0 i xs → i ≤ t ∧ xs[t - i]? = some x
  | y :: ys, i, t, x, h => by
    simp only [frame0] at h
    rcases List.mem_cons.1 h with h | h
    · cases h; exact ⟨Nat.le_refl _, by simp⟩
    · obtain ⟨h1, h2⟩ := frame0_mem h
      exact ⟨by omega, by rw [show t - i = (t - (i + 1)) + 1 by omega]; simpa using h2⟩

/-- What a body must come to. -/
def Ends (E : TEnv P) (n : Nat) (rs : List ResultVar) (r : AV) (Hout : List Box) (e : Exit) (ρ : Fr) (H : List Box) : Prop :=
  (e = .normal ∨ e = .ret) ∧ resAll E.td n H ρ rs = some r ∧ endH n H n H = Hout ∧ n ≤ H.length ∧ scop n r = true

/-- THE FUNCTION. -/
theorem ctr_of (E : TEnv P) {f : FuncId} {fn : Func} {c : Code} (hf : P.funcs[f]? = some fn) (hb : fn.body = some c) {args : List AV} {Hin Hout : List Box} {r : AV} (hN : fn.ntmps = N) (hargs : args.length ≤ N)
    (hO : ∀ x ∈ Hin, x.isO = false) (hout : ∀ x ∈ Hout, x.scop Hin.length = true ∧ x.live = true) (hlen : Hout.length = Hin.length) (hin : ∀ x ∈ Hin, x.live = true)
    (h : Ok P Hin.length N c (Ends E Hin.length fn.results.toList r Hout) (frame0 0 args) Hin) : Ctr P f args Hin r Hout := by
  intro fz β w vs hbx hfz hr
  refine calls_of_wp hf hb ?_
  have hvl := hr.length
  let S : Start := ⟨w, fz, OwnOf β, β⟩
  have hrel : Rel S Hin.length N fz β w { tmps := vs.toArray ++ Array.replicate (fn.ntmps - vs.toArray.size) undef, defers := [] } (frame0 0 args) Hin := by
    refine ⟨⟨rfl, by simp [hN]; omega, fun t x hm => ?_⟩, hbx, fun i g x hg hx hl k hk => .inr ⟨i, g, hg, hk⟩, ⟨rfl, rfl, rfl, Nat.le_refl _, Nat.le_refl _, fun _ _ _ => rfl, Later.refl _ _, fun b o hz => .inl hz⟩, hfz, ⟨hbx.len, Nat.le_refl _, fun i _ => rfl, fun i x _ hx => hO x (List.mem_of_getElem? hx)⟩⟩
    obtain ⟨_, h2⟩ := frame0_mem hm
    simp only [Nat.sub_zero] at h2
    obtain ⟨v, hv, hra⟩ := hr.get t x h2
    have htl := (List.getElem?_eq_some_iff.1 hv).1
    refine ⟨by omega, ?_⟩
    have : (vs.toArray ++ Array.replicate (fn.ntmps - vs.toArray.size) undef).getD t undef = v := by
      rw [Array.getD_eq_getD_getElem?, Array.getElem?_append_left (by simpa using htl)]
      simp [hv]
    simp only [this]; exact hra
  refine wp_mono (h S fz β w _ hrel) fun e a' w' ⟨fz', β', ρ', H', hrel', he, hres, hend, hle, hsc⟩ => ?_
  obtain ⟨v, h1, h2⟩ := results_ok E hrel' hres
  have hpre := hrel'.pre
  have hsame : ∀ i, i < Hin.length → β'[i]? = β[i]? := hpre.same
  have hβn : ∀ i, i < Hin.length → β[i]? = β'[(List.range Hin.length).getD i 0]? := fun i hi => by simp [List.getD, hi, hsame i hi]
  have hfin : ∃ fz'', RdA fz'' β w' r v ∧ BoxesOk fz'' β w' Hout ∧ Anc ⟨w, fz, OwnOf β, β⟩ fz'' w' ∧ FzOk fz'' w' := by
    refine ⟨fzEnd Hin.length fz' β' H', ren_in hβn r v hsc (by rw [ren_same r hsc]; exact h2), ⟨by rw [hlen]; exact hbx.len, hbx.one, fun i g x hg hx => ?_, fun i j gi gj xi xj hij hgi hgj hxi hxj li lj => ?_⟩, ?_, ?_⟩
    · have hx' := hx
      rw [← hend] at hx
      obtain ⟨hi, y, hy, hc⟩ := endH_get hx
      have hg' : β'[i]? = some g := by rw [hsame i hi]; exact hg
      have hbox := hrel'.bx.ok i g y hg' hy
      have hs := hout x (List.mem_of_getElem? hx')
      have hnot : ∀ k o, y.live = true → blkOf g = some k → fzEnd Hin.length fz' β' H' k o → fz' k o := by
        intro k o hl hk hz
        rcases hz with hz | ⟨j, g', e', t, xs, hj, hg2, hx2, hk2, _⟩
        · exact hz
        · exact absurd hk2 (hrel'.bx.apart i j g g' y _ (by omega) hg' hg2 hy hx2 hl rfl k hk)
      rcases hc with ⟨cs, rfl, rfl⟩ | ⟨hnc, rfl⟩
      · obtain ⟨blk, us, e', rfl, hh, hl, hz⟩ := hbox
        refine ⟨blk, us, e', rfl, hh, renL_in hβn _ _ hs.1 (by rw [renL_same _ hs.1]; exact frozEL_ok hrel'.bx hl), fun o hz' => hz o (hnot blk o rfl rfl hz')⟩
      · have hk := hbox.keep (w' := w') (fz' := fzEnd Hin.length fz' β' H') (fun _ _ => rfl) (later_end _ _ _ _ _) (fun k o hk hz => hnot k o hs.2 hk hz)
        cases x with
        | cells cs => exact absurd rfl (hnc cs)
        | _ => exact hk
    · rw [← hend] at hxi hxj
      obtain ⟨hi, yi, a1, a2⟩ := endH_get hxi
      obtain ⟨hj, yj, b1, b2⟩ := endH_get hxj
      have l : ∀ (x y : Box), x.live = true → ((∃ cs, y = .cells cs ∧ x = .cells (cs.map (frozE Hin.length H'))) ∨ ((∀ cs, y ≠ .cells cs) ∧ x = y)) → y.live = true := by
        intro x y hl hh
        rcases hh with ⟨cs, rfl, rfl⟩ | ⟨_, rfl⟩
        · rfl
        · exact hl
      exact hrel'.bx.apart i j gi gj yi yj hij (by rw [hsame i hi]; exact hgi) (by rw [hsame j hj]; exact hgj) a1 b1 (l _ _ li a2) (l _ _ lj b2)
    · have ha := hrel'.anc
      refine ⟨ha.os, ha.tape, ha.output, ha.drawn, ha.size, ha.block, ha.later.trans (later_end _ _ _ _ _), fun b o hz => ?_⟩
      rcases hz with hz | ⟨j, g', e', t, xs, hj, hg2, hx2, hk2, _⟩
      · exact ha.news b o hz
      · rcases hrel'.mine j g' _ hg2 hx2 rfl b hk2 with h' | h'
        · exact .inr (.inl h')
        · exact .inr (.inr h')
    · intro b o hz
      rcases hz with hz | ⟨j, g', e', t, xs, hj, hg2, hx2, hk2, _⟩
      · exact hrel'.fzok b o hz
      · exact (hrel'.bx.ok j g' _ hg2 hx2).lt rfl hk2
  obtain ⟨fz'', e2⟩ := hfin
  rcases he with rfl | rfl
  · exact ⟨hrel'.fr.1, v, h1, v, fz'', rfl, e2⟩
  · exact ⟨hrel'.fr.1, v, h1, v, fz'', rfl, e2⟩

end
end Go.Proofs.YtgapiecbinplfaaGreat
/- A statement whose order is open: operations that only reckon, in any order, and behind them some whose order is forced. -/
namespace Go.Proofs.YtgapiecbinplfaaGreat
open Go.RowKit

variable {P : Program}

def tmpsOf : List Operand → List Nat
  | [] => []
  | .tmp t :: r => t :: tmpsOf r
  | _ :: r => tmpsOf r
def opTmps (op : Op) : List Nat := tmpsOf op.operands.toList
/-- What is known of some slots. -/
def mkF : List Nat → Fr → Fr
  | [], _ => []
  | t :: ts, ρ => match look ρ t with
    | some x => (t, x) :: mkF ts ρ
    | none => mkF ts ρ

/-- Is an operation one that may be carried out at any time? -/
def purish (op : Op) : Bool :=
  match op with
  | .buildSlice .. => true
  | op => opKind op != 1

def stepP (E : TEnv P) (all : List Oper) (o : Oper) (ρ : Fr) (H : List Box) (cs : List CO) : Option (AV × Prop × List CO) :=
  match guardA all ρ o.guard with
  | some false => some (.tup [], True, cs)
  | some true => if purish o.op = true then (match op1 E true (mkF (opTmps o.op) ρ) H o.op cs with
    | some (r, cs') => match r.x with
      | some x => some (x, r.ob ∧ r.H = H, cs')
      | none => none
    | none => none) else none
  | none => none

/-- Some operations that only reckon: what they give, one by one. -/
def runPure (E : TEnv P) (N : Nat) (all : List Oper) : List Oper → Fr → List Box → List CO → Option (List AV × Fr × Prop × List CO)
  | [], ρ, _, cs => some ([], ρ, True, cs)
  | o :: rest, ρ, H, cs => match o.dst with
    | some d => if d < N then (match stepP E all o ρ H cs with
      | some (x, ob, cs') => match runPure E N all rest ((d, x) :: del ρ d) H cs' with
        | some (xs, ρ', ob', cs'') => some (x :: xs, ρ', ob ∧ ob', cs'')
        | none => none
      | none => none) else none
    | none => none

/-- The step turns nothing of what may be known. -/
def Mono (fz : Fz) (β : List Value) (w : World) (fz' : Fz) (w' : World) (H : List Box) : Prop :=
  Later fz w fz' w' ∧ ∀ S m0 N a ρ, Rel S m0 N fz β w a ρ H → Rel S m0 N fz' β w' a ρ H

section
variable {fz fz' : Fz} {β β' : List Value} {w w' : World} {m0 N : Nat} {a : Act} {ρ : Fr} {H : List Box} {S : Start}

theorem op1_pure (E : TEnv P) (h : Rel S m0 N fz β w a ρ H) {o : Oper} {cs cs' : List CO} {r : Res} (hs : op1 E true ρ H o.op cs = some (r, cs')) (hob : r.ob) (hH : r.H = H) (hp : purish o.op = true)
    {K : Act → World → Prop} {Q : Exit → Act → World → Prop} (hK : ∀ fz' w' v, Mono fz β w fz' w' H → (∀ x, r.x = some x → RdA fz' β w' x v) → K (a.put o.dst v) w') : o.wp P a w K Q := by
  unfold op1 at hs
  split at hs
  · rw [Option.map_eq_some_iff] at hs
    obtain ⟨⟨x, ob⟩, hv, he⟩ := hs
    cases he
    obtain ⟨v, h1, h2⟩ := valOp_ok E h.fr h.bx hv hob
    exact wp_value h1 (hK fz w v ⟨Later.refl _ _, fun _ _ _ _ _ h => h⟩ (fun x hx => by cases hx; exact h2))
  · rename_i hk
    rw [Option.map_eq_some_iff] at hs
    obtain ⟨r', hv, he⟩ := hs
    cases he
    -- a slice literal, taken as data
    cases ho : o.op with
    | buildSlice t n parts =>
      rw [ho] at hv
      simp only [stOp] at hv
      split at hv
      · rename_i e τ l he hl
        split at hv
        · rename_i xs hx
          split at hv
          · rename_i hc
            obtain ⟨vals, h1, h2, h3⟩ := run_buildSlice E h.fr h.bx he hl hx hc.1 hc.2
            have hrun : (execOp a.eval o).run P w = .ok (.value (.slice (some ⟨w.heap.size, 0, none⟩) n n)) (w.alloc (.cells vals e)) := by
              have := run_v h1
              simpa only [execOp, ho] using this
            have hm : xs.length ≤ maxLen := by rw [h3]; have := hc.2; simp only [maxLen]; omega
            simp only [if_true] at hv
            cases hv
            obtain ⟨hl, _, h5⟩ := h.newData (vals := vals.toList) e h2 hm
            refine wp_value hrun (hK _ _ _ ⟨hl, fun S m0 N a ρ hr => (hr.newData (vals := vals.toList) e h2 hm).2.1⟩ (fun x hx => ?_))
            cases hx
            rw [h3] at h5
            exact h5
          · cases hv
        · cases hv
      · cases hv
    | _ => rw [ho] at hp hk; simp [purish, hk] at hp
  · split at hs
    · rename_i f as ts c cs'' hop
      rw [Option.map_eq_some_iff] at hs
      obtain ⟨r', hv, he⟩ := hs
      cases he
      have run : ∀ (g : Nat) (caps : List Value), a.eval f = .func (.func g) #[] caps.toArray → E.fnb g = true → (execOp a.eval o).run P w = .ok (.enter g ((as.toList.map a.eval) ++ caps).toArray) w := by
        intro g caps hf hg
        have := E.fnok g hg ((as.toList.map a.eval) ++ caps).toArray w
        have e : (as.map a.eval ++ caps.toArray) = ((as.toList.map a.eval) ++ caps).toArray := by apply Array.ext'; simp
        simp only [execOp, hop, resolve, hf, Deferred.ofValue, Sem.run_bind, Sem.run_pure, Result.andThen_ok, invoke, Array.empty_append]
        rw [e]; exact this
      cases c with
      | pure r0 =>
        simp only [callOp] at hv
        split at hv
        · rename_i g l hc
          split at hv
          · rename_i hcond
            cases hv
            obtain ⟨caps, hf, hr⟩ := callArgs_ok h hc
            unfold Oper.wp
            rw [run g caps hf hcond.1]
            refine (h.callPure hob ⟨hcond.2.1, hcond.2.2⟩ hr).mono fun e w' ⟨v, fz', he, hv, hb', ha', hz'⟩ => ?_
            subst he
            exact hK fz' w' v ⟨ha'.later, fun S m0 N a ρ hr => hr.afterPure hb' ha' hz'⟩ (fun x hx => by cases hx; exact hv)
          · cases hv
        · cases hv
      | full σ args0 Hin r0 Hout =>
        simp only [callOp] at hv
        split at hv
        · rename_i g l hc
          split at hv
          · rename_i hcond
            cases hv
            obtain ⟨caps, hf, hr⟩ := callArgs_ok h hc
            obtain ⟨h1, h2, h3, h4⟩ := hob
            unfold Oper.wp
            rw [run g caps hf hcond]
            rw [h2] at hr
            refine (h.call h1 h3 h4 hr).mono fun e w' ⟨v, fz', he, hv, hb', ha', hz'⟩ => ?_
            subst he
            refine hK fz' w' v ⟨ha'.later, fun S m0 N a ρ hr => ?_⟩ (fun x hx => by cases hx; exact hv)
            have := hr.after h3 ⟨h4.1, h4.2.1⟩ hb' ha' hz'
            rwa [show putH H σ (Hout.map (Box.ren σ)) = H from hH] at this
          · cases hv
        · cases hv
      | own bx =>
        simp only [callOp] at hv
        split at hv
        · split at hv
          · cases hv
            have := congrArg List.length hH
            simp at this
          · cases hv
        · cases hv
    · cases hs

theorem mkF_mem : ∀ {ts : List Nat} {ρ : Fr} {t : Nat} {x : AV}, (t, x) ∈ mkF ts ρ → t ∈ ts ∧ look ρ t = some x
  | u :: ts, ρ, t, x, h => by
    simp only [mkF] at h
    split at h
    · rename_i y hy
      rcases List.mem_cons.1 h with h | h
      · cases h; exact ⟨List.mem_cons_self, hy⟩
      · exact ⟨List.mem_cons_of_mem _ (mkF_mem h).1, (mkF_mem h).2⟩
    · exact ⟨List.mem_cons_of_mem _ (mkF_mem h).1, (mkF_mem h).2⟩
theorem mkF_look : ∀ {ts : List Nat} {ρ : Fr} {t : Nat} {x : AV}, t ∈ ts → look ρ t = some x → (t, x) ∈ mkF ts ρ
  | u :: ts, ρ, t, x, h, hl => by
    simp only [mkF]
    rcases List.mem_cons.1 h with h | h
    · subst h; rw [hl]; exact List.mem_cons_self
    · split
      · exact List.mem_cons_of_mem _ (mkF_look h hl)
      · exact mkF_look h hl

theorem look_del : ∀ {ρ : Fr} {t d : Nat}, look (del ρ d) t = if t = d then none else look ρ t
  | [], t, d => by simp [del, look]
  | (k, y) :: r, t, d => by
    simp only [del]
    split
    · rename_i hk
      subst hk
      rw [look_del]
      simp only [look]
      by_cases h : t = k
      · rw [if_pos h, if_pos h]
      · rw [if_neg h, if_neg h, if_neg h]
    · rename_i hk
      simp only [look]
      rw [look_del]
      by_cases h : t = k
      · subst h; rw [if_pos rfl, if_neg hk, if_pos rfl]
      · rw [if_neg h, if_neg h]
theorem look_put {ρ : Fr} {t d : Nat} {x : AV} : look ((d, x) :: del ρ d) t = if t = d then some x else look ρ t := by
  simp only [look]
  rw [look_del]
  by_cases h : t = d
  · rw [if_pos h, if_pos h]
  · rw [if_neg h, if_neg h, if_neg h]
end

/-! THE ORDER -/

def depsOf (o : Oper) : List Nat := (o.after.toList.filter (Region.binds .any)).map (·.on)
/-- The slots that an operation names. -/
def guardTmp (all : List Oper) (o : Oper) : List Nat :=
  match o.guard with
  | some (j, _) => ((all[j]?).bind (·.dst)).toList
  | none => []
def names (all : List Oper) (o : Oper) : List Nat := opTmps o.op ++ guardTmp all o ++ o.dst.toList
def clashO (all : List Oper) (x y : Oper) : Bool :=
  (match x.dst with | some d => (names all y).contains d | none => false) || (match y.dst with | some d => (names all x).contains d | none => false)
def reach (all : List Oper) : Nat → Nat → Nat → Bool
  | 0, _, _ => false
  | f + 1, k, i => match all[k]? with
    | some o => (depsOf o).any fun d => d == i || reach all f d i
    | none => false

/-- The first p operations may stand in any order, the others behind them in theirs. -/
def orderOk (all : List Oper) (p : Nat) : Bool :=
  ((List.range all.length).all fun i => match all[i]? with | some o => (depsOf o).all (· < i) | none => true) &&
  ((List.range all.length).all fun j => (List.range j).all fun i => match all[i]?, all[j]? with
    | some x, some y => !clashO all x y || (depsOf y).contains i
    | _, _ => true) &&
  ((List.range all.length).all fun k => decide (k < p) || (List.range k).all fun i => reach all all.length k i) && decide (p ≤ all.length)

structure OrdOk (all : List Oper) (p : Nat) : Prop where
  back : ∀ i o, all[i]? = some o → ∀ d ∈ depsOf o, d < i
  clash : ∀ i j x y, i < j → all[i]? = some x → all[j]? = some y → clashO all x y = true → i ∈ depsOf y
  tail : ∀ k i, p ≤ k → k < all.length → i < k → reach all all.length k i = true
  le : p ≤ all.length

theorem orderOk_iff {all : List Oper} {p : Nat} (h : orderOk all p = true) : OrdOk all p := by
  unfold orderOk at h
  simp only [Bool.and_eq_true, List.all_eq_true, List.mem_range, decide_eq_true_eq, Bool.or_eq_true] at h
  obtain ⟨⟨⟨h1, h2⟩, h3⟩, h4⟩ := h
  refine ⟨fun i o ho d hd => ?_, fun i j x y hij hx hy hc => ?_, fun k i hk hkl hi => ?_, h4⟩
  · have := h1 i (List.getElem?_eq_some_iff.1 ho).1
    rw [ho] at this
    simpa using List.all_eq_true.1 this d hd
  · have := h2 j (List.getElem?_eq_some_iff.1 hy).1 i hij
    rw [hx, hy] at this
    simpa [hc] using this
  · rcases h3 k hkl with h | h
    · omega
    · exact h i hi

end Go.Proofs.YtgapiecbinplfaaGreat
/- A statement whose order is open: whatever order is drawn, it comes to what the text's order comes to. -/
namespace Go.Proofs.YtgapiecbinplfaaGreat
open Go.RowKit

variable {P : Program}

def dstAt (all : List Oper) (i : Nat) : Option Nat := (all[i]?).bind (·.dst)

/-- Of the first i operations that are listed the last one that writes a slot. -/
def lastW (dst : Nat → Option Nat) (L : Nat → Bool) (t : Nat) : Nat → Option Nat
  | 0 => none
  | i + 1 => if L i = true ∧ dst i = some t then some i else lastW dst L t i

theorem lastW_same {dst : Nat → Option Nat} {L : Nat → Bool} {t i : Nat} : ∀ {p : Nat}, (∀ j, j < p → ((L j = true ∧ dst j = some t) ↔ (j < i ∧ dst j = some t))) → i ≤ p → lastW dst L t p = lastW dst (fun _ => true) t i
  | 0, _, hi => by
    have : i = 0 := by omega
    subst this; rfl
  | p + 1, h, hi => by
    by_cases hip : i = p + 1
    · subst hip
      simp only [lastW]
      have h1 := h p (by omega)
      have ih : lastW dst L t p = lastW dst (fun _ => true) t p := by
        refine lastW_same (i := p) (fun j hj => ?_) (Nat.le_refl _)
        rw [h j (by omega)]
        constructor
        · rintro ⟨_, h⟩; exact ⟨hj, h⟩
        · rintro ⟨_, h⟩; exact ⟨by omega, h⟩
      by_cases hd : dst p = some t
      · rw [if_pos (h1.2 ⟨by omega, hd⟩), if_pos ⟨by first | rfl | trivial, hd⟩]
      · rw [if_neg (fun e => hd e.2), if_neg (fun e => hd e.2), ih]
    · have h1 := h p (by omega)
      rw [lastW, if_neg (fun e => by have := (h1.1 e).1; omega)]
      exact lastW_same (fun j hj => h j (by omega)) (by omega)

theorem lastW_last {dst : Nat → Option Nat} {L : Nat → Bool} {t i : Nat} : ∀ {p : Nat}, i < p → L i = true → dst i = some t → (∀ j, i < j → j < p → ¬ (L j = true ∧ dst j = some t)) → lastW dst L t p = some i
  | p + 1, hi, hL, hd, h => by
    rw [lastW]
    by_cases hip : i = p
    · subst hip; rw [if_pos ⟨hL, hd⟩]
    · rw [if_neg (h p (by omega) (by omega))]
      exact lastW_last (by omega) hL hd (fun j h1 h2 => h j h1 (by omega))

theorem lastW_congr {dst : Nat → Option Nat} {L L' : Nat → Bool} {t : Nat} : ∀ {p : Nat}, (∀ j, j < p → dst j = some t → L j = L' j) → lastW dst L t p = lastW dst L' t p
  | 0, _ => rfl
  | p + 1, h => by
    rw [lastW, lastW, lastW_congr (fun j hj => h j (by omega))]
    by_cases hd : dst p = some t
    · rw [h p (by omega) hd]
    · rw [if_neg (fun e => hd e.2), if_neg (fun e => hd e.2)]

theorem lastW_some {dst : Nat → Option Nat} {L : Nat → Bool} {t j : Nat} : ∀ {p : Nat}, lastW dst L t p = some j → j < p ∧ dst j = some t ∧ L j = true
  | p + 1, h => by
    rw [lastW] at h
    split at h
    · rename_i hc; cases h; exact ⟨by omega, hc.2, hc.1⟩
    · obtain ⟨h1, h2⟩ := lastW_some h; exact ⟨by omega, h2⟩

def curOf (all : List Oper) (X : List AV) (ρ : Fr) (L : Nat → Bool) (p t : Nat) : Option AV :=
  match lastW (dstAt all) L t p with
  | some i => X[i]?
  | none => look ρ t

/-- What the operations give one by one, each told by its place. -/
theorem runPure_seq (E : TEnv P) {N : Nat} {all : List Oper} {H : List Box} {ρ0 : Fr} {p : Nat} : ∀ {l : List Oper} {k : Nat} {ρk : Fr} {cs cs' : List CO} {Xpre X : List AV} {ρp : Fr} {ob : Prop},
    (∀ j, l[j]? = if k + j < p then all[k + j]? else none) → k + l.length = p → Xpre.length = k → runPure E N all l ρk H cs = some (X, ρp, ob, cs') → ob →
    (∀ t, look ρk t = curOf all Xpre ρ0 (fun _ => true) k t) →
    X.length = l.length ∧ (∀ t, look ρp t = curOf all (Xpre ++ X) ρ0 (fun _ => true) p t) ∧
    ∀ i, k ≤ i → i < p → ∃ o d x ρi csi csi' obi, all[i]? = some o ∧ o.dst = some d ∧ d < N ∧ (Xpre ++ X)[i]? = some x ∧ stepP E all o ρi H csi = some (x, obi, csi') ∧ obi ∧
      ∀ t, look ρi t = curOf all (Xpre ++ X) ρ0 (fun _ => true) i t
  | [], k, ρk, cs, cs', Xpre, X, ρp, ob, hl, hk, hX, hr, hob, hc => by
    simp only [runPure, Option.some.injEq, Prod.mk.injEq] at hr
    obtain ⟨rfl, rfl, rfl, rfl⟩ := hr
    simp only [List.length_nil, Nat.add_zero] at hk
    subst hk
    exact ⟨rfl, by simpa using hc, fun i h1 h2 => by omega⟩
  | o :: l, k, ρk, cs, cs', Xpre, X, ρp, ob, hl, hk, hX, hr, hob, hc => by
    simp only [runPure] at hr
    split at hr
    · rename_i d hd
      split at hr
      · rename_i hdN
        split at hr
        · rename_i x obi csi' hst
          split at hr
          · rename_i xs ρ1 ob1 cs1 hrest
            cases hr
            have hkp : k < p := by simp at hk; omega
            have ho : all[k]? = some o := by have := hl 0; simpa [hkp] using this.symm
            have hdst : dstAt all k = some d := by simp [dstAt, ho, hd]
            have key : ∀ (Y : List AV) t, curOf all (Xpre ++ Y) ρ0 (fun _ => true) k t = curOf all Xpre ρ0 (fun _ => true) k t := by
              intro Y t
              unfold curOf
              split
              · rename_i j hj
                obtain ⟨h1, _⟩ := lastW_some hj
                rw [List.getElem?_append_left (by omega)]
              · rfl
            have hc' : ∀ t, look ((d, x) :: del ρk d) t = curOf all (Xpre ++ [x]) ρ0 (fun _ => true) (k + 1) t := by
              intro t
              rw [look_put]
              by_cases ht : t = d
              · subst ht
                rw [if_pos rfl]
                simp only [curOf, lastW]
                rw [if_pos ⟨trivial, hdst⟩]
                simp [← hX]
              · rw [if_neg ht, hc t, ← key [x] t]
                simp only [curOf, lastW]
                rw [if_neg (fun e => by have h2 := e.2; rw [hdst] at h2; exact ht (by injection h2 with h2; exact h2.symm))]
            obtain ⟨h1, h2, h3⟩ := runPure_seq E (p := p) (ρ0 := ρ0) (k := k + 1) (Xpre := Xpre ++ [x]) (fun j => by have := hl (j + 1); rw [show k + 1 + j = k + (j + 1) by omega]; simpa using this)
              (by simp at hk ⊢; omega) (by simp [hX]) hrest hob.2 hc'
            rw [List.append_assoc, List.singleton_append] at h2 h3
            refine ⟨by simp [h1], h2, fun i hi hip => ?_⟩
            by_cases hik : i = k
            · subst hik
              refine ⟨o, d, x, ρk, cs, csi', obi, ho, hd, hdN, ?_, hst, hob.1, fun t => ?_⟩
              · rw [List.getElem?_append_right (by omega)]; simp [hX]
              · rw [hc t, key]
            · exact h3 i (by omega) hip
          · cases hr
        · cases hr
      · cases hr
    · cases hr

def mkC (f : Nat → Option AV) : List Nat → Fr
  | [] => []
  | t :: ts => match f t with
    | some x => (t, x) :: mkC f ts
    | none => mkC f ts
theorem mkC_mem {f : Nat → Option AV} : ∀ {ts : List Nat} {t : Nat} {x : AV}, (t, x) ∈ mkC f ts → f t = some x
  | u :: ts, t, x, h => by
    simp only [mkC] at h
    split at h
    · rename_i y hy
      rcases List.mem_cons.1 h with h | h
      · cases h; exact hy
      · exact mkC_mem h
    · exact mkC_mem h
theorem mkC_in {f : Nat → Option AV} : ∀ {ts : List Nat} {t : Nat} {x : AV}, t ∈ ts → f t = some x → (t, x) ∈ mkC f ts
  | u :: ts, t, x, h, hl => by
    simp only [mkC]
    rcases List.mem_cons.1 h with h | h
    · subst h; rw [hl]; exact List.mem_cons_self
    · split
      · exact List.mem_cons_of_mem _ (mkC_in h hl)
      · exact mkC_in h hl

theorem look_mkF : ∀ {ts : List Nat} {ρ : Fr} {t : Nat}, t ∈ ts → look (mkF ts ρ) t = look ρ t
  | u :: ts, ρ, t, h => by
    simp only [mkF]
    by_cases hu : t = u
    · subst hu
      cases hl : look ρ t with
      | some x => simp only [look]; rw [if_pos trivial]
      | none =>
        simp only
        clear h
        induction ts with
        | nil => rfl
        | cons v ts ih =>
          simp only [mkF]
          split
          · rename_i y hy
            simp only [look]
            split
            · rename_i hv; subst hv; rw [hl] at hy; cases hy
            · exact ih
          · exact ih
    · have ht : t ∈ ts := by rcases List.mem_cons.1 h with h | h; exact absurd h hu; exact h
      split
      · simp only [look]; rw [if_neg hu]; exact look_mkF ht
      · exact look_mkF ht

theorem guardA_same {all : List Oper} {ρ ρ' : Fr} {o : Oper} (h : ∀ t ∈ guardTmp all o, look ρ t = look ρ' t) : guardA all ρ o.guard = guardA all ρ' o.guard := by
  unfold guardA
  split
  · rfl
  · rename_i j want hg
    split
    · rename_i t ht
      rw [h t (by simp [guardTmp, hg, ht])]
    · rfl

/-- How many are not listed. -/
def cntN (f : Nat → Bool) : Nat → Nat
  | 0 => 0
  | n + 1 => (if f n = true then 0 else 1) + cntN f n
theorem cntN_set {f g : Nat → Bool} {i : Nat} (hg : ∀ j, j ≠ i → g j = f j) (hi : f i = false) (hgi : g i = true) : ∀ {n : Nat}, i < n → cntN g n + 1 = cntN f n
  | n + 1, h => by
    simp only [cntN]
    by_cases hin : i = n
    · subst hin
      have : ∀ m, m ≤ i → cntN g m = cntN f m := by
        intro m hm
        induction m with
        | zero => rfl
        | succ m ih => simp only [cntN]; rw [hg m (by omega), ih (by omega)]
      rw [hi, hgi, this i (Nat.le_refl _)]; simp; omega
    · rw [hg n (Ne.symm hin), ← cntN_set hg hi hgi (n := n) (by omega)]; omega
theorem cntN_zero {f : Nat → Bool} : ∀ {n : Nat}, cntN f n = 0 → ∀ i, i < n → f i = true
  | n + 1, h, i, hi => by
    simp only [cntN] at h
    by_cases hin : i = n
    · subst hin
      cases hf : f i with
      | true => rfl
      | false => rw [hf] at h; simp at h
    · exact cntN_zero (n := n) (by omega) i (by omega)

def nodupF : Fr → Bool
  | [] => true
  | (k, _) :: r => (look r k).isNone && nodupF r
theorem nodupF_look : ∀ {ρ : Fr} {t : Nat} {x : AV}, nodupF ρ = true → (t, x) ∈ ρ → look ρ t = some x
  | (k, y) :: r, t, x, h, hm => by
    simp only [nodupF, Bool.and_eq_true] at h
    simp only [look]
    rcases List.mem_cons.1 hm with hm | hm
    · cases hm; rw [if_pos rfl]
    · have := nodupF_look h.2 hm
      by_cases hk : t = k
      · subst hk; rw [this] at h; simp at h
      · rw [if_neg hk]; exact this
theorem nodupF_del : ∀ {ρ : Fr} {d : Nat}, nodupF ρ = true → nodupF (del ρ d) = true
  | [], _, _ => rfl
  | (k, y) :: r, d, h => by
    simp only [nodupF, Bool.and_eq_true] at h
    simp only [del]
    split
    · exact nodupF_del h.2
    · simp only [nodupF, Bool.and_eq_true]
      refine ⟨?_, nodupF_del h.2⟩
      rw [look_del]; split
      · rfl
      · exact h.1
theorem nodupF_put {ρ : Fr} {d : Nat} {x : AV} (h : nodupF ρ = true) : nodupF ((d, x) :: del ρ d) = true := by
  simp only [nodupF, Bool.and_eq_true]
  refine ⟨?_, nodupF_del h⟩
  rw [look_del, if_pos rfl]; rfl
theorem nodupF_pure (E : TEnv P) {N : Nat} {all : List Oper} {H : List Box} : ∀ {l : List Oper} {ρ : Fr} {cs cs' : List CO} {X : List AV} {ρp : Fr} {ob : Prop},
    runPure E N all l ρ H cs = some (X, ρp, ob, cs') → nodupF ρ = true → nodupF ρp = true
  | [], ρ, cs, cs', X, ρp, ob, hr, h => by
    simp only [runPure, Option.some.injEq, Prod.mk.injEq] at hr
    obtain ⟨_, rfl, _⟩ := hr
    exact h
  | o :: l, ρ, cs, cs', X, ρp, ob, hr, h => by
    simp only [runPure] at hr
    split at hr
    · split at hr
      · split at hr
        · split at hr
          · rename_i hrest
            cases hr
            exact nodupF_pure E hrest (nodupF_put h)
          · cases hr
        · cases hr
      · cases hr
    · cases hr

end Go.Proofs.YtgapiecbinplfaaGreat
