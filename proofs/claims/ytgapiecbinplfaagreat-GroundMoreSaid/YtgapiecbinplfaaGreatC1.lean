/- Own framework, walks and plain laws behind the laws of this seat, part C1: lemmas, no statement of the seat. -/
import Derived.WalkKit
import Derived.Orders
set_option linter.all false
/- The domain of the statements (terms, rules, programs) as plain Lean data, and how they lie in the memory of the model. -/
namespace Go.Proofs.YtgapiecbinplfaaGreat
open Go.RowKit

structure Cell where
  kind : Int
  name : List UInt8
  n : Int
structure Rule where
  head : Int
  pos : List Int
  neg : List Int
structure Inst where
  head : List Cell
  pos : List (List Cell)
  neg : List (List Cell)
structure Table where
  call : List Cell
  answers : List (List Cell)
structure Bind where
  var : Int
  t : List Cell
structure Prg where
  atoms : List (List Cell)
  rules : List Rule
abbrev Term := List Cell

/-- The types of data. -/
inductive Ty where
  | int (k : IntKind) | bool | str | cell | rule | inst | table | bind | sl (t : Ty)

@[reducible] def Ty.den : Ty → Type
  | .int _ => Int | .bool => Bool | .str => List UInt8 | .cell => Cell | .rule => Rule | .inst => Inst | .table => Table | .bind => Bind
  | .sl t => List t.den

abbrev Ty.i : Ty := .int .i64
abbrev Ty.ints : Ty := .sl (.int .i64)
abbrev Ty.term : Ty := .sl .cell
abbrev Ty.terms : Ty := .sl (.sl .cell)

def Ty.size : Ty → Nat
  | .cell | .rule | .inst => 3
  | .table | .bind => 2
  | _ => 1

/-- Is a type a struct's? -/
def Ty.agg : Ty → Bool
  | .cell | .rule | .inst | .table | .bind => true
  | _ => false

/-- What stands where nothing else does. -/
def Ty.dflt : (t : Ty) → t.den
  | .int _ => (0 : Int) | .bool => false | .str => [] | .cell => ⟨0, [], 0⟩ | .rule => ⟨0, [], []⟩ | .inst => ⟨[], [], []⟩
  | .table => ⟨[], []⟩ | .bind => ⟨0, []⟩ | .sl _ => []

/-- Cells that are never written again: block, place. -/
abbrev Fz := Nat → Nat → Prop

def cellVals (c : Cell) : List Value := [.int .i64 c.kind, .string ⟨c.name.toArray⟩, .int .i64 c.n]

/-- A slice value reads as a list: 'k' cells an element, each element's cells as 'R' says. -/
def RdSl {α : Type} (fz : Fz) (w : World) (k : Nat) (R : α → List Value → Prop) (v : Value) (xs : List α) : Prop :=
  ∃ a c, v = .slice a xs.length c ∧ xs.length ≤ c ∧ c ≤ maxLen ∧
    (xs ≠ [] → ∃ b o, a = some ⟨b, o, none⟩ ∧ ∀ i (h : i < xs.length), ∃ cs : List Value, cs.length = k ∧
      (∀ j (hj : j < cs.length), fz b (o + i * k + j) ∧ w.cell? ⟨b, o + i * k + j, none⟩ = some cs[j]) ∧ R xs[i] cs)

def termR (fz : Fz) (w : World) (t : List Cell) (v : Value) : Prop := RdSl fz w 3 (fun c cs => cs = cellVals c) v t
def termsR (fz : Fz) (w : World) (t : List (List Cell)) (v : Value) : Prop := RdSl fz w 1 (fun c cs => ∃ u, cs = [u] ∧ termR fz w c u) v t
def intsR (fz : Fz) (w : World) (t : List Int) (v : Value) : Prop := RdSl fz w 1 (fun (n : Int) cs => cs = [Value.int .i64 n]) v t

/-- The cells of an element of a type. -/
def ElR (fz : Fz) (w : World) : (t : Ty) → t.den → List Value → Prop
  | .int k, n, cs => cs = [.int k n]
  | .bool, b, cs => cs = [.bool b]
  | .str, s, cs => cs = [.string ⟨s.toArray⟩]
  | .cell, c, cs => cs = cellVals c
  | .rule, r, cs => ∃ p q, cs = [.int .i64 r.head, p, q] ∧ intsR fz w r.pos p ∧ intsR fz w r.neg q
  | .inst, i, cs => ∃ h p q, cs = [h, p, q] ∧ termR fz w i.head h ∧ termsR fz w i.pos p ∧ termsR fz w i.neg q
  | .table, t, cs => ∃ h p, cs = [h, p] ∧ termR fz w t.call h ∧ termsR fz w t.answers p
  | .bind, b, cs => ∃ p, cs = [.int .i64 b.var, p] ∧ termR fz w b.t p
  | .sl t, xs, cs => ∃ v, cs = [v] ∧ RdSl fz w t.size (ElR fz w t) v xs

/-- What reads in one world reads in a later one. -/
def Later (fz : Fz) (w : World) (fz' : Fz) (w' : World) : Prop := ∀ b o, fz b o → fz' b o ∧ w'.cell? ⟨b, o, none⟩ = w.cell? ⟨b, o, none⟩

theorem Later.refl (fz : Fz) (w : World) : Later fz w fz w := fun _ _ h => ⟨h, rfl⟩
theorem Later.trans {fz fz' fz'' : Fz} {w w' w'' : World} (h : Later fz w fz' w') (k : Later fz' w' fz'' w'') : Later fz w fz'' w'' :=
  fun b o hf => ⟨(k b o (h b o hf).1).1, ((k b o (h b o hf).1).2).trans (h b o hf).2⟩

theorem RdSl.mono {α : Type} {fz fz' : Fz} {w w' : World} {k : Nat} {R R' : α → List Value → Prop} {v : Value} {xs : List α}
    (hl : Later fz w fz' w') (hR : ∀ x cs, R x cs → R' x cs) (h : RdSl fz w k R v xs) : RdSl fz' w' k R' v xs := by
  obtain ⟨a, c, hv, h1, h2, h3⟩ := h
  refine ⟨a, c, hv, h1, h2, fun hne => ?_⟩
  obtain ⟨b, o, ha, hc⟩ := h3 hne
  refine ⟨b, o, ha, fun i hi => ?_⟩
  obtain ⟨cs, hk, hj, hx⟩ := hc i hi
  exact ⟨cs, hk, fun j hjl => ⟨(hl _ _ (hj j hjl).1).1, ((hl _ _ (hj j hjl).1).2).trans (hj j hjl).2⟩, hR _ _ hx⟩

theorem ElR.mono {fz fz' : Fz} {w w' : World} (hl : Later fz w fz' w') : ∀ (t : Ty) (x : t.den) (cs : List Value), ElR fz w t x cs → ElR fz' w' t x cs
  | .int _, _, _, h => h
  | .bool, _, _, h => h
  | .str, _, _, h => h
  | .cell, _, _, h => h
  | .rule, _, _, ⟨p, q, h, h1, h2⟩ => ⟨p, q, h, h1.mono hl (fun _ _ h => h), h2.mono hl (fun _ _ h => h)⟩
  | .inst, _, _, ⟨a, p, q, h, h0, h1, h2⟩ => ⟨a, p, q, h, h0.mono hl (fun _ _ h => h), h1.mono hl (fun _ _ ⟨u, e, h⟩ => ⟨u, e, h.mono hl (fun _ _ h => h)⟩), h2.mono hl (fun _ _ ⟨u, e, h⟩ => ⟨u, e, h.mono hl (fun _ _ h => h)⟩)⟩
  | .table, _, _, ⟨p, q, h, h0, h1⟩ => ⟨p, q, h, h0.mono hl (fun _ _ h => h), h1.mono hl (fun _ _ ⟨u, e, h⟩ => ⟨u, e, h.mono hl (fun _ _ h => h)⟩)⟩
  | .bind, _, _, ⟨p, h, h0⟩ => ⟨p, h, h0.mono hl (fun _ _ h => h)⟩
  | .sl t, _, _, ⟨v, h, h0⟩ => ⟨v, h, h0.mono hl (fun x cs h => ElR.mono hl t x cs h)⟩

theorem ElR.length {fz : Fz} {w : World} : ∀ {t : Ty} {x : t.den} {cs : List Value}, ElR fz w t x cs → cs.length = t.size := by
  intro t x cs h
  cases t with
  | int k => cases h; rfl
  | bool => cases h; rfl
  | str => cases h; rfl
  | cell => cases h; rfl
  | rule => obtain ⟨p, q, rfl, _⟩ := h; rfl
  | inst => obtain ⟨a, p, q, rfl, _⟩ := h; rfl
  | table => obtain ⟨p, q, rfl, _⟩ := h; rfl
  | bind => obtain ⟨p, rfl, _⟩ := h; rfl
  | sl t => obtain ⟨v, rfl, _⟩ := h; rfl

/-- A datum with its type. -/
structure DV where
  t : Ty
  x : t.den

/-- The data of a struct's cells; of anything else: itself. -/
def Ty.cells : (t : Ty) → t.den → List DV
  | .cell, c => [⟨.i, c.kind⟩, ⟨.str, c.name⟩, ⟨.i, c.n⟩]
  | .rule, r => [⟨.i, r.head⟩, ⟨.ints, r.pos⟩, ⟨.ints, r.neg⟩]
  | .inst, i => [⟨.term, i.head⟩, ⟨.terms, i.pos⟩, ⟨.terms, i.neg⟩]
  | .table, t => [⟨.term, t.call⟩, ⟨.terms, t.answers⟩]
  | .bind, b => [⟨.i, b.var⟩, ⟨.term, b.t⟩]
  | .int k, n => [⟨.int k, n⟩]
  | .bool, n => [⟨.bool, n⟩]
  | .str, n => [⟨.str, n⟩]
  | .sl t, n => [⟨.sl t, n⟩]

theorem termR_iff {fz : Fz} {w : World} {t : List Cell} {v : Value} : ElR fz w .term t [v] ↔ termR fz w t v := by
  constructor
  · rintro ⟨u, h, h2⟩; cases h; exact h2
  · intro h; exact ⟨v, rfl, h⟩
theorem termsR_iff {fz : Fz} {w : World} {t : List (List Cell)} {v : Value} : ElR fz w .terms t [v] ↔ termsR fz w t v := by
  constructor
  · rintro ⟨u, h, h2⟩; cases h; exact h2
  · intro h; exact ⟨v, rfl, h⟩
theorem intsR_iff {fz : Fz} {w : World} {t : List Int} {v : Value} : ElR fz w .ints t [v] ↔ intsR fz w t v := by
  constructor
  · rintro ⟨u, h, h2⟩; cases h; exact h2
  · intro h; exact ⟨v, rfl, h⟩
theorem elR_sl {fz : Fz} {w : World} {t : Ty} {xs : List t.den} {v : Value} : ElR fz w (.sl t) xs [v] ↔ RdSl fz w t.size (ElR fz w t) v xs := by
  constructor
  · rintro ⟨u, h, h2⟩; cases h; exact h2
  · intro h; exact ⟨v, rfl, h⟩

/-- Each cell of a row reads as the datum of its place. -/
def CellsR (fz : Fz) (w : World) : List DV → List Value → Prop
  | [], vs => vs = []
  | d :: ds, vs => ∃ v r, vs = v :: r ∧ ElR fz w d.t d.x [v] ∧ CellsR fz w ds r

theorem ElR_cells {fz : Fz} {w : World} : ∀ {t : Ty} {x : t.den} {cs : List Value}, ElR fz w t x cs ↔ CellsR fz w (t.cells x) cs := by
  intro t x cs
  cases t with
  | int k => constructor
             · intro h; cases h; exact ⟨_, _, rfl, rfl, rfl⟩
             · rintro ⟨v, r, rfl, h, hr⟩; cases hr; exact h
  | bool => constructor
            · intro h; cases h; exact ⟨_, _, rfl, rfl, rfl⟩
            · rintro ⟨v, r, rfl, h, hr⟩; cases hr; exact h
  | str => constructor
           · intro h; cases h; exact ⟨_, _, rfl, rfl, rfl⟩
           · rintro ⟨v, r, rfl, h, hr⟩; cases hr; exact h
  | cell => constructor
            · intro h; cases h; exact ⟨_, _, rfl, rfl, _, _, rfl, rfl, _, _, rfl, rfl, rfl⟩
            · rintro ⟨v, r, rfl, h, v2, r2, rfl, h2, v3, r3, rfl, h3, rfl⟩; cases h; cases h2; cases h3; rfl
  | rule => constructor
            · rintro ⟨p, q, rfl, h1, h2⟩; exact ⟨_, _, rfl, rfl, _, _, rfl, intsR_iff.2 h1, _, _, rfl, intsR_iff.2 h2, rfl⟩
            · rintro ⟨v, r, rfl, h, v2, r2, rfl, h2, v3, r3, rfl, h3, rfl⟩; cases h; exact ⟨_, _, rfl, intsR_iff.1 h2, intsR_iff.1 h3⟩
  | inst => constructor
            · rintro ⟨a, p, q, rfl, h0, h1, h2⟩; exact ⟨_, _, rfl, termR_iff.2 h0, _, _, rfl, termsR_iff.2 h1, _, _, rfl, termsR_iff.2 h2, rfl⟩
            · rintro ⟨v, r, rfl, h, v2, r2, rfl, h2, v3, r3, rfl, h3, rfl⟩; exact ⟨_, _, _, rfl, termR_iff.1 h, termsR_iff.1 h2, termsR_iff.1 h3⟩
  | table => constructor
             · rintro ⟨p, q, rfl, h1, h2⟩; exact ⟨_, _, rfl, termR_iff.2 h1, _, _, rfl, termsR_iff.2 h2, rfl⟩
             · rintro ⟨v, r, rfl, h, v2, r2, rfl, h2, rfl⟩; exact ⟨_, _, rfl, termR_iff.1 h, termsR_iff.1 h2⟩
  | bind => constructor
            · rintro ⟨p, rfl, h1⟩; exact ⟨_, _, rfl, rfl, _, _, rfl, termR_iff.2 h1, rfl⟩
            · rintro ⟨v, r, rfl, h, v2, r2, rfl, h2, rfl⟩; cases h; exact ⟨_, rfl, termR_iff.1 h2⟩
  | sl t => constructor
            · rintro ⟨v, rfl, h1⟩; exact ⟨_, _, rfl, ⟨_, rfl, h1⟩, rfl⟩
            · rintro ⟨v, r, rfl, h, rfl⟩; exact h
end Go.Proofs.YtgapiecbinplfaaGreat
/- Abstract values, boxes, and how a state of the model is related to them. -/
namespace Go.Proofs.YtgapiecbinplfaaGreat
open Go.RowKit

/-- What a slot holds: a datum · a struct's cells · a pointer into a box · a pointer to frozen cells that hold a datum · a pointer into a
row that may be written (of element i, of k cells, cell o) · a row of the call's own (growing; of fixed length) · the nil slice · a function
with the boxes that it has captured · a tuple · nil. -/
inductive AV where
  | d (t : Ty) (x : t.den)
  | agg (cs : List AV)
  | ptr (b o : Nat)
  | eptr (t : Ty) (x : t.den)
  | mptr (b k i o : Nat)
  | orow (b : Nat)
  | mrow (b : Nat)
  | msl (b k i n : Nat)
  | nilsl
  | nilfn
  | fn (f : Nat) (caps : List (Nat × Nat))
  | tup (xs : List AV)
  | top

def BAt (β : List Value) (b : Nat) (blk : Nat) : Prop := β[b]? = some (.pointer (some ⟨blk, 0, none⟩))

def CapsR (β : List Value) : List (Nat × Nat) → List Value → Prop
  | [], vs => vs = []
  | c :: cs, vs => ∃ blk r, vs = .pointer (some ⟨blk, c.2, none⟩) :: r ∧ BAt β c.1 blk ∧ CapsR β cs r

/-- Frozen cells at an address. -/
def CellsAt (fz : Fz) (w : World) (b o : Nat) (cs : List Value) : Prop :=
  ∀ j (hj : j < cs.length), fz b (o + j) ∧ w.cell? ⟨b, o + j, none⟩ = some cs[j]

mutual
def RdA (fz : Fz) (β : List Value) (w : World) : AV → Value → Prop
  | .d t x, v => ElR fz w t x [v]
  | .agg cs, v => ∃ vs : List Value, v = .agg vs.toArray ∧ RdL fz β w cs vs
  | .ptr b o, v => ∃ blk, BAt β b blk ∧ v = .pointer (some ⟨blk, o, none⟩)
  | .eptr t x, v => ∃ b o cs, v = .pointer (some ⟨b, o, none⟩) ∧ CellsAt fz w b o cs ∧ ElR fz w t x cs
  | .mptr b k i o, v => ∃ blk n c, β[b]? = some (.slice (some ⟨blk, 0, none⟩) n c) ∧ v = .pointer (some ⟨blk, i * k + o, none⟩)
  | .orow b, v => β[b]? = some v
  | .mrow b, v => β[b]? = some v
  | .msl b k i n, v => ∃ blk m c ad c2, β[b]? = some (.slice (some ⟨blk, 0, none⟩) m c) ∧ v = .slice ad n c2 ∧ n ≤ c2 ∧ c2 ≤ maxLen ∧ (0 < n → ad = some ⟨blk, i * k, none⟩)
  | .nilsl, v => v = .slice none 0 0
  | .nilfn, v => v = .nilFunc
  | .fn f caps, v => ∃ vs : List Value, v = .func (.func f) #[] vs.toArray ∧ CapsR β caps vs
  | .tup xs, v => ∃ vs : List Value, v = .tuple vs.toArray ∧ RdL fz β w xs vs
  | .top, _ => True
def RdL (fz : Fz) (β : List Value) (w : World) : List AV → List Value → Prop
  | [], vs => vs = []
  | c :: cs, vs => ∃ v r, vs = v :: r ∧ RdA fz β w c v ∧ RdL fz β w cs r
end

/-- A box: a variable's cells · a row that grows · a row that is written in place · one of which nothing is said any more. -/
inductive Box where
  | cells (cs : List AV)
  | orow (e : TypeId) (t : Ty) (xs : List t.den)
  | mrow (e : TypeId) (t : Ty) (xs : List t.den)
  | dead

/-- Elements, one behind the other. -/
def ElsR (fz : Fz) (w : World) (t : Ty) : List t.den → List Value → Prop
  | [], vs => vs = []
  | x :: xs, vs => ∃ cs r, vs = cs ++ r ∧ ElR fz w t x cs ∧ ElsR fz w t xs r

def blkOf : Value → Option Nat
  | .pointer (some a) => some a.block
  | .slice (some a) _ _ => some a.block
  | _ => none

def BoxOk (fz : Fz) (β : List Value) (w : World) (g : Value) : Box → Prop
  | .cells cs => ∃ blk vs e, g = .pointer (some ⟨blk, 0, none⟩) ∧ w.heap[blk]? = some (.cells vs e (0, 0)) ∧ RdL fz β w cs vs.toList ∧ ∀ o, ¬ fz blk o
  | .orow e t xs => ∃ vals, w.ownsRow 0 e t.size g xs.length vals ∧ ElsR fz w t xs vals ∧ ∀ blk, blkOf g = some blk → ∀ o, fz blk o ↔ o < vals.length
  | .mrow e t xs => ∃ blk c vals, g = .slice (some ⟨blk, 0, none⟩) xs.length c ∧ xs.length ≤ c ∧ c ≤ maxLen ∧ w.heap[blk]? = some (.cells vals e (0, 0)) ∧
      (∃ rest, ∃ front, vals.toList = front ++ rest ∧ ElsR fz w t xs front) ∧ ∀ o, ¬ fz blk o
  | .dead => True

def Box.live : Box → Bool
  | .dead => false
  | _ => true

/-- The boxes stand as they are told, each in a block of its own. -/
structure BoxesOk (fz : Fz) (β : List Value) (w : World) (H : List Box) : Prop where
  len : β.length = H.length
  one : ∀ (i : Nat) (g : Value), β[i]? = some g → g.oneCell' = true
  ok : ∀ (i : Nat) (g : Value) (x : Box), β[i]? = some g → H[i]? = some x → BoxOk fz β w g x
  apart : ∀ (i j : Nat) (gi gj : Value) (xi xj : Box), i ≠ j → β[i]? = some gi → β[j]? = some gj → H[i]? = some xi → H[j]? = some xj → xi.live = true → xj.live = true →
    ∀ k, blkOf gi = some k → blkOf gj ≠ some k

/-- Where a call began: the world, what was frozen, which old blocks it may write. -/
structure Start where
  w : World
  fz : Fz
  own : Nat → Prop
  β : List Value

/-- What has become of what was there when the call began. -/
structure Anc (S : Start) (fz : Fz) (w : World) : Prop where
  os : w.os = S.w.os
  tape : w.tape = S.w.tape
  output : w.output = S.w.output
  drawn : S.w.drawn ≤ w.drawn
  size : S.w.heap.size ≤ w.heap.size
  block : ∀ k, k < S.w.heap.size → ¬ S.own k → w.heap[k]? = S.w.heap[k]?
  later : Later S.fz S.w fz w
  news : ∀ b o, fz b o → S.fz b o ∨ S.w.heap.size ≤ b ∨ S.own b

/-- Frozen cells lie in the heap. -/
def FzOk (fz : Fz) (w : World) : Prop := ∀ b o, fz b o → b < w.heap.size

/-- Live boxes lie in new blocks or in those that may be written. -/
def Mine (S : Start) (β : List Value) (H : List Box) : Prop :=
  ∀ (i : Nat) (g : Value) (x : Box), β[i]? = some g → H[i]? = some x → x.live = true → ∀ k, blkOf g = some k → S.w.heap.size ≤ k ∨ S.own k

abbrev Fr := List (Nat × AV)

/-- What is known of a frame. -/
def FrR (fz : Fz) (β : List Value) (w : World) (N : Nat) (a : Act) (ρ : Fr) : Prop :=
  a.defers = [] ∧ a.tmps.size = N ∧ ∀ t x, (t, x) ∈ ρ → t < N ∧ RdA fz β w x (a.tmps.getD t undef)

def Box.isO : Box → Bool
  | .orow .. => true
  | _ => false

/-- The boxes that came in stand where they stood. -/
structure Pre (S : Start) (m0 : Nat) (β : List Value) (H : List Box) : Prop where
  len : S.β.length = m0
  le : m0 ≤ H.length
  same : ∀ i, i < m0 → β[i]? = S.β[i]?
  noO : ∀ (i : Nat) (x : Box), i < m0 → H[i]? = some x → x.isO = false

structure Rel (S : Start) (m0 N : Nat) (fz : Fz) (β : List Value) (w : World) (a : Act) (ρ : Fr) (H : List Box) : Prop where
  fr : FrR fz β w N a ρ
  bx : BoxesOk fz β w H
  mine : Mine S β H
  anc : Anc S fz w
  fzok : FzOk fz w
  pre : Pre S m0 β H

mutual
theorem RdA.mono {fz fz' : Fz} {β : List Value} {w w' : World} (hl : Later fz w fz' w') : ∀ (x : AV) (v : Value), RdA fz β w x v → RdA fz' β w' x v
  | .d t x, v, h => by simp only [RdA] at h ⊢; exact ElR.mono hl t x [v] h
  | .agg cs, v, h => by
    simp only [RdA] at h ⊢
    obtain ⟨vs, h1, h2⟩ := h
    exact ⟨vs, h1, RdL.mono hl cs vs h2⟩
  | .ptr b o, v, h => by simp only [RdA] at h ⊢; exact h
  | .eptr t x, v, h => by
    simp only [RdA] at h ⊢
    obtain ⟨b, o, cs, h1, h2, h3⟩ := h
    exact ⟨b, o, cs, h1, fun j hj => ⟨(hl _ _ (h2 j hj).1).1, ((hl _ _ (h2 j hj).1).2).trans (h2 j hj).2⟩, ElR.mono hl t x cs h3⟩
  | .mptr b k i o, v, h => by simp only [RdA] at h ⊢; exact h
  | .orow b, v, h => by simp only [RdA] at h ⊢; exact h
  | .mrow b, v, h => by simp only [RdA] at h ⊢; exact h
  | .msl b k i n, v, h => by simp only [RdA] at h ⊢; exact h
  | .nilsl, v, h => by simp only [RdA] at h ⊢; exact h
  | .nilfn, v, h => by simp only [RdA] at h ⊢; exact h
  | .fn f caps, v, h => by simp only [RdA] at h ⊢; exact h
  | .tup xs, v, h => by
    simp only [RdA] at h ⊢
    obtain ⟨vs, h1, h2⟩ := h
    exact ⟨vs, h1, RdL.mono hl xs vs h2⟩
  | .top, v, h => by simp only [RdA]
theorem RdL.mono {fz fz' : Fz} {β : List Value} {w w' : World} (hl : Later fz w fz' w') : ∀ (xs : List AV) (vs : List Value), RdL fz β w xs vs → RdL fz' β w' xs vs
  | [], vs, h => by simp only [RdL] at h ⊢; exact h
  | c :: cs, vs, h => by
    simp only [RdL] at h ⊢
    obtain ⟨v, r, h1, h2, h3⟩ := h
    exact ⟨v, r, h1, RdA.mono hl c v h2, RdL.mono hl cs r h3⟩
end

/-- More boxes turn nothing of what is known. -/
def Ext (β β' : List Value) : Prop := ∀ (b : Nat) (g : Value), β[b]? = some g → β'[b]? = some g
theorem Ext.refl (β : List Value) : Ext β β := fun _ _ h => h
theorem Ext.trans {a b c : List Value} (h : Ext a b) (k : Ext b c) : Ext a c := fun i g hi => k i g (h i g hi)
theorem Ext.snoc (β : List Value) (g : Value) : Ext β (β ++ [g]) := fun b x h => by
  rw [List.getElem?_append_left (List.getElem?_eq_some_iff.1 h).1]; exact h

theorem CapsR.ext {β β' : List Value} (he : Ext β β') : ∀ (cs : List (Nat × Nat)) (vs : List Value), CapsR β cs vs → CapsR β' cs vs
  | [], _, h => h
  | _ :: cs, _, ⟨blk, r, h1, h2, h3⟩ => ⟨blk, r, h1, he _ _ h2, CapsR.ext he cs r h3⟩

mutual
theorem RdA.ext {fz : Fz} {β β' : List Value} {w : World} (he : Ext β β') : ∀ (x : AV) (v : Value), RdA fz β w x v → RdA fz β' w x v
  | .d t x, v, h => by simp only [RdA] at h ⊢; exact h
  | .agg cs, v, h => by
    simp only [RdA] at h ⊢
    obtain ⟨vs, h1, h2⟩ := h
    exact ⟨vs, h1, RdL.ext he cs vs h2⟩
  | .ptr b o, v, h => by
    simp only [RdA] at h ⊢
    obtain ⟨blk, h1, h2⟩ := h
    exact ⟨blk, he _ _ h1, h2⟩
  | .eptr t x, v, h => by simp only [RdA] at h ⊢; exact h
  | .mptr b k i o, v, h => by
    simp only [RdA] at h ⊢
    obtain ⟨blk, n, c, h1, h2⟩ := h
    exact ⟨blk, n, c, he _ _ h1, h2⟩
  | .orow b, v, h => by simp only [RdA] at h ⊢; exact he _ _ h
  | .mrow b, v, h => by simp only [RdA] at h ⊢; exact he _ _ h
  | .msl b k i n, v, h => by
    simp only [RdA] at h ⊢
    obtain ⟨blk, m, c, ad, c2, h1, h2⟩ := h
    exact ⟨blk, m, c, ad, c2, he _ _ h1, h2⟩
  | .nilsl, v, h => by simp only [RdA] at h ⊢; exact h
  | .nilfn, v, h => by simp only [RdA] at h ⊢; exact h
  | .fn f caps, v, h => by
    simp only [RdA] at h ⊢
    obtain ⟨vs, h1, h2⟩ := h
    exact ⟨vs, h1, CapsR.ext he _ _ h2⟩
  | .tup xs, v, h => by
    simp only [RdA] at h ⊢
    obtain ⟨vs, h1, h2⟩ := h
    exact ⟨vs, h1, RdL.ext he xs vs h2⟩
  | .top, v, h => by simp only [RdA]
theorem RdL.ext {fz : Fz} {β β' : List Value} {w : World} (he : Ext β β') : ∀ (xs : List AV) (vs : List Value), RdL fz β w xs vs → RdL fz β' w xs vs
  | [], vs, h => by simp only [RdL] at h ⊢; exact h
  | c :: cs, vs, h => by
    simp only [RdL] at h ⊢
    obtain ⟨v, r, h1, h2, h3⟩ := h
    exact ⟨v, r, h1, RdA.ext he c v h2, RdL.ext he cs r h3⟩
end

theorem ElsR.mono {fz fz' : Fz} {w w' : World} (hl : Later fz w fz' w') {t : Ty} : ∀ (xs : List t.den) (vs : List Value), ElsR fz w t xs vs → ElsR fz' w' t xs vs
  | [], _, h => h
  | _ :: xs, _, ⟨cs, r, h1, h2, h3⟩ => ⟨cs, r, h1, ElR.mono hl _ _ _ h2, ElsR.mono hl xs r h3⟩

theorem ElsR.length {fz : Fz} {w : World} {t : Ty} : ∀ {xs : List t.den} {vs : List Value}, ElsR fz w t xs vs → vs.length = xs.length * t.size
  | [], _, h => by cases h; simp
  | _ :: xs, _, ⟨cs, r, h1, h2, h3⟩ => by
    rw [h1, List.length_append, h2.length, ElsR.length h3, List.length_cons, Nat.add_mul]; omega

theorem ElsR.get {fz : Fz} {w : World} {t : Ty} : ∀ {xs : List t.den} {vs : List Value}, ElsR fz w t xs vs → ∀ i (h : i < xs.length), ElR fz w t xs[i] ((vs.drop (i * t.size)).take t.size)
  | _ :: xs, _, ⟨cs, r, h1, h2, h3⟩, 0, _ => by
    subst h1
    have := h2.length
    simpa [← this] using h2
  | _ :: xs, _, ⟨cs, r, h1, h2, h3⟩, i + 1, hi => by
    subst h1
    have hl := h2.length
    have := ElsR.get h3 i (by simpa using hi)
    rw [show (i + 1) * t.size = cs.length + i * t.size by rw [hl, Nat.add_mul]; omega, List.drop_append, List.drop_eq_nil_of_le (by omega)]
    simpa using this

theorem ElsR.append {fz : Fz} {w : World} {t : Ty} : ∀ {xs ys : List t.den} {vs us : List Value}, ElsR fz w t xs vs → ElsR fz w t ys us → ElsR fz w t (xs ++ ys) (vs ++ us)
  | [], _, _, _, h, k => by cases h; simpa using k
  | _ :: xs, _, _, _, ⟨cs, r, h1, h2, h3⟩, k => ⟨cs, r ++ _, by rw [h1, List.append_assoc], h2, ElsR.append h3 k⟩
end Go.Proofs.YtgapiecbinplfaaGreat
/- What one operation does to abstract values: a function; contracts; types. -/
namespace Go.Proofs.YtgapiecbinplfaaGreat
open Go.RowKit

def Ty.beq : Ty → Ty → Bool
  | .int k, .int k' => decide (k = k')
  | .bool, .bool => true
  | .str, .str => true
  | .cell, .cell => true
  | .rule, .rule => true
  | .inst, .inst => true
  | .table, .table => true
  | .bind, .bind => true
  | .sl a, .sl b => a.beq b
  | _, _ => false
theorem Ty.beq_refl : ∀ a : Ty, a.beq a = true
  | .int k => by simp [Ty.beq]
  | .bool => rfl
  | .str => rfl
  | .cell => rfl
  | .rule => rfl
  | .inst => rfl
  | .table => rfl
  | .bind => rfl
  | .sl a => by simpa [Ty.beq] using Ty.beq_refl a
theorem Ty.eq_of_beq : ∀ a b : Ty, a.beq b = true → a = b
  | .sl a, b, h => by
    cases b with
    | sl b => rw [Ty.eq_of_beq a b (by simpa [Ty.beq] using h)]
    | _ => simp [Ty.beq] at h
  | .int k, b, h => by cases b <;> simp [Ty.beq] at h; rw [h]
  | .bool, b, h => by cases b <;> simp [Ty.beq] at h; rfl
  | .str, b, h => by cases b <;> simp [Ty.beq] at h; rfl
  | .cell, b, h => by cases b <;> simp [Ty.beq] at h; rfl
  | .rule, b, h => by cases b <;> simp [Ty.beq] at h; rfl
  | .inst, b, h => by cases b <;> simp [Ty.beq] at h; rfl
  | .table, b, h => by cases b <;> simp [Ty.beq] at h; rfl
  | .bind, b, h => by cases b <;> simp [Ty.beq] at h; rfl
instance : DecidableEq Ty := fun a b =>
  if h : a.beq b = true then isTrue (Ty.eq_of_beq a b h) else isFalse (fun e => h (by rw [e]; exact Ty.beq_refl b))

/-- A datum of a type, if it is of that type. -/
def asTy (t : Ty) : AV → Option t.den
  | .d t' x => if h : t' = t then some (h ▸ x) else none
  | .nilsl => match t with
    | .sl _ => some []
    | _ => none
  | _ => none
@[simp] theorem asTy_self (t : Ty) (x : t.den) : asTy t (.d t x) = some x := by simp [asTy]
@[simp] theorem asTy_nil (t : Ty) : asTy (.sl t) .nilsl = some [] := rfl

/-- A struct's cells as a datum. -/
def ofCells : (t : Ty) → List AV → Option t.den
  | .cell, [a, b, c] => do some ⟨← asTy .i a, ← asTy .str b, ← asTy .i c⟩
  | .rule, [a, b, c] => do some ⟨← asTy .i a, ← asTy .ints b, ← asTy .ints c⟩
  | .inst, [a, b, c] => do some ⟨← asTy .term a, ← asTy .terms b, ← asTy .terms c⟩
  | .table, [a, b] => do some ⟨← asTy .term a, ← asTy .terms b⟩
  | .bind, [a, b] => do some ⟨← asTy .i a, ← asTy .term b⟩
  | .int k, [a] => asTy (.int k) a
  | .bool, [a] => asTy .bool a
  | .str, [a] => asTy .str a
  | .sl t, [a] => asTy (.sl t) a
  | _, _ => none

/-- A value's cells. -/
def AV.cs : AV → List AV
  | .agg l => l
  | x => [x]

/-- A value as a datum. -/
def ofAV (t : Ty) (x : AV) : Option t.den := ofCells t x.cs

def DV.av (x : DV) : AV := .d x.t x.x
/-- A datum as a value. -/
def avOf (t : Ty) (x : t.den) : AV := if t.agg then .agg ((t.cells x).map DV.av) else .d t x

def look : Fr → Nat → Option AV
  | [], _ => none
  | (k, x) :: r, t => if t = k then some x else look r t
def del : Fr → Nat → Fr
  | [], _ => []
  | (k, x) :: r, t => if k = t then del r t else (k, x) :: del r t

def cAV : Value → Option AV
  | .int k n => some (.d (.int k) n)
  | .bool b => some (.d .bool b)
  | .string s => some (.d .str s.data.toList)
  | .slice none 0 0 => some .nilsl
  | .nilFunc => some .nilfn
  | _ => none

def evA (ρ : Fr) : Operand → Option AV
  | .tmp t => look ρ t
  | .const v => cAV v
  | .func f => some (.fn f [])
  | .global _ => none

def evL (ρ : Fr) : List Operand → Option (List AV)
  | [] => some []
  | x :: r => do some ((← evA ρ x) :: (← evL ρ r))

/-- A growing row seen as what it holds. -/
def froz (H : List Box) : AV → AV
  | .orow b => match H[b]? with
    | some (.orow _ t xs) => .d (.sl t) xs
    | _ => .orow b
  | x => x

mutual
/-- A growing row's other holders keep what it held. -/
def snap (b : Nat) (t : Ty) (xs : List t.den) : AV → AV
  | .orow c => if c = b then .d (.sl t) xs else .orow c
  | .mrow c => if c = b then .top else .mrow c
  | .mptr c k i o => if c = b then .top else .mptr c k i o
  | .msl c k i n => if c = b then .top else .msl c k i n
  | .agg cs => .agg (snapL b t xs cs)
  | .tup cs => .tup (snapL b t xs cs)
  | x => x
def snapL (b : Nat) (t : Ty) (xs : List t.den) : List AV → List AV
  | [] => []
  | c :: cs => snap b t xs c :: snapL b t xs cs
end
def snapF (b : Nat) (t : Ty) (xs : List t.den) : Fr → Fr
  | [] => []
  | (k, x) :: r => (k, snap b t xs x) :: snapF b t xs r
def Box.snap (b : Nat) (t : Ty) (xs : List t.den) : Box → Box
  | .cells cs => .cells (snapL b t xs cs)
  | x => x
def snapH (b : Nat) (t : Ty) (xs : List t.den) : List Box → List Box
  | [] => []
  | x :: r => x.snap b t xs :: snapH b t xs r

mutual
/-- A callee's boxes by the caller's names. -/
def ren (σ : List Nat) : AV → AV
  | .ptr b o => .ptr (σ.getD b 0) o
  | .mptr b k i o => .mptr (σ.getD b 0) k i o
  | .orow b => .orow (σ.getD b 0)
  | .mrow b => .mrow (σ.getD b 0)
  | .msl b k i n => .msl (σ.getD b 0) k i n
  | .fn f caps => .fn f (caps.map fun c => (σ.getD c.1 0, c.2))
  | .agg cs => .agg (renL σ cs)
  | .tup cs => .tup (renL σ cs)
  | .d t x => .d t x
  | .eptr t x => .eptr t x
  | .nilsl => .nilsl
  | .nilfn => .nilfn
  | .top => .top
def renL (σ : List Nat) : List AV → List AV
  | [] => []
  | c :: cs => ren σ c :: renL σ cs
end
def Box.ren (σ : List Nat) : Box → Box
  | .cells cs => .cells (renL σ cs)
  | x => x

mutual
/-- All boxes named are among the first n. -/
def scop (n : Nat) : AV → Bool
  | .ptr b _ => b < n
  | .mptr b _ _ _ => b < n
  | .orow b => b < n
  | .mrow b => b < n
  | .msl b _ _ _ => b < n
  | .fn _ caps => caps.all fun c => c.1 < n
  | .agg cs => scopL n cs
  | .tup cs => scopL n cs
  | _ => true
def scopL (n : Nat) : List AV → Bool
  | [] => true
  | c :: cs => scop n c && scopL n cs
end
def Box.scop (n : Nat) : Box → Bool
  | .cells cs => scopL n cs
  | _ => true

def OwnOf (β : List Value) (k : Nat) : Prop := ∃ (i : Nat) (g : Value), β[i]? = some g ∧ blkOf g = some k

/-- THE CONTRACT: called with such arguments, over such boxes, the function returns just this, and the boxes stand as told behind the call; nothing else that was there has turned. -/
def Ctr (P : Program) (f : FuncId) (args : List AV) (Hin : List Box) (r : AV) (Hout : List Box) : Prop :=
  ∀ (fz : Fz) (β : List Value) (w : World) (vs : List Value), BoxesOk fz β w Hin → FzOk fz w → RdL fz β w args vs →
    Calls P f vs.toArray w fun e w' => ∃ v fz', e = .returned v ∧ RdA fz' β w' r v ∧ BoxesOk fz' β w' Hout ∧ Anc ⟨w, fz, OwnOf β, β⟩ fz' w' ∧ FzOk fz' w'

/-- A function that hands back a row of its caller's own, in a new block. -/
def CtrO (P : Program) (f : FuncId) (args : List AV) (bx : Box) : Prop :=
  ∀ (fz : Fz) (w : World) (vs : List Value), FzOk fz w → RdL fz [] w args vs →
    Calls P f vs.toArray w fun e w' => ∃ v fz', e = .returned v ∧ v.oneCell' = true ∧ BoxOk fz' [] w' v bx ∧ (∀ k, blkOf v = some k → w.heap.size ≤ k) ∧ Anc ⟨w, fz, OwnOf [], []⟩ fz' w' ∧ FzOk fz' w'

/-- A type as the operations see it. -/
structure TD where
  agg : Bool
  size : Nat
  zero : List AV
  offs : List Nat

structure TdOk (P : Program) (t : TypeId) (d : TD) : Prop where
  isAgg : ∀ w : World, (isAgg t).run P w = .ok d.agg w
  sizeOf : ∀ w : World, (sizeOf t).run P w = .ok d.size w
  zero : ∃ z : Value, (∀ w : World, (zeroValue t).run P w = .ok z w) ∧ (∀ fz β w, RdL fz β w d.zero z.cells.toList) ∧
    (d.agg = true → ∀ parts, P.built t parts = Instr.fill ((d.offs.map fun o => (o, 1)).toArray[·]?) z.cells parts)
  one : d.agg = false → d.size = 1
  len : d.zero.length = d.size
  fields : d.agg = true → ∃ fs : Array Field, P.underlying t = some (.struct fs) ∧ fs.toList.map (·.offset) = d.offs ∧ ∀ f, f ∈ fs.toList → ∀ w : World, (Go.sizeOf f.type).run P w = .ok 1 w ∧ (Go.isAgg f.type).run P w = .ok false w

structure ElOk (P : Program) (t : TypeId) (e : TypeId) (τ : Ty) : Prop where
  under : P.underlying t = some (.slice e)
  info : ∃ i z, P.info? e = some i ∧ i.zero = some z ∧ i.size = τ.size ∧ i.bytes ≤ 128 ∧ 0 < i.bytes ∧ ∀ fz w, ElR fz w τ τ.dflt z.cells.toList

/-- The types of a program. -/
structure TEnv (P : Program) where
  td : TypeId → Option TD
  tdok : ∀ t d, td t = some d → TdOk P t d
  el : TypeId → Option (TypeId × Ty)
  elok : ∀ t e τ, el t = some (e, τ) → ElOk P t e τ
  ik : TypeId → Option IntKind
  ikok : ∀ t k, ik t = some k → P.underlying t = some (.int k)
  bl : TypeId → Bool
  blok : ∀ t, bl t = true → P.underlying t = some .bool
  str : TypeId → Bool
  strok : ∀ t, str t = true → P.underlying t = some .string
  cell : TypeId → Bool
  cellok : ∀ t, cell t = true → ∀ a b : Cell, ∀ (w : World) (x y : Operand), (do eqGuard .eql t x y (.agg (cellVals a).toArray) (.agg (cellVals b).toArray); binOp .eql t (.agg (cellVals a).toArray) (.agg (cellVals b).toArray)).run P w = .ok (.bool (decide (a.kind = b.kind ∧ a.name = b.name ∧ a.n = b.n))) w ∧
    (do eqGuard .neq t x y (.agg (cellVals a).toArray) (.agg (cellVals b).toArray); binOp .neq t (.agg (cellVals a).toArray) (.agg (cellVals b).toArray)).run P w = .ok (.bool (!decide (a.kind = b.kind ∧ a.name = b.name ∧ a.n = b.n))) w
  fnb : FuncId → Bool
  fnok : ∀ f, fnb f = true → ∀ (args : Array Value) (w : World), (callFunc f args).run P w = .ok (.enter f args) w

/-- What a call gives: which of the caller's boxes it takes, its arguments and those boxes by its own names, what it hands back, how it leaves them. -/
structure Orc where
  σ : List Nat := []
  args : List AV
  Hin : List Box := []
  r : AV
  Hout : List Box := []

structure Res where
  x : Option AV
  ρ : Fr
  H : List Box
  ob : Prop

def at0 (t : Ty) (xs : List t.den) (i : Int) : t.den := xs.getD i.toNat t.dflt
def cutL {α : Type} (xs : List α) (lo hi : Int) : List α := (xs.take hi.toNat).drop lo.toNat
def big : Nat := 1099511627776

/-- What must hold of numbers, said at their own type. -/
abbrev inB (n : Int) (k : Nat) : Prop := 0 ≤ n ∧ n < k
abbrev inC (l h : Int) (k : Nat) : Prop := 0 ≤ l ∧ l ≤ h ∧ h ≤ k
abbrev inM (m n : Int) : Prop := m = n ∧ 0 ≤ n ∧ n ≤ big
abbrev inS (y : Int) : Prop := y = 1
abbrev inR (x y m : Int) : Prop := 0 ≤ x ∧ 0 < y ∧ y ≤ m

def setRange : List AV → Nat → List AV → List AV
  | cs, _, [] => cs
  | cs, o, x :: r => setRange (cs.set o x) (o + 1) r

/-- A row of boxes with other contents in some places. -/
def putH : List Box → List Nat → List Box → List Box
  | H, i :: σ, x :: xs => putH (H.set i x) σ xs
  | H, _, _ => H

def intCmpB : BinOp → Int → Int → Option Bool
  | .eql, x, y => some (decide (x = y))
  | .neq, x, y => some (!decide (x = y))
  | .lss, x, y => some (decide (x < y))
  | .leq, x, y => some (decide (x ≤ y))
  | .gtr, x, y => some (decide (x > y))
  | .geq, x, y => some (decide (x ≥ y))
  | _, _, _ => none
def intArB : BinOp → IntKind → Int → Int → Option Int
  | .add, k, x, y => some (k.wrap (x + y))
  | .sub, k, x, y => some (k.wrap (x - y))
  | _, _, _, _ => none

def binA {P : Program} (E : TEnv P) (op : BinOp) (t : TypeId) : AV → AV → Option (AV × Prop)
  | .d (.int k) x, .d (.int k') y => if k = k' then
      match intCmpB op x y with
      | some b => some (.d .bool b, True)
      | none => match intArB op k x y with
        | some n => some (.d (.int k) n, True)
        | none => match op with
          | .rem => some (.d (.int k) (x.tmod y), inR x y k.max)
          | .shr => some (.d (.int k) (x.fdiv 2), inS y)
          | _ => none
    else none
  | .d .str x, .d .str y => match op with
      | .eql => some (.d .bool (decide (x = y)), True)
      | .neq => some (.d .bool (!decide (x = y)), True)
      | .lss => some (.d .bool (Op.bytesLess x y), True)
      | .gtr => some (.d .bool (!(Op.bytesLess x y || decide (x = y))), True)
      | .add => some (.d .str (x ++ y), x.length + y.length ≤ big)
      | _ => none
  | .d .bool x, .d .bool y => if E.bl t = true then (match op with
      | .eql => some (.d .bool (x == y), True)
      | .neq => some (.d .bool (!(x == y)), True)
      | _ => none) else none
  | .agg [.d (.int .i64) a, .d .str b, .d (.int .i64) c], .agg [.d (.int .i64) a', .d .str b', .d (.int .i64) c'] =>
      if E.cell t then match op with
        | .eql => some (.d .bool (decide (a = a' ∧ b = b' ∧ c = c')), True)
        | .neq => some (.d .bool (!decide (a = a' ∧ b = b' ∧ c = c')), True)
        | _ => none
      else none
  | .d (.sl _) xs, .nilsl => if (E.el t).isSome = true then (match op with
      | .eql => some (.d .bool false, xs ≠ [])
      | .neq => some (.d .bool true, xs ≠ [])
      | _ => none) else none
  | _, _ => none
end Go.Proofs.YtgapiecbinplfaaGreat
/- Operations that only reckon: what they give, and that the model's run gives it. -/
namespace Go.Proofs.YtgapiecbinplfaaGreat
open Go.RowKit

section lists
variable {fz : Fz} {β : List Value} {w : World}

theorem RdL.get : ∀ {xs : List AV} {vs : List Value}, RdL fz β w xs vs → ∀ (i : Nat) (x : AV), xs[i]? = some x → ∃ v, vs[i]? = some v ∧ RdA fz β w x v
  | c :: cs, vs, h, i, x, hx => by
    simp only [RdL] at h
    obtain ⟨v, r, rfl, h2, h3⟩ := h
    cases i with
    | zero => simp at hx; subst hx; exact ⟨v, by simp, h2⟩
    | succ i => simpa using RdL.get h3 i x (by simpa using hx)

theorem RdL.length : ∀ {xs : List AV} {vs : List Value}, RdL fz β w xs vs → vs.length = xs.length
  | [], vs, h => by simp only [RdL] at h; simp [h]
  | c :: cs, vs, h => by
    simp only [RdL] at h
    obtain ⟨v, r, rfl, h2, h3⟩ := h
    simp [RdL.length h3]

theorem RdL.take : ∀ {xs : List AV} {vs : List Value}, RdL fz β w xs vs → ∀ n, RdL fz β w (xs.take n) (vs.take n)
  | [], vs, h, n => by simp only [RdL] at h; simp [h, RdL]
  | c :: cs, vs, h, 0 => by simp [RdL]
  | c :: cs, vs, h, n + 1 => by
    simp only [RdL] at h
    obtain ⟨v, r, rfl, h2, h3⟩ := h
    simp only [List.take_succ_cons, RdL]
    exact ⟨v, _, rfl, h2, RdL.take h3 n⟩

theorem RdL.drop : ∀ {xs : List AV} {vs : List Value}, RdL fz β w xs vs → ∀ n, RdL fz β w (xs.drop n) (vs.drop n)
  | [], vs, h, n => by simp only [RdL] at h; simp [h, RdL]
  | c :: cs, vs, h, 0 => by simpa using h
  | c :: cs, vs, h, n + 1 => by
    simp only [RdL] at h
    obtain ⟨v, r, rfl, h2, h3⟩ := h
    simpa using RdL.drop h3 n

theorem RdL.append : ∀ {xs ys : List AV} {vs us : List Value}, RdL fz β w xs vs → RdL fz β w ys us → RdL fz β w (xs ++ ys) (vs ++ us)
  | [], ys, vs, us, h, k => by simp only [RdL] at h; subst h; simpa using k
  | c :: cs, ys, vs, us, h, k => by
    simp only [RdL] at h
    obtain ⟨v, r, rfl, h2, h3⟩ := h
    simp only [List.cons_append, RdL]
    exact ⟨v, _, rfl, h2, RdL.append h3 k⟩

theorem RdL.set : ∀ {xs : List AV} {vs : List Value}, RdL fz β w xs vs → ∀ i x v, RdA fz β w x v → RdL fz β w (xs.set i x) (vs.set i v)
  | [], vs, h, i, x, v, _ => by simp only [RdL] at h; subst h; simp [RdL]
  | c :: cs, vs, h, i, x, v, hx => by
    simp only [RdL] at h
    obtain ⟨u, r, rfl, h2, h3⟩ := h
    cases i with
    | zero => simp only [List.set_cons_zero, RdL]; exact ⟨v, r, rfl, hx, h3⟩
    | succ i => simp only [List.set_cons_succ, RdL]; exact ⟨u, _, rfl, h2, RdL.set h3 i x v hx⟩

theorem RdL.setRange : ∀ {ys : List AV} {us : List Value} {xs : List AV} {vs : List Value}, RdL fz β w ys us → RdL fz β w xs vs → ∀ o,
    ∃ vs', RdL fz β w (setRange xs o ys) vs' ∧ vs'.length = vs.length
  | [], us, xs, vs, _, h, o => ⟨vs, h, rfl⟩
  | y :: ys, us, xs, vs, k, h, o => by
    simp only [RdL] at k
    obtain ⟨u, r, rfl, h2, h3⟩ := k
    obtain ⟨vs', h4, h5⟩ := RdL.setRange h3 (RdL.set h o y u h2) (o + 1)
    exact ⟨vs', h4, by simpa using h5⟩

theorem RdL_cells : ∀ {ds : List DV} {vs : List Value}, CellsR fz w ds vs ↔ RdL fz β w (ds.map DV.av) vs
  | [], vs => by simp [CellsR, RdL]
  | d :: ds, vs => by
    simp only [CellsR, List.map_cons, RdL, DV.av, RdA]
    constructor
    · rintro ⟨v, r, h, h2, h3⟩; exact ⟨v, r, h, h2, RdL_cells.1 h3⟩
    · rintro ⟨v, r, h, h2, h3⟩; exact ⟨v, r, h, h2, RdL_cells.2 h3⟩

/-- An element's cells, as a value. -/
theorem RdA_avOf {t : Ty} {x : t.den} {cs : List Value} (h : ElR fz w t x cs) :
    RdA fz β w (avOf t x) (if t.agg then .agg cs.toArray else cs.headD undef) := by
  unfold avOf
  split
  · simp only [RdA]; exact ⟨cs, rfl, RdL_cells.1 (ElR_cells.1 h)⟩
  · rename_i ha
    simp only [RdA]
    have hl := h.length
    have h1 : t.size = 1 := by cases t <;> simp [Ty.agg, Ty.size] at ha ⊢
    rw [h1] at hl
    match cs, hl with
    | [c], _ => exact h
end lists

theorem look_mem : ∀ {ρ : Fr} {t : Nat} {x : AV}, look ρ t = some x → (t, x) ∈ ρ
  | (k, y) :: r, t, x, h => by
    simp only [look] at h
    split at h
    · rename_i hk; subst hk; cases h; exact List.mem_cons_self
    · exact List.mem_cons_of_mem _ (look_mem h)

theorem del_mem : ∀ {ρ : Fr} {t : Nat} {p : Nat × AV}, p ∈ del ρ t → p ∈ ρ ∧ p.1 ≠ t
  | (k, y) :: r, t, p, h => by
    simp only [del] at h
    split at h
    · exact ⟨List.mem_cons_of_mem _ (del_mem h).1, (del_mem h).2⟩
    · rename_i hk
      rcases List.mem_cons.1 h with h | h
      · subst h; exact ⟨List.mem_cons_self, hk⟩
      · exact ⟨List.mem_cons_of_mem _ (del_mem h).1, (del_mem h).2⟩

theorem cAV_ok {fz : Fz} {β : List Value} {w : World} {v : Value} {x : AV} (h : cAV v = some x) : RdA fz β w x v := by
  unfold cAV at h
  split at h <;> cases h
  all_goals (simp only [RdA, ElR])

theorem evA_ok {fz : Fz} {β : List Value} {w : World} {N : Nat} {a : Act} {ρ : Fr} (hf : FrR fz β w N a ρ) {o : Operand} {x : AV} (h : evA ρ o = some x) : RdA fz β w x (a.eval o) := by
  cases o with
  | tmp t => exact (hf.2.2 t x (look_mem h)).2
  | const v => exact cAV_ok h
  | func f =>
    simp only [evA, Option.some.injEq] at h; subst h
    simp only [RdA]
    exact ⟨[], rfl, rfl⟩
  | global g => simp [evA] at h

theorem evL_ok {fz : Fz} {β : List Value} {w : World} {N : Nat} {a : Act} {ρ : Fr} (hf : FrR fz β w N a ρ) : ∀ {l : List Operand} {xs : List AV}, evL ρ l = some xs → RdL fz β w xs (l.map a.eval)
  | [], xs, h => by simp only [evL, Option.some.injEq] at h; subst h; simp [RdL]
  | o :: l, xs, h => by
    simp only [evL, Option.bind_eq_bind] at h
    cases h1 : evA ρ o with
    | none => simp [h1] at h
    | some x =>
      cases h2 : evL ρ l with
      | none => simp [h1, h2] at h
      | some r =>
        simp [h1, h2] at h; subst h
        simp only [List.map_cons, RdL]
        exact ⟨_, _, rfl, evA_ok hf h1, evL_ok hf h2⟩

/-- A growing row reads as what it holds. -/
theorem RdSl_own {fz : Fz} {w : World} {t : Ty} {e : TypeId} {v : Value} {xs : List t.den} {vals : List Value}
    (ho : w.ownsRow 0 e t.size v xs.length vals) (he : ElsR fz w t xs vals) (hf : ∀ blk, blkOf v = some blk → ∀ o, fz blk o ↔ o < vals.length) :
    RdSl fz w t.size (ElR fz w t) v xs := by
  have hlen := he.length
  rcases ho with ⟨h1, ⟨rfl, h2⟩ | ⟨g, cap, cur, rfl, _, hg, hc, hm, hs, ht⟩⟩
  · have hx : xs = [] := List.eq_nil_of_length_eq_zero h2
    subst hx
    exact ⟨none, 0, rfl, Nat.le_refl _, by simp [maxLen], fun h => absurd rfl h⟩
  · refine ⟨some ⟨g, 0, none⟩, cap, rfl, hc, hm, fun hne => ⟨g, 0, rfl, fun i hi => ?_⟩⟩
    have hel := he.get i hi
    have hlt : i * t.size + t.size ≤ vals.length := by
      rw [hlen]
      have : (i + 1) * t.size ≤ xs.length * t.size := Nat.mul_le_mul_right _ hi
      rw [Nat.add_mul] at this; omega
    refine ⟨_, by simp; omega, fun j hj => ?_, hel⟩
    have hj' : j < t.size := by simp at hj; omega
    have hfz := hf g rfl
    refine ⟨(hfz _).2 (by omega), ?_⟩
    rw [cell_of_row w g _ cur e (0, 0) hg, Nat.zero_add]
    have hh : vals[i * t.size + j]? = some (((vals.drop (i * t.size)).take t.size)[j]'hj) := by
      rw [List.getElem?_eq_getElem (by omega)]; simp [List.getElem_take, List.getElem_drop]
    generalize ((vals.drop (i * t.size)).take t.size)[j]'hj = q at hh ⊢
    rw [← ht, List.getElem?_take] at hh
    split at hh
    · simpa using hh
    · cases hh

theorem froz_ok {fz : Fz} {β : List Value} {w : World} {H : List Box} (hb : BoxesOk fz β w H) {x : AV} {v : Value} (h : RdA fz β w x v) : RdA fz β w (froz H x) v := by
  cases x with
  | orow b =>
    simp only [froz]
    split
    · rename_i e t xs hx
      simp only [RdA] at h ⊢
      obtain ⟨vals, ho, he, hf⟩ := hb.ok b v _ h hx
      exact ⟨v, rfl, RdSl_own ho he hf⟩
    · exact h
  | _ => exact h

theorem frozL_ok {fz : Fz} {β : List Value} {w : World} {H : List Box} (hb : BoxesOk fz β w H) : ∀ {xs : List AV} {vs : List Value}, RdL fz β w xs vs → RdL fz β w (xs.map (froz H)) vs
  | [], _, h => h
  | c :: cs, vs, h => by
    simp only [RdL] at h
    obtain ⟨v, r, h1, h2, h3⟩ := h
    simp only [List.map_cons, RdL]
    exact ⟨v, r, h1, froz_ok hb h2, frozL_ok hb h3⟩

theorem asTy_ok {fz : Fz} {β : List Value} {w : World} {t : Ty} {x : AV} {y : t.den} {v : Value} (h : asTy t x = some y) (hr : RdA fz β w x v) : ElR fz w t y [v] := by
  cases x with
  | d t' z =>
    simp only [asTy] at h
    split at h
    · rename_i ht; subst ht; cases h; simpa only [RdA] using hr
    · cases h
  | nilsl =>
    simp only [asTy] at h
    cases t with
    | sl t =>
      simp only [Option.some.injEq] at h; subst h
      simp only [RdA] at hr; subst hr
      exact ⟨_, rfl, none, 0, rfl, Nat.le_refl _, by simp [maxLen], fun h => absurd rfl h⟩
    | _ => simp at h
  | _ => simp [asTy] at h

theorem ofCells_ok {fz : Fz} {β : List Value} {w : World} {t : Ty} {xs : List AV} {y : t.den} {vs : List Value} (h : ofCells t xs = some y) (hr : RdL fz β w xs vs) : ElR fz w t y vs := by
  unfold ofCells at h
  split at h
  case h_10 => cases h
  all_goals (try simp only [Option.bind_eq_bind, Option.bind_eq_some_iff, Option.some.injEq] at h)
  all_goals simp only [RdL] at hr
  · obtain ⟨x, hx, y, hy, z, hz, rfl⟩ := h
    obtain ⟨v1, r1, rfl, h1, v2, r2, rfl, h2, v3, r3, rfl, h3, rfl⟩ := hr
    have e1 := asTy_ok hx h1; have e2 := asTy_ok hy h2; have e3 := asTy_ok hz h3
    cases e1; cases e2; cases e3; rfl
  · obtain ⟨x, hx, y, hy, z, hz, rfl⟩ := h
    obtain ⟨v1, r1, rfl, h1, v2, r2, rfl, h2, v3, r3, rfl, h3, rfl⟩ := hr
    have e1 := asTy_ok hx h1; have e2 := asTy_ok hy h2; have e3 := asTy_ok hz h3
    cases e1
    exact ⟨v2, v3, rfl, intsR_iff.1 e2, intsR_iff.1 e3⟩
  · obtain ⟨x, hx, y, hy, z, hz, rfl⟩ := h
    obtain ⟨v1, r1, rfl, h1, v2, r2, rfl, h2, v3, r3, rfl, h3, rfl⟩ := hr
    exact ⟨v1, v2, v3, rfl, termR_iff.1 (asTy_ok hx h1), termsR_iff.1 (asTy_ok hy h2), termsR_iff.1 (asTy_ok hz h3)⟩
  · obtain ⟨x, hx, y, hy, rfl⟩ := h
    obtain ⟨v1, r1, rfl, h1, v2, r2, rfl, h2, rfl⟩ := hr
    exact ⟨v1, v2, rfl, termR_iff.1 (asTy_ok hx h1), termsR_iff.1 (asTy_ok hy h2)⟩
  · obtain ⟨x, hx, y, hy, rfl⟩ := h
    obtain ⟨v1, r1, rfl, h1, v2, r2, rfl, h2, rfl⟩ := hr
    have e1 := asTy_ok hx h1
    cases e1
    exact ⟨v2, rfl, termR_iff.1 (asTy_ok hy h2)⟩
  · obtain ⟨v1, r1, rfl, h1, rfl⟩ := hr; exact asTy_ok h h1
  · obtain ⟨v1, r1, rfl, h1, rfl⟩ := hr; exact asTy_ok h h1
  · obtain ⟨v1, r1, rfl, h1, rfl⟩ := hr; exact asTy_ok h h1
  · obtain ⟨v1, r1, rfl, h1, rfl⟩ := hr; exact asTy_ok h h1

/-- No struct or tuple: a value of one cell. -/
def AV.one : AV → Bool
  | .agg _ | .tup _ | .top => false
  | .d t _ => !t.agg
  | _ => true

theorem RdA.one {fz : Fz} {β : List Value} {w : World} {x : AV} {v : Value} (h : RdA fz β w x v) (hb : ∀ (b : Nat) (g : Value), β[b]? = some g → g.oneCell' = true) (ho : x.one = true) : v.oneCell' = true := by
  cases x with
  | d t y =>
    simp only [RdA] at h
    have hl := h.length
    cases t with
    | int k => cases h; rfl
    | bool => cases h; rfl
    | str => cases h; rfl
    | sl t => obtain ⟨u, hu, a, c, rfl, _⟩ := h; cases hu; rfl
    | _ => simp [AV.one, Ty.agg] at ho
  | agg => simp [AV.one] at ho
  | tup => simp [AV.one] at ho
  | top => simp [AV.one] at ho
  | ptr => simp only [RdA] at h; obtain ⟨blk, _, rfl⟩ := h; rfl
  | eptr => simp only [RdA] at h; obtain ⟨b, o, cs, rfl, _⟩ := h; rfl
  | mptr => simp only [RdA] at h; obtain ⟨blk, n, c, _, rfl⟩ := h; rfl
  | orow => simp only [RdA] at h; exact hb _ _ h
  | mrow => simp only [RdA] at h; exact hb _ _ h
  | msl => simp only [RdA] at h; obtain ⟨blk, m, c, ad, c2, _, rfl, _⟩ := h; rfl
  | nilsl => simp only [RdA] at h; subst h; rfl
  | nilfn => simp only [RdA] at h; subst h; rfl
  | fn => simp only [RdA] at h; obtain ⟨vs, rfl, _⟩ := h; rfl

theorem Value.cells_one {v : Value} (h : v.oneCell' = true) : v.cells = #[v] := by
  cases v <;> first | rfl | simp [Value.oneCell'] at h

end Go.Proofs.YtgapiecbinplfaaGreat
/- Operations that only reckon: the function, and that the model's run gives what it says. -/
namespace Go.Proofs.YtgapiecbinplfaaGreat
open Go.RowKit

def fillA (offs : List Nat) : List AV → List (Nat × AV) → Option (List AV)
  | cs, [] => some cs
  | cs, (i, x) :: r => match offs[i]? with
    | some o => if x.one = true ∧ o < cs.length then fillA offs (cs.set o x) r else none
    | none => none

def evP (ρ : Fr) : List (Nat × Operand) → Option (List (Nat × AV))
  | [] => some []
  | (i, x) :: r => do some ((i, ← evA ρ x) :: (← evP ρ r))

def capsOf : List AV → Option (List (Nat × Nat))
  | [] => some []
  | .ptr b o :: r => do some ((b, o) :: (← capsOf r))
  | _ => none

def boundA (ρ : Fr) (dflt : Int) : Option Operand → Option Int
  | none => some dflt
  | some x => match evA ρ x with
    | some (.d (.int _) n) => some n
    | _ => none

variable {P : Program}

/-- What an operation that only reckons gives, and what must hold for it. -/
def valOp (E : TEnv P) (ρ : Fr) (H : List Box) : Op → Option (AV × Prop)
  | .move x => (evA ρ x).map (·, True)
  | .assign x => (evA ρ x).map (·, True)
  | .pick c a b => match evA ρ c with
    | some (.d .bool t) => if t = true then (evA ρ a).map (·, True) else (evA ρ b).map (·, True)
    | _ => none
  | .load t a => match E.td t, evA ρ a with
    | some d, some (.ptr b o) => match H[b]? with
      | some (.cells cs) => if d.agg = true then (if o + d.size ≤ cs.length then some (.agg ((cs.drop o).take d.size), True) else none) else (cs[o]?).map (·, True)
      | _ => none
    | some d, some (.eptr τ x) => if d.agg = τ.agg ∧ d.size = τ.size then some (avOf τ x, True) else none
    | some d, some (.mptr b k i o) => match H[b]? with
      | some (.mrow _ τ xs) => if k = τ.size then
          (if d.agg = true then (if o = 0 ∧ d.size = τ.size ∧ τ.agg = true then some (avOf τ (at0 τ xs i), i < xs.length) else none)
           else ((τ.cells (at0 τ xs i))[o]?).map fun c => (c.av, i < xs.length))
        else none
      | _ => none
    | _, _ => none
  | .nilCheck x => match evA ρ x with
    | some (.ptr b o) => some (.ptr b o, True)
    | some (.fn f cs) => some (.fn f cs, True)
    | _ => none
  | .binOp op t x y _ => match evA ρ x, evA ρ y with
    | some a, some b => binA E op t a b
    | _, _ => none
  | .unOp op _ x => match op, evA ρ x with
    | .not, some (.d .bool b) => some (.d .bool (!b), True)
    | .neg, some (.d (.int k) n) => some (.d (.int k) (k.wrap (0 - n)), True)
    | _, _ => none
  | .convert s d x => match E.ik s, E.ik d, evA ρ x with
    | some _, some k, some (.d (.int _) n) => some (.d (.int k) (k.wrap n), True)
    | _, _, _ => none
  | .slice t x lo hi none => match E.el t, (evA ρ x).map (froz H) with
    | some (_, τ'), some (.d (.sl τ) xs) => match boundA ρ 0 lo, boundA ρ xs.length hi with
      | some l, some h => if τ.size = τ'.size then some (.d (.sl τ) (cutL xs l h), inC l h xs.length) else none
      | _, _ => none
    | some (_, τ'), some (.mrow b) => match H[b]? with
      | some (.mrow _ τ xs) => match boundA ρ 0 lo, boundA ρ xs.length hi with
        | some l, some h => if τ.size = τ'.size then some (.msl b τ.size l.toNat (h.toNat - l.toNat), inC l h xs.length) else none
        | _, _ => none
      | _ => none
    | some (_, τ'), some (.msl b k i n) => match boundA ρ 0 lo, boundA ρ n hi with
      | some l, some h => if k = τ'.size then some (.msl b k (i + l.toNat) (h.toNat - l.toNat), inC l h n) else none
      | _, _ => none
    | some (_, τ'), some .nilsl => match boundA ρ 0 lo, boundA ρ 0 hi with
      | some l, some h => some (.d (.sl τ') [], l = 0 ∧ h = 0)
      | _, _ => none
    | none, some (.d .str s) => match boundA ρ 0 lo, boundA ρ s.length hi with
      | some l, some h => if E.str t = true then some (.d .str (cutL s l h), inC l h s.length) else none
      | _, _ => none
    | _, _ => none
  | .fieldAddr t a f => match E.td t, evA ρ a with
    | some d, some (.ptr b o) => if d.agg = true then (d.offs[f]?).map fun off => (.ptr b (o + off), True) else none
    | some d, some (.eptr τ x) => if d.agg = true ∧ d.offs = List.range τ.size then ((τ.cells x)[f]?).map fun c => (.eptr c.t c.x, True) else none
    | some d, some (.mptr b k i o) => if d.agg = true then (d.offs[f]?).map fun off => (.mptr b k i (o + off), True) else none
    | _, _ => none
  | .field t a f => match E.td t, evA ρ a with
    | some d, some (.agg cs) => if d.agg = true then (match d.offs[f]? with
      | some off => (cs[off]?).map (·, True)
      | none => none) else none
    | _, _ => none
  | .indexAddr t x i => match E.el t, (evA ρ x).map (froz H), evA ρ i with
    | some (_, τ'), some (.d (.sl τ) xs), some (.d (.int _) n) => if τ.size = τ'.size then some (.eptr τ (at0 τ xs n), inB n xs.length) else none
    | some (_, τ'), some (.mrow b), some (.d (.int _) n) => match H[b]? with
      | some (.mrow _ τ xs) => if τ.size = τ'.size then some (.mptr b τ.size n.toNat 0, inB n xs.length) else none
      | _ => none
    | some (_, τ'), some (.msl b k i m), some (.d (.int _) n) => if k = τ'.size then some (.mptr b k (i + n.toNat) 0, inB n m) else none
    | _, _, _ => none
  | .index t x i => match evA ρ x, evA ρ i with
    | some (.d .str s), some (.d (.int _) n) => if E.str t = true then some (.d (.int .u8) ((s.getD n.toNat 0).toNat : Int), inB n s.length) else none
    | _, _ => none
  | .extract x i => match evA ρ x with
    | some (.tup xs) => (xs[i]?).map (·, True)
    | _ => none
  | .makeFunc (.func f) first caps => if first.toList.length = 0 then
      (match evL ρ caps.toList with
       | some l => (capsOf l).map fun c => (.fn f c, True)
       | none => none) else none
  | .build t parts => match E.td t, evP ρ parts.toList with
    | some d, some l => if d.agg = true then (fillA d.offs d.zero (l.map fun p => (p.1, froz H p.2))).map fun cs => (.agg cs, True) else none
    | _, _ => none
  | .call { callee := .builtin .len, args := as, argTypes := ts } => match as.toList, ts.toList with
    | [x], [t] => match E.el t, (evA ρ x).map (froz H) with
      | some _, some (.d (.sl _) xs) => some (.d .i (xs.length : Int), True)
      | some _, some .nilsl => some (.d .i (0 : Int), True)
      | some _, some (.mrow b) => match H[b]? with
        | some (.mrow _ _ xs) => some (.d .i (xs.length : Int), True)
        | _ => none
      | some _, some (.msl _ _ _ n) => some (.d .i (n : Int), True)
      | none, some (.d .str s) => if E.str t = true then some (.d .i (s.length : Int), True) else none
      | _, _ => none
    | _, _ => none
  | .call { callee := .builtin .min, args := as, argTypes := _ } => match as.toList with
    | [x, y] => match evA ρ x, evA ρ y with
      | some (.d (.int k) a), some (.d (.int k') b) => if k = k' then some (.d (.int k) (if b < a then b else a), True) else none
      | _, _ => none
    | _ => none
  | _ => none

theorem run_v {s : Sem Value} {w w' : World} {v : Value} (h : s.run P w = .ok v w') : (do pure (Next.value (← s)) : Sem Next).run P w = .ok (.value v) w' := by
  simp [h]

theorem cells_load {fz : Fz} {w : World} {b o : Nat} {cs : List Value} (h : CellsAt fz w b o cs) : ∀ j v, cs[j]? = some v → w.cell? ((⟨b, o, none⟩ : Addr).add j) = some v := by
  intro j v hj
  have hl := (List.getElem?_eq_some_iff.1 hj).1
  have := (h j hl).2
  rw [show ((⟨b, o, none⟩ : Addr).add j) = ⟨b, o + j, none⟩ by unfold Addr.add; split <;> simp_all, this]
  simpa [List.getElem?_eq_getElem hl] using hj

theorem run_loadVar_agg {t : TypeId} {d : TD} (hd : TdOk P t d) (ha : d.agg = true) {w : World} {p : Addr} {cs : List Value} (hl : cs.length = d.size)
    (h : ∀ j v, cs[j]? = some v → w.cell? (p.add j) = some v) : (Instr.loadAt t (.pointer (some p))).run P w = .ok (.agg cs.toArray) w := by
  have := run_loadCells_list (P := P) w p cs h
  rw [hl] at this
  simp [Instr.loadAt, Instr.sureAddr, loadVar, hd.isAgg, ha, hd.sizeOf, this]

theorem run_loadVar_one {t : TypeId} {d : TD} (hd : TdOk P t d) (ha : d.agg = false) {w : World} {p : Addr} {v : Value}
    (h : w.cell? p = some v) : (Instr.loadAt t (.pointer (some p))).run P w = .ok v w := by
  simp [Instr.loadAt, Instr.sureAddr, loadVar, hd.isAgg, ha, h]

theorem Ty.agg_size {τ : Ty} (h : τ.agg = false) : τ.size = 1 := by cases τ <;> simp [Ty.agg, Ty.size] at h ⊢

theorem at0_get {t : Ty} {xs : List t.den} {n : Int} (h0 : 0 ≤ n) (h : n < xs.length) : at0 t xs n = xs[n.toNat]'(by omega) := by
  simp [at0, List.getD, List.getElem?_eq_getElem (show n.toNat < xs.length by omega)]

/-- An element of a slice, at its address. -/
theorem RdSl_index {fz : Fz} {w : World} {t : Ty} {v : Value} {xs : List t.den} (h : RdSl fz w t.size (ElR fz w t) v xs) {n : Int} (h0 : 0 ≤ n) (hn : n < xs.length) :
    ∃ b o c cs, v = .slice (some ⟨b, o, none⟩) xs.length c ∧ CellsAt fz w b (o + n.toNat * t.size) cs ∧ ElR fz w t (at0 t xs n) cs := by
  obtain ⟨a, c, hv, h1, h2, h3⟩ := h
  have hne : xs ≠ [] := by intro e; subst e; simp at hn; omega
  obtain ⟨b, o, rfl, hc⟩ := h3 hne
  obtain ⟨cs, hk, hj, hx⟩ := hc n.toNat (by omega)
  exact ⟨b, o, c, cs, hv, hj, by rw [at0_get h0 hn]; exact hx⟩

theorem RdSl_len {α : Type} {fz : Fz} {w : World} {k : Nat} {R : α → List Value → Prop} {v : Value} {xs : List α} (h : RdSl fz w k R v xs) : ∃ a c, v = .slice a xs.length c := by
  obtain ⟨a, c, hv, _⟩ := h; exact ⟨a, c, hv⟩

theorem addr_add (b o n : Nat) : (⟨b, o, none⟩ : Addr).add n = ⟨b, o + n, none⟩ := by unfold Addr.add; split <;> simp_all

theorem ByteArray_size_mk (s : List UInt8) : (ByteArray.mk s.toArray).size = s.length := by simp [ByteArray.size]

end Go.Proofs.YtgapiecbinplfaaGreat
