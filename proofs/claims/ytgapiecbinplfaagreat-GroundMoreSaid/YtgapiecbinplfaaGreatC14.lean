/- Own framework, walks and plain laws behind the laws of this seat, part C14: lemmas, no statement of the seat. -/
import Derived.Test.YtgapiecbinplfaaGreatC13
set_option linter.all false
/- How a program reads as a datum. -/
namespace Go.Proofs.YtgapiecbinplfaaGreat
open Go.RowKit Go.ChangeShapes Go.WideShapes Go.ChangeAt

theorem nm_of {t : Term} (h : ∀ c ∈ t, c.name.length ≤ maxLen) : NmOk t := fun c hc => by have := h c hc; simp only [maxLen] at this; omega
theorem nmI_of {x : Inst} (h : strOk .inst x) : NmI x := ⟨nm_of h.1, fun t ht => nm_of (h.2.1 t ht), fun t ht => nm_of (h.2.2 t ht)⟩

set_option maxHeartbeats 800000 in
set_option maxRecDepth 100000 in
theorem prg_reads {H : Type} {enc : TypeId × Value → H} {W : World} {v : Value} {d : DataW H} {p : List MemPlace} {r : _root_.Go.Reach} {b0 : Nat} (hok : Value.okWide Tryz.prog W r b0 25 v)
    (h : DataW.Trod enc Tryz.prog W 0 (fun _ => true) true 25 v d p) : ∃ g : Prg, RdA (fzOf W) [] W (pav g) v ∧ ∀ t ∈ g.atoms, NmOk t := by
  obtain ⟨ds, e1, e2, e3⟩ := trod_agg (τs := [.terms, .sl .rule]) 6 Tryz.underlying25 (by kernel_rfl) (by kernel_rfl) hok h
  match ds, e1 with
  | [⟨t1, a⟩, ⟨t2, b⟩], e1 =>
    simp only [List.map, List.cons.injEq, and_true] at e1
    obtain ⟨rfl, rfl⟩ := e1
    exact ⟨⟨a, b⟩, e2, fun t ht => nm_of (e3 ⟨.terms, a⟩ (by simp) t ht)⟩

theorem u8_of {n : Int} (h : strOk (.int .u8) n) : 0 ≤ n ∧ n ≤ 255 := by
  have h1 : (Lit.int .u8 n).wf = true := h
  have h2 : IntKind.u8.min = 0 := rfl
  have h3 : IntKind.u8.max = 255 := rfl
  simp [Lit.wf, h2, h3] at h1
  omega
theorem mayEnter_ok : Tryz.prog.mayEnter = true := by kernel_rfl
theorem lifts_ok : Tryz.prog.liftsFinal = false := by kernel_rfl
end Go.Proofs.YtgapiecbinplfaaGreat
