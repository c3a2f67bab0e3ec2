import Derived.Test.YtjffhomcgpigpaaDoorRows
import Derived.Test.YtjffhomcgpigpaaDoorTie
import Derived.Test.YtjffhomcgpigpaaDoorCards
import Derived.Test.YtjffhomcgpigpaaDoorB9
import Derived.ProofKit
import Derived.ChangeSame
import Derived.ChangeVars
import Derived.JoinedOf
import Derived.RowKit
import Derived.RowKitTokens
import Derived.LaidLaws
import Derived.LaidHandle
import Derived.Stop.Joined
import Derived.SevenTiedAt
/- What the rows of the Cmd laws have in common: the listed variable's cell. -/
namespace Go.Proofs.YtjffhomcgpigpaaDoor
open Go.ChangeShapes Go.WideShapes Go.RowKit
theorem Tryd.own : ownKnob Tryd.prog.godebug = none := by kernel_rfl
theorem Tryd.et : Tryd.prog.globalNamed "errors.errorType" = some 0 := by kernel_rfl
theorem Tryd.rt : (Tryd.prog.cutTypes.find? (·.1 == "internal/reflectlite.rtype")).map (·.2) = some 101 := by kernel_rfl
theorem Tryd.oneRow : ((List.range Tryd.prog.types.size).filter fun t => Tryd.prog.rowNamed t [101, 114, 114, 111, 114]) = [43] := by kernel_rfl
/-- What the condition gives: the variable's one cell. -/
theorem handle_of_laid {l : List (String × DataW Unit)} {W : World} (hl : l = [("errors.errorType", Rows.laid_errors_errorType)]) (h : laidMetH Tryd.prog l W) : E.get W.heap 0 0 = some et := by
  subst hl
  have h' : laidMet Tryd.prog [] W ∧ handlesMet Tryd.prog [("errors.errorType", Rows.laid_errors_errorType)] W := h
  obtain ⟨name, u, ty, e1, e2, e3, e4, e5⟩ := h'.2 _ (List.mem_singleton.2 rfl)
  have en : name = [101, 114, 114, 111, 114] := (Option.some.inj e1).symm
  subst en
  obtain rfl := Option.some.inj (Tryd.rt.symm.trans e2)
  have hm : ty ∈ (List.range Tryd.prog.types.size).filter fun t => Tryd.prog.rowNamed t [101, 114, 114, 111, 114] := List.mem_filter.2 ⟨List.mem_range.2 e3, e4⟩
  rw [Tryd.oneRow] at hm
  obtain rfl := List.mem_singleton.1 hm
  have hh : typeHandle Tryd.prog 43 = .pointer (some ⟨1, 43, none⟩) := by kernel_rfl
  rw [hh] at e5
  have := World.var?_cell Tryd.et e5 0
  rw [← E.get_cell]
  simpa using this
/-- A world that meets the condition. -/
noncomputable def laidWorld (os : Os) : World :=
  let w0 := World.holding Tryd.prog os ⟨#[], #[], []⟩
  { w0 with heap := w0.heap.modify 0 fun
      | .cells _ t frozen => .cells #[.iface 101 (.agg #[.pointer (some ⟨1, 43, none⟩)])] t frozen
      | o => o }
theorem laidWorld_met (os : Os) (args : Array Value) : laidMetH Tryd.prog [("errors.errorType", Rows.laid_errors_errorType)] ((laidWorld os).forCall (fun _ _ => 0) ⟨#[], args, []⟩).memory :=
  laidMetH_of_parts (laidMet_nil _ _) (by kernel_rfl)
/-- New blocks alone: what was there is kept. -/
theorem kept_of_ext {w w' : World} (h : E.Ext w.heap w'.heap) (ho : E.outw w' = E.outw w) (may : MemPlace → Prop) : w.keptBut w' may := by
  unfold E.outw at ho
  injection ho with h1 h2
  refine ⟨h1, h2, fun i hi => ?_⟩
  rw [h.old i hi]
  cases hc : w.heap[i]? with
  | none => simp only
  | some x =>
    cases x with
    | cells c t fr => exact ⟨rfl, rfl, rfl, fun _ _ => rfl⟩
    | map es clock => exact .inr ⟨rfl, rfl⟩
    | _ => rfl
theorem bs_self (s : ByteArray) : E.bs s.data.toList = s := rfl
end Go.Proofs.YtjffhomcgpigpaaDoor
