import Derived.Test.YtilgejlgmnnckaaRows
import Derived.Test.YtilgejlgmnnckaaL1
import Derived.ProofKit
namespace Go.Proofs.Ytilgejlgmnnckaa
open Go.ChangeShapes Go.WideShapes Go.ChangeAt Go.RowKit
open Go.ChangeMaps (open_string shut_string)
theorem Try.own : ownKnob Try.prog.godebug = none := by kernel_rfl
/-- New blocks alone: what was there is kept. -/
theorem kept_of_ext {w w' : World} (h : E.Ext w.heap w'.heap) (ho : E.outw w' = E.outw w) (may : MemPlace → Prop) : w.keptBut w' may := by
  unfold E.outw at ho
  injection ho with h1 h2
  refine ⟨h1, h2, fun i hi => ?_⟩
  rw [h.old i hi]
  cases hc : w.heap[i]? with
  | none => simp only
  | some x =>
    cases x with
    | cells c t fr => exact ⟨rfl, rfl, rfl, fun _ _ => rfl⟩
    | map es clock => exact .inr ⟨rfl, rfl⟩
    | _ => rfl
theorem bs_self (s : ByteArray) : E.bs s.data.toList = s := rfl

set_option maxRecDepth 100000 in
theorem globEscapes_lifted (os : Os) (started : os.Started) (H : Type) (enc : TypeId × Value → H) :
    ReturnsInHanded {} Try.checked os 5 .any (Rows.globEscapesSpec.pre6 enc Try.prog Try.f5 Rows.globEscapesRow.domain false) (Rows.globEscapesSpec.post enc Try.prog Try.f5 false true false false) := by
  refine returnsInHanded_of_change (C := Try.checked) Try.own started (by kernel_rfl) Try.func5
    (ChangeSpec.witness6 (enc := enc) (C := Try.checked) false ⟨#[], #[.string ⟨#[]⟩, .string ⟨#[]⟩], []⟩ 8 (by kernel_rfl) (by kernel_rfl) (by kernel_rfl) (by kernel_rfl)) ?_
  intro W base args ds gs before hval0 hW hcnd _
  have hval : ∀ (j : Nat) t v, Try.f5.params[j]? = some t → args[j]? = some v → Value.okWide Try.prog W .any base t v := hval0
  have hW' := hW
  obtain ⟨p, q, hA0, hV, rfl, hfz, hnd⟩ := hW
  have hA : DataW.TrodAll enc Try.prog W 0 (fun _ => true) true Try.f5.params.toList args.toList ds p := hA0
  rw [Try.params5] at hA hval
  obtain ⟨v0, v1, d0, d1, p0, p1, rfl, rfl, rfl, h0, h1⟩ := trodAll_two hA
  obtain ⟨rfl, rfl⟩ := trodVars_none hV
  obtain ⟨s, rfl, rfl, rfl, ws⟩ := open_string Try.underlying9 (hval 0 9 v0 rfl rfl) h0
  obtain ⟨t, rfl, rfl, rfl, wt⟩ := open_string Try.underlying9 (hval 1 9 v1 rfl rfl) h1
  clear hA0 hval0
  simp only [List.append_nil] at hW'
  have hc := Escapes_any s.data.toList t.data.toList W
  rw [bs_self, bs_self] at hc
  refine hc.mono fun e W' ⟨he, hw, ho⟩ => ?_
  subst he
  have hx : E.Ext W.heap W'.heap := by rw [hw]; exact E.Ext.refl _
  exact ⟨_, rfl, _, _, _, [], [], [], hW', trodAll_mk1 (shut_bool Try.underlying4 _), trodAll_mk2 (shut_string Try.underlying9 ws) (shut_string Try.underlying9 wt), rfl, kept_of_ext hx ho _, fun h => by cases h⟩

theorem globEscapes_holds : Rows.GlobEscapesSaid :=
  OpenClaim.holds_of_wide 5 Try.f5 rfl rfl rfl rfl rfl rfl rfl ⟨rfl, rfl, rfl, rfl, rfl⟩ rfl rfl rfl rfl rfl (by kernel_rfl) Try.func5 (by kernel_rfl)
    (of_decide_eq_true (by kernel_rfl)) (by unfold Func.isWrapper; first | (rw [if_pos (by decide +kernel)]; kernel_rfl) | (rw [if_neg (by decide +kernel)]; exact ⟨rfl, rfl⟩))
    (fun os started H enc _ => globEscapes_lifted os started H enc)
end Go.Proofs.Ytilgejlgmnnckaa
