import Derived.Test.YtilgejlgmnnckaaR5
import Derived.Test.YtilgejlgmnnckaaL6
namespace Go.Proofs.Ytilgejlgmnnckaa
open Go.ChangeShapes Go.WideShapes Go.ChangeAt Go.RowKit
open Go.ChangeMaps (open_string shut_string)
theorem Try.cells3 : Try.prog.cellsOf 3 = 1 := by kernel_rfl
theorem ints_row {W : World} {a : Addr} {zs : List Int} {len : Nat} (hl : len ≤ zs.length) (hcell : ∀ i, i < zs.length → W.cell? (a.add i) = some (.int .i64 (zs.getD i 0))) :
    E.row W.heap (some a) (i64s (zs.take len)) := by
  by_cases h0 : len = 0
  · left; subst h0; rfl
  · obtain ⟨b, o, spot⟩ := a
    have hs : spot = none := by
      have := hcell 0 (by omega)
      cases spot with
      | none => rfl
      | some s =>
        unfold World.cell? at this
        simp [Addr.add] at this
        split at this <;> simp at this
    subst hs
    refine .inr ⟨b, o, rfl, fun j v hj => ?_⟩
    have hj2 : j < len := by
      have := (List.getElem?_eq_some_iff.1 hj).1
      simp [i64s] at this; omega
    have hc := hcell j (by omega)
    rw [E.addr_add, E.cell_get] at hc
    rw [hc]
    have hz : zs[j]? = some (zs.getD j 0) := by simp [List.getD, show j < zs.length by omega]
    have hv : (i64s (zs.take len))[j]? = some (.int .i64 (zs.getD j 0)) := by
      simp only [i64s, List.getElem?_map]
      rw [List.getElem?_take, if_pos hj2, hz]; rfl
    rw [hv] at hj
    injection hj with hj
    rw [← hj]

set_option maxRecDepth 100000 in
theorem globTells_lifted (os : Os) (started : os.Started) (H : Type) (enc : TypeId × Value → H) :
    ReturnsInHanded {} Try.checked os 3 .any (Rows.globTellsSpec.pre6 enc Try.prog Try.f3 Rows.globTellsRow.domain false) (Rows.globTellsSpec.post enc Try.prog Try.f3 false true false false) := by
  refine returnsInHanded_of_change (C := Try.checked) Try.own started (by kernel_rfl) Try.func3
    (ChangeSpec.witness6 (enc := enc) (C := Try.checked) false ⟨#[], #[.string ⟨#[]⟩, .string ⟨#[]⟩, .slice none 0 0], []⟩ 8 (by kernel_rfl) (by kernel_rfl) (by kernel_rfl) (by kernel_rfl)) ?_
  intro W base args ds gs before hval0 hW hcnd _
  have hval : ∀ (j : Nat) t v, Try.f3.params[j]? = some t → args[j]? = some v → Value.okWide Try.prog W .any base t v := hval0
  have hW' := hW
  obtain ⟨p, q, hA0, hV, rfl, hfz, hnd⟩ := hW
  have hA : DataW.TrodAll enc Try.prog W 0 (fun _ => true) true Try.f3.params.toList args.toList ds p := hA0
  rw [Try.params3] at hA hval
  obtain ⟨v0, v1, v2, d0, d1, d2, p0, p1, p2, rfl, rfl, rfl, h0, h1, h2⟩ := trodAll_three hA
  obtain ⟨rfl, rfl⟩ := trodVars_none hV
  obtain ⟨s, rfl, rfl, rfl, ws⟩ := open_string Try.underlying9 (hval 0 9 v0 rfl rfl) h0
  obtain ⟨u, rfl, rfl, rfl, wu⟩ := open_string Try.underlying9 (hval 1 9 v1 rfl rfl) h1
  obtain ⟨a0, len, cap, rfl⟩ := okWide_slice Try.underlying22 (hval 2 22 v2 rfl rfl)
  have h0k := h2
  obtain ⟨fuel, hf⟩ := h2
  clear hA0 hval0
  simp only [List.append_nil, List.nil_append] at hW'
  have hlt : ∀ x ∈ p2, x.block < W.heap.size := fun x hx => by simpa using hW'.lt x hx
  have hrow : ∃ l : List Int, l.length = len ∧ E.row W.heap a0 (i64s l) ∧ len ≤ 9223372036854775807 ∧ ∀ n ∈ l, E.inK .i64 n := by
    rcases open_ints Try.underlying22 Try.underlying3 Try.cells3 hf with ⟨hcs, hx⟩ | ⟨a, len', cap', zs, hcs, _, hl, hm, hz, hx, hcell, hwz⟩
    · simp [Value.cells] at hcs
      obtain ⟨rfl, rfl, rfl⟩ := hcs
      exact ⟨[], rfl, .inl rfl, by omega, by simp⟩
    · simp [Value.cells] at hcs
      obtain ⟨rfl, rfl, rfl⟩ := hcs
      simp only [if_true] at hz
      refine ⟨zs.take len, by simp; omega, ints_row (by omega : len ≤ zs.length) hcell, by simp only [maxLen] at hm; omega, fun n hn => ?_⟩
      have := hwz n (List.mem_of_mem_take hn)
      unfold E.inK; simpa [Lit.wf] using this
  obtain ⟨l, rfl, hrw, hln, hwn⟩ := hrow
  have hc := Tells_any s.data.toList u.data.toList a0 l cap W hrw hln hwn
  rw [bs_self, bs_self] at hc
  refine hc.mono fun e W' ⟨he, hx, ho⟩ => ?_
  subst he
  exact ⟨_, rfl, _, _, _, [], _, [], hW', trodAll_mk1 (shut_bool Try.underlying4 _), trodAll_mk3 (shut_string Try.underlying9 ws) (shut_string Try.underlying9 wu) (trod_ext Try.laidOut (by kernel_rfl) (of_decide_eq_true (by kernel_rfl)) h0k hx hlt), rfl, kept_of_ext hx ho _, fun h => by cases h⟩

theorem globTells_holds : Rows.GlobTellsSaid :=
  OpenClaim.holds_of_wide 3 Try.f3 rfl rfl rfl rfl rfl rfl rfl ⟨rfl, rfl, rfl, rfl, rfl⟩ rfl rfl rfl rfl rfl (by kernel_rfl) Try.func3 (by kernel_rfl)
    (of_decide_eq_true (by kernel_rfl)) (by unfold Func.isWrapper; first | (rw [if_pos (by decide +kernel)]; kernel_rfl) | (rw [if_neg (by decide +kernel)]; exact ⟨rfl, rfl⟩))
    (fun os started H enc _ => globTells_lifted os started H enc)
end Go.Proofs.Ytilgejlgmnnckaa
