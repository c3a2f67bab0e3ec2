import Derived.Test.YtilgejlgmnnckaaR1
import Derived.Test.YtilgejlgmnnckaaL5
namespace Go.Proofs.Ytilgejlgmnnckaa
open Go.ChangeShapes Go.WideShapes Go.ChangeAt Go.RowKit
open Go.ChangeMaps (open_string shut_string)
theorem Try.cells5 : Try.prog.cellsOf 5 = 1 := by kernel_rfl
theorem Try.laidOut : laidOutB Try.prog = true := by kernel_rfl
/-- A reading of what was there stays. -/
theorem trod_ext {H : Type} {enc : TypeId × Value → H} {P : Program} {t : TypeId} (hl : laidOutB P = true) (hr : P.readableRec t = true) (hrow : t < P.types.size) {W W' : World} {v : Value} {d : DataW H} {ps : List MemPlace}
    (h : DataW.Trod enc P W 0 (fun _ => true) true t v d ps) (hb : E.Ext W.heap W'.heap) (hlt : ∀ x ∈ ps, x.block < W.heap.size) :
    DataW.Trod enc P W' 0 (fun b => decide (b < W.heap.size)) true t v d ps :=
  WideElems.Trod_stays hl hr hrow h (fun x hx => by
    have := hb.old x.block (hlt x hx)
    cases x with
    | cell b o => exact World.cell?_of_block (w := W) this
    | map b => exact this) (fun x hx => by simpa using hlt x hx)
theorem bytes_row {W : World} {a : Addr} {zs : List Int} {len : Nat} (hl : len ≤ zs.length) (hcell : ∀ i, i < zs.length → W.cell? (a.add i) = some (.int .u8 (zs.getD i 0))) (hw : ∀ n ∈ zs, (Lit.int .u8 n).wf = true) :
    ∃ l : List UInt8, l.length = len ∧ E.row W.heap (some a) (E.u8s l) := by
  refine ⟨(zs.take len).map fun z => UInt8.ofNat z.toNat, by simp; omega, ?_⟩
  by_cases h0 : len = 0
  · left; subst h0; rfl
  · obtain ⟨b, o, spot⟩ := a
    have hs : spot = none := by
      have := hcell 0 (by omega)
      cases spot with
      | none => rfl
      | some s =>
        unfold World.cell? at this
        simp [Addr.add] at this
        split at this <;> simp at this
    subst hs
    refine .inr ⟨b, o, rfl, fun j v hj => ?_⟩
    have hj2 : j < len := by
      have := (List.getElem?_eq_some_iff.1 hj).1
      simp [E.u8s] at this; omega
    have hc := hcell j (by omega)
    rw [E.addr_add, E.cell_get] at hc
    rw [hc]
    have hz : zs[j]? = some (zs.getD j 0) := by simp [List.getD, show j < zs.length by omega]
    have hm : zs.getD j 0 ∈ zs := List.mem_of_getElem? hz
    have hb : (0 : Int) ≤ zs.getD j 0 ∧ zs.getD j 0 ≤ 255 := by
      have : (decide ((0 : Int) ≤ zs.getD j 0) && decide (zs.getD j 0 ≤ (255 : Int))) = true := hw _ hm
      simpa using this
    have hv : (E.u8s ((zs.take len).map fun z => UInt8.ofNat z.toNat))[j]? = some (.int .u8 ((UInt8.ofNat (zs.getD j 0).toNat).toNat : Int)) := by
      simp only [E.u8s, List.map_map, List.getElem?_map]
      rw [List.getElem?_take, if_pos hj2, hz]; rfl
    rw [hv] at hj
    injection hj with hj
    rw [← hj, UInt8.toNat_ofNat_of_lt' (by show (zs.getD j 0).toNat < 256; omega), Int.toNat_of_nonneg hb.1]

set_option maxRecDepth 100000 in
theorem globClasses_lifted (os : Os) (started : os.Started) (H : Type) (enc : TypeId × Value → H) :
    ReturnsInHanded {} Try.checked os 4 .any (Rows.globClassesSpec.pre6 enc Try.prog Try.f4 Rows.globClassesRow.domain false) (Rows.globClassesSpec.post enc Try.prog Try.f4 false true false false) := by
  refine returnsInHanded_of_change (C := Try.checked) Try.own started (by kernel_rfl) Try.func4
    (ChangeSpec.witness6 (enc := enc) (C := Try.checked) false ⟨#[], #[.slice none 0 0, .int .u8 0], []⟩ 8 (by kernel_rfl) (by kernel_rfl) (by kernel_rfl) (by kernel_rfl)) ?_
  intro W base args ds gs before hval0 hW hcnd _
  have hval : ∀ (j : Nat) t v, Try.f4.params[j]? = some t → args[j]? = some v → Value.okWide Try.prog W .any base t v := hval0
  have hW' := hW
  obtain ⟨p, q, hA0, hV, rfl, hfz, hnd⟩ := hW
  have hA : DataW.TrodAll enc Try.prog W 0 (fun _ => true) true Try.f4.params.toList args.toList ds p := hA0
  rw [Try.params4] at hA hval
  obtain ⟨v0, v1, d0, d1, p0, p1, rfl, rfl, rfl, h0, h1⟩ := trodAll_two hA
  obtain ⟨rfl, rfl⟩ := trodVars_none hV
  obtain ⟨c, rfl, rfl, rfl, wc⟩ := open_int Try.underlying5 (hval 1 5 v1 rfl rfl) h1
  obtain ⟨a0, len, cap, rfl⟩ := okWide_slice Try.underlying29 (hval 0 29 v0 rfl rfl)
  have h0k := h0
  obtain ⟨fuel, hf⟩ := h0
  clear hA0 hval0
  simp only [List.append_nil] at hW'
  have hlt : ∀ x ∈ p0, x.block < W.heap.size := fun x hx => by simpa using hW'.lt x hx
  have hc1 : (0 : Int) ≤ c ∧ c ≤ 255 := by
    have : (decide ((0 : Int) ≤ c) && decide (c ≤ (255 : Int))) = true := wc
    simpa using this
  have hce : ((UInt8.ofNat c.toNat).toNat : Int) = c := by
    rw [UInt8.toNat_ofNat_of_lt' (by show c.toNat < 256; omega)]; omega
  have hrow : ∃ l : List UInt8, l.length = len ∧ E.row W.heap a0 (E.u8s l) ∧ len ≤ 9223372036854775807 := by
    rcases open_ints Try.underlying29 Try.underlying5 Try.cells5 hf with ⟨hcs, hx⟩ | ⟨a, len', cap', zs, hcs, _, hl, hm, hz, hx, hcell, hwz⟩
    · simp [Value.cells] at hcs
      obtain ⟨rfl, rfl, rfl⟩ := hcs
      exact ⟨[], rfl, .inl rfl, by omega⟩
    · simp [Value.cells] at hcs
      obtain ⟨rfl, rfl, rfl⟩ := hcs
      simp only [if_true] at hz
      obtain ⟨l, h1, h2⟩ := bytes_row (by omega : len ≤ zs.length) hcell hwz
      exact ⟨l, h1, h2, by simp only [maxLen] at hm; omega⟩
  obtain ⟨l, rfl, hrw, hln⟩ := hrow
  have hc := Classes_any a0 l cap (UInt8.ofNat c.toNat) W hrw hln
  rw [hce] at hc
  refine hc.mono fun e W' ⟨he, hx, ho⟩ => ?_
  subst he
  exact ⟨_, rfl, _, _, _, [], _, [], hW', trodAll_mk1 (shut_bool Try.underlying4 _), trodAll_mk2 (trod_ext Try.laidOut (by kernel_rfl) (of_decide_eq_true (by kernel_rfl)) h0k hx hlt) (shut_int Try.underlying5 wc), rfl, kept_of_ext hx ho _, fun h => by cases h⟩

theorem globClasses_holds : Rows.GlobClassesSaid :=
  OpenClaim.holds_of_wide 4 Try.f4 rfl rfl rfl rfl rfl rfl rfl ⟨rfl, rfl, rfl, rfl, rfl⟩ rfl rfl rfl rfl rfl (by kernel_rfl) Try.func4 (by kernel_rfl)
    (of_decide_eq_true (by kernel_rfl)) (by unfold Func.isWrapper; first | (rw [if_pos (by decide +kernel)]; kernel_rfl) | (rw [if_neg (by decide +kernel)]; exact ⟨rfl, rfl⟩))
    (fun os started H enc _ => globClasses_lifted os started H enc)
end Go.Proofs.Ytilgejlgmnnckaa
