import Derived.Test.YtkcjhabbgaaknaaGreatRows
import Derived.Test.YtkcjhabbgaaknaaGreatST
import Derived.ProofKit
import Derived.ChangeArms
import Derived.Carry
/- SpaceScans: for every seed, every limits, every number of keys, every list of counts, every list of other keys the law returns true; the input reads as it did. No condition. -/
namespace Go.Proofs.YtkcjhabbgaaknaaGreat
open Go Go.ChangeShapes Go.WideShapes Go.ChangeAt Go.RowKit
open Go.ChangeMaps (open_string shut_string)
theorem Tryz.own : ownKnob Tryz.prog.godebug = none := by kernel_rfl
theorem Tryz.laidOut : laidOutB Tryz.prog = true := by kernel_rfl
theorem Tryz.cells3 : Tryz.prog.cellsOf 3 = 1 := by kernel_rfl
/-- New blocks alone: what was there is kept. -/
theorem kept_of_ext {w w' : World} (h : E.Ext w.heap w'.heap) (ho : E.outw w' = E.outw w) (may : MemPlace → Prop) : w.keptBut w' may := by
  unfold E.outw at ho
  injection ho with h1 h2
  refine ⟨h1, h2, fun i hi => ?_⟩
  rw [h.old i hi]
  cases hc : w.heap[i]? with
  | none => simp only
  | some x =>
    cases x with
    | cells c t fr => exact ⟨rfl, rfl, rfl, fun _ _ => rfl⟩
    | map es clock => exact .inr ⟨rfl, rfl⟩
    | _ => rfl
/-- A reading of what was there stays. -/
theorem trod_ext {H : Type} {enc : TypeId × Value → H} {P : Program} {t : TypeId} (hl : laidOutB P = true) (hr : P.readableRec t = true) (hrow : t < P.types.size) {W W' : World} {v : Value} {d : DataW H} {ps : List MemPlace}
    (h : DataW.Trod enc P W 0 (fun _ => true) true t v d ps) (hb : E.Ext W.heap W'.heap) (hlt : ∀ x ∈ ps, x.block < W.heap.size) :
    DataW.Trod enc P W' 0 (fun b => decide (b < W.heap.size)) true t v d ps :=
  WideElems.Trod_stays hl hr hrow h (fun x hx => by
    have := hb.old x.block (hlt x hx)
    cases x with
    | cell b o => exact World.cell?_of_block (w := W) this
    | map b => exact this) (fun x hx => by simpa using hlt x hx)
theorem ints_row {W : World} {a : Addr} {zs : List Int} {len : Nat} (hl : len ≤ zs.length) (hcell : ∀ i, i < zs.length → W.cell? (a.add i) = some (.int .i64 (zs.getD i 0))) :
    E.row W.heap (some a) (intsI (zs.take len)) := by
  by_cases h0 : len = 0
  · left; subst h0; rfl
  · obtain ⟨b, o, spot⟩ := a
    have hs : spot = none := by
      have := hcell 0 (by omega)
      cases spot with
      | none => rfl
      | some s =>
        unfold World.cell? at this
        simp [Addr.add] at this
        split at this <;> simp at this
    subst hs
    refine .inr ⟨b, o, rfl, fun j v hj => ?_⟩
    have hj2 : j < len := by
      have := (List.getElem?_eq_some_iff.1 hj).1
      simp [intsI] at this; omega
    have hc := hcell j (by omega)
    rw [E.addr_add, E.cell_get] at hc
    rw [hc]
    have hz : zs[j]? = some (zs.getD j 0) := by simp [List.getD, show j < zs.length by omega]
    have hv : (intsI (zs.take len))[j]? = some (.int .i64 (zs.getD j 0)) := by
      simp only [intsI, List.getElem?_map]
      rw [List.getElem?_take, if_pos hj2, hz]; rfl
    rw [hv] at hj
    injection hj with hj
    rw [← hj]
section
variable {H : Type} {enc : TypeId × Value → H} {W : World}
theorem atom_int {t : TypeId} {k : IntKind} (ht : Tryz.prog.underlying t = some (.int k)) {fuel : Nat} {cs : List Value} {x : DataW H × List MemPlace} (h : DataW.trod enc Tryz.prog W 0 (fun _ => true) true fuel t cs = some x) : ∃ n, cs = [.int k n] := by
  cases fuel with
  | zero => simp [DataW.trod] at h
  | succ n =>
    unfold DataW.trod at h
    rw [ht] at h
    split at h <;> simp_all
set_option maxRecDepth 100000 in
theorem limits_open {fuel : Nat} {cs : List Value} {x : DataW H × List MemPlace} (h : DataW.trod enc Tryz.prog W 0 (fun _ => true) true fuel 24 cs = some x) (hl : cs.length = 2) : ∃ a b, cs = [.int .i64 a, .int .i64 b] := by
  obtain ⟨xs, n, _, _, _, hlen, hf⟩ := DataW.trod_struct Tryz.underlying24 h
  match cs, hl, xs, hlen with
  | [c0, c1], _, [x0, x1], _ =>
    have h0 : DataW.trod enc Tryz.prog W 0 (fun _ => true) true n 3 (([c0, c1].drop 0).take (Tryz.prog.cellsOf 3)) = some x0 := hf 0 _ rfl
    have h1 : DataW.trod enc Tryz.prog W 0 (fun _ => true) true n 3 (([c0, c1].drop 1).take (Tryz.prog.cellsOf 3)) = some x1 := hf 1 _ rfl
    rw [Tryz.cells3] at h0 h1
    obtain ⟨a, ha⟩ := atom_int Tryz.underlying3 h0
    obtain ⟨b, hb⟩ := atom_int Tryz.underlying3 h1
    simp at ha hb
    exact ⟨a, b, by rw [ha, hb]⟩
set_option maxRecDepth 100000 in
theorem config_open {base : Nat} {v : Value} {d : DataW H} {ps : List MemPlace} (hv : Value.okWide Tryz.prog W .any base 26 v) (h : DataW.Trod enc Tryz.prog W 0 (fun _ => true) true 26 v d ps) :
    ∃ a b c, v = .agg #[.int .u64 a, .int .i64 b, .int .i64 c] := by
  obtain ⟨cs, rfl, hsz⟩ := okWide_struct Tryz.underlying26 hv
  obtain ⟨fuel, hf⟩ := h
  obtain ⟨xs, n, _, _, hl, hlen, hfs⟩ := DataW.trod_struct Tryz.underlying26 hf
  have e26 : Tryz.prog.cellsOf 26 = 3 := by kernel_rfl
  have e22 : Tryz.prog.cellsOf 22 = 1 := by kernel_rfl
  have e24 : Tryz.prog.cellsOf 24 = 2 := by kernel_rfl
  rw [e26] at hsz
  obtain ⟨l⟩ := cs
  match l, hsz, xs, hlen with
  | [c0, c1, c2], _, [x0, x1], _ =>
    have h0 : DataW.trod enc Tryz.prog W 0 (fun _ => true) true n 22 (([c0, c1, c2].drop 0).take (Tryz.prog.cellsOf 22)) = some x0 := hfs 0 _ rfl
    have h1 : DataW.trod enc Tryz.prog W 0 (fun _ => true) true n 24 (([c0, c1, c2].drop 1).take (Tryz.prog.cellsOf 24)) = some x1 := hfs 1 _ rfl
    rw [e22] at h0
    rw [e24] at h1
    obtain ⟨a, ha⟩ := atom_int Tryz.underlying22 h0
    obtain ⟨b, c, hbc⟩ := limits_open h1 rfl
    simp at ha hbc
    exact ⟨a, b, c, by rw [ha, hbc.1, hbc.2]⟩
end
theorem ints_of {H : Type} {enc : TypeId × Value → H} {W : World} {a0 : Option Addr} {len cap : Nat} {d : DataW H} {p : List MemPlace} (h : DataW.Trod enc Tryz.prog W 0 (fun _ => true) true 27 (.slice a0 len cap) d p) : ∃ l : List Int, l.length = len ∧ E.row W.heap a0 (intsI l) ∧ len ≤ 9223372036854775807 := by
  obtain ⟨fuel, hf⟩ := h
  rcases open_ints Tryz.underlying27 Tryz.underlying3 Tryz.cells3 hf with ⟨hcs, hx⟩ | ⟨a, len', cap', zs, hcs, _, hl, hm, hz, hx, hcell, hwz⟩
  · simp [Value.cells] at hcs
    obtain ⟨rfl, rfl, rfl⟩ := hcs
    exact ⟨[], rfl, .inl rfl, by omega⟩
  · simp [Value.cells] at hcs
    obtain ⟨rfl, rfl, rfl⟩ := hcs
    simp only [if_true] at hz
    exact ⟨zs.take len, by simp; omega, ints_row (by omega : len ≤ zs.length) hcell, by simp only [maxLen] at hm; omega⟩
set_option maxRecDepth 100000 in
theorem spaceScans_lifted (os : Os) (started : os.Started) (H : Type) (enc : TypeId × Value → H) :
    ReturnsInHanded {} Tryz.checked os 4 .any (Rows.spaceScansSpec.pre6 enc Tryz.prog Tryz.f4 Rows.spaceScansRow.domain false) (Rows.spaceScansSpec.post enc Tryz.prog Tryz.f4 false true false false) := by
  refine returnsInHanded_of_change (C := Tryz.checked) Tryz.own started (by kernel_rfl) Tryz.func4
    (ChangeSpec.witness6 (enc := enc) (C := Tryz.checked) false ⟨#[], #[.agg #[.int .u64 0, .int .i64 0, .int .i64 0], .int .i64 0, .slice none 0 0, .slice none 0 0], []⟩ 8 (by kernel_rfl) (by kernel_rfl) (by kernel_rfl) (by kernel_rfl)) ?_
  intro W base args ds gs before hval0 hW hcnd _
  have hval : ∀ (j : Nat) t v, Tryz.f4.params[j]? = some t → args[j]? = some v → Value.okWide Tryz.prog W .any base t v := hval0
  have hW' := hW
  obtain ⟨p, q, hA0, hV, rfl, hfz, hnd⟩ := hW
  have hA : DataW.TrodAll enc Tryz.prog W 0 (fun _ => true) true Tryz.f4.params.toList args.toList ds p := hA0
  rw [Tryz.params4] at hA hval
  obtain ⟨v0, v1, v2, v3, d0, d1, d2, d3, p0, p1, p2, p3, rfl, rfl, rfl, h0, h1, h2, h3⟩ := trodAll_four hA
  obtain ⟨rfl, rfl⟩ := trodVars_none hV
  obtain ⟨sa, la, lb, rfl⟩ := config_open (hval 0 26 v0 rfl rfl) h0
  obtain ⟨n, rfl, rfl, rfl, wn⟩ := open_int Tryz.underlying3 (hval 1 3 v1 rfl rfl) h1
  obtain ⟨a0, len, cap, rfl⟩ := okWide_slice Tryz.underlying27 (hval 2 27 v2 rfl rfl)
  obtain ⟨b0, olen, ocap, rfl⟩ := okWide_slice Tryz.underlying27 (hval 3 27 v3 rfl rfl)
  clear hA0 hval0
  simp only [List.append_nil] at hW'
  have hlt : ∀ x ∈ p0 ++ p2 ++ p3, x.block < W.heap.size := fun x hx => by simpa using hW'.lt x hx
  obtain ⟨l, rfl, hrw, hln⟩ := ints_of h2
  obtain ⟨o, rfl, hro, hlo⟩ := ints_of h3
  have hc := SpaceScans_any sa la lb n l o a0 b0 cap ocap W hrw hro hln hlo
  refine hc.mono fun e W' ⟨he, hx, ho⟩ => ?_
  subst he
  exact ⟨_, rfl, _, _, _, [], _, [], hW', trodAll_mk1 (shut_bool Tryz.underlying4 _),
    trodAll_mk4 (trod_ext Tryz.laidOut (by kernel_rfl) (of_decide_eq_true (by kernel_rfl)) h0 hx (fun x hx => hlt x (List.mem_append_left _ (List.mem_append_left _ hx)))) (shut_int Tryz.underlying3 wn)
      (trod_ext Tryz.laidOut (by kernel_rfl) (of_decide_eq_true (by kernel_rfl)) h2 hx (fun x hx => hlt x (List.mem_append_left _ (List.mem_append_right _ hx)))) (trod_ext Tryz.laidOut (by kernel_rfl) (of_decide_eq_true (by kernel_rfl)) h3 hx (fun x hx => hlt x (List.mem_append_right _ hx))), rfl, kept_of_ext hx ho _, fun h => by cases h⟩
theorem spaceScans_holds : Rows.SpaceScansSaid :=
  OpenClaim.holds_of_wide 4 Tryz.f4 rfl rfl rfl rfl rfl rfl rfl ⟨rfl, rfl, rfl, rfl, rfl⟩ rfl rfl rfl rfl rfl (by kernel_rfl) Tryz.func4 (by kernel_rfl)
    (of_decide_eq_true (by kernel_rfl)) (by unfold Func.isWrapper; first | (rw [if_pos (by decide +kernel)]; kernel_rfl) | (rw [if_neg (by decide +kernel)]; exact ⟨rfl, rfl⟩))
    (fun os started H enc _ => spaceScans_lifted os started H enc)
#print axioms spaceScans_holds
end Go.Proofs.YtkcjhabbgaaknaaGreat
