import Derived.Test.YtjffhomcgpigpaaDoorD0
import Derived.Test.YtjffhomcgpigpaaDoorC1
import Derived.ChangeArms
import Derived.SliceStrings
/- Arguments, read: a command as it is drawn; texts; bools. -/
namespace Go.Proofs.YtjffhomcgpigpaaDoor
open Go Go.ChangeShapes Go.WideShapes Go.RowKit
open Go.ChangeMaps (open_string shut_string)
set_option maxRecDepth 100000
section
variable {H : Type} {enc : TypeId × Value → H} {W : World}
theorem Tryd.laidOut : laidOutB Tryd.prog = true := by kernel_rfl
theorem trod_ext {P : Program} {t : TypeId} (hl : laidOutB P = true) (hr : P.readableRec t = true) (hrow : t < P.types.size) {W W' : World} {v : Value} {d : DataW H} {ps : List MemPlace}
    (h : DataW.Trod enc P W 0 (fun _ => true) true t v d ps) (hb : E.Ext W.heap W'.heap) (hlt : ∀ x ∈ ps, x.block < W.heap.size) :
    DataW.Trod enc P W' 0 (fun b => decide (b < W.heap.size)) true t v d ps :=
  WideElems.Trod_stays hl hr hrow h (fun x hx => by
    have := hb.old x.block (hlt x hx)
    cases x with
    | cell b o => exact World.cell?_of_block (w := W) this
    | map b => exact this) (fun x hx => by simpa using hlt x hx)
theorem spot_none {a : Addr} {v : Value} (h : W.cell? a = some v) : a.spot = none := by
  obtain ⟨b, o, spot⟩ := a
  cases spot with
  | none => rfl
  | some s =>
    unfold World.cell? at h
    simp at h
    split at h <;> simp at h
theorem atom_int {t : TypeId} {k : IntKind} (ht : Tryd.prog.underlying t = some (.int k)) {fuel : Nat} {cs : List Value} {x : DataW H × List MemPlace} (h : DataW.trod enc Tryd.prog W 0 (fun _ => true) true fuel t cs = some x) : ∃ n, cs = [.int k n] ∧ (Lit.int k n).wf = true := by
  cases fuel with
  | zero => simp [DataW.trod] at h
  | succ n =>
    unfold DataW.trod at h
    rw [ht] at h
    split at h <;> simp_all
theorem atom_bool {t : TypeId} (ht : Tryd.prog.underlying t = some .bool) {fuel : Nat} {cs : List Value} {x : DataW H × List MemPlace} (h : DataW.trod enc Tryd.prog W 0 (fun _ => true) true fuel t cs = some x) : ∃ b, cs = [.bool b] := by
  cases fuel with
  | zero => simp [DataW.trod] at h
  | succ n =>
    unfold DataW.trod at h
    rw [ht] at h
    split at h <;> simp_all
theorem atom_string {t : TypeId} (ht : Tryd.prog.underlying t = some .string) {fuel : Nat} {cs : List Value} {x : DataW H × List MemPlace} (h : DataW.trod enc Tryd.prog W 0 (fun _ => true) true fuel t cs = some x) : ∃ s, cs = [.string s] := by
  cases fuel with
  | zero => simp [DataW.trod] at h
  | succ n =>
    unfold DataW.trod at h
    rw [ht] at h
    split at h <;> simp_all
theorem word_open {fuel : Nat} {cs : List Value} {x : DataW H × List MemPlace} (h : DataW.trod enc Tryd.prog W 0 (fun _ => true) true fuel 58 cs = some x) : ∃ n s, cs = [.int .i64 n, .string (E.bs s)] := by
  obtain ⟨xs, n, _, _, hl, hlen, hf⟩ := DataW.trod_struct Tryd.underlying58 h
  have e58 : Tryd.prog.cellsOf 58 = 2 := by kernel_rfl
  have e3 : Tryd.prog.cellsOf 3 = 1 := by kernel_rfl
  have e9 : Tryd.prog.cellsOf 9 = 1 := by kernel_rfl
  rw [e58] at hl
  match cs, hl, xs, hlen with
  | [c0, c1], _, [x0, x1], _ =>
    have h0 : DataW.trod enc Tryd.prog W 0 (fun _ => true) true n 3 (([c0, c1].drop 0).take (Tryd.prog.cellsOf 3)) = some x0 := hf 0 _ rfl
    have h1 : DataW.trod enc Tryd.prog W 0 (fun _ => true) true n 9 (([c0, c1].drop 1).take (Tryd.prog.cellsOf 9)) = some x1 := hf 1 _ rfl
    rw [e3] at h0
    rw [e9] at h1
    obtain ⟨a, ha, _⟩ := atom_int Tryd.underlying3 h0
    obtain ⟨s, hs⟩ := atom_string Tryd.underlying9 h1
    simp at ha hs
    exact ⟨a, s.data.toList, by rw [ha, hs]; rfl⟩
theorem words_open {fuel : Nat} {cs : List Value} {x : DataW H × List MemPlace} (h : DataW.trod enc Tryd.prog W 0 (fun _ => true) true fuel 22 cs = some x) :
    ∃ (la : List (Int × List UInt8)) (q : Option Addr) (qc : Nat), cs = [.slice q la.length qc] ∧ E.row W.heap q (flatW la) ∧ la.length ≤ 9223372036854775807 := by
  have e58 : Tryd.prog.cellsOf 58 = 2 := by kernel_rfl
  rcases DataW.trod_slice Tryd.underlying22 h with ⟨rfl, _⟩ | ⟨a, len, cap, elems, rest, n, _, rfl, _, _, hl, hm, hlen, hel, _, _⟩
  · exact ⟨[], none, 0, rfl, .inl rfl, by simp⟩
  · rw [e58] at hel
    have each : ∀ i, i < len → ∃ (k : Int) (s : List UInt8), W.cell? (a.add (i * 2)) = some (.int .i64 k) ∧ W.cell? ((a.add (i * 2)).add 1) = some (.string (E.bs s)) := by
      intro i hi
      have h1 := hel i hi
      rw [List.getElem?_eq_getElem (by omega)] at h1
      obtain ⟨c, hc, ht⟩ := Option.bind_eq_some_iff.1 h1
      obtain ⟨k, s, rfl⟩ := word_open ht
      refine ⟨k, s, ?_⟩
      unfold World.cells? at hc
      rw [if_pos (Nat.zero_le _)] at hc
      have e : List.range 2 = [0, 1] := rfl
      rw [e] at hc
      simp only [List.mapM_cons, List.mapM_nil, Option.bind_eq_bind, Option.bind_eq_some_iff, Option.pure_def, Option.some.injEq] at hc
      obtain ⟨c0, h0, _, ⟨c1, h2, _, rfl, rfl⟩, hcs⟩ := hc
      injection hcs with e0 hcs
      injection hcs with e1 _
      subst e0 e1
      exact ⟨h0, h2⟩
    by_cases h0 : len = 0
    · exact ⟨[], some a, cap, by rw [h0]; rfl, .inl rfl, by simp⟩
    obtain ⟨b, o, spot⟩ := a
    have hs : spot = none := by
      obtain ⟨_, _, hc, _⟩ := each 0 (by omega)
      cases spot with
      | none => rfl
      | some s =>
        unfold World.cell? at hc
        simp [Addr.add] at hc
        split at hc <;> simp at hc
    subst hs
    have build : ∀ m, m ≤ len → ∃ la : List (Int × List UInt8), la.length = m ∧ ∀ j v, (flatW la)[j]? = some v → E.get W.heap b (o + j) = some v := by
      intro m
      induction m with
      | zero => exact fun _ => ⟨[], rfl, by simp [flatW]⟩
      | succ m ih =>
        intro hm'
        obtain ⟨la, hla, hrow⟩ := ih (by omega)
        obtain ⟨k, s, c0, c1⟩ := each m (by omega)
        rw [E.addr_add, E.cell_get] at c0
        rw [E.addr_add, E.addr_add, E.cell_get] at c1
        refine ⟨la ++ [(k, s)], by simp [hla], fun j v hj => ?_⟩
        have e : flatW (la ++ [(k, s)]) = flatW la ++ [.int .i64 k, .string (E.bs s)] := by simp [flatW]
        rw [e] at hj
        by_cases hjl : j < (flatW la).length
        · rw [List.getElem?_append_left hjl] at hj; exact hrow j v hj
        · rw [List.getElem?_append_right (by omega)] at hj
          rw [flatW_length, hla] at hj hjl
          obtain hj1 | hj1 | hj1 : j - 2 * m = 0 ∨ j - 2 * m = 1 ∨ 2 ≤ j - 2 * m := by omega
          · rw [hj1] at hj; injection hj with hj; subst hj
            rw [show o + j = o + m * 2 + 0 by omega]; exact c0
          · rw [hj1] at hj; injection hj with hj; subst hj
            rw [show o + j = o + m * 2 + 1 by omega]; exact c1
          · rw [List.getElem?_eq_none (by simpa using hj1)] at hj; cases hj
    obtain ⟨la, hla, hrow⟩ := build len (Nat.le_refl _)
    exact ⟨la, some ⟨b, o, none⟩, cap, by rw [hla], .inr ⟨b, o, rfl, hrow⟩, by rw [hla]; simp only [maxLen] at hm; omega⟩
theorem ask_open {base : Nat} {v : Value} {d : DataW H} {ps : List MemPlace} (hv : Value.okWide Tryd.prog W .any base 24 v) (h : DataW.Trod enc Tryd.prog W 0 (fun _ => true) true 24 v d ps) :
    ∃ (n : Int) (la : List (Int × List UInt8)) (fits upper : Bool) (q : Option Addr) (qc : Nat), v = .agg #[.int .i64 n, .slice q la.length qc, .bool fits, .bool upper] ∧ E.row W.heap q (flatW la) ∧ la.length ≤ 9223372036854775807 := by
  obtain ⟨cs, rfl, hsz⟩ := okWide_struct Tryd.underlying24 hv
  obtain ⟨fuel, hf⟩ := h
  obtain ⟨xs, n, _, _, hl, hlen, hfs⟩ := DataW.trod_struct Tryd.underlying24 hf
  have e24 : Tryd.prog.cellsOf 24 = 4 := by kernel_rfl
  have e3 : Tryd.prog.cellsOf 3 = 1 := by kernel_rfl
  have e22 : Tryd.prog.cellsOf 22 = 1 := by kernel_rfl
  have e4 : Tryd.prog.cellsOf 4 = 1 := by kernel_rfl
  rw [e24] at hsz
  obtain ⟨l⟩ := cs
  match l, hsz, xs, hlen with
  | [c0, c1, c2, c3], _, [x0, x1, x2, x3], _ =>
    have h0 : DataW.trod enc Tryd.prog W 0 (fun _ => true) true n 3 (([c0, c1, c2, c3].drop 0).take (Tryd.prog.cellsOf 3)) = some x0 := hfs 0 _ rfl
    have h1 : DataW.trod enc Tryd.prog W 0 (fun _ => true) true n 22 (([c0, c1, c2, c3].drop 1).take (Tryd.prog.cellsOf 22)) = some x1 := hfs 1 _ rfl
    have h2 : DataW.trod enc Tryd.prog W 0 (fun _ => true) true n 4 (([c0, c1, c2, c3].drop 2).take (Tryd.prog.cellsOf 4)) = some x2 := hfs 2 _ rfl
    have h3 : DataW.trod enc Tryd.prog W 0 (fun _ => true) true n 4 (([c0, c1, c2, c3].drop 3).take (Tryd.prog.cellsOf 4)) = some x3 := hfs 3 _ rfl
    rw [e3] at h0
    rw [e22] at h1
    rw [e4] at h2 h3
    obtain ⟨a, ha, _⟩ := atom_int Tryd.underlying3 h0
    obtain ⟨la, q, qc, hq, hr, hln⟩ := words_open h1
    obtain ⟨b1, hb1⟩ := atom_bool Tryd.underlying4 h2
    obtain ⟨b2, hb2⟩ := atom_bool Tryd.underlying4 h3
    simp at ha hq hb1 hb2
    subst ha hq hb1 hb2
    exact ⟨a, la, b1, b2, q, qc, rfl, hr, hln⟩
theorem texts_open {base : Nat} {v : Value} {d : DataW H} {ps : List MemPlace} (hv : Value.okWide Tryd.prog W .any base 25 v) (h : DataW.Trod enc Tryd.prog W 0 (fun _ => true) true 25 v d ps) :
    ∃ (l : List (List UInt8)) (q : Option Addr) (qc : Nat), v = .slice q l.length qc ∧ StrRow W.heap q l ∧ l.length ≤ 9223372036854775807 := by
  obtain ⟨a0, len, cap, rfl⟩ := okWide_slice Tryd.underlying25 hv
  obtain ⟨fuel, hf⟩ := h
  have e9 : Tryd.prog.cellsOf 9 = 1 := by kernel_rfl
  rcases open_strings Tryd.underlying25 Tryd.underlying9 e9 hf with ⟨hcs, hx⟩ | ⟨a, len', cap', ss, hcs, _, hl, hm, hz, hx, hcell, hwz⟩
  · simp [Value.cells] at hcs
    obtain ⟨rfl, rfl, rfl⟩ := hcs
    exact ⟨[], none, 0, rfl, .inl rfl, by simp⟩
  · simp [Value.cells] at hcs
    obtain ⟨rfl, rfl, rfl⟩ := hcs
    simp only [if_true] at hz
    have hlen : ((ss.take len).map fun s => s.data.toList).length = len := by simp; omega
    refine ⟨(ss.take len).map fun s => s.data.toList, some a, cap, by rw [hlen], ?_, by rw [hlen]; simp only [maxLen] at hm; omega⟩
    by_cases h0 : len = 0
    · left; subst h0; rfl
    obtain ⟨b, o, spot⟩ := a
    have hs : spot = none := by
      have hc := hcell 0 (by omega)
      cases spot with
      | none => rfl
      | some s =>
        unfold World.cell? at hc
        simp [Addr.add] at hc
        split at hc <;> simp at hc
    subst hs
    refine .inr ⟨b, o, rfl, fun j v hj => ?_⟩
    have hj2 : j < len := by
      have := (List.getElem?_eq_some_iff.1 hj).1
      simp [strs] at this; omega
    have hc := hcell j (by omega)
    rw [E.addr_add, E.cell_get] at hc
    rw [hc]
    have hz2 : ss[j]? = some (ss.getD j ByteArray.empty) := by simp [List.getD, show j < ss.length by omega]
    have hv2 : (strs ((ss.take len).map fun s => s.data.toList))[j]? = some (.string (ss.getD j ByteArray.empty)) := by
      simp only [strs, List.map_map, List.getElem?_map]
      rw [List.getElem?_take, if_pos hj2, hz2]; rfl
    rw [hv2] at hj
    injection hj with hj
    rw [← hj]
end
end Go.Proofs.YtjffhomcgpigpaaDoor
