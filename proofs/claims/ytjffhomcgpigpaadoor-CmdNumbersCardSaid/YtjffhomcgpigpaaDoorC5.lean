import Derived.Test.YtjffhomcgpigpaaDoorC4
/- The law CmdNumbers: it answers true. -/
namespace Go.Proofs.YtjffhomcgpigpaaDoor
open E
set_option maxRecDepth 100000
set_option maxHeartbeats 1000000 in
theorem CmdNumbers_any (w : World) (hg : get w.heap 0 0 = some et) :
    Calls Tryd.prog 5 #[] w (RetX (.bool true) w.heap (outw w)) := by
  refine begins (k5 o5) [] [] { h := fun _ => w.heap, o := outw w } 1 1000 rfl rfl rfl trivial (by simp) ?_
  conv => arg 7; reduce
  simp only [VC.den, BE.prop, IE.den, NE.den, SV.den, HE.den, PE.den, BE.den, WS.den, List.map_cons, List.map_nil, Int.cast_ofNat_Int, reduceIte, Nat.reduceEqDiff, Env.setE, Env.setH, Env.setN, Env.setP]
  intro w1 hw1 ho1
  refine (All_any w1).mono ?_
  rintro e1 v1 ⟨p, cap, rfl, hr1, hx1, hp1⟩
  rw [hw1] at hx1
  refine ⟨hp1.trans ho1, hx1, p, _, cap, rfl, ?_⟩
  intro w2 hw2 ho2
  refine (Names_any w2).mono ?_
  rintro e2 v2 ⟨q, qc, rfl, hr2, hx2, hp2⟩
  rw [hw2] at hx2
  refine ⟨hp2.trans ho2, hx2, q, _, qc, rfl, ?_⟩
  have nl := names_len
  have nt := tbl_len
  refine ⟨fun h => absurd (by omega) h, fun _ _ => ?_⟩
  have hr1' : CdRow v2.heap p tbl := CdRow.ext hr1 hx2
  have hX0 : Ext w.heap v2.heap := hx1.trans hx2
  refine looping (k5 o5) [.slice (.v 0) (.v 0) (.v 1), .slice (.v 1) (.v 2) (.v 3), .int .i64 (.ofN (.v 4))] []
    (fun y : Nat × Heap => { n := fun j => if j = 0 then tbl.length else if j = 1 then cap else if j = 2 then names.length else if j = 3 then qc else y.1, p := fun j => if j = 0 then p else q, h := fun _ => y.2, o := outw w }) 5 1000
    (fun y => y.1 ≤ tbl.length ∧ Ext v2.heap y.2) (fun y => tbl.length - y.1) (0, v2.heap) ⟨Nat.zero_le _, Ext.refl _⟩ rfl (by simp [SV.den, PE.den, IE.den, NE.den]) rfl (fun _ => rfl) (fun _ _ => trivial) ?_
  rintro ⟨i, h⟩ ⟨hi, hx⟩ N hN
  simp only at hi hx
  simp only [SV.den, PE.den, NE.den, IE.den, List.map_cons, List.map_nil, reduceIte, Nat.reduceEqDiff] at hN
  conv => arg 7; reduce
  simp only [VC.den, BE.prop, IE.den, NE.den, SE.den, SV.den, HE.den, PE.den, BE.den, WS.den, List.map_cons, List.map_nil, Int.cast_ofNat_Int, reduceIte, Nat.reduceEqDiff, Env.setE, Env.setH, Env.setB, Env.setS, Env.setI, Env.setN]
  refine ⟨fun h1 => ?_, fun h1 => ?_⟩
  · have hlt : i < tbl.length := by omega
    have hlt' : i < names.length := by omega
    obtain ⟨b, o, rfl, g0, g1, g2, g3, g4⟩ := (CdRow.ext hr1' hx).at hlt
    obtain ⟨b2, o2, rfl, k0⟩ := ((StrRow.ext hr2 hx)).at hlt'
    have hnm : names[i]'hlt' = (tbl[i]'hlt).name := by simp [names]
    have hgood := List.all_eq_true.1 good_all _ (List.getElem_mem hlt)
    unfold goodC at hgood
    simp only [Bool.and_eq_true, decide_eq_true_eq] at hgood
    have hlk := hgood.1.1.1.1
    have hlen : tbl[i].name.length ≤ 100 := (tbl_nice _ (List.getElem_mem hlt)).2.1
    refine ⟨b, o, rfl, h1, _, g0, ?_⟩
    intro w3 hw3 ho3
    refine (Lookup_any _ w3 (by omega)).mono ?_
    rintro e3 v3 ⟨rfl, hx3, hp3⟩
    rw [hw3] at hx3
    rw [hlk]
    refine ⟨hp3.trans ho3, hx3, _, _, _, _, _, _, rfl, b2, o2, rfl, by omega, ?_⟩
    have hXb := box_ext v3.heap tbl[i]
    unfold boxed at hXb
    generalize setc (setc (setc (setc (setc (v3.heap.push (.cells #[.string (bs (bytesOf [])), .int .i64 0, .int .i64 0, .bool false, .int .i64 0] 29)) v3.heap.size 0 (.string (bs tbl[i].name))) v3.heap.size 1 (.int .i64 tbl[i].least)) v3.heap.size 2 (.int .i64 tbl[i].most)) v3.heap.size 3 (.bool tbl[i].write)) v3.heap.size 4 (.int .i64 tbl[i].group) = hh at hXb ⊢
    have hX := hx3.trans hXb
    obtain ⟨_, _, e0, g0, g1, g2, g3, g4⟩ := ((CdRow.ext hr1' hx).ext hX).at hlt
    injection e0 with e0; injection e0 with e0 e1; subst e0 e1
    obtain ⟨_, _, e0, k0⟩ := (((StrRow.ext hr2 hx)).ext hX).at hlt'
    injection e0 with e0; injection e0 with e0 e1; subst e0 e1
    refine ⟨_, k0, h1, _, g0, fun h => absurd hnm h, fun _ => ⟨fun h => absurd rfl h, fun _ => ⟨h1, _, _, _, _, _, g0, g1, g2, g3, g4, ?_⟩⟩⟩
    intro w4 hw4 ho4
    refine (same_any tbl[i] tbl[i] w4).mono ?_
    rintro e4 v4 ⟨rfl, hx4, hp4⟩
    rw [hw4] at hx4
    have hX4 := hx.trans (hX.trans hx4)
    obtain ⟨_, _, e0, g0, _⟩ := (CdRow.ext hr1' hX4).at hlt
    injection e0 with e0; injection e0 with e0 e1; subst e0 e1
    refine ⟨hp4.trans ho4, hx4, _, rfl, fun h => absurd (by simp) h, fun _ => ⟨h1, _, g0, fun hc _ => ?_⟩⟩
    refine looping (k5 o5) [.slice (.v 0) (.v 0) (.v 1), .slice (.v 1) (.v 2) (.v 3), .int .i64 (.ofN (.v 4)), .slice (.v 2) (.v 5) (.v 6), .int .i64 (.ofN (.v 7))] []
      (fun y : List (List UInt8) × Option Addr × Nat × Heap => { n := fun j => if j = 0 then tbl.length else if j = 1 then cap else if j = 2 then names.length else if j = 3 then qc else if j = 4 then i else if j = 5 then y.1.length else if j = 6 then y.2.2.1 else y.1.length - 1, p := fun j => if j = 0 then some ⟨b, o, none⟩ else if j = 1 then some ⟨b2, o2, none⟩ else y.2.1, h := fun _ => y.2.2.2, o := outw w }) 8 1000
      (fun y => 1 ≤ y.1.length ∧ y.1.length ≤ 13 ∧ (∀ s ∈ y.1, s.length ≤ 100) ∧ Ext v4.heap y.2.2.2 ∧ Own y.2.2.2 v4.heap.size y.2.1 y.2.2.1 1 (strs y.1)) (fun y => 13 - y.1.length) ([tbl[i].name], some ⟨v4.heap.size, 0, none⟩, 1, v4.heap.push (.cells #[.string (bs tbl[i].name)] 9))
      ⟨by simp, by simp, by simpa using hlen, ext_push _ _, .inr ⟨v4.heap.size, [], rfl, Nat.le_refl _, by show CellsAt _ _ 0 [.string (bs tbl[i].name)]; exact hc, by simp [strs]⟩⟩ rfl (by simp [SV.den, PE.den, IE.den, NE.den]) rfl (fun _ => rfl) (fun _ _ => trivial) ?_
    rintro ⟨y, p, cp, h⟩ ⟨hy1, hy2, hys, hxy, hown⟩ N1 hN1
    simp only at hy1 hy2 hys hxy hown
    simp only [SV.den, PE.den, NE.den, IE.den, List.map_cons, List.map_nil, reduceIte, Nat.reduceEqDiff] at hN1
    conv => arg 7; reduce
    simp only [VC.den, BE.prop, IE.den, NE.den, SE.den, SV.den, HE.den, PE.den, BE.den, WS.den, WI.den, List.map_cons, List.map_nil, Int.cast_ofNat_Int, reduceIte, Nat.reduceEqDiff, Env.setE, Env.setH, Env.setB, Env.setN, Env.setP, inK_i64]
    have hxh := hX4.trans hxy
    refine ⟨fun h1 => ?_, fun h1 => ⟨by omega, fun _ => ?_⟩⟩
    · intro w5 hw5 ho5
      refine (checks_any y p cp w5 (by rw [hw5]; exact get_ext (hX0.trans hxh) hg) (by rw [hw5]; exact hown.row) (by omega) (fun t ht => by have := hys t ht; omega)).mono ?_
      rintro e5 v5 ⟨rfl, hx5, hp5⟩
      rw [hw5] at hx5
      have hown1 := (hown.ext hx5).ext (ext_push v5.heap (.cells #[.string (bs (bytesOf [97]))] 9))
      have hxy1 := (hxy.trans hx5).trans (ext_push v5.heap (.cells #[.string (bs (bytesOf [97]))] 9))
      refine ⟨hp5.trans ho5, hx5, _, rfl, fun h => absurd rfl h, fun _ => ⟨(hown.ext hx5).ne (Nat.le_refl _), strs y, hown1.app (by simp [strs_length]) (by omega) (by omega), fun h' p' c' ha => ⟨by omega, fun _ => ?_⟩⟩⟩
      have o1 := hown1.next (by simp [strs_length]) (by simp) hxy1.le ha
      have x1 := hown1.keep (Nat.le_refl _) hxy1 ha
      rw [← strs_snoc] at o1
      have := hN1 (y ++ [bytesOf [97]], p', c', h') ⟨by simp only [List.length_append, List.length_cons, List.length_nil]; omega, by simp only [List.length_append, List.length_cons, List.length_nil]; omega, ?_, x1, o1⟩ (by simp only [List.length_append, List.length_cons, List.length_nil]; omega)
      · simp only [List.length_append, List.length_cons, List.length_nil, Nat.zero_add, Nat.add_sub_cancel] at this
        rw [show ((y.length - 1 : Nat) : Int) + 1 = (y.length : Int) by omega]
        exact this
      · intro s hs'
        rcases List.mem_append.1 hs' with h | h
        · exact hys s h
        · rw [List.mem_singleton.1 h]; decide
    · have := hN (i + 1, h) ⟨hlt, hxh⟩ (by simp only; omega)
      simp only [Int.natCast_add, Int.cast_ofNat_Int] at this
      exact this
  · exact fun _ => CmdNumbers_tail w hg h (hX0.trans hx)
end Go.Proofs.YtjffhomcgpigpaaDoor
