import Derived.Test.YtjffhomcgpigpaaDoorB9
import Derived.Test.YtjffhomcgpigpaaDoorC1
/- The law CmdNames: it answers true. -/
namespace Go.Proofs.YtjffhomcgpigpaaDoor
open E
set_option maxRecDepth 100000
def goodC (c : Cd) : Bool := decide (look c.name = (c, true)) && decide (1 ≤ c.least) && decide (c.least ≤ c.most) && decide (1 ≤ c.group) && decide (c.group ≤ 6)
theorem good_all : tbl.all goodC = true := by decide +kernel
def isAt (t : List UInt8) : List UInt8 → Bool := fun n => decide (n = t)
def rises : List (List UInt8) → Bool
  | a :: b :: r => bytesLt a b && rises (b :: r)
  | _ => true
theorem names_rise : rises names = true := by decide +kernel
theorem rises_at : ∀ (l : List (List UInt8)) (i : Nat) (h : i + 1 < l.length), rises l = true → bytesLt l[i] l[i + 1] = true
  | a :: b :: r, 0, _, hr => by
    rw [rises, Bool.and_eq_true] at hr; exact hr.1
  | a :: b :: r, i + 1, h, hr => by
    rw [rises, Bool.and_eq_true] at hr
    exact rises_at (b :: r) i (by simpa using h) hr.2
  | [], i, h, _ => by simp at h
  | [a], i, h, _ => by simp at h
theorem names_len : names.length = 81 := by unfold names; rw [List.length_map]; exact tbl_len
theorem look_is (s : List UInt8) : (look s).2 = names.any (isAt (lower s)) := by
  have e : names.any (isAt (lower s)) = tbl.any (nameIs (lower s)) := by unfold names; rw [List.any_map]; rfl
  rw [e]
  unfold look
  cases h : tbl.find? (nameIs (lower s)) with
  | none =>
    have := List.find?_eq_none.1 h
    symm; simp only; rw [List.any_eq_false]; exact this
  | some c =>
    symm; simp only; rw [List.any_eq_true]
    exact ⟨c, List.mem_of_find?_eq_some h, List.find?_some h⟩
theorem CmdNames_any (s : List UInt8) (w : World) (hg : get w.heap 0 0 = some et) (hs : s.length ≤ 9223372036854775807) :
    Calls Tryd.prog 6 #[.string (bs s)] w (RetX (.bool true) w.heap (outw w)) := by
  refine begins (k6 {}) [.str (.v 0)] [] { s := fun _ => s, h := fun _ => w.heap, o := outw w } 1 1000 rfl rfl rfl trivial (by simp [SV.den, SE.den]) ?_
  conv => arg 7; reduce
  simp only [VC.den, IE.den, NE.den, SE.den, SV.den, HE.den, PE.den, BE.den, WS.den, List.map_cons, List.map_nil, Int.cast_ofNat_Int, reduceIte, Nat.reduceEqDiff, Env.setE, Env.setH, Env.setN, Env.setP]
  intro w1 hw1 ho1
  refine (Names_any w1).mono ?_
  rintro e1 v1 ⟨p, cap, rfl, hr, hx1, hp1⟩
  rw [hw1] at hx1
  refine ⟨hp1.trans ho1, hx1, p, _, cap, rfl, fun hf => ?_⟩
  refine looping (k6 {}) [.str (.v 0), .slice (.v 0) (.v 0) (.v 1), .bool (.v 0), .int .i64 (.ofN (.v 2))] []
    (fun y : Nat × Heap => { s := fun _ => s, n := fun j => if j = 0 then names.length else if j = 1 then cap else y.1, p := fun _ => p, b := fun _ => (names.take y.1).any (isAt (lower s)), h := fun _ => y.2, o := outw w }) 4 1000
    (fun y => y.1 ≤ names.length ∧ Ext v1.heap y.2) (fun y => names.length - y.1) (0, v1.heap) ⟨Nat.zero_le _, Ext.refl _⟩ rfl (by simp [SV.den, PE.den, IE.den, NE.den, SE.den, BE.den]) rfl (fun _ => rfl) (fun _ _ => trivial) ?_
  rintro ⟨i, h⟩ ⟨hi, hx⟩ N hN
  simp only at hi hx
  simp only [SV.den, SE.den, PE.den, NE.den, IE.den, BE.den, List.map_cons, List.map_nil, reduceIte, Nat.reduceEqDiff] at hN
  conv => arg 7; reduce
  simp only [VC.den, BE.prop, IE.den, NE.den, SE.den, SV.den, HE.den, PE.den, BE.den, WS.den, List.map_cons, List.map_nil, Int.cast_ofNat_Int, reduceIte, Nat.reduceEqDiff, Env.setE, Env.setH, Env.setB, Env.setS, Env.setI, Env.setN, inK_i64]
  have nl := names_len
  have nt := tbl_len
  refine ⟨fun h1 => ?_, fun h1 => ?_⟩
  · have hlt : i < names.length := by omega
    have hlt' : i < tbl.length := by omega
    obtain ⟨b, o, rfl, g0⟩ := (StrRow.ext (show StrRow v1.heap p names from hr) hx).at hlt
    have hgood := List.all_eq_true.1 good_all _ (List.getElem_mem hlt')
    have hnm : names[i]'hlt = (tbl[i]'hlt').name := by simp [names]
    unfold goodC at hgood
    simp only [Bool.and_eq_true, decide_eq_true_eq] at hgood
    obtain ⟨⟨⟨⟨k0, k1⟩, k2⟩, k3⟩, k4⟩ := hgood
    have hlen : tbl[i].name.length ≤ 9223372036854775807 := by
      have := (tbl_nice _ (List.getElem_mem hlt')).2.1; omega
    rw [hnm] at g0
    refine ⟨b, o, rfl, h1, _, g0, ?_⟩
    intro w2 hw2 ho2
    refine (Lookup_any _ w2 hlen).mono ?_
    rintro e2 v2 ⟨rfl, hx2, hp2⟩
    rw [hw2] at hx2
    rw [k0]
    refine ⟨hp2.trans ho2, hx2, _, _, _, _, _, _, rfl, fun h => absurd rfl h, fun _ => ⟨h1, ?_⟩⟩
    have hXb := box_ext v2.heap tbl[i]
    unfold boxed at hXb
    generalize setc (setc (setc (setc (setc (v2.heap.push (.cells #[.string (bs (bytesOf [])), .int .i64 0, .int .i64 0, .bool false, .int .i64 0] 29)) v2.heap.size 0 (.string (bs tbl[i].name))) v2.heap.size 1 (.int .i64 tbl[i].least)) v2.heap.size 2 (.int .i64 tbl[i].most)) v2.heap.size 3 (.bool tbl[i].write)) v2.heap.size 4 (.int .i64 tbl[i].group) = hh at hXb ⊢
    have hrx := (StrRow.ext (show StrRow v1.heap _ names from hr) hx).ext (hx2.trans hXb)
    obtain ⟨_, _, e0, g1⟩ := hrx.at hlt
    injection e0 with e0; injection e0 with e0 e1; subst e0 e1
    have step : ∀ (h' : Heap) (b' : Bool), Ext h h' → b' = (names.take (i + 1)).any (isAt (lower s)) → N [.string (bs s), .slice (some ⟨b, o, none⟩) names.length cap, .bool b', .int .i64 ((i : Int) + 1)] h' (outw w) := by
      rintro h' b' hxh rfl
      have := hN (i + 1, h') ⟨hlt, hx.trans hxh⟩ (by simp only; omega)
      simp only [Int.natCast_add, Int.cast_ofNat_Int] at this
      exact this
    have any1 : (names.take (i + 1)).any (isAt (lower s)) = ((names.take i).any (isAt (lower s)) || isAt (lower s) tbl[i].name) := by
      rw [List.take_succ_eq_append_getElem hlt, List.any_append, hnm]; simp
    refine ⟨_, g1, fun h => absurd hnm.symm h, fun _ => ⟨fun h0 => ?_, fun h0 => ?_⟩⟩
    · obtain ⟨j, rfl⟩ : ∃ j, i = j + 1 := ⟨i - 1, by omega⟩
      obtain ⟨_, _, e0, g2⟩ := hrx.at (show j < names.length by omega)
      injection e0 with e0; injection e0 with e0 e1; subst e0 e1
      rw [show (((j + 1 : Nat) : Int) - 1).toNat = j by omega]
      refine ⟨by omega, by omega, by omega, _, g2, by omega, _, g1, ?_⟩
      have hrise := rises_at names j (by omega) names_rise
      refine ⟨fun h => absurd hrise h, fun _ => ?_⟩
      refine ⟨fun h => absurd h (by simp only; omega), fun _ => ⟨fun h => absurd h (by simp only; omega), fun _ => ⟨fun h => absurd h (by simp only; omega), fun _ => ⟨fun h => absurd h (by simp only; omega), fun _ => ?_⟩⟩⟩⟩
      refine ⟨fun hin => ⟨⟨by omega, fun _ => step hh true (hx2.trans hXb) (by rw [any1, hin]; rfl)⟩, trivial⟩, fun hin => ⟨by omega, _, g1, ?_⟩⟩
      intro w3 hw3 ho3
      refine (Lower_any s w3 hs).mono ?_
      rintro e3 v3 ⟨rfl, hx3, hp3⟩
      rw [hw3] at hx3
      refine ⟨hp3.trans ho3, hx3, _, rfl, by omega, fun _ => step v3.heap _ ((hx2.trans hXb).trans hx3) ?_⟩
      rw [any1, Bool.eq_false_iff.2 hin, Bool.false_or]
      unfold isAt; rw [hnm]
    · refine ⟨fun h => absurd h (by simp only; omega), fun _ => ⟨fun h => absurd h (by simp only; omega), fun _ => ⟨fun h => absurd h (by simp only; omega), fun _ => ⟨fun h => absurd h (by simp only; omega), fun _ => ?_⟩⟩⟩⟩
      refine ⟨fun hin => ⟨⟨by omega, fun _ => step hh true (hx2.trans hXb) (by rw [any1, hin]; rfl)⟩, trivial⟩, fun hin => ⟨by omega, _, g1, ?_⟩⟩
      intro w3 hw3 ho3
      refine (Lower_any s w3 hs).mono ?_
      rintro e3 v3 ⟨rfl, hx3, hp3⟩
      rw [hw3] at hx3
      refine ⟨hp3.trans ho3, hx3, _, rfl, by omega, fun _ => step v3.heap _ ((hx2.trans hXb).trans hx3) ?_⟩
      rw [any1, Bool.eq_false_iff.2 hin, Bool.false_or]
      unfold isAt; rw [hnm]
  · have hi81 : i = names.length := by omega
    rw [show names.take i = names from List.take_of_length_le (by omega)]
    intro w2 hw2 ho2
    refine (Lookup_any s w2 hs).mono ?_
    rintro e2 v2 ⟨rfl, hx2, hp2⟩
    rw [hw2] at hx2
    have hok : ((look s).2 = true ↔ names.any (isAt (lower s)) = true) ∧ (80 : Int) < (names.length : Int) := ⟨by rw [look_is], by omega⟩
    refine ⟨hp2.trans ho2, hx2, _, _, _, _, _, _, rfl, fun _ w3 hw3 ho3 => ?_, fun h => absurd hok h⟩
    have hXb := box_ext v2.heap (look s).1
    have hw3' : w3.heap = boxed v2.heap (look s).1 := hw3
    have hXX := (hx1.trans hx).trans (hx2.trans hXb)
    refine (known_any w3 (by rw [hw3']; exact get_ext hXX hg)).mono ?_
    rintro e3 v3 ⟨rfl, hx3, hp3⟩
    rw [hw3'] at hx3
    exact ⟨hp3.trans ho3, hx3, _, rfl, fun _ w4 hw4 ho4 => ⟨rfl, by rw [hw4]; exact hXX.trans hx3, ho4⟩⟩
end Go.Proofs.YtjffhomcgpigpaaDoor
