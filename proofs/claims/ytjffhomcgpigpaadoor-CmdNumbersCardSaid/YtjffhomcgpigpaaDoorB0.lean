import Derived.Test.YtjffhomcgpigpaaDoorA9
/- Names. -/
namespace Go.Proofs.YtjffhomcgpigpaaDoor
open E
set_option maxRecDepth 100000
theorem ext_setc {h h1 : Heap} (hx : Ext h h1) {b : Nat} (hb : h.size ≤ b) (o : Nat) (v : Value) : Ext h (setc h1 b o v) := ((hx.frame (fun _ => False)).set (fun hl => by omega) o v).none
def boxed (h : Heap) (c : Cd) : Heap := setc (setc (setc (setc (setc (h.push (.cells #[.string (bs (bytesOf [])), .int .i64 0, .int .i64 0, .bool false, .int .i64 0] 29)) h.size 0 (.string (bs c.name))) h.size 1 (.int .i64 c.least)) h.size 2 (.int .i64 c.most)) h.size 3 (.bool c.write)) h.size 4 (.int .i64 c.group)
theorem box_ext (h : Heap) (c : Cd) : Ext h (boxed h c) := by
  have := Nat.le_refl h.size
  exact ext_setc (ext_setc (ext_setc (ext_setc (ext_setc (ext_push h _) this _ _) this _ _) this _ _) this _ _) this _ _
def names : List (List UInt8) := tbl.map Cd.name
theorem Names_any (w : World) : Calls Tryd.prog 20 #[] w fun e w' => ∃ p cap, e = .returned (.slice p names.length cap) ∧ StrRow w'.heap p names ∧ Ext w.heap w'.heap ∧ outw w' = outw w := by
  refine begins (k20 {}) [] [] { h := fun _ => w.heap, o := outw w } 1 1000 rfl rfl rfl trivial (by simp) ?_
  conv => arg 7; reduce
  simp only [VC.den, IE.den, NE.den, SV.den, HE.den, PE.den, WS.den, List.map_cons, List.map_nil, Int.cast_ofNat_Int, reduceIte, Nat.reduceEqDiff, Env.setE, Env.setH, Env.setN, Env.setP]
  intro w1 hw1 ho1
  refine (all_any _).mono ?_
  rintro e1 v1 ⟨q, qc, rfl, hr, hx1, hp1⟩
  rw [hw1] at hx1
  refine ⟨hp1.trans ho1, hx1, q, _, qc, rfl, fun hf => ?_⟩
  refine looping (k20 {}) [.slice (.v 0) (.v 0) (.v 1), .slice (.v 1) (.v 2) (.v 3), .int .i64 (.ofN (.v 2)), .int .i64 (.ofN (.v 4))] []
    (fun x : Nat × Option Addr × Nat × Heap => { n := fun j => if j = 0 then x.1 else if j = 1 then x.2.2.1 else if j = 2 then tbl.length else if j = 3 then qc else x.1, p := fun j => if j = 0 then x.2.1 else q, h := fun _ => x.2.2.2, o := outw w }) 5 1000
    (fun x => x.1 ≤ tbl.length ∧ Ext v1.heap x.2.2.2 ∧ Own x.2.2.2 v1.heap.size x.2.1 x.2.2.1 1 (strs (names.take x.1))) (fun x => tbl.length - x.1) (0, none, 0, v1.heap) ⟨Nat.zero_le _, Ext.refl _, Own.nil _ _ _⟩ rfl (by simp [SV.den, PE.den, IE.den, NE.den]) rfl (fun _ => rfl) (fun _ _ => trivial) ?_
  rintro ⟨i, p, cap, h⟩ ⟨hi, hx, hown⟩ N hN
  simp only at hi hx hown
  simp only [SV.den, PE.den, NE.den, IE.den, List.map_cons, List.map_nil, reduceIte, Nat.reduceEqDiff] at hN
  conv => arg 7; reduce
  simp only [VC.den, BE.prop, IE.den, NE.den, SE.den, SV.den, HE.den, PE.den, BE.den, WS.den, WI.den, List.map_cons, List.map_nil, Int.cast_ofNat_Int, reduceIte, Nat.reduceEqDiff, Env.setH, Env.setB, Env.setS, Env.setI, Env.setN, Env.setP, inK_i64]
  have nl : names.length = tbl.length := by simp [names]
  refine ⟨fun h1 => ?_, fun h1 => ?_⟩
  · have hlt : i < tbl.length := by omega
    obtain ⟨b, o, rfl, g0, g1, g2, g3, g4⟩ := (CdRow.ext (show CdRow v1.heap q tbl from hr) hx).at hlt
    refine ⟨b, o, rfl, h1, _, _, _, _, _, g0, g1, g2, g3, g4, ?_⟩
    have hX := box_ext h tbl[i]
    unfold boxed at hX
    generalize setc (setc (setc (setc (setc (h.push (.cells #[.string (bs (bytesOf [])), .int .i64 0, .int .i64 0, .bool false, .int .i64 0] 29)) h.size 0 (.string (bs tbl[i].name))) h.size 1 (.int .i64 tbl[i].least)) h.size 2 (.int .i64 tbl[i].most)) h.size 3 (.bool tbl[i].write)) h.size 4 (.int .i64 tbl[i].group) = hh at hX ⊢
    have hown1 := hown.ext (hX.trans (ext_push hh (.cells #[.string (bs tbl[i].name)] 9)))
    have hx1' := hx.trans (hX.trans (ext_push hh (.cells #[.string (bs tbl[i].name)] 9)))
    have hle : i ≤ names.length := by rw [nl]; exact hi
    have hsl : (strs (names.take i)).length = i * 1 := by rw [strs_length, List.length_take]; omega
    have hnm : names[i]'(by rw [nl]; exact hlt) = tbl[i].name := by simp [names]
    rw [tbl_len] at hlt
    refine ⟨hown.ne hX.le, hown.ne (Nat.le_refl _), strs (names.take i), hown1.app hsl (by omega) (by omega), fun h' p' c' ha => ⟨by omega, fun _ => ?_⟩⟩
    have o1 := hown1.next hsl (by simp) hx1'.le ha
    have x1 := hown1.keep (Nat.le_refl _) hx1' ha
    refine hN (i + 1, p', c', h') ⟨by simp only; rw [tbl_len]; omega, x1, ?_⟩ (by simp only; rw [tbl_len]; omega)
    simp only
    rw [List.take_succ_eq_append_getElem (by rw [nl, tbl_len]; exact hlt), strs_snoc, hnm]
    exact o1
  · intro _ w4 hw4 ho4
    have : i = names.length := by rw [nl]; omega
    subst this
    rw [List.take_length] at hown
    exact ⟨p, cap, rfl, by rw [hw4]; exact hown.row, by rw [hw4]; exact hx1.trans hx, ho4⟩
end Go.Proofs.YtjffhomcgpigpaaDoor
