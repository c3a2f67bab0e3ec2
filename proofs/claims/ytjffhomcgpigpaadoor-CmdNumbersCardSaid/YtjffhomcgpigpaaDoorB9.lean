import Derived.Test.YtjffhomcgpigpaaDoorB8
/- known: three answers that everyone knows. -/
namespace Go.Proofs.YtjffhomcgpigpaaDoor
open E
set_option maxRecDepth 100000
def sGeT : List UInt8 := bytesOf [71, 101, 84]
def sset : List UInt8 := bytesOf [115, 101, 116]
def sa : List UInt8 := bytesOf [97]
def snosuch : List UInt8 := bytesOf [110, 111, 115, 117, 99, 104]
theorem look_GeT : look sGeT = (⟨bytesOf [103, 101, 116], 2, 2, false, 1⟩, true) := by decide +kernel
theorem verdict_set : (verdict [sset, sa]).2 = (bytesOf [115, 101, 116], 2) := by decide +kernel
theorem verdict_nosuch : (verdict [snosuch]).2 = (bytesOf [110, 111, 115, 117, 99, 104], 3) := by decide +kernel
theorem known_any (w : World) (hg : get w.heap 0 0 = some et) : Calls Tryd.prog 15 #[] w (RetX (.bool true) w.heap (outw w)) := by
  refine begins (k15 {}) [] [] { h := fun _ => w.heap, o := outw w } 1 1000 rfl rfl rfl trivial (by simp) ?_
  conv => arg 7; reduce
  simp only [VC.den, BE.prop, IE.den, NE.den, SE.den, SV.den, HE.den, PE.den, BE.den, WS.den, List.map_cons, List.map_nil, Int.cast_ofNat_Int, reduceIte, Nat.reduceEqDiff, Env.setE, Env.setH, Env.setB, Env.setS, Env.setI, Env.setN, Env.setF]
  intro w1 hw1 ho1
  refine (Lookup_any sGeT w1 (by decide)).mono ?_
  rintro e1 v1 ⟨rfl, hx1, hp1⟩
  rw [hw1] at hx1
  refine ⟨hp1.trans ho1, hx1, _, _, _, _, _, _, rfl, fun hc1 w2 hw2 ho2 => ?_⟩
  have hX1 := (box_ext v1.heap (look sGeT).1).trans (ext_push _ (.cells #[.string (bs sset), .string (bs sa)] 9))
  have hw2' : w2.heap = (boxed v1.heap (look sGeT).1).push (.cells #[.string (bs sset), .string (bs sa)] 9) := hw2
  have hr2 : StrRow w2.heap (some ⟨(boxed v1.heap (look sGeT).1).size, 0, none⟩) [sset, sa] := by rw [hw2]; exact hc1.row
  refine (Check_any [sset, sa] (some ⟨(boxed v1.heap (look sGeT).1).size, 0, none⟩) 2 w2 hr2 (by decide) (by decide)).mono ?_
  rintro e2 v2 ⟨va, rfl, hva, hx2, hp2⟩
  rw [hw2'] at hx2
  obtain ⟨fa, rfl, hva, hfa⟩ : ∃ f, va = ifcVal f ∧ IsFault v2.heap (ifcVal f) (verdict [sset, sa]).2.1 (verdict [sset, sa]).2.2 ∧ f ≠ none := by
    rcases hva with ⟨h, _⟩ | ⟨_, b, rfl, hc⟩
    · rw [verdict_set] at h; exact absurd h (by decide)
    · exact ⟨some (70, _), rfl, ⟨b, rfl, hc⟩, nofun⟩
  refine ⟨hp2.trans ho2, hx2, _, _, _, _, _, fa, rfl, fun hc2 w3 hw3 ho3 => ?_⟩
  have hX2 := (box_ext v2.heap (verdict [sset, sa]).1).trans (ext_push _ (.cells #[.string (bs snosuch)] 9))
  have hw3' : w3.heap = (boxed v2.heap (verdict [sset, sa]).1).push (.cells #[.string (bs snosuch)] 9) := hw3
  have hr3 : StrRow w3.heap (some ⟨(boxed v2.heap (verdict [sset, sa]).1).size, 0, none⟩) [snosuch] := by rw [hw3]; exact hc2.row
  refine (Check_any [snosuch] (some ⟨(boxed v2.heap (verdict [sset, sa]).1).size, 0, none⟩) 1 w3 hr3 (by decide) (by decide)).mono ?_
  rintro e3 v3 ⟨vb, rfl, hvb, hx3, hp3⟩
  rw [hw3'] at hx3
  obtain ⟨fb, rfl, hvb, hfb⟩ : ∃ f, vb = ifcVal f ∧ IsFault v3.heap (ifcVal f) (verdict [snosuch]).2.1 (verdict [snosuch]).2.2 ∧ f ≠ none := by
    rcases hvb with ⟨h, _⟩ | ⟨_, b, rfl, hc⟩
    · rw [verdict_nosuch] at h; exact absurd h (by decide)
    · exact ⟨some (70, _), rfl, ⟨b, rfl, hc⟩, nofun⟩
  refine ⟨hp3.trans ho3, hx3, _, _, _, _, _, fb, rfl, ?_⟩
  have hX3 := box_ext v3.heap (verdict [snosuch]).1
  have hg4 : get (boxed v3.heap (verdict [snosuch]).1) 0 0 = some et := get_ext (((hx1.trans hX1).trans hx2).trans (hX2.trans (hx3.trans hX3))) hg
  have ha4 := (hva.ext (hX2.trans (hx3.trans hX3)))
  have hb4 := hvb.ext hX3
  rw [look_GeT]
  rw [verdict_set] at ha4
  rw [verdict_nosuch] at hb4
  refine ⟨fun _ => ⟨fun _ w4 hw4 ho4 => ?_, fun h => absurd ⟨rfl, rfl, rfl, nofun, rfl⟩ h⟩, fun h => absurd rfl h⟩
  have hw4' : w4.heap = boxed v3.heap (verdict [snosuch]).1 := hw4
  refine (Code_any _ _ _ w4 (by rw [hw4']; exact ha4) (cellG hw4' hg4)).mono ?_
  rintro e4 v4 ⟨rfl, hx4, hp4⟩
  rw [hw4'] at hx4
  refine ⟨hp4.trans ho4, hx4, _, rfl, fun _ => ?_, fun h => absurd rfl h⟩
  intro w5 hw5 ho5
  refine (FCmd_any _ _ _ w5 (by rw [hw5]; exact ha4.ext hx4) (cellG hw5 (get_ext hx4 hg4))).mono ?_
  rintro e5 v5 ⟨rfl, hx5, hp5⟩
  rw [hw5] at hx5
  refine ⟨hp5.trans ho5, hx5, _, rfl, fun _ => ?_, fun h => absurd rfl h⟩
  intro w6 hw6 ho6
  refine (Code_any _ _ _ w6 (by rw [hw6]; exact hb4.ext (hx4.trans hx5)) (cellG hw6 (get_ext (hx4.trans hx5) hg4))).mono ?_
  rintro e6 v6 ⟨rfl, hx6, hp6⟩
  rw [hw6] at hx6
  refine ⟨hp6.trans ho6, hx6, _, rfl, fun _ => ?_, fun h => absurd rfl h⟩
  intro w7 hw7 ho7
  refine (FCmd_any _ _ _ w7 (by rw [hw7]; exact hb4.ext (hx4.trans (hx5.trans hx6))) (cellG hw7 (get_ext (hx4.trans (hx5.trans hx6)) hg4))).mono ?_
  rintro e7 v7 ⟨rfl, hx7, hp7⟩
  rw [hw7] at hx7
  refine ⟨hp7.trans ho7, hx7, _, rfl, ?_⟩
  exact (fun hf wr hwr hor => ⟨retB (by simp), by rw [hwr]; exact hf.none, hor⟩)
end Go.Proofs.YtjffhomcgpigpaaDoor
