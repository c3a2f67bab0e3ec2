import Derived.Test.YtjffhomcgpigpaaDoorB7
/- checks: the program's Check answers as the reference's does, whatever the words. -/
namespace Go.Proofs.YtjffhomcgpigpaaDoor
open E
set_option maxRecDepth 100000
def boxR (h : Heap) (c : Cd) : Heap := setc (setc (setc (setc (setc (h.push (.cells #[.string (bs (bytesOf [])), .int .i64 0, .int .i64 0, .bool false, .int .i64 0] 32)) h.size 0 (.string (bs c.name))) h.size 1 (.int .i64 c.least)) h.size 2 (.int .i64 c.most)) h.size 3 (.bool c.write)) h.size 4 (.int .i64 c.group)
theorem boxR_ext (h : Heap) (c : Cd) : Ext h (boxR h c) := by
  have := Nat.le_refl h.size
  exact ext_setc (ext_setc (ext_setc (ext_setc (ext_setc (ext_push h _) this _ _) this _ _) this _ _) this _ _) this _ _
theorem get_ext {h h' : Heap} (hx : Ext h h') {v : Value} (hg : get h 0 0 = some v) : get h' 0 0 = some v := by
  have h0 : 0 < h.size := by
    rcases Nat.eq_zero_or_pos h.size with e | e
    · unfold E.get at hg; rw [Array.getElem?_eq_none (by omega)] at hg; cases hg
    · exact e
  unfold E.get at hg ⊢; rw [hx.old 0 h0]; exact hg
theorem cellG {w : World} {h : Heap} (hw : w.heap = h) (hg : get h 0 0 = some et) : w.cell? ⟨0, 0, none⟩ = some et := by rw [get_cell, hw]; exact hg
theorem verdict_none (args : List (List UInt8)) (h : (verdict args).2.2 ≠ 0) : (verdict args).1 = Cd.none := by
  unfold verdict at h ⊢
  cases args with
  | nil => rfl
  | cons a r =>
    simp only at h ⊢
    split
    · rfl
    · rename_i h1
      rw [if_neg h1] at h
      split
      · rfl
      · rename_i h2
        rw [if_neg h2] at h
        split
        · rfl
        · rename_i h3
          rw [if_neg h3] at h
          exact absurd rfl h
theorem checks_any (args : List (List UInt8)) (p : Option Addr) (cap : Nat) (w : World) (hg : get w.heap 0 0 = some et) (hr : StrRow w.heap p args) (hn : args.length ≤ 9223372036854775807) (hs : ∀ x ∈ args, x.length ≤ 9223372036854775807) :
    Calls Tryd.prog 11 #[.slice p args.length cap] w (RetX (.bool true) w.heap (outw w)) := by
  refine begins (k11 {}) [.slice (.v 0) (.v 0) (.v 1)] [] { p := fun _ => p, n := fun j => if j = 0 then args.length else cap, h := fun _ => w.heap, o := outw w } 2 1000 rfl rfl rfl trivial (by simp [SV.den, PE.den, NE.den]) ?_
  conv => arg 7; reduce
  simp only [VC.den, BE.prop, IE.den, NE.den, SE.den, SV.den, HE.den, PE.den, BE.den, WS.den, List.map_cons, List.map_nil, Int.cast_ofNat_Int, reduceIte, Nat.reduceEqDiff, Env.setE, Env.setH, Env.setB, Env.setS, Env.setI, Env.setN, Env.setF]
  intro w1 hw1 ho1
  refine (Check_any args p cap w1 (by rw [hw1]; exact hr) hn hs).mono ?_
  rintro e1 v1 ⟨v, rfl, hv, hx1, hp1⟩
  rw [hw1] at hx1
  obtain ⟨f, rfl⟩ : ∃ f, v = ifcVal f := by
    rcases hv with ⟨_, rfl⟩ | ⟨_, b, rfl, _⟩
    · exact ⟨none, rfl⟩
    · exact ⟨some (70, _), rfl⟩
  refine ⟨hp1.trans ho1, hx1, _, _, _, _, _, f, rfl, ?_⟩
  have hX1 := box_ext v1.heap (verdict args).1
  intro w2 hw2 ho2
  have hw2' : w2.heap = boxed v1.heap (verdict args).1 := hw2
  refine (rCheck_any args p cap w2 (by rw [hw2']; exact (hr.ext hx1).ext hX1) hn hs).mono ?_
  rintro e2 v2 ⟨rfl, hx2, hp2⟩
  rw [hw2'] at hx2
  refine ⟨hp2.trans ho2, hx2, _, _, _, _, _, _, _, rfl, fun h0 => ?_, fun h0 => ?_⟩
  · intro w3 hw3 ho3
    have hw3' : w3.heap = boxR v2.heap (verdict args).1 := hw3
    have hX2 := boxR_ext v2.heap (verdict args).1
    refine (same_any (verdict args).1 Cd.none w3).mono ?_
    rintro e3 v3 ⟨rfl, hx3, hp3⟩
    rw [hw3'] at hx3
    have hxx := hX1.trans (hx2.trans (hX2.trans hx3))
    rcases hv with ⟨h1, _⟩ | ⟨_, hv⟩
    · exact absurd h1 h0
    · have hfn : ¬ f = none := fun e => by
        obtain ⟨b, e2, _⟩ := hv
        rw [e] at e2; cases e2
      refine ⟨hp3.trans ho3, hx3, _, rfl, ⟨fun _ => ?_, fun h => absurd ⟨decide_eq_true (verdict_none args h0), hfn⟩ h⟩⟩
      have hg3 : get v3.heap 0 0 = some et := get_ext (hx1.trans hxx) hg
      intro w4 hw4 ho4
      refine (Code_any _ _ _ w4 (by rw [hw4]; exact hv.ext hxx) (cellG hw4 hg3)).mono ?_
      rintro e4 v4 ⟨rfl, hx4, hp4⟩
      rw [hw4] at hx4
      refine ⟨hp4.trans ho4, hx4, _, rfl, fun _ => ?_, fun h => absurd rfl h⟩
      intro w5 hw5 ho5
      refine (FCmd_any _ _ _ w5 (by rw [hw5]; exact hv.ext (hxx.trans hx4)) (cellG hw5 (get_ext hx4 hg3))).mono ?_
      rintro e5 v5 ⟨rfl, hx5, hp5⟩
      rw [hw5] at hx5
      refine ⟨hp5.trans ho5, hx5, _, rfl, ?_⟩
      exact (fun hf wr hwr hor => ⟨retB (by simp), by rw [hwr]; exact hf.none, hor⟩)
  · intro w3 hw3 ho3
    have hw3' : w3.heap = boxR v2.heap (verdict args).1 := hw3
    have hX2 := boxR_ext v2.heap (verdict args).1
    refine (same_any (verdict args).1 (verdict args).1 w3).mono ?_
    rintro e3 v3 ⟨rfl, hx3, hp3⟩
    rw [hw3'] at hx3
    rcases hv with ⟨_, hv⟩ | ⟨h1, _⟩
    · have hfn : f = none := by cases f with
        | none => rfl
        | some _ => cases hv
      subst hfn
      refine ⟨hp3.trans ho3, hx3, _, rfl, ?_⟩
      exact (fun hf wr hwr hor => ⟨retB (by simp), by rw [hwr]; exact hf.none, hor⟩)
    · exact absurd h1 h0
end Go.Proofs.YtjffhomcgpigpaaDoor
