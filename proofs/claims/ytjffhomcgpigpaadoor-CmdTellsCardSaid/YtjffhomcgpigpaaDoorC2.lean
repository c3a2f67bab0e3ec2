import Derived.Test.YtjffhomcgpigpaaDoorB9
import Derived.Test.YtjffhomcgpigpaaDoorC1
/- The law CmdTells: it answers true. -/
namespace Go.Proofs.YtjffhomcgpigpaaDoor
open E
set_option maxRecDepth 100000
theorem CmdTells_any (n : Int) (la : List (Int × List UInt8)) (fits upper : Bool) (q : Option Addr) (qc : Nat) (l : List (List UInt8)) (p : Option Addr) (cap : Nat) (s : List UInt8) (w : World) (hg : get w.heap 0 0 = some et)
    (ha : row w.heap q (flatW la)) (hla : la.length ≤ 9223372036854775807) (hl : StrRow w.heap p l) (hll : l.length ≤ 9223372036854775807) (hs : s.length ≤ 9223372036854775807) :
    Calls Tryd.prog 3 #[.agg #[.int .i64 n, .slice q la.length qc, .bool fits, .bool upper], .slice p l.length cap, .string (bs s)] w (RetX (.bool true) w.heap (outw w)) := by
  refine begins (k3 {}) [.agg [.int .i64 (.v 0), .slice (.v 0) (.v 0) (.v 1), .bool (.v 0), .bool (.v 1)], .slice (.v 1) (.v 2) (.v 3), .str (.v 0)] [] { i := fun _ => n, p := fun j => if j = 0 then q else p, n := fun j => if j = 0 then la.length else if j = 1 then qc else if j = 2 then l.length else cap, b := fun j => if j = 0 then fits else upper, s := fun _ => s, h := fun _ => w.heap, o := outw w } 4 1000 rfl rfl rfl trivial (by simp [SV.den, SE.den, IE.den, PE.den, NE.den, BE.den]) ?_
  conv => arg 7; reduce
  simp only [VC.den, BE.prop, IE.den, NE.den, SE.den, SV.den, HE.den, PE.den, BE.den, WS.den, WI.den, List.map_cons, List.map_nil, Int.cast_ofNat_Int, reduceIte, Nat.reduceEqDiff, Env.setE, Env.setH, Env.setB, Env.setS, Env.setI, Env.setN, Env.setP]
  intro w1 hw1 ho1
  refine (Few_any l p cap w1 (by rw [hw1]; exact StrRow.ext hl (ext_push _ _)) hll).mono ?_
  rintro e1 v1 ⟨x1, p1, c1, rfl, hn1, hs1, hr1, hx1, hp1⟩
  rw [hw1] at hx1
  refine ⟨hp1.trans ho1, hx1, p1, _, c1, rfl, ?_⟩
  have hX1 := (ext_push w.heap (.cells #[.int .i64 n, .slice q la.length qc, .bool fits, .bool upper] 24)).trans hx1
  intro w2 hw2 ho2
  refine (Args_any n la fits upper q qc w2 (by rw [hw2]; exact hX1.row ha) hla).mono ?_
  rintro e2 v2 ⟨x2, p2, c2, rfl, hx20, hn2, hs2, hr2, hx2, hp2, _⟩
  rw [hw2] at hx2
  refine ⟨hp2.trans ho2, hx2, p2, _, c2, rfl, ?_⟩
  have hX2 := hX1.trans hx2
  intro w3 hw3 ho3
  refine (Lookup_any s w3 hs).mono ?_
  rintro e3 v3 ⟨rfl, hx3, hp3⟩
  rw [hw3] at hx3
  refine ⟨hp3.trans ho3, hx3, _, _, _, _, _, _, rfl, ?_⟩
  have hb3 := box_ext v3.heap (look s).1
  intro w4 hw4 ho4
  have hw4' : w4.heap = boxed v3.heap (look s).1 := hw4
  refine (rLookup_any s w4 hs).mono ?_
  rintro e4 v4 ⟨rfl, hx4, hp4⟩
  rw [hw4'] at hx4
  refine ⟨hp4.trans ho4, hx4, _, _, _, _, _, _, rfl, ?_⟩
  have hb4 := boxR_ext v4.heap (look s).1
  have hX4 := (hx3.trans hb3).trans (hx4.trans hb4)
  intro w5 hw5 ho5
  have hw5' : w5.heap = boxR v4.heap (look s).1 := hw5
  refine (checks_any x1 p1 c1 w5 (by rw [hw5']; exact get_ext (hX2.trans hX4) hg) (by rw [hw5']; exact (hr1.ext hx2).ext hX4) (by omega) (fun t ht => by have := hs1 t ht; omega)).mono ?_
  rintro e5 v5 ⟨rfl, hx5, hp5⟩
  rw [hw5'] at hx5
  refine ⟨hp5.trans ho5, hx5, _, rfl, fun _ => ?_, fun h => absurd rfl h⟩
  intro w6 hw6 ho6
  have hX5 := hX4.trans hx5
  refine (checks_any x2 p2 c2 w6 (by rw [hw6]; exact get_ext (hX2.trans hX5) hg) (by rw [hw6]; exact hr2.ext hX5) (by omega) (fun t ht => by have := hs2 t ht; omega)).mono ?_
  rintro e6 v6 ⟨rfl, hx6, hp6⟩
  rw [hw6] at hx6
  refine ⟨hp6.trans ho6, hx6, _, rfl, fun _ => ?_, fun h => absurd rfl h⟩
  have hX6 := hX5.trans hx6
  have hE := ext_push v6.heap (.cells #[] 9)
  have hO : Own (v6.heap.push (.cells #[] 9)) v6.heap.size (some ⟨v6.heap.size, 0, none⟩) 0 1 [] := .inr ⟨v6.heap.size, [], rfl, Nat.le_refl _, CellsAt.made v6.heap [] 9, rfl⟩
  have hlt6 : w.heap.size < v6.heap.size ∧ v3.heap.size < v6.heap.size ∧ v4.heap.size < v6.heap.size := by
    have q1 := hX2.le
    have q2 := hx3.le
    have q3 := hx4.le
    have q4 := hb3.le
    have q5 := hb4.le
    have q6 := hx5.le
    have q7 := hx6.le
    have q8 : v3.heap.size < (boxed v3.heap (look s).1).size := by simp [boxed, size_setc]
    have q9 : v4.heap.size < (boxR v4.heap (look s).1).size := by simp [boxR, size_setc]
    have q0 : w.heap.size < v1.heap.size := Nat.lt_of_lt_of_le (by simp) hx1.le
    have := hx2.le
    omega
  have hl2 : (strs x2).length = x2.length * 1 := by simp [strs_length]
  have hl1 : (strs x1).length = x1.length * 1 := by simp [strs_length]
  have one : ∀ (y : List (List UInt8)), ∀ u ∈ strs y, u.oneCell' = true := fun y u hu => by
    obtain ⟨z, _, rfl⟩ := List.mem_map.1 hu
    rfl
  refine ⟨[], strs x2, hO.appPre rfl ⟨Nat.le_refl _, hl2, (hr2.ext hX6).ext hE⟩ (one _) (by simp only [lenV]; omega) (by simp only [lenV]; omega), fun h7 p7 c7 ha7 => ?_⟩
  have hO7 := hO.next rfl hl2 hE.le ha7
  have hX7 := hO.keep (h0 := v6.heap) (Nat.le_refl _) hE ha7
  rw [List.nil_append] at hO7
  refine ⟨hO7.ne_lt (by omega), hO7.ne_lt (by omega), hO7.ne_lt (by omega), strs x2, strs x1, hO7.appPre hl2 ⟨Nat.le_refl _, hl1, ((hr1.ext hx2).ext hX6).ext hX7⟩ (one _) (by simp only [lenV]; omega) (by simp only [lenV]; omega), fun h8 p8 c8 ha8 => ?_⟩
  have hO8 := hO7.next hl2 hl1 hX7.le ha8
  have hX8 := hO7.keep (h0 := v6.heap) (Nat.le_refl _) hX7 ha8
  have e8 : strs x2 ++ strs x1 = strs (x2 ++ x1) := by simp [strs]
  rw [e8] at hO8
  have hXX := hX2.trans (hX6.trans hX8)
  intro w9 hw9 ho9
  have hC := checks_any (x2 ++ x1) p8 c8 w9 (by rw [hw9]; exact get_ext hXX hg) (by rw [hw9]; exact hO8.row) (by rw [List.length_append]; omega) (fun t ht => by
    rcases List.mem_append.1 ht with h | h
    · have := hs2 t h; omega
    · have := hs1 t h; omega)
  rw [List.length_append] at hC
  refine hC.mono ?_
  rintro e9 v9 ⟨rfl, hx9, hp9⟩
  rw [hw9] at hx9
  refine ⟨hp9.trans ho9, hx9, _, rfl, fun _ => ?_, fun h => absurd ⟨rfl, Iff.rfl⟩ h⟩
  intro wa hwa hoa
  refine (same_any (look s).1 (look s).1 wa).mono ?_
  rintro ea va ⟨rfl, hxa, hpa⟩
  rw [hwa] at hxa
  refine ⟨hpa.trans hoa, hxa, _, rfl, fun _ => ?_, fun h => absurd (by simp) h⟩
  intro wb hwb hob
  refine (Lower_any s wb hs).mono ?_
  rintro eb vb ⟨rfl, hxb, hpb⟩
  rw [hwb] at hxb
  refine ⟨hpb.trans hob, hxb, _, rfl, ?_⟩
  intro wc hwc hoc
  refine (rLower_any s wc hs).mono ?_
  rintro ec vc ⟨rfl, hxc, hpc⟩
  rw [hwc] at hxc
  refine ⟨hpc.trans hoc, hxc, _, rfl, ?_⟩
  have hXd := hXX.trans (hx9.trans (hxa.trans (hxb.trans hxc)))
  refine ⟨fun _ wd hwd hod => ?_, fun h => absurd rfl h⟩
  refine (known_any wd (by rw [hwd]; exact get_ext hXd hg)).mono ?_
  rintro ed vd ⟨rfl, hxd, hpd⟩
  rw [hwd] at hxd
  exact ⟨hpd.trans hod, hxd, _, rfl, fun _ we hwe hoe => ⟨rfl, by rw [hwe]; exact hXd.trans hxd, hoe⟩⟩
end Go.Proofs.YtjffhomcgpigpaaDoor
