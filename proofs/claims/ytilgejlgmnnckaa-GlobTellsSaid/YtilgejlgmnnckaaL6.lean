import Derived.Test.YtilgejlgmnnckaaL3
namespace Go.Proofs.Ytilgejlgmnnckaa
open E
set_option maxRecDepth 100000
def pieces : List (List UInt8) := [[42], [63], [97], [98], [91, 97, 98, 93], [91, 94, 97, 93], [91, 97, 45, 99, 93], [92, 97], [91], [93], [94], [45]]
theorem pieces_short (i : Nat) : (pieces.getD i []).length ≤ 5 := by
  by_cases hi : i < pieces.length
  · rw [show pieces.getD i [] = pieces[i] by simp [List.getD, hi]]
    have : ∀ s ∈ pieces, s.length ≤ 5 := by decide
    exact this _ (List.getElem_mem hi)
  · rw [show pieces.getD i [] = [] by simp [List.getD, hi]]; simp
/-- Numbers as cells. -/
def i64s (l : List Int) : List Value := l.map (.int .i64)
theorem Tells_any (p s : List UInt8) (a : Option Addr) (l : List Int) (cap : Nat) (w : World) (hl : row w.heap a (i64s l)) (hln : l.length ≤ 9223372036854775807) (hw : ∀ n ∈ l, inK .i64 n) :
    Calls Try.prog 3 #[.string (bs p), .string (bs s), .slice a l.length cap] w (RetX (.bool true) w.heap (outw w)) := by
  refine begins (k3 []) [.str (.v 0), .str (.v 1), .slice (.v 0) (.v 0) (.v 1)] { s := fun j => if j = 0 then p else s, p := fun _ => a, n := fun j => if j = 0 then l.length else cap, h := fun _ => w.heap, o := outw w } 2 1000 rfl rfl rfl (by simp [SV.den, SE.den, PE.den, NE.den]) ?_
  conv => arg 7; reduce
  simp only [VC.den, BE.prop, IE.den, NE.den, SE.den, SV.den, HE.den, PE.den, BE.den, List.map_cons, List.map_nil, Int.cast_ofNat_Int, reduceIte, Nat.reduceEqDiff, Env.setE, Env.setH, Env.setS]
  intro w1 hw1 ho1
  refine (Cut_any p 30 w1).mono ?_
  rintro e w1' ⟨rfl, hw1', ho1'⟩
  refine ⟨ho1'.trans ho1, _, rfl, fun w2 hw2 ho2 => ?_⟩
  refine (Cut_any s 40 w2).mono ?_
  rintro e w2' ⟨rfl, hw2', ho2'⟩
  refine ⟨ho2'.trans ho2, _, rfl, ?_⟩
  rw [hw2', hw2, hw1', hw1]
  have hp : (p.take 30).length ≤ 30 := by simp; omega
  have hs : (s.take 40).length ≤ 40 := by simp; omega
  generalize p.take 30 = p at hp
  generalize s.take 40 = s at hs
  refine looping (k3 []) [.str (.v 0), .str (.v 1), .slice (.v 0) (.v 0) (.v 1), .str (.v 2), .int .i64 (.ofN (.v 2))]
    (fun x : Nat × List UInt8 × Heap => { s := fun j => if j = 0 then p else if j = 1 then s else x.2.1, p := fun _ => a, n := fun j => if j = 0 then l.length else if j = 1 then cap else x.1, h := fun _ => x.2.2, o := outw w }) 3 1000
    (fun x => x.1 ≤ l.length ∧ x.1 ≤ 12 ∧ x.2.1.length ≤ 5 * x.1 ∧ Ext w.heap x.2.2) (fun x => 12 - x.1) (0, [], w.heap) ⟨by simp, by simp, by simp, Ext.refl _⟩ rfl (by simp [SV.den, SE.den, PE.den, IE.den, NE.den, bytesOf]) rfl (fun _ => rfl) ?_
  rintro ⟨i, q, h⟩ ⟨hi, hi2, hq, hx⟩ N hN
  simp only at hi hi2 hq hx
  conv => arg 7; reduce
  simp only [VC.den, BE.prop, IE.den, NE.den, SE.den, SV.den, HE.den, PE.den, BE.den, List.map_cons, List.map_nil, Int.cast_ofNat_Int, reduceIte, Nat.reduceEqDiff, inK_i64, Env.setE, Env.setH, Env.setB, Env.setS, Env.setI, Env.setN, Env.setP]
  simp only [SV.den, SE.den, PE.den, NE.den, IE.den, BE.den, List.map_cons, List.map_nil, reduceIte, Nat.reduceEqDiff] at hN
  refine ⟨fun ⟨h1, h2⟩ => ?_, fun h1 w3 hw3 ho3 => ?_⟩
  · have hx2 := hx.push (Obj.cells (strs pieces).toArray 9)
    have hB := Blk.new h 9 (strs pieces)
    have hget : ∃ b o, a = some ⟨b, o, none⟩ ∧ E.get (Array.push h (Obj.cells (strs pieces).toArray 9)) b (o + i) = some (.int .i64 (l.getD i 0)) := by
      rcases hx2.row hl with h3 | ⟨b, o, h3, h4⟩
      · exfalso
        have h5 := congrArg List.length h3
        simp only [i64s, List.length_map, List.length_nil] at h5
        omega
      · exact ⟨b, o, h3, h4 i _ (by simp [i64s, List.getD, show i < l.length by omega])⟩
    obtain ⟨b, o, ha, hg⟩ := hget
    refine ⟨b, o, ha, by omega, by omega, _, hg, fun w3 hw3 ho3 => ?_⟩
    have hm : l.getD i 0 ∈ l := List.mem_of_getElem? (show l[i]? = some (l.getD i 0) by simp [List.getD, show i < l.length by omega])
    refine (Within_any (l.getD i 0) 0 1048576 (hw _ hm) (by omega) (by omega) w3).mono ?_
    rintro e w3' ⟨⟨k, _, hk, rfl⟩, hw3', ho3'⟩
    have hmod : (k : Int).tmod 12 = ((k % 12 : Nat) : Int) := by rw [Int.tmod_eq_emod_of_nonneg (by omega)]; omega
    have hk12 : k % 12 < 12 := Nat.mod_lt _ (by omega)
    refine ⟨ho3'.trans ho3, _, rfl, by omega, by omega, by omega, pieces.getD (k % 12) [], ?_, ?_, by omega, ?_⟩
    · rw [hw3', hw3, hmod, Int.toNat_natCast]
      exact (hB.get _).trans (strs_get pieces _ (by exact hk12))
    · have := pieces_short (k % 12)
      omega
    · rw [hw3', hw3]
      have := pieces_short (k % 12)
      exact hN (i + 1, q ++ pieces.getD (k % 12) [], _) ⟨by simp only; omega, by simp only; omega, by simp only [List.length_append]; omega, hx2⟩ (by simp only; omega)
  refine (Match_any p s w3 (by omega) (by omega)).mono ?_
  rintro e w3' ⟨rfl, hw3', ho3'⟩
  refine ⟨ho3'.trans ho3, _, rfl, fun w4 hw4 ho4 => ?_⟩
  refine (rMatch_any p s w4 (by omega) (by omega)).mono ?_
  rintro e w4' ⟨rfl, hx4, ho4'⟩
  refine ⟨ho4'.trans ho4, _, rfl, fun _ w5 hw5 ho5 => ?_, fun h => absurd Iff.rfl h⟩
  refine (Match_any q s w5 (by omega) (by omega)).mono ?_
  rintro e w5' ⟨rfl, hw5', ho5'⟩
  refine ⟨ho5'.trans ho5, _, rfl, fun w6 hw6 ho6 => ?_⟩
  refine (rMatch_any q s w6 (by omega) (by omega)).mono ?_
  rintro e w6' ⟨rfl, hx6, ho6'⟩
  refine ⟨ho6'.trans ho6, _, rfl, fun _ w7 hw7 ho7 => ?_, fun h => absurd Iff.rfl h⟩
  refine (Match_any p p w7 (by omega) (by omega)).mono ?_
  rintro e w7' ⟨rfl, hw7', ho7'⟩
  refine ⟨ho7'.trans ho7, _, rfl, fun w8 hw8 ho8 => ?_⟩
  refine (rMatch_any p p w8 (by omega) (by omega)).mono ?_
  rintro e w8' ⟨rfl, hx8, ho8'⟩
  refine ⟨ho8'.trans ho8, _, rfl, fun _ w9 hw9 ho9 => ?_, fun h => absurd Iff.rfl h⟩
  refine (known_any w9).mono ?_
  rintro e w9' ⟨rfl, hw9', ho9'⟩
  refine ⟨ho9'.trans ho9, _, rfl, fun w10 hw10 ho10 => ⟨rfl, ?_, ho10⟩⟩
  rw [hw10, hw9', hw9]
  refine Ext.trans ?_ hx8
  rw [hw8, hw7', hw7]
  refine Ext.trans ?_ hx6
  rw [hw6, hw5', hw5]
  refine Ext.trans ?_ hx4
  rw [hw4, hw3', hw3]
  exact hx
end Go.Proofs.Ytilgejlgmnnckaa
