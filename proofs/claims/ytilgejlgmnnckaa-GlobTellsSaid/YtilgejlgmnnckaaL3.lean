import Derived.Test.YtilgejlgmnnckaaL2
namespace Go.Proofs.Ytilgejlgmnnckaa
open E
set_option maxRecDepth 100000
set_option maxHeartbeats 1000000
/-- Texts as cells. -/
def strs (l : List (List UInt8)) : List Value := l.map fun s => .string (bs s)
theorem strs_length (l : List (List UInt8)) : (strs l).length = l.length := by simp [strs]
theorem strs_get (l : List (List UInt8)) (i : Nat) (h : i < l.length) : (strs l)[i]? = some (.string (bs (l.getD i []))) := by simp [strs, List.getD, h]
structure NumInv (w : World) (T Ps : List (List UInt8)) (b1 b2 : Nat) (h : Heap) : Prop where
  ext : Ext w.heap h
  t : Blk h b1 9 (strs T)
  p : Blk h b2 9 (strs Ps)
theorem NumInv.next {w : World} {T Ps : List (List UInt8)} {b1 b2 : Nat} {h h' : Heap} (a : NumInv w T Ps b1 b2 h) (e : Ext h h') : NumInv w T Ps b1 b2 h' := ⟨a.ext.trans e, a.t.ext e, a.p.ext e⟩
theorem Numbers_loop (w : World) (T Ps : List (List UInt8)) (b1 b2 : Nat) (h0 : Heap) (hN0 : NumInv w T Ps b1 b2 h0) (hT : T.length ≤ 1000) (hP : Ps.length ≤ 1000) (hT2 : ∀ i, (T.getD i []).length ≤ 1000) (hP2 : ∀ i, (Ps.getD i []).length ≤ 1000) :
    AtLoop Try.prog (c7 []) Try.f7 (RetX (.bool true) w.heap (outw w)) [0, 0, 1, 0, 1, 1] [KI.blk 0, KI.seq [1, 1, 1]]
      [.slice (some ⟨b1, 0, none⟩) T.length T.length, .slice (some ⟨b2, 0, none⟩) Ps.length Ps.length, .int .i64 Ps.length, .int .i64 0] h0 (outw w) := by
  refine looping (k7 []) [.slice (.at (.v 0) (.c 0)) (.v 1) (.v 1), .slice (.at (.v 2) (.c 0)) (.v 3) (.v 3), .int .i64 (.ofN (.v 3)), .int .i64 (.ofN (.v 4))]
    (fun x : Nat × Heap => { n := fun j => if j = 0 then b1 else if j = 1 then T.length else if j = 2 then b2 else if j = 3 then Ps.length else x.1, h := fun _ => x.2, o := outw w }) 5 1000
    (fun x => x.1 ≤ Ps.length ∧ NumInv w T Ps b1 b2 x.2) (fun x => Ps.length - x.1) (0, h0) ⟨by simp, hN0⟩ rfl (by simp [SV.den, PE.den, IE.den, NE.den]) rfl (fun _ => rfl) ?_
  rintro ⟨i, h⟩ ⟨hi, hI⟩ N hN
  simp only at hi hI
  conv => arg 7; reduce
  simp only [VC.den, BE.prop, IE.den, NE.den, SE.den, SV.den, HE.den, PE.den, BE.den, List.map_cons, List.map_nil, Int.cast_ofNat_Int, reduceIte, Nat.reduceEqDiff, inK_i64, Env.setE, Env.setH, Env.setB, Env.setS, Env.setI, Env.setN, u8n _ 42 (by omega), u8n _ 63 (by omega), u8n _ 91 (by omega), u8n _ 92 (by omega)]
  simp only [SV.den, SE.den, PE.den, NE.den, IE.den, BE.den, List.map_cons, List.map_nil, reduceIte, Nat.reduceEqDiff] at hN
  refine ⟨fun h1 => ⟨by omega, by omega, Ps.getD i [], by rw [hI.p.get, strs_get _ _ (by omega)], ?_⟩, fun h1 w1 hw1 ho1 => ?_⟩
  rotate_left
  · refine (known_any w1).mono ?_
    rintro e w1' ⟨rfl, hw1', ho1'⟩
    exact ⟨ho1'.trans ho1, _, rfl, fun w2 hw2 ho2 => ⟨rfl, by rw [hw2, hw1', hw1]; exact hI.ext, ho2⟩⟩
  have hpl := hP2 i
  generalize hp : Ps.getD i [] = p at hpl
  refine looping (k7 []) [.slice (.at (.v 0) (.c 0)) (.v 1) (.v 1), .str (.v 0), .slice (.at (.v 2) (.c 0)) (.v 3) (.v 3), .int .i64 (.ofN (.v 3)), .int .i64 (.ofN (.v 4)), .slice (.at (.v 0) (.c 0)) (.v 1) (.v 1), .int .i64 (.ofN (.v 1)), .int .i64 (.ofN (.v 5))]
    (fun x : Nat × Heap => { s := fun _ => p, n := fun j => if j = 0 then b1 else if j = 1 then T.length else if j = 2 then b2 else if j = 3 then Ps.length else if j = 4 then i else x.1, h := fun _ => x.2, o := outw w }) 6 1000
    (fun x => x.1 ≤ T.length ∧ NumInv w T Ps b1 b2 x.2) (fun x => T.length - x.1) (0, h) ⟨by simp, hI⟩ rfl (by simp [SV.den, SE.den, PE.den, IE.den, NE.den]) rfl (fun _ => rfl) ?_
  rintro ⟨j, g⟩ ⟨hj, hJ⟩ N2 hN2
  simp only at hj hJ
  conv => arg 7; reduce
  simp only [VC.den, BE.prop, IE.den, NE.den, SE.den, SV.den, HE.den, PE.den, BE.den, List.map_cons, List.map_nil, Int.cast_ofNat_Int, reduceIte, Nat.reduceEqDiff, inK_i64, Env.setE, Env.setH, Env.setB, Env.setS, Env.setI, Env.setN, u8n _ 42 (by omega), u8n _ 63 (by omega), u8n _ 91 (by omega), u8n _ 92 (by omega)]
  simp only [SV.den, SE.den, PE.den, NE.den, IE.den, BE.den, List.map_cons, List.map_nil, reduceIte, Nat.reduceEqDiff] at hN2
  refine ⟨fun h2 => ⟨by omega, by omega, T.getD j [], by rw [hJ.t.get, strs_get _ _ (by omega)], fun w1 hw1 ho1 => ?_⟩, fun h2 => ?_⟩
  · have htl := hT2 j
    refine (Match_any p _ w1 (by omega) (by omega)).mono ?_
    rintro e w1' ⟨rfl, hw1', ho1'⟩
    refine ⟨ho1'.trans ho1, _, rfl, fun w2 hw2 ho2 => ?_⟩
    refine (rMatch_any p _ w2 (by omega) (by omega)).mono ?_
    rintro e w2' ⟨rfl, hx, ho2'⟩
    refine ⟨ho2'.trans ho2, _, rfl, fun h => absurd Iff.rfl h, fun _ => ⟨by omega, ?_⟩⟩
    rw [hw2, hw1', hw1] at hx
    exact hN2 (j + 1, w2'.heap) ⟨by simp only; omega, hJ.next hx⟩ (by simp only; omega)
  refine looping (k7 []) [.slice (.at (.v 0) (.c 0)) (.v 1) (.v 1), .str (.v 0), .bool (.v 0), .int .i64 (.ofN (.v 5)), .slice (.at (.v 2) (.c 0)) (.v 3) (.v 3), .int .i64 (.ofN (.v 3)), .int .i64 (.ofN (.v 4))]
    (fun x : Nat => { s := fun _ => p, b := fun _ => ((p.take x).all fun a => !(a == 42 || a == 63 || a == 91 || a == 92)), n := fun j => if j = 0 then b1 else if j = 1 then T.length else if j = 2 then b2 else if j = 3 then Ps.length else if j = 4 then i else x, h := fun _ => g, o := outw w }) 6 1000
    (fun x => x ≤ p.length) (fun x => p.length - x) 0 (by simp) rfl (by simp [SV.den, SE.den, PE.den, IE.den, NE.den, BE.den]) rfl (fun _ => rfl) ?_
  intro k hk N3 hN3
  conv => arg 7; reduce
  simp only [VC.den, BE.prop, IE.den, NE.den, SE.den, SV.den, HE.den, PE.den, BE.den, List.map_cons, List.map_nil, Int.cast_ofNat_Int, reduceIte, Nat.reduceEqDiff, inK_i64, Env.setE, Env.setH, Env.setB, Env.setS, Env.setI, Env.setN, u8n _ 42 (by omega), u8n _ 63 (by omega), u8n _ 91 (by omega), u8n _ 92 (by omega)]
  simp only [SV.den, SE.den, PE.den, NE.den, IE.den, BE.den, List.map_cons, List.map_nil, reduceIte, Nat.reduceEqDiff] at hN3
  refine ⟨fun h3 => ⟨fun _ => by omega, fun _ => by omega, fun _ => by omega, fun _ => by omega, fun _ => by omega, fun _ => by omega, fun _ => by omega, fun _ => by omega, by omega, ?_⟩, fun h3 w1 hw1 ho1 => ?_⟩
  · have := hN3 (k + 1) (by omega) (by omega)
    have e : ((p.take (k + 1)).all fun a => !(a == 42 || a == 63 || a == 91 || a == 92)) = (((p.take k).all fun a => !(a == 42 || a == 63 || a == 91 || a == 92)) && !decide (p.getD k 0 = 42) && !decide (p.getD k 0 = 63) && !decide (p.getD k 0 = 91) && !decide (p.getD k 0 = 92)) := by
      rw [List.take_succ_eq_append_getElem (by omega), List.all_append]
      have : p[k]'(by omega) = p.getD k 0 := by simp [List.getD, show k < p.length by omega]
      rw [this]
      simp only [List.all_cons, List.all_nil, Bool.and_true, Bool.not_or, Bool.and_assoc]
      rfl
    rw [e] at this
    exact this
  · have hk2 : p.take k = p := List.take_of_length_le (by omega)
    rw [hk2]
    refine (Plain_any p w1 (by omega)).mono ?_
    rintro e w1' ⟨rfl, hw1', ho1'⟩
    refine ⟨ho1'.trans ho1, _, rfl, fun h => absurd Iff.rfl h, fun _ => ⟨by omega, ?_⟩⟩
    rw [hw1', hw1]
    exact hN (i + 1, g) ⟨by simp only; omega, hJ⟩ (by simp only; omega)

def numT : List (List UInt8) := [[], [97], [98], [97, 98], [98, 97], [97, 97, 98], [93], [45], [94], [92], [91], [42], [63], [97, 93], [97, 98, 99], [255]]
def numP : List (List UInt8) := [[], [42], [42, 42], [63], [97, 42], [42, 97], [97, 63], [91, 97, 93], [91, 94, 97, 93], [91, 97, 45, 99, 93], [91, 99, 45, 97, 93], [91, 93], [91, 93, 97, 93], [91, 97], [91, 94], [91], [91, 97, 45], [91, 97, 45, 93], [91, 92, 93, 93], [91, 92], [92], [92, 97], [92, 42], [97, 92], [42, 63, 42], [91, 97, 45, 98, 45, 93, 42], [91, 94, 97, 45, 98, 93, 63], [97, 42, 42, 98], [42, 91, 98, 93], [91, 92, 97, 45, 98, 93], [91, 97, 45, 92, 93]]
theorem short (l : List (List UInt8)) (h : ∀ s ∈ l, s.length ≤ 1000) (i : Nat) : (l.getD i []).length ≤ 1000 := by
  by_cases hi : i < l.length
  · rw [show l.getD i [] = l[i] by simp [List.getD, hi]]; exact h _ (List.getElem_mem hi)
  · rw [show l.getD i [] = [] by simp [List.getD, hi]]; simp
theorem Numbers_any (w : World) :
    Calls Try.prog 7 #[] w (RetX (.bool true) w.heap (outw w)) := by
  refine begins (k7 []) [] { h := fun _ => w.heap, o := outw w } 1 1000 rfl rfl rfl (by simp) ?_
  conv => arg 7; reduce
  simp only [VC.den, BE.prop, IE.den, NE.den, SE.den, SV.den, HE.den, PE.den, BE.den, List.map_cons, List.map_nil, Int.cast_ofNat_Int, reduceIte, Nat.reduceEqDiff, Env.setE, Env.setH, Env.setB, Env.setS, Env.setI, Env.setN]
  have h1 := Blk.new w.heap 9 (strs numT)
  have h2 := Blk.new (w.heap.push (.cells (strs numT).toArray 9)) 9 (strs numP)
  have h3 := h1.push (.cells (strs numP).toArray 9)
  exact Numbers_loop w numT numP _ _ _ ⟨((Ext.refl _).push _).push _, h3, h2⟩ (by decide) (by decide) (fun i => short numT (by decide) i) (fun i => short numP (by decide) i)
end Go.Proofs.Ytilgejlgmnnckaa
