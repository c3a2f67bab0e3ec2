import Derived.Test.YtilgejlgmnnckaaL1
namespace Go.Proofs.Ytilgejlgmnnckaa
open E
set_option maxRecDepth 100000
theorem Glob.toks_mark (r : List UInt8) : Glob.toks (63 :: r) = some (fun _ => true) :: Glob.toks r := by
  rw [Glob.toks_one 63 r (by decide) 0, Glob.one_q]; rfl
theorem Glob.toks_marks (r : List UInt8) : ∀ n, Glob.toks (List.replicate n 63 ++ r) = List.replicate n (some fun _ => true) ++ Glob.toks r
  | 0 => rfl
  | n + 1 => by rw [List.replicate_succ, List.cons_append, Glob.toks_mark, Glob.toks_marks r n]; rfl
theorem Glob.mm_marks (T : List Tok) : ∀ (n : Nat) (t : List UInt8), Glob.mm (List.replicate n (some fun _ => true) ++ T) t = true ↔ n ≤ t.length ∧ Glob.mm T (t.drop n) = true
  | 0, t => by simp
  | n + 1, [] => by simp [List.replicate_succ, Glob.mm]
  | n + 1, c :: t => by
    simp only [List.replicate_succ, List.cons_append, Glob.mm, Bool.true_and, Glob.mm_marks T n t, List.length_cons, List.drop_succ_cons, Nat.add_le_add_iff_right]
theorem Glob.match_marks (n : Nat) (t : List UInt8) : Glob.match' (List.replicate n 63) t = true ↔ t.length = n := by
  have := Glob.toks_marks [] n
  rw [List.append_nil, Glob.toks] at this
  unfold Glob.match'
  rw [this, Glob.mm_marks, Glob.mm_nil]
  constructor
  · rintro ⟨h1, h2⟩
    have := congrArg List.length h2
    simp at this; omega
  · rintro rfl; simp
theorem Glob.match_marks_star (n : Nat) (t : List UInt8) : Glob.match' (List.replicate n 63 ++ [42]) t = true ↔ n ≤ t.length := by
  unfold Glob.match'
  rw [Glob.toks_marks, Glob.mm_marks, Glob.toks_star, Glob.toks]
  simp [Glob.mm_all]
theorem Glob.match_star_marks (n : Nat) (t : List UInt8) : Glob.match' (42 :: List.replicate n 63) t = true ↔ n ≤ t.length := by
  have := Glob.toks_marks [] n
  rw [List.append_nil, Glob.toks] at this
  unfold Glob.match'
  rw [Glob.toks_star, this, Glob.mm_star]
  simp only [Glob.mm_marks, Glob.mm_nil]
  constructor
  · rintro ⟨k, h1, h2, h3⟩; simp at h2; omega
  · intro h
    exact ⟨t.length - n, by omega, by simp; omega, by simp; omega⟩

theorem Marks_any (n : Int) (hn : inK .i64 n) (s : List UInt8) (w : World) :
    Calls Try.prog 6 #[.int .i64 n, .string (bs s)] w (Ret (.bool true) w.heap (outw w)) := by
  refine begins (k6 []) [.int .i64 (.v 0), .str (.v 0)] { s := fun _ => s, i := fun _ => n, h := fun _ => w.heap, o := outw w } 1 1000 rfl rfl rfl (by simp [SV.den, SE.den, IE.den]) ?_
  conv => arg 7; reduce
  simp only [VC.den, BE.prop, IE.den, NE.den, SE.den, SV.den, HE.den, BE.den, List.map_cons, List.map_nil, Int.cast_ofNat_Int, reduceIte, Nat.reduceEqDiff, Env.setE, Env.setH, Env.setB, Env.setS, Env.setI]
  intro w1 hw1 ho1
  refine (Within_any n 0 30 hn (by omega) (by omega) w1).mono ?_
  rintro e w1' ⟨⟨k, hk1, hk2, rfl⟩, hw1', ho1'⟩
  refine ⟨ho1'.trans ho1, _, rfl, ?_⟩
  have h30 : bytesOf [63, 63, 63, 63, 63, 63, 63, 63, 63, 63, 63, 63, 63, 63, 63, 63, 63, 63, 63, 63, 63, 63, 63, 63, 63, 63, 63, 63, 63, 63] = List.replicate 30 63 := by decide
  have h42 : bytesOf [42] = [42] := rfl
  rw [h30, h42]
  simp only [Int.toNat_natCast, List.take_replicate, Nat.min_eq_left hk2]
  refine ⟨by omega, by simp only [List.length_replicate]; omega, fun w2 hw2 ho2 => ?_⟩
  refine (Cut_any s 35 w2).mono ?_
  rintro e w2' ⟨rfl, hw2', ho2'⟩
  refine ⟨ho2'.trans ho2, _, rfl, fun w3 hw3 ho3 => ?_⟩
  have hs : (s.take 35).length ≤ 35 := by simp; omega
  generalize s.take 35 = s at hs
  refine (Match_any _ _ w3 (by simp only [List.length_replicate]; omega) (by omega)).mono ?_
  rintro e w3' ⟨rfl, hw3', ho3'⟩
  refine ⟨ho3'.trans ho3, _, rfl, fun _ => by simp only [List.length_replicate, List.length_cons, List.length_nil]; omega, fun _ w4 hw4 ho4 => ?_, fun h => absurd ((Glob.match_marks k s).trans (by omega)) h⟩
  refine (Match_any _ _ w4 (by simp only [List.length_append, List.length_replicate, List.length_cons, List.length_nil]; omega) (by omega)).mono ?_
  rintro e w4' ⟨rfl, hw4', ho4'⟩
  refine ⟨ho4'.trans ho4, _, rfl, fun _ => by simp only [List.length_replicate, List.length_cons, List.length_nil]; omega, fun _ w5 hw5 ho5 => ?_, fun h => absurd ((Glob.match_marks_star k s).trans (by omega)) h⟩
  refine (Match_any _ _ w5 (by simp only [List.length_append, List.length_replicate, List.length_cons, List.length_nil]; omega) (by omega)).mono ?_
  rintro e w5' ⟨rfl, hw5', ho5'⟩
  refine ⟨ho5'.trans ho5, _, rfl, fun _ w6 hw6 ho6 => ?_, fun h => absurd ((Glob.match_star_marks k s).trans (by omega)) h⟩
  refine (known_any w6).mono ?_
  rintro e w6' ⟨rfl, hw6', ho6'⟩
  refine ⟨ho6'.trans ho6, _, rfl, fun w7 hw7 ho7 => ⟨rfl, ?_, ho7⟩⟩
  rw [hw7, hw6', hw6, hw5', hw5, hw4', hw4, hw3', hw3, hw2', hw2, hw1', hw1]
end Go.Proofs.Ytilgejlgmnnckaa
