import Derived.Test.YtilgejlgmnnckaaW9
namespace Go.Proofs.Ytilgejlgmnnckaa
open E
set_option maxRecDepth 100000
def Glob.esc (l : List UInt8) : List UInt8 := l.flatMap fun a => [92, a]
theorem Glob.toks_esc (a : UInt8) (r : List UInt8) : Glob.toks (92 :: a :: r) = some (fun c => a == c) :: Glob.toks r := by
  rw [Glob.toks_one 92 (a :: r) (by decide) 0, Glob.one_e]; rfl
theorem Glob.toks_escs (r : List UInt8) : ∀ l : List UInt8, Glob.toks (Glob.esc l ++ r) = (l.map fun a => some (fun c => a == c)) ++ Glob.toks r
  | [] => rfl
  | a :: l => by
    have : Glob.esc (a :: l) ++ r = 92 :: a :: (Glob.esc l ++ r) := rfl
    rw [this, Glob.toks_esc, Glob.toks_escs r l]; rfl
theorem Glob.mm_eqs (T : List Tok) : ∀ l t : List UInt8, Glob.mm ((l.map fun a => some (fun c => a == c)) ++ T) t = true ↔ ∃ u, t = l ++ u ∧ Glob.mm T u = true
  | [], t => by simp
  | a :: l, [] => by simp [Glob.mm]
  | a :: l, c :: t => by
    simp only [List.map_cons, List.cons_append, Glob.mm, Bool.and_eq_true, beq_iff_eq, Glob.mm_eqs T l t, List.cons.injEq]
    constructor
    · rintro ⟨rfl, u, rfl, h⟩; exact ⟨u, ⟨rfl, rfl⟩, h⟩
    · rintro ⟨u, ⟨h1, h2⟩, h⟩; exact ⟨h1.symm, u, h2, h⟩
theorem Glob.mm_nil (u : List UInt8) : Glob.mm [] u = true ↔ u = [] := by simp [Glob.mm]
theorem Glob.match_esc (l t : List UInt8) : Glob.match' (Glob.esc l) t = true ↔ l = t := by
  have := Glob.toks_escs [] l
  rw [List.append_nil, Glob.toks] at this
  unfold Glob.match'
  rw [this, Glob.mm_eqs]
  simp only [Glob.mm_nil]
  constructor
  · rintro ⟨u, h, rfl⟩; simpa using h.symm
  · rintro rfl; exact ⟨[], by simp, rfl⟩
theorem Glob.mm_all (u : List UInt8) : Glob.mm [none] u = true := (Glob.mm_star [] u).2 ⟨u.length, Nat.le_refl _, by simp [Glob.mm]⟩
theorem Glob.match_escs (l t : List UInt8) : Glob.match' (Glob.esc l ++ [42]) (l ++ t) = true := by
  unfold Glob.match'
  rw [Glob.toks_escs, Glob.mm_eqs, Glob.toks_star, Glob.toks]
  exact ⟨t, rfl, Glob.mm_all t⟩
theorem Glob.esc_length (l : List UInt8) : (Glob.esc l).length = 2 * l.length := by
  induction l with
  | nil => rfl
  | cons a l ih => have : Glob.esc (a :: l) = 92 :: a :: Glob.esc l := rfl
                   rw [this]; simp [ih]; omega
theorem Glob.esc_take (l : List UInt8) (i : Nat) (h : i < l.length) : Glob.esc (l.take (i + 1)) = Glob.esc (l.take i) ++ [92, l.getD i 0] := by
  rw [List.take_succ_eq_append_getElem h]; unfold Glob.esc; rw [List.flatMap_append]; simp [List.getD, h]

theorem Escapes_any (s t : List UInt8) (w : World) :
    Calls Try.prog 5 #[.string (bs s), .string (bs t)] w (Ret (.bool true) w.heap (outw w)) := by
  refine begins (k5 []) [.str (.v 0), .str (.v 1)] { s := fun j => if j = 0 then s else t, h := fun _ => w.heap, o := outw w } 2 1000 rfl rfl rfl (by simp [SV.den, SE.den]) ?_
  conv => arg 7; reduce
  simp only [VC.den, BE.prop, IE.den, NE.den, SE.den, SV.den, HE.den, BE.den, List.map_cons, List.map_nil, Int.cast_ofNat_Int, reduceIte, Nat.reduceEqDiff, Env.setE, Env.setH, Env.setB, Env.setS]
  intro w1 hw1 ho1
  refine (Cut_any s 20 w1).mono ?_
  rintro e w1' ⟨rfl, hw1', ho1'⟩
  refine ⟨ho1'.trans ho1, _, rfl, fun w2 hw2 ho2 => ?_⟩
  refine (Cut_any t 20 w2).mono ?_
  rintro e w2' ⟨rfl, hw2', ho2'⟩
  refine ⟨ho2'.trans ho2, _, rfl, ?_⟩
  rw [hw2', hw2, hw1', hw1]
  have hs : (s.take 20).length ≤ 20 := by simp; omega
  have ht : (t.take 20).length ≤ 20 := by simp; omega
  generalize s.take 20 = s at hs
  generalize t.take 20 = t at ht
  refine looping (k5 []) [.str (.v 0), .str (.v 1), .str (.v 2), .int .i64 (.ofN (.v 0))] (fun x : Nat => { s := fun j => if j = 0 then s else if j = 1 then t else Glob.esc (s.take x), n := fun _ => x, h := fun _ => w.heap, o := outw w }) 3 1000
    (fun x => x ≤ s.length) (fun x => s.length - x) 0 (by omega) rfl (by simp [SV.den, SE.den, IE.den, NE.den, Glob.esc, bytesOf]) rfl (fun _ => rfl) ?_
  intro k hk N hN
  conv => arg 7; reduce
  simp only [VC.den, BE.prop, IE.den, NE.den, SE.den, SV.den, HE.den, BE.den, List.map_cons, List.map_nil, Int.cast_ofNat_Int, reduceIte, Nat.reduceEqDiff, inK_i64, Env.setE, Env.setH, Env.setB, Env.setS]
  simp only [SV.den, SE.den, IE.den, NE.den, List.map_cons, List.map_nil, reduceIte, Nat.reduceEqDiff] at hN
  have h92 : bytesOf [92] = [92] := rfl
  have h42 : bytesOf [42] = [42] := rfl
  have hlen : (Glob.esc (s.take k)).length ≤ 40 := by rw [Glob.esc_length]; simp; omega
  rw [h92, h42]
  refine ⟨fun h1 => ⟨by simp only [List.length_cons, List.length_nil]; omega, by omega, by omega, by omega, by omega, by omega, by simp only [List.length_append, List.length_cons, List.length_nil, List.length_drop, List.length_take]; omega, by omega, ?_⟩, fun h1 w3 hw3 ho3 => ?_⟩
  · have := hN (k + 1) (by omega) (by omega)
    rw [Glob.esc_take s k (by omega)] at this
    have e : [92] ++ List.drop k (List.take (k + 1) s) = [92, s.getD k 0] := by
      rw [List.take_succ_eq_append_getElem (by omega), List.drop_append]
      have e2 : k - min k s.length = 0 := by omega
      simp [List.getD, show k < s.length by omega, e2]
    rw [List.append_assoc, e]
    exact this
  have hk2 : s.take k = s := List.take_of_length_le (by omega)
  rw [hk2] at hlen ⊢
  refine (Match_any _ _ w3 (by omega) (by omega)).mono ?_
  rintro e w3' ⟨rfl, hw3', ho3'⟩
  refine ⟨ho3'.trans ho3, _, rfl, fun _ w4 hw4 ho4 => ?_, fun h => absurd ((Glob.match_esc s s).2 rfl) h⟩
  refine (Match_any _ _ w4 (by omega) (by omega)).mono ?_
  rintro e w4' ⟨rfl, hw4', ho4'⟩
  refine ⟨ho4'.trans ho4, _, rfl, fun _ => by simp only [List.length_cons, List.length_nil]; omega, fun _ => by omega, fun _ w5 hw5 ho5 => ?_, fun h => absurd (Glob.match_esc s t) h⟩
  refine (Match_any _ _ w5 (by simp only [List.length_append, List.length_cons, List.length_nil]; omega) (by simp only [List.length_append]; omega)).mono ?_
  rintro e w5' ⟨rfl, hw5', ho5'⟩
  refine ⟨ho5'.trans ho5, _, rfl, fun _ w6 hw6 ho6 => ?_, fun h => absurd (Glob.match_escs s t) h⟩
  refine (known_any w6).mono ?_
  rintro e w6' ⟨rfl, hw6', ho6'⟩
  refine ⟨ho6'.trans ho6, _, rfl, fun w7 hw7 ho7 => ⟨rfl, ?_, ho7⟩⟩
  rw [hw7, hw6', hw6, hw5', hw5, hw4', hw4, hw3', hw3]
end Go.Proofs.Ytilgejlgmnnckaa
