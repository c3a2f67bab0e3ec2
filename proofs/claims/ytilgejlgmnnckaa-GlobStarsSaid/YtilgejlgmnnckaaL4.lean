import Derived.Test.YtilgejlgmnnckaaL2
namespace Go.Proofs.Ytilgejlgmnnckaa
open E
set_option maxRecDepth 100000
/-- A letter of a .. z for a byte. -/
def letter (a : UInt8) : UInt8 := 97 + a % 26
def plainT (l : List UInt8) : Prop := ∀ a ∈ l, 97 ≤ a ∧ a ≤ 122
theorem letter_range (a : UInt8) : 97 ≤ letter a ∧ letter a ≤ 122 := by
  have h : ∀ n : Fin 256, 97 ≤ letter (UInt8.ofNat n.val) ∧ letter (UInt8.ofNat n.val) ≤ 122 := by decide
  have := h ⟨a.toNat, UInt8.toNat_lt a⟩
  simpa using this
theorem letter_utf8 (a : UInt8) : inK .i32 (IntKind.u8.wrap (97 + (a.toNat : Int).tmod 26)) ∧ utf8 (IntKind.u8.wrap (97 + (a.toNat : Int).tmod 26)) = [letter a] := by
  have h : ∀ n : Fin 256, inK .i32 (IntKind.u8.wrap (97 + (n.val : Int).tmod 26)) ∧ utf8 (IntKind.u8.wrap (97 + (n.val : Int).tmod 26)) = [letter (UInt8.ofNat n.val)] := by decide +kernel
  have := h ⟨a.toNat, UInt8.toNat_lt a⟩
  simpa using this
theorem letters_take (l : List UInt8) (i : Nat) (h : i < l.length) : (l.take (i + 1)).map letter = (l.take i).map letter ++ [letter (l.getD i 0)] := by
  rw [List.take_succ_eq_append_getElem h, List.map_append]; simp only [List.map_cons, List.map_nil, List.getD, h, List.getElem?_eq_getElem, Option.getD_some]
theorem Glob.toks_plain (r : List UInt8) : ∀ l : List UInt8, plainT l → Glob.toks (l ++ r) = (l.map fun a => some (fun c => a == c)) ++ Glob.toks r
  | [], _ => rfl
  | a :: l, h => by
    have ha := h a List.mem_cons_self
    have h1 : ¬ a = 42 := by rintro rfl; exact absurd ha.1 (by decide)
    have h2 : ¬ a = 63 := by rintro rfl; exact absurd ha.1 (by decide)
    have h3 : ¬ a = 91 := by rintro rfl; exact absurd ha.1 (by decide)
    have h4 : ¬ a = 92 := by rintro rfl; exact absurd ha.1 (by decide)
    rw [List.cons_append, Glob.toks_one a _ h1 0]
    have e : ∀ c, Glob.one (a :: (l ++ r)) c = (a == c, l ++ r) := fun c => Glob.one_p a _ c h2 h3 h4
    simp only [e]
    rw [Glob.toks_plain r l (fun x hx => h x (List.mem_cons_of_mem _ hx))]
    rfl
theorem Glob.match_plain (l t : List UInt8) (h : plainT l) : Glob.match' l t = true ↔ l = t := by
  have := Glob.toks_plain [] l h
  rw [List.append_nil, Glob.toks] at this
  unfold Glob.match'
  rw [this, Glob.mm_eqs]
  simp only [Glob.mm_nil]
  constructor
  · rintro ⟨u, h, rfl⟩; simpa using h.symm
  · rintro rfl; exact ⟨[], by simp, rfl⟩
theorem Glob.match_plain_star (l t : List UInt8) (h : plainT l) : Glob.match' (l ++ [42]) (l ++ t) = true := by
  unfold Glob.match'
  rw [Glob.toks_plain _ _ h, Glob.mm_eqs, Glob.toks_star, Glob.toks]
  exact ⟨t, rfl, Glob.mm_all t⟩
theorem Glob.match_star_any (s : List UInt8) : Glob.match' [42] s = true := by
  unfold Glob.match'
  rw [Glob.toks_star, Glob.toks]
  exact Glob.mm_all s
theorem Glob.match_star_plain (l t : List UInt8) (h : plainT l) : Glob.match' (42 :: l) (t ++ l) = true := by
  have := Glob.toks_plain [] l h
  rw [List.append_nil, Glob.toks] at this
  unfold Glob.match'
  rw [Glob.toks_star, this, Glob.mm_star]
  refine ⟨t.length, by simp, ?_⟩
  rw [List.drop_left, Glob.mm_eqs]
  exact ⟨[], by simp, (Glob.mm_nil _).2 rfl⟩
theorem Glob.match_star_plain_star (l t u : List UInt8) (h : plainT l) : Glob.match' (42 :: l ++ [42]) (t ++ l ++ u) = true := by
  unfold Glob.match'
  rw [List.cons_append, Glob.toks_star, Glob.toks_plain _ _ h, Glob.mm_star]
  refine ⟨t.length, by simp, ?_⟩
  rw [List.append_assoc, List.drop_left, Glob.mm_eqs, Glob.toks_star, Glob.toks]
  exact ⟨u, rfl, Glob.mm_all u⟩
theorem plain_all (l : List UInt8) (h : plainT l) : (l.all fun a => !(a == 42 || a == 63 || a == 91 || a == 92)) = true := by
  rw [List.all_eq_true]
  intro a ha
  have := h a ha
  simp only [Bool.not_eq_true', Bool.or_eq_false_iff, beq_eq_false_iff_ne]
  refine ⟨⟨⟨?_, ?_⟩, ?_⟩, ?_⟩ <;> (rintro rfl; exact absurd this.1 (by decide))
theorem plain_map (l : List UInt8) : plainT (l.map letter) := by
  intro a ha
  obtain ⟨b, _, rfl⟩ := List.mem_map.1 ha
  exact letter_range b

theorem Stars_any (s t : List UInt8) (w : World) (hs : s.length ≤ 9223372036854775807) :
    Calls Try.prog 8 #[.string (bs s), .string (bs t)] w (Ret (.bool true) w.heap (outw w)) := by
  refine begins (k8 []) [.str (.v 0), .str (.v 1)] { s := fun j => if j = 0 then s else t, h := fun _ => w.heap, o := outw w } 2 1000 rfl rfl rfl (by simp [SV.den, SE.den]) ?_
  conv => arg 7; reduce
  simp only [VC.den, BE.prop, IE.den, NE.den, SE.den, SV.den, HE.den, PE.den, BE.den, List.map_cons, List.map_nil, Int.cast_ofNat_Int, reduceIte, Nat.reduceEqDiff]
  refine looping (k8 []) [.str (.v 0), .str (.v 1), .str (.v 2), .str (.lit []), .int .i64 (.ofN (.v 0))]
    (fun x : Nat => { s := fun j => if j = 0 then s else if j = 1 then t else (s.take x).map letter, n := fun _ => x, h := fun _ => w.heap, o := outw w }) 3 1000
    (fun x => x ≤ s.length ∧ x ≤ 20) (fun x => 20 - x) 0 ⟨by simp, by simp⟩ rfl (by simp [SV.den, SE.den, IE.den, NE.den, bytesOf]) rfl (fun _ => rfl) ?_
  intro i ⟨hi, hi2⟩ N hN
  conv => arg 7; reduce
  simp only [VC.den, BE.prop, IE.den, NE.den, SE.den, SV.den, HE.den, PE.den, BE.den, List.map_cons, List.map_nil, Int.cast_ofNat_Int, reduceIte, Nat.reduceEqDiff, inK_i64]
  simp only [SV.den, SE.den, PE.den, NE.den, IE.den, BE.den, List.map_cons, List.map_nil, reduceIte, Nat.reduceEqDiff] at hN
  have hlen : ((s.take i).map letter).length ≤ 20 := by simp; omega
  obtain ⟨hu1, hu2⟩ := letter_utf8 (s.getD i 0)
  refine ⟨fun ⟨h1, h2⟩ => ⟨by omega, by omega, by omega, hu1, by rw [hu2]; simp only [List.length_cons, List.length_nil]; omega, by omega, ?_⟩, fun h1 => ?_⟩
  · rw [hu2, ← letters_take s i (by omega)]
    exact hN (i + 1) ⟨by omega, by omega⟩ (by omega)
  have hpa := plain_map (s.take i)
  generalize (s.take i).map letter = a at hlen hpa
  refine looping (k8 []) [.str (.v 0), .str (.v 1), .str (.v 2), .str (.v 3), .int .i64 (.ofN (.v 0))]
    (fun x : Nat => { s := fun j => if j = 0 then s else if j = 1 then t else if j = 2 then a else (t.take x).map letter, n := fun _ => x, h := fun _ => w.heap, o := outw w }) 4 1000
    (fun x => x ≤ t.length ∧ x ≤ 20) (fun x => 20 - x) 0 ⟨by simp, by simp⟩ rfl (by simp [SV.den, SE.den, IE.den, NE.den, bytesOf]) rfl (fun _ => rfl) ?_
  intro j ⟨hj, hj2⟩ N2 hN2
  conv => arg 7; reduce
  simp only [VC.den, BE.prop, IE.den, NE.den, SE.den, SV.den, HE.den, PE.den, BE.den, List.map_cons, List.map_nil, Int.cast_ofNat_Int, reduceIte, Nat.reduceEqDiff, inK_i64, Env.setE, Env.setH, Env.setB, Env.setS, Env.setI, Env.setN]
  simp only [SV.den, SE.den, PE.den, NE.den, IE.den, BE.den, List.map_cons, List.map_nil, reduceIte, Nat.reduceEqDiff] at hN2
  have hlen2 : ((t.take j).map letter).length ≤ 20 := by simp; omega
  obtain ⟨hv1, hv2⟩ := letter_utf8 (t.getD j 0)
  refine ⟨fun ⟨h1, h2⟩ => ⟨by omega, by omega, by omega, hv1, by rw [hv2]; simp only [List.length_cons, List.length_nil]; omega, by omega, ?_⟩, fun h1 => ?_⟩
  · rw [hv2, ← letters_take t j (by omega)]
    exact hN2 (j + 1) ⟨by omega, by omega⟩ (by omega)
  have hpb := plain_map (t.take j)
  generalize (t.take j).map letter = b at hlen2 hpb
  have h42 : bytesOf [42] = [42] := rfl
  rw [h42]
  intro w1 hw1 ho1
  refine (Match_any [42] s w1 (by simp) (by omega)).mono ?_
  rintro e w1' ⟨rfl, hw1', ho1'⟩
  refine ⟨ho1'.trans ho1, _, rfl, fun _ w2 hw2 ho2 => ?_, fun h => absurd (Glob.match_star_any s) h⟩
  refine (Plain_any a w2 (by omega)).mono ?_
  rintro e w2' ⟨rfl, hw2', ho2'⟩
  refine ⟨ho2'.trans ho2, _, rfl, fun _ w3 hw3 ho3 => ?_, fun h => absurd (plain_all a hpa) h⟩
  refine (Match_any a a w3 (by omega) (by omega)).mono ?_
  rintro e w3' ⟨rfl, hw3', ho3'⟩
  refine ⟨ho3'.trans ho3, _, rfl, fun _ w4 hw4 ho4 => ?_, fun h => absurd ((Glob.match_plain a a hpa).2 rfl) h⟩
  refine (Match_any a b w4 (by omega) (by omega)).mono ?_
  rintro e w4' ⟨rfl, hw4', ho4'⟩
  refine ⟨ho4'.trans ho4, _, rfl, fun _ => by first | omega | (simp only [List.length_append, List.length_cons, List.length_nil]; omega), fun _ => by first | omega | (simp only [List.length_append, List.length_cons, List.length_nil]; omega), fun _ w5 hw5 ho5 => ?_, fun h => absurd (Glob.match_plain a b hpa) h⟩
  refine (Match_any (a ++ [42]) (a ++ b) w5 (by simp only [List.length_append, List.length_cons, List.length_nil]; omega) (by simp only [List.length_append, List.length_cons, List.length_nil]; omega)).mono ?_
  rintro e w5' ⟨rfl, hw5', ho5'⟩
  refine ⟨ho5'.trans ho5, _, rfl, fun _ => by first | omega | (simp only [List.length_append, List.length_cons, List.length_nil]; omega), fun _ => by first | omega | (simp only [List.length_append, List.length_cons, List.length_nil]; omega), fun _ w6 hw6 ho6 => ?_, fun h => absurd (Glob.match_plain_star a b hpa) h⟩
  refine (Match_any ([42] ++ b) (a ++ b) w6 (by simp only [List.length_append, List.length_cons, List.length_nil]; omega) (by simp only [List.length_append, List.length_cons, List.length_nil]; omega)).mono ?_
  rintro e w6' ⟨rfl, hw6', ho6'⟩
  refine ⟨ho6'.trans ho6, _, rfl, fun _ => by first | omega | (simp only [List.length_append, List.length_cons, List.length_nil]; omega), fun _ => by first | omega | (simp only [List.length_append, List.length_cons, List.length_nil]; omega), fun _ => by first | omega | (simp only [List.length_append, List.length_cons, List.length_nil]; omega), fun _ => by first | omega | (simp only [List.length_append, List.length_cons, List.length_nil]; omega), fun _ w7 hw7 ho7 => ?_, fun h => absurd (Glob.match_star_plain b a hpb) h⟩
  refine (Match_any ([42] ++ a ++ [42]) (b ++ a ++ b) w7 (by simp only [List.length_append, List.length_cons, List.length_nil]; omega) (by simp only [List.length_append, List.length_cons, List.length_nil]; omega)).mono ?_
  rintro e w7' ⟨rfl, hw7', ho7'⟩
  refine ⟨ho7'.trans ho7, _, rfl, fun _ w8 hw8 ho8 => ?_, fun h => absurd (Glob.match_star_plain_star a b b hpa) h⟩
  refine (known_any w8).mono ?_
  rintro e w8' ⟨rfl, hw8', ho8'⟩
  refine ⟨ho8'.trans ho8, _, rfl, fun w9 hw9 ho9 => ⟨rfl, ?_, ho9⟩⟩
  rw [hw9, hw8', hw8, hw7', hw7, hw6', hw6, hw5', hw5, hw4', hw4, hw3', hw3, hw2', hw2, hw1', hw1]
end Go.Proofs.Ytilgejlgmnnckaa
