import Derived.Test.YtilgejlgmnnckaaW8
namespace Go.Proofs.Ytilgejlgmnnckaa
open E
set_option maxRecDepth 100000
theorem Cut_any (s : List UInt8) (n : Nat) (w : World) :
    Calls Try.prog 9 #[.string (bs s), .int .i64 n] w (Ret (.string (bs (s.take n))) w.heap (outw w)) := by
  refine begins (k9 []) [.str (.v 0), .int .i64 (.ofN (.v 0))] { s := fun _ => s, n := fun _ => n, h := fun _ => w.heap, o := outw w } 1 1000 rfl rfl rfl (by simp [SV.den, SE.den, IE.den, NE.den]) ?_
  conv => arg 7; reduce
  simp only [VC.den, BE.prop, IE.den, NE.den, SE.den, SV.den, HE.den, BE.den, List.map_cons, List.map_nil, Int.cast_ofNat_Int]
  refine ⟨fun h => ⟨by omega, by omega, fun w1 hw1 ho1 => ⟨by simp, hw1, ho1⟩⟩, fun h w1 hw1 ho1 => ⟨?_, hw1, ho1⟩⟩
  rw [List.take_of_length_le (by omega)]

theorem Within_any (n : Int) (lo hi : Nat) (hn : inK .i64 n) (hlo : lo ≤ hi) (hhi : hi ≤ 4294967296) (w : World) :
    Calls Try.prog 10 #[.int .i64 n, .int .i64 lo, .int .i64 hi] w fun e w' => (∃ k : Nat, lo ≤ k ∧ k ≤ hi ∧ e = .returned (.int .i64 k)) ∧ w'.heap = w.heap ∧ outw w' = outw w := by
  refine begins (k10 []) [.int .i64 (.v 0), .int .i64 (.ofN (.v 0)), .int .i64 (.ofN (.v 1))] { i := fun _ => n, n := fun j => if j = 0 then lo else hi, h := fun _ => w.heap, o := outw w } 2 1000 rfl rfl rfl (by simp [SV.den, IE.den, NE.den]) ?_
  rw [inK_i64] at hn
  conv => arg 7; reduce
  simp only [VC.den, BE.prop, IE.den, NE.den, SE.den, SV.den, HE.den, BE.den, List.map_cons, List.map_nil, Int.cast_ofNat_Int, reduceIte, Nat.reduceEqDiff, inK_i64]
  have hpos : (0 : Int) < (hi : Int) - lo + 1 := by omega
  have h1 := Int.tmod_lt_of_pos n hpos
  have h2 : -((hi : Int) - lo + 1) < n.tmod ((hi : Int) - lo + 1) := by
    have := Int.tmod_lt_of_pos (-n) hpos
    rw [Int.neg_tmod] at this
    omega
  generalize n.tmod ((hi : Int) - lo + 1) = r at h1 h2
  refine ⟨by omega, by omega, by omega, fun h3 => ⟨by omega, by omega, by omega, by omega, fun w1 hw1 ho1 => ⟨⟨(lo + (r + hi - lo + 1)).toNat, by omega, by omega, ?_⟩, hw1, ho1⟩⟩, fun h3 => ⟨by omega, fun w1 hw1 ho1 => ⟨⟨(lo + r).toNat, by omega, by omega, ?_⟩, hw1, ho1⟩⟩⟩
  · rw [Int.toNat_of_nonneg (by omega)]
  · rw [Int.toNat_of_nonneg (by omega)]

theorem Plain_any (p : List UInt8) (w : World) (hp : p.length ≤ 1000000000000) :
    Calls Try.prog 14 #[.string (bs p)] w (Ret (.bool (p.all fun a => !(a == 42 || a == 63 || a == 91 || a == 92))) w.heap (outw w)) := by
  refine begins (k14 []) [.str (.v 0)] { s := fun _ => p, h := fun _ => w.heap, o := outw w } 1 1000 rfl rfl rfl (by simp [SV.den, SE.den]) ?_
  conv => arg 7; reduce
  simp only [VC.den, BE.prop, IE.den, NE.den, SE.den, SV.den, HE.den, BE.den, List.map_cons, List.map_nil, Int.cast_ofNat_Int]
  refine looping (k14 []) [.str (.v 0), .int .i64 (.ofN (.v 0)), .int .i64 (.ofN (.v 1))] (fun x : Nat => { s := fun _ => p, n := fun j => if j = 0 then p.length else x, h := fun _ => w.heap, o := outw w }) 2 1000
    (fun x => x ≤ p.length ∧ (p.all fun a => !(a == 42 || a == 63 || a == 91 || a == 92)) = ((p.drop x).all fun a => !(a == 42 || a == 63 || a == 91 || a == 92))) (fun x => p.length - x) 0 ⟨by omega, by simp⟩ rfl (by simp [SV.den, SE.den, IE.den, NE.den]) rfl (fun _ => rfl) ?_
  intro k ⟨hk, hI⟩ N hN
  conv => arg 7; reduce
  simp only [VC.den, BE.prop, IE.den, NE.den, SE.den, SV.den, HE.den, BE.den, List.map_cons, List.map_nil, Int.cast_ofNat_Int, reduceIte, Nat.reduceEqDiff, inK_i64, u8n _ 42 (by omega), u8n _ 63 (by omega), u8n _ 91 (by omega), u8n _ 92 (by omega)]
  simp only [SV.den, SE.den, IE.den, NE.den, List.map_cons, List.map_nil, reduceIte, Nat.reduceEqDiff] at hN
  have hfalse : k < p.length → (p.getD k 0 = 42 ∨ p.getD k 0 = 63 ∨ p.getD k 0 = 91 ∨ p.getD k 0 = 92) → (p.all fun a => !(a == 42 || a == 63 || a == 91 || a == 92)) = false := by
    intro h1 h2
    rw [hI, dropC p k h1, List.all_cons]
    rcases h2 with h2 | h2 | h2 | h2 <;> rw [h2] <;> rfl
  refine ⟨fun h1 => ⟨by omega, by omega, fun h2 => ⟨fun _ w1 hw1 ho1 => ⟨?_, hw1, ho1⟩, fun h => absurd h2 h⟩, fun h2 => ⟨fun h3 => ⟨fun _ w1 hw1 ho1 => ⟨?_, hw1, ho1⟩, fun h => absurd h3 h⟩, fun h3 => ⟨fun h4 => ⟨fun _ w1 hw1 ho1 => ⟨?_, hw1, ho1⟩, fun h => absurd h4 h⟩, fun h4 => ⟨fun h5 w1 hw1 ho1 => ⟨?_, hw1, ho1⟩, fun h5 => ⟨by omega, ?_⟩⟩⟩⟩⟩, fun h1 w1 hw1 ho1 => ⟨?_, hw1, ho1⟩⟩
  · rw [hfalse (by omega) (.inl h2)]
  · rw [hfalse (by omega) (.inr (.inl h3))]
  · rw [hfalse (by omega) (.inr (.inr (.inl h4)))]
  · rw [hfalse (by omega) (.inr (.inr (.inr h5)))]
  · refine hN (k + 1) ⟨by omega, ?_⟩ (by omega)
    rw [hI, dropC p k (by omega), List.all_cons]
    have : (!(p.getD k 0 == 42 || p.getD k 0 == 63 || p.getD k 0 == 91 || p.getD k 0 == 92)) = true := by
      simp only [Bool.not_eq_true', Bool.or_eq_false_iff, beq_eq_false_iff_ne]
      exact ⟨⟨⟨h2, h3⟩, h4⟩, h5⟩
    rw [this, Bool.true_and]
  · rw [hI, dropE p k (by omega)]; rfl

theorem known1 : Glob.match' (bytesOf [104, 91, 94, 97, 93, 42, 111]) (bytesOf [104, 101, 108, 108, 111]) = true := by simp [Glob.match', Glob.toks, Glob.one, Glob.classS, Glob.cls, Glob.mm, bytesOf]
theorem known2 : Glob.match' (bytesOf []) (bytesOf []) = true := by simp [Glob.match', Glob.toks, Glob.mm, bytesOf]
theorem known3 : Glob.match' (bytesOf [91, 122, 45, 97, 93]) (bytesOf [109]) = true := by simp [Glob.match', Glob.toks, Glob.one, Glob.classS, Glob.cls, Glob.mm, bytesOf]; decide
theorem known4 : Glob.match' (bytesOf [97]) (bytesOf []) = false := by simp [Glob.match', Glob.toks, Glob.mm, bytesOf]
theorem known5 : Glob.match' (bytesOf [104, 91, 94, 97, 93, 42, 111]) (bytesOf [104, 97, 108, 108, 111]) = false := by simp [Glob.match', Glob.toks, Glob.one, Glob.classS, Glob.cls, Glob.mm, bytesOf]
theorem known_any (w : World) : Calls Try.prog 13 #[] w (Ret (.bool true) w.heap (outw w)) := by
  refine begins (k13 []) [] { h := fun _ => w.heap, o := outw w } 1 1000 rfl rfl rfl (by simp) ?_
  conv => arg 7; reduce
  simp only [VC.den, BE.prop, IE.den, NE.den, SE.den, SV.den, HE.den, BE.den, List.map_cons, List.map_nil, Int.cast_ofNat_Int, reduceIte, Nat.reduceEqDiff, Env.setE, Env.setH, Env.setB]
  intro w1 hw1 ho1
  refine (Match_any _ _ w1 (by decide) (by decide)).mono ?_
  rintro e w1' ⟨rfl, hw1', ho1'⟩
  refine ⟨ho1'.trans ho1, _, rfl, fun _ w2 hw2 ho2 => ?_, fun h => absurd known1 h⟩
  refine (Match_any _ _ w2 (by decide) (by decide)).mono ?_
  rintro e w2' ⟨rfl, hw2', ho2'⟩
  refine ⟨ho2'.trans ho2, _, rfl, fun _ w3 hw3 ho3 => ?_, fun h => absurd known2 h⟩
  refine (Match_any _ _ w3 (by decide) (by decide)).mono ?_
  rintro e w3' ⟨rfl, hw3', ho3'⟩
  refine ⟨ho3'.trans ho3, _, rfl, fun _ w4 hw4 ho4 => ?_, fun h => absurd known3 h⟩
  refine (Match_any _ _ w4 (by decide) (by decide)).mono ?_
  rintro e w4' ⟨rfl, hw4', ho4'⟩
  refine ⟨ho4'.trans ho4, _, rfl, fun _ w5 hw5 ho5 => ?_, fun h => absurd known4 (by simpa using h)⟩
  refine (Match_any _ _ w5 (by decide) (by decide)).mono ?_
  rintro e w5' ⟨rfl, hw5', ho5'⟩
  refine ⟨ho5'.trans ho5, _, rfl, fun w6 hw6 ho6 => ⟨?_, ?_, ho6⟩⟩
  · rw [known5]; rfl
  · rw [hw6, hw5', hw5, hw4', hw4, hw3', hw3, hw2', hw2, hw1', hw1]
end Go.Proofs.Ytilgejlgmnnckaa
