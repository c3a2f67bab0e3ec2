import Derived.Test.YtilgejlgmnnckaaW4
namespace Go.Proofs.Ytilgejlgmnnckaa
open E
set_option maxRecDepth 100000
def Glob.one (p : List UInt8) (c : UInt8) : Bool × List UInt8 := match p with
  | [] => (false, [])
  | a :: r => if a = 63 then (true, r) else if a = 91 then Glob.classS r c else if a = 92 then (match r with | b :: t => (b == c, t) | [] => (a == c, [])) else (a == c, r)

theorem Glob.cls_le (c : UInt8) : ∀ (n : Nat) (has : Bool) (p : List UInt8), p.length ≤ n → (Glob.cls c has p).2.length ≤ p.length := by
  intro n
  induction n with
  | zero => intro has p hp; cases p with
    | nil => simp [Glob.cls]
    | cons a r => simp at hp
  | succ n ih =>
    intro has p hp
    match p with
    | [] => simp [Glob.cls]
    | [a] => simp only [Glob.cls]; split <;> simp
    | [a, b] =>
      simp only [Glob.cls]
      split
      · simp
      · split
        · simp
        · split <;> simp
    | a :: b :: d :: r =>
      simp only [List.length_cons] at hp
      rw [Glob.cls]
      split
      · simp
      · split
        · have := ih (has || b == c) (d :: r) (by simp; omega)
          simp only [List.length_cons] at this ⊢; omega
        · split
          · have := ih (has || (decide (min a d ≤ c) && decide (c ≤ max a d))) r (by omega)
            simp only [List.length_cons] at this ⊢; omega
          · have := ih (has || a == c) (b :: d :: r) (by simp; omega)
            simp only [List.length_cons] at this ⊢; omega
theorem Glob.classS_le (p : List UInt8) (c : UInt8) : (Glob.classS p c).2.length ≤ p.length := by
  unfold Glob.classS
  split
  · rename_i r
    have := Glob.cls_le c _ false r (Nat.le_refl _)
    simp only [List.length_cons]; omega
  · exact Glob.cls_le c _ false p (Nat.le_refl _)
theorem Glob.one_lt (a : UInt8) (r : List UInt8) (c : UInt8) : (Glob.one (a :: r) c).2.length ≤ r.length := by
  simp only [Glob.one]
  split
  · exact Nat.le_refl _
  · split
    · exact Glob.classS_le r c
    · split
      · split <;> simp
      · exact Nat.le_refl _

theorem Glob.one_q (r : List UInt8) (c : UInt8) : Glob.one (63 :: r) c = (true, r) := rfl
theorem Glob.one_b (r : List UInt8) (c : UInt8) : Glob.one (91 :: r) c = Glob.classS r c := rfl
theorem Glob.one_e (b : UInt8) (r : List UInt8) (c : UInt8) : Glob.one (92 :: b :: r) c = (b == c, r) := rfl
theorem Glob.one_e0 (c : UInt8) : Glob.one [92] c = (92 == c, []) := rfl
theorem Glob.one_p (a : UInt8) (r : List UInt8) (c : UInt8) (h1 : ¬ a = 63) (h2 : ¬ a = 91) (h3 : ¬ a = 92) : Glob.one (a :: r) c = (a == c, r) := by simp only [Glob.one]; rw [if_neg h1, if_neg h2, if_neg h3]

theorem one_any (p : List UInt8) (c : UInt8) (w : World) (hs : p.length ≤ 1000000000) (h0 : 0 < p.length) :
    Calls Try.prog 15 #[.string (bs p), .int .u8 c.toNat] w (Ret (.tuple #[.bool (Glob.one p c).1, .int .i64 ((p.length : Int) - (Glob.one p c).2.length)]) w.heap (outw w)) := by
  refine begins (k15 []) [.str (.v 0), .int .u8 (.v 0)] { s := fun _ => p, i := fun _ => c.toNat, h := fun _ => w.heap, o := outw w } 1 1000 rfl rfl rfl (by simp [SV.den, SE.den, IE.den]) ?_
  conv => arg 7; reduce
  simp only [VC.den, BE.prop, IE.den, NE.den, SE.den, SV.den, HE.den, BE.den, List.map_cons, List.map_nil, Int.cast_ofNat_Int, u8eq, u8n _ 63 (by omega), u8n _ 91 (by omega), u8n _ 92 (by omega), Env.setE, Env.setH, Env.setI, Env.setB, reduceIte]
  obtain ⟨a, r, rfl⟩ : ∃ a r, p = a :: r := by cases p with | nil => simp at h0 | cons a r => exact ⟨a, r, rfl⟩
  simp only [List.getD_cons_zero, List.getD_cons_succ, List.drop_succ_cons, List.drop_zero, List.length_cons]
  simp only [List.length_cons] at hs
  refine ⟨by omega, by omega, fun h1 w1 hw1 ho1 => ⟨?_, hw1, ho1⟩, fun h1 => ⟨fun h2 => ⟨by omega, by omega, fun w1 hw1 ho1 => ?_⟩, fun h2 => ⟨fun h3 => ⟨fun h4 => ⟨by omega, by omega, fun w1 hw1 ho1 => ⟨?_, hw1, ho1⟩⟩, fun h4 => ⟨by omega, by omega, fun w1 hw1 ho1 => ⟨?_, hw1, ho1⟩⟩⟩, fun h3 => ⟨by omega, by omega, fun w1 hw1 ho1 => ⟨?_, hw1, ho1⟩⟩⟩⟩⟩
  · rw [show a = 63 from h1, Glob.one_q]
    simp only [Ending.returned.injEq, Value.tuple.injEq, Array.mk.injEq, List.cons.injEq, Value.int.injEq, and_true, true_and]
    omega
  · refine (class_any r c w1 (by omega)).mono ?_
    intro e w' ⟨he, hw', ho'⟩
    have hle := Glob.classS_le r c
    refine ⟨by rw [ho', ho1], _, _, he, by rw [inK_i64]; omega, fun w2 hw2 ho2 => ⟨?_, by rw [hw2, hw', hw1], ho2⟩⟩
    rw [show a = 91 from h2, Glob.one_b]
    simp only [Ending.returned.injEq, Value.tuple.injEq, Array.mk.injEq, List.cons.injEq, Value.int.injEq, and_true, true_and]
    omega
  · obtain ⟨b, t, rfl⟩ : ∃ b t, r = b :: t := by cases r with | nil => simp at h4 | cons b t => exact ⟨b, t, rfl⟩
    rw [show a = 92 from h3, Glob.one_e]
    simp only [List.getD_cons_zero, List.length_cons, Ending.returned.injEq, Value.tuple.injEq, Array.mk.injEq, List.cons.injEq, Value.int.injEq, and_true, true_and]
    refine ⟨rfl, by omega⟩
  · obtain rfl : r = [] := by cases r with | nil => rfl | cons b t => simp at h4; omega
    rw [show a = 92 from h3, Glob.one_e0]
    rfl
  · rw [Glob.one_p a r c h1 h2 h3]
    simp only [Ending.returned.injEq, Value.tuple.injEq, Array.mk.injEq, List.cons.injEq, Value.int.injEq, and_true, true_and]
    refine ⟨rfl, by omega⟩
end Go.Proofs.Ytilgejlgmnnckaa
