import GoSem.Claim
namespace Go.Proofs.Ytilgejlgmnnckaa
namespace Glob

def cls (c : UInt8) : Bool → List UInt8 → Bool × List UInt8
  | has, [] => (has, [])
  | has, [a] => if a = 93 then (has, []) else (has || a == c, [])
  | has, [a, b] => if a = 93 then (has, [b]) else if a = 92 then (has || b == c, []) else cls c (has || a == c) [b]
  | has, a :: b :: d :: r =>
    if a = 93 then (has, b :: d :: r)
    else if a = 92 then cls c (has || b == c) (d :: r)
    else if b = 45 ∧ d ≠ 93 then cls c (has || (decide (min a d ≤ c) && decide (c ≤ max a d))) r
    else cls c (has || a == c) (b :: d :: r)

def classS (p : List UInt8) (c : UInt8) : Bool × List UInt8 :=
  match p with
  | 94 :: r => let x := cls c false r; (!x.1, x.2)
  | r => cls c false r

theorem cls_end (c : UInt8) (has : Bool) : cls c has [] = (has, []) := by simp [cls]
theorem cls_close (c : UInt8) (has : Bool) (r : List UInt8) : cls c has (93 :: r) = (has, r) := by
  match r with
  | [] => simp [cls]
  | [b] => simp [cls]
  | b :: d :: t => simp [cls]
theorem cls_esc (c b : UInt8) (has : Bool) (r : List UInt8) : cls c has (92 :: b :: r) = cls c (has || b == c) r := by
  match r with
  | [] => simp [cls]
  | d :: t => simp [cls]
theorem cls_range (c a d : UInt8) (has : Bool) (r : List UInt8) (h : a ≠ 93) (h2 : a ≠ 92) (h3 : d ≠ 93) :
    cls c has (a :: 45 :: d :: r) = cls c (has || (decide (min a d ≤ c) && decide (c ≤ max a d))) r := by simp [cls, h, h2, h3]
theorem cls_plain (c a : UInt8) (has : Bool) (r : List UInt8) (h : a ≠ 93) (h2 : a ≠ 92 ∨ r = []) (h3 : ∀ d t, r = 45 :: d :: t → d = 93) :
    cls c has (a :: r) = cls c (has || a == c) r := by
  match r with
  | [] => simp [cls, h]
  | [b] => rcases h2 with h2 | h2
           · simp [cls, h, h2]
           · cases h2
  | b :: d :: t =>
    rcases h2 with h2 | h2
    · have : ¬ (b = 45 ∧ d ≠ 93) := by
        rintro ⟨rfl, hd⟩; exact hd (h3 _ _ rfl)
      rw [cls]
      simp [h, h2, this]
    · cases h2
end Glob
end Go.Proofs.Ytilgejlgmnnckaa
