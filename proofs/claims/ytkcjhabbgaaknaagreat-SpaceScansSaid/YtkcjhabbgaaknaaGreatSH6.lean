import Derived.Test.YtkcjhabbgaaknaaGreatSH4
/- In the named cases no ten agree. -/
namespace Go.Proofs.YtkcjhabbgaaknaaGreat
set_option maxRecDepth 100000
namespace HS
theorem ex0 : (List.range 64).all exAll = true := by decide +kernel
theorem ex1 : ((List.range 64).all fun i => exAll (64 + i)) = true := by decide +kernel
theorem ex2 : ((List.range 64).all fun i => exAll (128 + i)) = true := by decide +kernel
theorem ex3 : ((List.range 64).all fun i => exAll (192 + i)) = true := by decide +kernel
theorem exAll_ok (k : Nat) (h : k < 256) : exAll k = true := by
  have e0 := List.all_eq_true.1 ex0
  have e1 := List.all_eq_true.1 ex1
  have e2 := List.all_eq_true.1 ex2
  have e3 := List.all_eq_true.1 ex3
  by_cases h1 : k < 64
  · exact e0 k (List.mem_range.2 h1)
  · by_cases h2 : k < 128
    · have := e1 (k - 64) (List.mem_range.2 (by omega))
      rwa [show 64 + (k - 64) = k by omega] at this
    · by_cases h3 : k < 192
      · have := e2 (k - 128) (List.mem_range.2 (by omega))
        rwa [show 128 + (k - 128) = k by omega] at this
      · have := e3 (k - 192) (List.mem_range.2 (by omega))
        rwa [show 192 + (k - 192) = k by omega] at this
end HS
end Go.Proofs.YtkcjhabbgaaknaaGreat
