import Derived.Test.YtkcjhabbgaaknaaGreatSH0
/- Tests: no four of one kind agree in the cases of these numbers, but those that are named. -/
namespace Go.Proofs.YtkcjhabbgaaknaaGreat
set_option maxRecDepth 100000
namespace HS
theorem t0 : chk 13 0 (exc 0) = true := by decide +kernel
theorem t1 : chk 13 16 (exc 1) = true := by decide +kernel
theorem t2 : chk 13 32 (exc 2) = true := by decide +kernel
theorem t3 : chk 13 48 (exc 3) = true := by decide +kernel
theorem t4 : chk 13 64 (exc 4) = true := by decide +kernel
theorem t5 : chk 13 80 (exc 5) = true := by decide +kernel
theorem t6 : chk 13 96 (exc 6) = true := by decide +kernel
theorem t7 : chk 13 112 (exc 7) = true := by decide +kernel
theorem t8 : chk 13 128 (exc 8) = true := by decide +kernel
theorem t9 : chk 13 144 (exc 9) = true := by decide +kernel
theorem t10 : chk 13 160 (exc 10) = true := by decide +kernel
theorem t11 : chk 13 176 (exc 11) = true := by decide +kernel
theorem t12 : chk 13 192 (exc 12) = true := by decide +kernel
theorem t13 : chk 13 208 (exc 13) = true := by decide +kernel
theorem t14 : chk 13 224 (exc 14) = true := by decide +kernel
theorem t15 : chk 13 240 (exc 15) = true := by decide +kernel
theorem t16 : chk 13 256 (exc 16) = true := by decide +kernel
theorem t17 : chk 13 272 (exc 17) = true := by decide +kernel
theorem t18 : chk 13 288 (exc 18) = true := by decide +kernel
theorem t19 : chk 13 304 (exc 19) = true := by decide +kernel
theorem t20 : chk 13 320 (exc 20) = true := by decide +kernel
theorem t21 : chk 13 336 (exc 21) = true := by decide +kernel
theorem t22 : chk 13 352 (exc 22) = true := by decide +kernel
theorem t23 : chk 13 368 (exc 23) = true := by decide +kernel
theorem t24 : chk 13 384 (exc 24) = true := by decide +kernel
theorem t25 : chk 13 400 (exc 25) = true := by decide +kernel
theorem t26 : chk 13 416 (exc 26) = true := by decide +kernel
theorem t27 : chk 13 432 (exc 27) = true := by decide +kernel
theorem t28 : chk 13 448 (exc 28) = true := by decide +kernel
theorem t29 : chk 13 464 (exc 29) = true := by decide +kernel
theorem t30 : chk 13 480 (exc 30) = true := by decide +kernel
theorem t31 : chk 13 496 (exc 31) = true := by decide +kernel
theorem tests0 : ∀ k, 0 ≤ k → k < 32 → chk 13 (16 * k) (exc k) = true := by
  intro k h1 h2
  have h : k = 0 ∨ k = 1 ∨ k = 2 ∨ k = 3 ∨ k = 4 ∨ k = 5 ∨ k = 6 ∨ k = 7 ∨ k = 8 ∨ k = 9 ∨ k = 10 ∨ k = 11 ∨ k = 12 ∨ k = 13 ∨ k = 14 ∨ k = 15 ∨ k = 16 ∨ k = 17 ∨ k = 18 ∨ k = 19 ∨ k = 20 ∨ k = 21 ∨ k = 22 ∨ k = 23 ∨ k = 24 ∨ k = 25 ∨ k = 26 ∨ k = 27 ∨ k = 28 ∨ k = 29 ∨ k = 30 ∨ k = 31 := by omega
  rcases h with rfl | rfl | rfl | rfl | rfl | rfl | rfl | rfl | rfl | rfl | rfl | rfl | rfl | rfl | rfl | rfl | rfl | rfl | rfl | rfl | rfl | rfl | rfl | rfl | rfl | rfl | rfl | rfl | rfl | rfl | rfl | rfl
  · exact t0
  · exact t1
  · exact t2
  · exact t3
  · exact t4
  · exact t5
  · exact t6
  · exact t7
  · exact t8
  · exact t9
  · exact t10
  · exact t11
  · exact t12
  · exact t13
  · exact t14
  · exact t15
  · exact t16
  · exact t17
  · exact t18
  · exact t19
  · exact t20
  · exact t21
  · exact t22
  · exact t23
  · exact t24
  · exact t25
  · exact t26
  · exact t27
  · exact t28
  · exact t29
  · exact t30
  · exact t31
end HS
end Go.Proofs.YtkcjhabbgaaknaaGreat
