import Derived.Test.YtkcjhabbgaaknaaGreatSH0
/- Tests: no four of one kind agree in the cases of these numbers, but those that are named. -/
namespace Go.Proofs.YtkcjhabbgaaknaaGreat
set_option maxRecDepth 100000
namespace HS
theorem t32 : chk 13 512 (exc 32) = true := by decide +kernel
theorem t33 : chk 13 528 (exc 33) = true := by decide +kernel
theorem t34 : chk 13 544 (exc 34) = true := by decide +kernel
theorem t35 : chk 13 560 (exc 35) = true := by decide +kernel
theorem t36 : chk 13 576 (exc 36) = true := by decide +kernel
theorem t37 : chk 13 592 (exc 37) = true := by decide +kernel
theorem t38 : chk 13 608 (exc 38) = true := by decide +kernel
theorem t39 : chk 13 624 (exc 39) = true := by decide +kernel
theorem t40 : chk 13 640 (exc 40) = true := by decide +kernel
theorem t41 : chk 13 656 (exc 41) = true := by decide +kernel
theorem t42 : chk 13 672 (exc 42) = true := by decide +kernel
theorem t43 : chk 13 688 (exc 43) = true := by decide +kernel
theorem t44 : chk 13 704 (exc 44) = true := by decide +kernel
theorem t45 : chk 13 720 (exc 45) = true := by decide +kernel
theorem t46 : chk 13 736 (exc 46) = true := by decide +kernel
theorem t47 : chk 13 752 (exc 47) = true := by decide +kernel
theorem t48 : chk 13 768 (exc 48) = true := by decide +kernel
theorem t49 : chk 13 784 (exc 49) = true := by decide +kernel
theorem t50 : chk 13 800 (exc 50) = true := by decide +kernel
theorem t51 : chk 13 816 (exc 51) = true := by decide +kernel
theorem t52 : chk 13 832 (exc 52) = true := by decide +kernel
theorem t53 : chk 13 848 (exc 53) = true := by decide +kernel
theorem t54 : chk 13 864 (exc 54) = true := by decide +kernel
theorem t55 : chk 13 880 (exc 55) = true := by decide +kernel
theorem t56 : chk 13 896 (exc 56) = true := by decide +kernel
theorem t57 : chk 13 912 (exc 57) = true := by decide +kernel
theorem t58 : chk 13 928 (exc 58) = true := by decide +kernel
theorem t59 : chk 13 944 (exc 59) = true := by decide +kernel
theorem t60 : chk 13 960 (exc 60) = true := by decide +kernel
theorem t61 : chk 13 976 (exc 61) = true := by decide +kernel
theorem t62 : chk 13 992 (exc 62) = true := by decide +kernel
theorem t63 : chk 13 1008 (exc 63) = true := by decide +kernel
theorem tests1 : ∀ k, 32 ≤ k → k < 64 → chk 13 (16 * k) (exc k) = true := by
  intro k h1 h2
  have h : k = 32 ∨ k = 33 ∨ k = 34 ∨ k = 35 ∨ k = 36 ∨ k = 37 ∨ k = 38 ∨ k = 39 ∨ k = 40 ∨ k = 41 ∨ k = 42 ∨ k = 43 ∨ k = 44 ∨ k = 45 ∨ k = 46 ∨ k = 47 ∨ k = 48 ∨ k = 49 ∨ k = 50 ∨ k = 51 ∨ k = 52 ∨ k = 53 ∨ k = 54 ∨ k = 55 ∨ k = 56 ∨ k = 57 ∨ k = 58 ∨ k = 59 ∨ k = 60 ∨ k = 61 ∨ k = 62 ∨ k = 63 := by omega
  rcases h with rfl | rfl | rfl | rfl | rfl | rfl | rfl | rfl | rfl | rfl | rfl | rfl | rfl | rfl | rfl | rfl | rfl | rfl | rfl | rfl | rfl | rfl | rfl | rfl | rfl | rfl | rfl | rfl | rfl | rfl | rfl | rfl
  · exact t32
  · exact t33
  · exact t34
  · exact t35
  · exact t36
  · exact t37
  · exact t38
  · exact t39
  · exact t40
  · exact t41
  · exact t42
  · exact t43
  · exact t44
  · exact t45
  · exact t46
  · exact t47
  · exact t48
  · exact t49
  · exact t50
  · exact t51
  · exact t52
  · exact t53
  · exact t54
  · exact t55
  · exact t56
  · exact t57
  · exact t58
  · exact t59
  · exact t60
  · exact t61
  · exact t62
  · exact t63
end HS
end Go.Proofs.YtkcjhabbgaaknaaGreat
