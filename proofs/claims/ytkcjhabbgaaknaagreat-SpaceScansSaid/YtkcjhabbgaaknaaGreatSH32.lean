import Derived.Test.YtkcjhabbgaaknaaGreatSH0
/- Tests: no four of one kind agree in the cases of these numbers, but those that are named. -/
namespace Go.Proofs.YtkcjhabbgaaknaaGreat
set_option maxRecDepth 100000
namespace HS
theorem t64 : chk 13 1024 (exc 64) = true := by decide +kernel
theorem t65 : chk 13 1040 (exc 65) = true := by decide +kernel
theorem t66 : chk 13 1056 (exc 66) = true := by decide +kernel
theorem t67 : chk 13 1072 (exc 67) = true := by decide +kernel
theorem t68 : chk 13 1088 (exc 68) = true := by decide +kernel
theorem t69 : chk 13 1104 (exc 69) = true := by decide +kernel
theorem t70 : chk 13 1120 (exc 70) = true := by decide +kernel
theorem t71 : chk 13 1136 (exc 71) = true := by decide +kernel
theorem t72 : chk 13 1152 (exc 72) = true := by decide +kernel
theorem t73 : chk 13 1168 (exc 73) = true := by decide +kernel
theorem t74 : chk 13 1184 (exc 74) = true := by decide +kernel
theorem t75 : chk 13 1200 (exc 75) = true := by decide +kernel
theorem t76 : chk 13 1216 (exc 76) = true := by decide +kernel
theorem t77 : chk 13 1232 (exc 77) = true := by decide +kernel
theorem t78 : chk 13 1248 (exc 78) = true := by decide +kernel
theorem t79 : chk 13 1264 (exc 79) = true := by decide +kernel
theorem t80 : chk 13 1280 (exc 80) = true := by decide +kernel
theorem t81 : chk 13 1296 (exc 81) = true := by decide +kernel
theorem t82 : chk 13 1312 (exc 82) = true := by decide +kernel
theorem t83 : chk 13 1328 (exc 83) = true := by decide +kernel
theorem t84 : chk 13 1344 (exc 84) = true := by decide +kernel
theorem t85 : chk 13 1360 (exc 85) = true := by decide +kernel
theorem t86 : chk 13 1376 (exc 86) = true := by decide +kernel
theorem t87 : chk 13 1392 (exc 87) = true := by decide +kernel
theorem t88 : chk 13 1408 (exc 88) = true := by decide +kernel
theorem t89 : chk 13 1424 (exc 89) = true := by decide +kernel
theorem t90 : chk 13 1440 (exc 90) = true := by decide +kernel
theorem t91 : chk 13 1456 (exc 91) = true := by decide +kernel
theorem t92 : chk 13 1472 (exc 92) = true := by decide +kernel
theorem t93 : chk 13 1488 (exc 93) = true := by decide +kernel
theorem t94 : chk 13 1504 (exc 94) = true := by decide +kernel
theorem t95 : chk 13 1520 (exc 95) = true := by decide +kernel
theorem tests2 : ∀ k, 64 ≤ k → k < 96 → chk 13 (16 * k) (exc k) = true := by
  intro k h1 h2
  have h : k = 64 ∨ k = 65 ∨ k = 66 ∨ k = 67 ∨ k = 68 ∨ k = 69 ∨ k = 70 ∨ k = 71 ∨ k = 72 ∨ k = 73 ∨ k = 74 ∨ k = 75 ∨ k = 76 ∨ k = 77 ∨ k = 78 ∨ k = 79 ∨ k = 80 ∨ k = 81 ∨ k = 82 ∨ k = 83 ∨ k = 84 ∨ k = 85 ∨ k = 86 ∨ k = 87 ∨ k = 88 ∨ k = 89 ∨ k = 90 ∨ k = 91 ∨ k = 92 ∨ k = 93 ∨ k = 94 ∨ k = 95 := by omega
  rcases h with rfl | rfl | rfl | rfl | rfl | rfl | rfl | rfl | rfl | rfl | rfl | rfl | rfl | rfl | rfl | rfl | rfl | rfl | rfl | rfl | rfl | rfl | rfl | rfl | rfl | rfl | rfl | rfl | rfl | rfl | rfl | rfl
  · exact t64
  · exact t65
  · exact t66
  · exact t67
  · exact t68
  · exact t69
  · exact t70
  · exact t71
  · exact t72
  · exact t73
  · exact t74
  · exact t75
  · exact t76
  · exact t77
  · exact t78
  · exact t79
  · exact t80
  · exact t81
  · exact t82
  · exact t83
  · exact t84
  · exact t85
  · exact t86
  · exact t87
  · exact t88
  · exact t89
  · exact t90
  · exact t91
  · exact t92
  · exact t93
  · exact t94
  · exact t95
end HS
end Go.Proofs.YtkcjhabbgaaknaaGreat
