import Derived.Test.YtkcjhabbgaaknaaGreatSH0
/- Tests: no four of one kind agree in the cases of these numbers, but those that are named. -/
namespace Go.Proofs.YtkcjhabbgaaknaaGreat
set_option maxRecDepth 100000
namespace HS
theorem t96 : chk 13 1536 (exc 96) = true := by decide +kernel
theorem t97 : chk 13 1552 (exc 97) = true := by decide +kernel
theorem t98 : chk 13 1568 (exc 98) = true := by decide +kernel
theorem t99 : chk 13 1584 (exc 99) = true := by decide +kernel
theorem t100 : chk 13 1600 (exc 100) = true := by decide +kernel
theorem t101 : chk 13 1616 (exc 101) = true := by decide +kernel
theorem t102 : chk 13 1632 (exc 102) = true := by decide +kernel
theorem t103 : chk 13 1648 (exc 103) = true := by decide +kernel
theorem t104 : chk 13 1664 (exc 104) = true := by decide +kernel
theorem t105 : chk 13 1680 (exc 105) = true := by decide +kernel
theorem t106 : chk 13 1696 (exc 106) = true := by decide +kernel
theorem t107 : chk 13 1712 (exc 107) = true := by decide +kernel
theorem t108 : chk 13 1728 (exc 108) = true := by decide +kernel
theorem t109 : chk 13 1744 (exc 109) = true := by decide +kernel
theorem t110 : chk 13 1760 (exc 110) = true := by decide +kernel
theorem t111 : chk 13 1776 (exc 111) = true := by decide +kernel
theorem t112 : chk 13 1792 (exc 112) = true := by decide +kernel
theorem t113 : chk 13 1808 (exc 113) = true := by decide +kernel
theorem t114 : chk 13 1824 (exc 114) = true := by decide +kernel
theorem t115 : chk 13 1840 (exc 115) = true := by decide +kernel
theorem t116 : chk 13 1856 (exc 116) = true := by decide +kernel
theorem t117 : chk 13 1872 (exc 117) = true := by decide +kernel
theorem t118 : chk 13 1888 (exc 118) = true := by decide +kernel
theorem t119 : chk 13 1904 (exc 119) = true := by decide +kernel
theorem t120 : chk 13 1920 (exc 120) = true := by decide +kernel
theorem t121 : chk 13 1936 (exc 121) = true := by decide +kernel
theorem t122 : chk 13 1952 (exc 122) = true := by decide +kernel
theorem t123 : chk 13 1968 (exc 123) = true := by decide +kernel
theorem t124 : chk 13 1984 (exc 124) = true := by decide +kernel
theorem t125 : chk 13 2000 (exc 125) = true := by decide +kernel
theorem t126 : chk 13 2016 (exc 126) = true := by decide +kernel
theorem t127 : chk 13 2032 (exc 127) = true := by decide +kernel
theorem tests3 : ∀ k, 96 ≤ k → k < 128 → chk 13 (16 * k) (exc k) = true := by
  intro k h1 h2
  have h : k = 96 ∨ k = 97 ∨ k = 98 ∨ k = 99 ∨ k = 100 ∨ k = 101 ∨ k = 102 ∨ k = 103 ∨ k = 104 ∨ k = 105 ∨ k = 106 ∨ k = 107 ∨ k = 108 ∨ k = 109 ∨ k = 110 ∨ k = 111 ∨ k = 112 ∨ k = 113 ∨ k = 114 ∨ k = 115 ∨ k = 116 ∨ k = 117 ∨ k = 118 ∨ k = 119 ∨ k = 120 ∨ k = 121 ∨ k = 122 ∨ k = 123 ∨ k = 124 ∨ k = 125 ∨ k = 126 ∨ k = 127 := by omega
  rcases h with rfl | rfl | rfl | rfl | rfl | rfl | rfl | rfl | rfl | rfl | rfl | rfl | rfl | rfl | rfl | rfl | rfl | rfl | rfl | rfl | rfl | rfl | rfl | rfl | rfl | rfl | rfl | rfl | rfl | rfl | rfl | rfl
  · exact t96
  · exact t97
  · exact t98
  · exact t99
  · exact t100
  · exact t101
  · exact t102
  · exact t103
  · exact t104
  · exact t105
  · exact t106
  · exact t107
  · exact t108
  · exact t109
  · exact t110
  · exact t111
  · exact t112
  · exact t113
  · exact t114
  · exact t115
  · exact t116
  · exact t117
  · exact t118
  · exact t119
  · exact t120
  · exact t121
  · exact t122
  · exact t123
  · exact t124
  · exact t125
  · exact t126
  · exact t127
end HS
end Go.Proofs.YtkcjhabbgaaknaaGreat
