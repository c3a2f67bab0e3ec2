import Derived.Test.YtkcjhabbgaaknaaGreatSH0
/- Tests: no four of one kind agree in the cases of these numbers, but those that are named. -/
namespace Go.Proofs.YtkcjhabbgaaknaaGreat
set_option maxRecDepth 100000
namespace HS
theorem t128 : chk 13 2048 (exc 128) = true := by decide +kernel
theorem t129 : chk 13 2064 (exc 129) = true := by decide +kernel
theorem t130 : chk 13 2080 (exc 130) = true := by decide +kernel
theorem t131 : chk 13 2096 (exc 131) = true := by decide +kernel
theorem t132 : chk 13 2112 (exc 132) = true := by decide +kernel
theorem t133 : chk 13 2128 (exc 133) = true := by decide +kernel
theorem t134 : chk 13 2144 (exc 134) = true := by decide +kernel
theorem t135 : chk 13 2160 (exc 135) = true := by decide +kernel
theorem t136 : chk 13 2176 (exc 136) = true := by decide +kernel
theorem t137 : chk 13 2192 (exc 137) = true := by decide +kernel
theorem t138 : chk 13 2208 (exc 138) = true := by decide +kernel
theorem t139 : chk 13 2224 (exc 139) = true := by decide +kernel
theorem t140 : chk 13 2240 (exc 140) = true := by decide +kernel
theorem t141 : chk 13 2256 (exc 141) = true := by decide +kernel
theorem t142 : chk 13 2272 (exc 142) = true := by decide +kernel
theorem t143 : chk 13 2288 (exc 143) = true := by decide +kernel
theorem t144 : chk 13 2304 (exc 144) = true := by decide +kernel
theorem t145 : chk 13 2320 (exc 145) = true := by decide +kernel
theorem t146 : chk 13 2336 (exc 146) = true := by decide +kernel
theorem t147 : chk 13 2352 (exc 147) = true := by decide +kernel
theorem t148 : chk 13 2368 (exc 148) = true := by decide +kernel
theorem t149 : chk 13 2384 (exc 149) = true := by decide +kernel
theorem t150 : chk 13 2400 (exc 150) = true := by decide +kernel
theorem t151 : chk 13 2416 (exc 151) = true := by decide +kernel
theorem t152 : chk 13 2432 (exc 152) = true := by decide +kernel
theorem t153 : chk 13 2448 (exc 153) = true := by decide +kernel
theorem t154 : chk 13 2464 (exc 154) = true := by decide +kernel
theorem t155 : chk 13 2480 (exc 155) = true := by decide +kernel
theorem t156 : chk 13 2496 (exc 156) = true := by decide +kernel
theorem t157 : chk 13 2512 (exc 157) = true := by decide +kernel
theorem t158 : chk 13 2528 (exc 158) = true := by decide +kernel
theorem t159 : chk 13 2544 (exc 159) = true := by decide +kernel
theorem tests4 : ∀ k, 128 ≤ k → k < 160 → chk 13 (16 * k) (exc k) = true := by
  intro k h1 h2
  have h : k = 128 ∨ k = 129 ∨ k = 130 ∨ k = 131 ∨ k = 132 ∨ k = 133 ∨ k = 134 ∨ k = 135 ∨ k = 136 ∨ k = 137 ∨ k = 138 ∨ k = 139 ∨ k = 140 ∨ k = 141 ∨ k = 142 ∨ k = 143 ∨ k = 144 ∨ k = 145 ∨ k = 146 ∨ k = 147 ∨ k = 148 ∨ k = 149 ∨ k = 150 ∨ k = 151 ∨ k = 152 ∨ k = 153 ∨ k = 154 ∨ k = 155 ∨ k = 156 ∨ k = 157 ∨ k = 158 ∨ k = 159 := by omega
  rcases h with rfl | rfl | rfl | rfl | rfl | rfl | rfl | rfl | rfl | rfl | rfl | rfl | rfl | rfl | rfl | rfl | rfl | rfl | rfl | rfl | rfl | rfl | rfl | rfl | rfl | rfl | rfl | rfl | rfl | rfl | rfl | rfl
  · exact t128
  · exact t129
  · exact t130
  · exact t131
  · exact t132
  · exact t133
  · exact t134
  · exact t135
  · exact t136
  · exact t137
  · exact t138
  · exact t139
  · exact t140
  · exact t141
  · exact t142
  · exact t143
  · exact t144
  · exact t145
  · exact t146
  · exact t147
  · exact t148
  · exact t149
  · exact t150
  · exact t151
  · exact t152
  · exact t153
  · exact t154
  · exact t155
  · exact t156
  · exact t157
  · exact t158
  · exact t159
end HS
end Go.Proofs.YtkcjhabbgaaknaaGreat
