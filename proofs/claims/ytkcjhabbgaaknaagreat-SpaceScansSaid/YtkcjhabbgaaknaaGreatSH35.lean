import Derived.Test.YtkcjhabbgaaknaaGreatSH0
/- Tests: no four of one kind agree in the cases of these numbers, but those that are named. -/
namespace Go.Proofs.YtkcjhabbgaaknaaGreat
set_option maxRecDepth 100000
namespace HS
theorem t160 : chk 13 2560 (exc 160) = true := by decide +kernel
theorem t161 : chk 13 2576 (exc 161) = true := by decide +kernel
theorem t162 : chk 13 2592 (exc 162) = true := by decide +kernel
theorem t163 : chk 13 2608 (exc 163) = true := by decide +kernel
theorem t164 : chk 13 2624 (exc 164) = true := by decide +kernel
theorem t165 : chk 13 2640 (exc 165) = true := by decide +kernel
theorem t166 : chk 13 2656 (exc 166) = true := by decide +kernel
theorem t167 : chk 13 2672 (exc 167) = true := by decide +kernel
theorem t168 : chk 13 2688 (exc 168) = true := by decide +kernel
theorem t169 : chk 13 2704 (exc 169) = true := by decide +kernel
theorem t170 : chk 13 2720 (exc 170) = true := by decide +kernel
theorem t171 : chk 13 2736 (exc 171) = true := by decide +kernel
theorem t172 : chk 13 2752 (exc 172) = true := by decide +kernel
theorem t173 : chk 13 2768 (exc 173) = true := by decide +kernel
theorem t174 : chk 13 2784 (exc 174) = true := by decide +kernel
theorem t175 : chk 13 2800 (exc 175) = true := by decide +kernel
theorem t176 : chk 13 2816 (exc 176) = true := by decide +kernel
theorem t177 : chk 13 2832 (exc 177) = true := by decide +kernel
theorem t178 : chk 13 2848 (exc 178) = true := by decide +kernel
theorem t179 : chk 13 2864 (exc 179) = true := by decide +kernel
theorem t180 : chk 13 2880 (exc 180) = true := by decide +kernel
theorem t181 : chk 13 2896 (exc 181) = true := by decide +kernel
theorem t182 : chk 13 2912 (exc 182) = true := by decide +kernel
theorem t183 : chk 13 2928 (exc 183) = true := by decide +kernel
theorem t184 : chk 13 2944 (exc 184) = true := by decide +kernel
theorem t185 : chk 13 2960 (exc 185) = true := by decide +kernel
theorem t186 : chk 13 2976 (exc 186) = true := by decide +kernel
theorem t187 : chk 13 2992 (exc 187) = true := by decide +kernel
theorem t188 : chk 13 3008 (exc 188) = true := by decide +kernel
theorem t189 : chk 13 3024 (exc 189) = true := by decide +kernel
theorem t190 : chk 13 3040 (exc 190) = true := by decide +kernel
theorem t191 : chk 13 3056 (exc 191) = true := by decide +kernel
theorem tests5 : ∀ k, 160 ≤ k → k < 192 → chk 13 (16 * k) (exc k) = true := by
  intro k h1 h2
  have h : k = 160 ∨ k = 161 ∨ k = 162 ∨ k = 163 ∨ k = 164 ∨ k = 165 ∨ k = 166 ∨ k = 167 ∨ k = 168 ∨ k = 169 ∨ k = 170 ∨ k = 171 ∨ k = 172 ∨ k = 173 ∨ k = 174 ∨ k = 175 ∨ k = 176 ∨ k = 177 ∨ k = 178 ∨ k = 179 ∨ k = 180 ∨ k = 181 ∨ k = 182 ∨ k = 183 ∨ k = 184 ∨ k = 185 ∨ k = 186 ∨ k = 187 ∨ k = 188 ∨ k = 189 ∨ k = 190 ∨ k = 191 := by omega
  rcases h with rfl | rfl | rfl | rfl | rfl | rfl | rfl | rfl | rfl | rfl | rfl | rfl | rfl | rfl | rfl | rfl | rfl | rfl | rfl | rfl | rfl | rfl | rfl | rfl | rfl | rfl | rfl | rfl | rfl | rfl | rfl | rfl
  · exact t160
  · exact t161
  · exact t162
  · exact t163
  · exact t164
  · exact t165
  · exact t166
  · exact t167
  · exact t168
  · exact t169
  · exact t170
  · exact t171
  · exact t172
  · exact t173
  · exact t174
  · exact t175
  · exact t176
  · exact t177
  · exact t178
  · exact t179
  · exact t180
  · exact t181
  · exact t182
  · exact t183
  · exact t184
  · exact t185
  · exact t186
  · exact t187
  · exact t188
  · exact t189
  · exact t190
  · exact t191
end HS
end Go.Proofs.YtkcjhabbgaaknaaGreat
