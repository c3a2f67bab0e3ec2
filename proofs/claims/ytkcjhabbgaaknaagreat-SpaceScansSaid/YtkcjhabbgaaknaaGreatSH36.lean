import Derived.Test.YtkcjhabbgaaknaaGreatSH0
/- Tests: no four of one kind agree in the cases of these numbers, but those that are named. -/
namespace Go.Proofs.YtkcjhabbgaaknaaGreat
set_option maxRecDepth 100000
namespace HS
theorem t192 : chk 13 3072 (exc 192) = true := by decide +kernel
theorem t193 : chk 13 3088 (exc 193) = true := by decide +kernel
theorem t194 : chk 13 3104 (exc 194) = true := by decide +kernel
theorem t195 : chk 13 3120 (exc 195) = true := by decide +kernel
theorem t196 : chk 13 3136 (exc 196) = true := by decide +kernel
theorem t197 : chk 13 3152 (exc 197) = true := by decide +kernel
theorem t198 : chk 13 3168 (exc 198) = true := by decide +kernel
theorem t199 : chk 13 3184 (exc 199) = true := by decide +kernel
theorem t200 : chk 13 3200 (exc 200) = true := by decide +kernel
theorem t201 : chk 13 3216 (exc 201) = true := by decide +kernel
theorem t202 : chk 13 3232 (exc 202) = true := by decide +kernel
theorem t203 : chk 13 3248 (exc 203) = true := by decide +kernel
theorem t204 : chk 13 3264 (exc 204) = true := by decide +kernel
theorem t205 : chk 13 3280 (exc 205) = true := by decide +kernel
theorem t206 : chk 13 3296 (exc 206) = true := by decide +kernel
theorem t207 : chk 13 3312 (exc 207) = true := by decide +kernel
theorem t208 : chk 13 3328 (exc 208) = true := by decide +kernel
theorem t209 : chk 13 3344 (exc 209) = true := by decide +kernel
theorem t210 : chk 13 3360 (exc 210) = true := by decide +kernel
theorem t211 : chk 13 3376 (exc 211) = true := by decide +kernel
theorem t212 : chk 13 3392 (exc 212) = true := by decide +kernel
theorem t213 : chk 13 3408 (exc 213) = true := by decide +kernel
theorem t214 : chk 13 3424 (exc 214) = true := by decide +kernel
theorem t215 : chk 13 3440 (exc 215) = true := by decide +kernel
theorem t216 : chk 13 3456 (exc 216) = true := by decide +kernel
theorem t217 : chk 13 3472 (exc 217) = true := by decide +kernel
theorem t218 : chk 13 3488 (exc 218) = true := by decide +kernel
theorem t219 : chk 13 3504 (exc 219) = true := by decide +kernel
theorem t220 : chk 13 3520 (exc 220) = true := by decide +kernel
theorem t221 : chk 13 3536 (exc 221) = true := by decide +kernel
theorem t222 : chk 13 3552 (exc 222) = true := by decide +kernel
theorem t223 : chk 13 3568 (exc 223) = true := by decide +kernel
theorem tests6 : ∀ k, 192 ≤ k → k < 224 → chk 13 (16 * k) (exc k) = true := by
  intro k h1 h2
  have h : k = 192 ∨ k = 193 ∨ k = 194 ∨ k = 195 ∨ k = 196 ∨ k = 197 ∨ k = 198 ∨ k = 199 ∨ k = 200 ∨ k = 201 ∨ k = 202 ∨ k = 203 ∨ k = 204 ∨ k = 205 ∨ k = 206 ∨ k = 207 ∨ k = 208 ∨ k = 209 ∨ k = 210 ∨ k = 211 ∨ k = 212 ∨ k = 213 ∨ k = 214 ∨ k = 215 ∨ k = 216 ∨ k = 217 ∨ k = 218 ∨ k = 219 ∨ k = 220 ∨ k = 221 ∨ k = 222 ∨ k = 223 := by omega
  rcases h with rfl | rfl | rfl | rfl | rfl | rfl | rfl | rfl | rfl | rfl | rfl | rfl | rfl | rfl | rfl | rfl | rfl | rfl | rfl | rfl | rfl | rfl | rfl | rfl | rfl | rfl | rfl | rfl | rfl | rfl | rfl | rfl
  · exact t192
  · exact t193
  · exact t194
  · exact t195
  · exact t196
  · exact t197
  · exact t198
  · exact t199
  · exact t200
  · exact t201
  · exact t202
  · exact t203
  · exact t204
  · exact t205
  · exact t206
  · exact t207
  · exact t208
  · exact t209
  · exact t210
  · exact t211
  · exact t212
  · exact t213
  · exact t214
  · exact t215
  · exact t216
  · exact t217
  · exact t218
  · exact t219
  · exact t220
  · exact t221
  · exact t222
  · exact t223
end HS
end Go.Proofs.YtkcjhabbgaaknaaGreat
