import Derived.Test.YtkcjhabbgaaknaaGreatSH0
/- Tests: no four of one kind agree in the cases of these numbers, but those that are named. -/
namespace Go.Proofs.YtkcjhabbgaaknaaGreat
set_option maxRecDepth 100000
namespace HS
theorem t224 : chk 13 3584 (exc 224) = true := by decide +kernel
theorem t225 : chk 13 3600 (exc 225) = true := by decide +kernel
theorem t226 : chk 13 3616 (exc 226) = true := by decide +kernel
theorem t227 : chk 13 3632 (exc 227) = true := by decide +kernel
theorem t228 : chk 13 3648 (exc 228) = true := by decide +kernel
theorem t229 : chk 13 3664 (exc 229) = true := by decide +kernel
theorem t230 : chk 13 3680 (exc 230) = true := by decide +kernel
theorem t231 : chk 13 3696 (exc 231) = true := by decide +kernel
theorem t232 : chk 13 3712 (exc 232) = true := by decide +kernel
theorem t233 : chk 13 3728 (exc 233) = true := by decide +kernel
theorem t234 : chk 13 3744 (exc 234) = true := by decide +kernel
theorem t235 : chk 13 3760 (exc 235) = true := by decide +kernel
theorem t236 : chk 13 3776 (exc 236) = true := by decide +kernel
theorem t237 : chk 13 3792 (exc 237) = true := by decide +kernel
theorem t238 : chk 13 3808 (exc 238) = true := by decide +kernel
theorem t239 : chk 13 3824 (exc 239) = true := by decide +kernel
theorem t240 : chk 13 3840 (exc 240) = true := by decide +kernel
theorem t241 : chk 13 3856 (exc 241) = true := by decide +kernel
theorem t242 : chk 13 3872 (exc 242) = true := by decide +kernel
theorem t243 : chk 13 3888 (exc 243) = true := by decide +kernel
theorem t244 : chk 13 3904 (exc 244) = true := by decide +kernel
theorem t245 : chk 13 3920 (exc 245) = true := by decide +kernel
theorem t246 : chk 13 3936 (exc 246) = true := by decide +kernel
theorem t247 : chk 13 3952 (exc 247) = true := by decide +kernel
theorem t248 : chk 13 3968 (exc 248) = true := by decide +kernel
theorem t249 : chk 13 3984 (exc 249) = true := by decide +kernel
theorem t250 : chk 13 4000 (exc 250) = true := by decide +kernel
theorem t251 : chk 13 4016 (exc 251) = true := by decide +kernel
theorem t252 : chk 13 4032 (exc 252) = true := by decide +kernel
theorem t253 : chk 13 4048 (exc 253) = true := by decide +kernel
theorem t254 : chk 13 4064 (exc 254) = true := by decide +kernel
theorem t255 : chk 13 4080 (exc 255) = true := by decide +kernel
theorem tests7 : ∀ k, 224 ≤ k → k < 256 → chk 13 (16 * k) (exc k) = true := by
  intro k h1 h2
  have h : k = 224 ∨ k = 225 ∨ k = 226 ∨ k = 227 ∨ k = 228 ∨ k = 229 ∨ k = 230 ∨ k = 231 ∨ k = 232 ∨ k = 233 ∨ k = 234 ∨ k = 235 ∨ k = 236 ∨ k = 237 ∨ k = 238 ∨ k = 239 ∨ k = 240 ∨ k = 241 ∨ k = 242 ∨ k = 243 ∨ k = 244 ∨ k = 245 ∨ k = 246 ∨ k = 247 ∨ k = 248 ∨ k = 249 ∨ k = 250 ∨ k = 251 ∨ k = 252 ∨ k = 253 ∨ k = 254 ∨ k = 255 := by omega
  rcases h with rfl | rfl | rfl | rfl | rfl | rfl | rfl | rfl | rfl | rfl | rfl | rfl | rfl | rfl | rfl | rfl | rfl | rfl | rfl | rfl | rfl | rfl | rfl | rfl | rfl | rfl | rfl | rfl | rfl | rfl | rfl | rfl
  · exact t224
  · exact t225
  · exact t226
  · exact t227
  · exact t228
  · exact t229
  · exact t230
  · exact t231
  · exact t232
  · exact t233
  · exact t234
  · exact t235
  · exact t236
  · exact t237
  · exact t238
  · exact t239
  · exact t240
  · exact t241
  · exact t242
  · exact t243
  · exact t244
  · exact t245
  · exact t246
  · exact t247
  · exact t248
  · exact t249
  · exact t250
  · exact t251
  · exact t252
  · exact t253
  · exact t254
  · exact t255
end HS
end Go.Proofs.YtkcjhabbgaaknaaGreat
