import Derived.Test.YtjffhomcgpigpaaDoorC3
/- The law CmdNumbers: its second half. -/
namespace Go.Proofs.YtjffhomcgpigpaaDoor
open E
set_option maxRecDepth 100000
abbrev p5 : List Nat := [1, 1, 1, 1, 1]
abbrev o5 : Opts := { cuts := [p5] }
def manyW (x : List UInt8) : List (List UInt8) := x :: List.replicate 257 []
theorem copies_one (n : Nat) (z : Value) : copies n [z] = List.replicate n z := by unfold copies; simp
theorem copies_many : copies 258 [.string (bs (bytesOf []))] = strs (manyW []) := by
  rw [copies_one]; unfold strs manyW; rw [List.map_cons, List.map_replicate, List.replicate_succ]; rfl
theorem many_len (x : List UInt8) : (manyW x).length = 258 := by simp [manyW]
theorem many_set (x y : List UInt8) : (strs (manyW x)).set 0 (.string (bs y)) = strs (manyW y) := by simp [strs, manyW]
def four : List (List UInt8) := [bytesOf [100, 101, 108], bytesOf [109, 115, 101, 116], bytesOf [104, 115, 101, 116], bytesOf [109, 103, 101, 116]]
theorem four_short : ∀ s ∈ four, s.length ≤ 100 := by decide +kernel
theorem u8s_zero (n : Nat) : u8s (List.replicate n 0) = copies n [.int .u8 0] := by rw [copies_one]; simp [u8s]
theorem zrow (h : Heap) (n : Nat) : row (h.push (.cells (copies n [.int .u8 0]).toArray 5)) (some ⟨h.size, 0, none⟩) (u8s (List.replicate n 0)) := by
  rw [u8s_zero]; exact (CellsAt.made h _ 5).row
theorem zlen (n : Nat) (hn : n ≤ 9223372036854775807) : ∀ s ∈ [List.replicate n (0 : UInt8)], s.length ≤ 9223372036854775807 := by
  intro s hs; rw [List.mem_singleton.1 hs, List.length_replicate]; exact hn
theorem zlen2 (t : List UInt8) (ht : t.length ≤ 9223372036854775807) (n : Nat) (hn : n ≤ 9223372036854775807) : ∀ s ∈ [t, List.replicate n (0 : UInt8)], s.length ≤ 9223372036854775807 := by
  intro s hs
  rcases List.mem_cons.1 hs with rfl | hs
  · exact ht
  · exact zlen n hn s hs
theorem many_row {h : Heap} {b : Nat} {x : List UInt8} (H : CellsAt h b 0 (strs (manyW x))) (k : Nat) : StrRow h (some ⟨b, 0, none⟩) ((manyW x).take k) := by
  refine .inr ⟨b, 0, rfl, fun j v hj => ?_⟩
  unfold strs at hj
  rw [List.map_take, List.getElem?_take] at hj
  split at hj
  · exact H.get hj
  · cases hj
theorem many_short {x : List UInt8} (hx : x.length ≤ 100) (k : Nat) : ∀ s ∈ (manyW x).take k, s.length ≤ 9223372036854775807 := by
  intro s hs
  have := List.mem_of_mem_take hs
  unfold manyW at this
  rcases List.mem_cons.1 this with rfl | h
  · omega
  · rw [(List.mem_replicate.1 h).2]; simp
theorem CmdNumbers_tail (w : World) (hg : get w.heap 0 0 = some et) (h : Heap) (hx : Ext w.heap h) :
    AtCut Tryd.prog (c5 o5) Tryd.f5 (RetX (.bool true) w.heap (outw w)) p5 [] [] h (outw w) := by
  refine cutting (k5 o5) [] [] { h := fun _ => h, o := outw w } 1 1000 rfl rfl rfl rfl trivial ?_
  conv => arg 7; reduce
  simp only [VC.den, BE.prop, IE.den, NE.den, SE.den, SV.den, HE.den, PE.den, WS.den, List.map_cons, List.map_nil, Int.cast_ofNat_Int, reduceIte, Nat.reduceEqDiff, Env.setH, Env.setN]
  refine ⟨by omega, by omega, by omega, by omega, fun hcn hfr => ?_⟩
  have e258 : Int.toNat 258 = 258 := rfl
  rw [e258] at hcn hfr ⊢
  have hmany : CellsAt (h.push (.cells (copies 258 [.string (bs (bytesOf []))]).toArray 9)) h.size 0 (strs (manyW [])) := by
    have := CellsAt.made h (copies 258 [.string (bs (bytesOf []))]) 9
    rw [copies_many] at this ⊢
    exact this
  have hm2 := hmany.push (.cells #[.string (bs (bytesOf [100, 101, 108])), .string (bs (bytesOf [109, 115, 101, 116])), .string (bs (bytesOf [104, 115, 101, 116])), .string (bs (bytesOf [109, 103, 101, 116]))] 9)
  have hXm := (ext_push h (.cells (copies 258 [.string (bs (bytesOf []))]).toArray 9)).trans (ext_push _ (.cells #[.string (bs (bytesOf [100, 101, 108])), .string (bs (bytesOf [109, 115, 101, 116])), .string (bs (bytesOf [104, 115, 101, 116])), .string (bs (bytesOf [109, 103, 101, 116]))] 9))
  have hbn : (h.push (.cells (copies 258 [.string (bs (bytesOf []))]).toArray 9)).size = h.size + 1 := by simp
  rw [hbn] at hcn ⊢
  generalize (h.push (.cells (copies 258 [.string (bs (bytesOf []))]).toArray 9)).push (.cells #[.string (bs (bytesOf [100, 101, 108])), .string (bs (bytesOf [109, 115, 101, 116])), .string (bs (bytesOf [104, 115, 101, 116])), .string (bs (bytesOf [109, 103, 101, 116]))] 9) = h1 at *
  refine looping (k5 o5) [.slice (.at (.v 0) (.c 0)) (.c 258) (.c 258), .slice (.at (.v 1) (.c 0)) (.c 4) (.c 4), .int .i64 (.c 4), .int .i64 (.ofN (.v 2))] []
    (fun y : Nat × List UInt8 × Heap => { n := fun j => if j = 0 then h.size else if j = 1 then h.size + 1 else y.1, h := fun _ => y.2.2, o := outw w }) 3 1000
    (fun y => y.1 ≤ 4 ∧ y.2.1.length ≤ 100 ∧ Ext h y.2.2 ∧ CellsAt y.2.2 h.size 0 (strs (manyW y.2.1)) ∧ CellsAt y.2.2 (h.size + 1) 0 (strs four)) (fun y => 4 - y.1) (0, [], h1) ⟨by simp, by simp, hXm, hm2, hcn⟩ rfl (by simp [SV.den, PE.den, IE.den, NE.den]) rfl (fun _ => rfl) (fun _ _ => trivial) ?_
  have hx0 := hx
  clear hx
  rintro ⟨i, x, h2⟩ ⟨hi, hxl, hx, hcm, hcn⟩ N hN
  simp only at hi hxl hx hcm hcn
  simp only [SV.den, PE.den, NE.den, IE.den, List.map_cons, List.map_nil, reduceIte, Nat.reduceEqDiff] at hN
  conv => arg 7; reduce
  simp only [VC.den, BE.prop, IE.den, NE.den, SE.den, SV.den, HE.den, PE.den, BE.den, WS.den, WI.den, List.map_cons, List.map_nil, Int.cast_ofNat_Int, reduceIte, Nat.reduceEqDiff, Env.setE, Env.setH, Env.setB, Env.setS, Env.setN, inK_i64]
  refine ⟨fun h1 => ?_, fun h1 => ?_⟩
  · have hlt : i < four.length := by show i < 4; omega
    have hsh := four_short _ (List.getElem_mem hlt)
    have hget : get h2 (h.size + 1) i = some (.string (bs four[i])) := hcn.at0 (by unfold strs; simp [hlt])
    have hwr := hcm.wr0 (j := 0) (by simp [strs_length, many_len])
    have hset := hcm.set0 0 (.string (bs four[i]))
    rw [many_set] at hset
    have hXs := ext_setc hx (Nat.le_refl _) 0 (.string (bs four[i]))
    have hcs := (hcn.ne (b' := h.size) (by omega) 0 (.string (bs four[i])))
    have hXw := hx0.trans hXs
    refine ⟨h1, _, hget, hwr.1, hwr.2, ?_⟩
    intro w1 hw1 ho1
    have hC1 := checks_any ((manyW four[i]).take 255) (some ⟨h.size, 0, none⟩) 258 w1 (by rw [hw1]; exact get_ext hXw hg) (by rw [hw1]; exact many_row hset 255) (by rw [List.length_take, many_len]; omega) (many_short hsh 255)
    rw [List.length_take, many_len] at hC1
    refine hC1.mono ?_
    rintro e1 v1 ⟨rfl, hx1, hp1⟩
    rw [hw1] at hx1
    refine ⟨hp1.trans ho1, hx1, _, rfl, fun h => absurd rfl h, fun _ => ?_⟩
    have hX1 := hXw.trans hx1
    have hM1 := hx1.cellsAt hset
    intro w2 hw2 ho2
    have hC2 := checks_any ((manyW four[i]).take 256) (some ⟨h.size, 0, none⟩) 258 w2 (by rw [hw2]; exact get_ext hX1 hg) (by rw [hw2]; exact many_row hM1 256) (by rw [List.length_take, many_len]; omega) (many_short hsh 256)
    rw [List.length_take, many_len] at hC2
    refine hC2.mono ?_
    rintro e2 v2 ⟨rfl, hx2, hp2⟩
    rw [hw2] at hx2
    refine ⟨hp2.trans ho2, hx2, _, rfl, fun h => absurd rfl h, fun _ => ?_⟩
    have hX2 := hX1.trans hx2
    have hM2 := hx2.cellsAt hM1
    intro w3 hw3 ho3
    have hC3 := checks_any ((manyW four[i]).take 257) (some ⟨h.size, 0, none⟩) 258 w3 (by rw [hw3]; exact get_ext hX2 hg) (by rw [hw3]; exact many_row hM2 257) (by rw [List.length_take, many_len]; omega) (many_short hsh 257)
    rw [List.length_take, many_len] at hC3
    refine hC3.mono ?_
    rintro e3 v3 ⟨rfl, hx3, hp3⟩
    rw [hw3] at hx3
    refine ⟨hp3.trans ho3, hx3, _, rfl, fun h => absurd rfl h, fun _ => ?_⟩
    have hX3 := hX2.trans hx3
    have hM3 := hx3.cellsAt hM2
    intro w4 hw4 ho4
    have hC4 := checks_any ((manyW four[i]).take 258) (some ⟨h.size, 0, none⟩) 258 w4 (by rw [hw4]; exact get_ext hX3 hg) (by rw [hw4]; exact many_row hM3 258) (by rw [List.length_take, many_len]; omega) (many_short hsh 258)
    rw [List.length_take, many_len] at hC4
    refine hC4.mono ?_
    rintro e4 v4 ⟨rfl, hx4, hp4⟩
    rw [hw4] at hx4
    refine ⟨hp4.trans ho4, hx4, _, rfl, fun h => absurd rfl h, fun _ => ?_⟩
    have hX4 := hX3.trans hx4
    have hM4 := hx4.cellsAt hM3
    have hxl := hx1.trans (hx2.trans (hx3.trans hx4))
    have hne : h.size ≠ h.size + 1 := by omega
    refine ⟨by omega, fun _ => ?_⟩
    have := hN (i + 1, four[i], v4.heap) ⟨by simp only; omega, hsh, hXs.trans hxl, hM4, hxl.cellsAt hcs⟩ (by simp only; omega)
    simp only [Int.natCast_add, Int.cast_ofNat_Int] at this
    exact this
  · intro w1 hw1 ho1
    have hX1 := hx0.trans hx
    refine (checks_any [] none 0 w1 (by rw [hw1]; exact get_ext hX1 hg) (.inl rfl) (by simp) nofun).mono ?_
    rintro e1 v1 ⟨rfl, hx1, hp1⟩
    rw [hw1] at hx1
    refine ⟨hp1.trans ho1, hx1, _, rfl, fun _ hc1 w2 hw2 ho2 => ?_, fun h => absurd rfl h⟩
    have hX2 := (hX1.trans hx1).trans (ext_push v1.heap (.cells #[.string (bs (bytesOf []))] 9))
    refine (checks_any [[]] _ 1 w2 (by rw [hw2]; exact get_ext hX2 hg) (by rw [hw2]; exact hc1.row) (by simp) (by simp)).mono ?_
    rintro e2 v2 ⟨rfl, hx2, hp2⟩
    rw [hw2] at hx2
    refine ⟨hp2.trans ho2, hx2, _, rfl, fun _ => ?_, fun h => absurd rfl h⟩
    have hX2' := hX2.trans hx2
    refine ⟨by omega, by omega, by omega, by omega, List.replicate (Int.toNat 5000) 0, by rw [List.length_replicate], zrow _ _, fun hc3 w3 hw3 ho3 => ?_⟩
    have hX3 := (hX2'.trans (ext_push v2.heap (.cells (copies (Int.toNat 5000) [.int .u8 0]).toArray 5))).trans (ext_push _ (.cells #[.string (bs (List.replicate (Int.toNat 5000) 0))] 9))
    refine (checks_any [List.replicate (Int.toNat 5000) 0] _ 1 w3 (by rw [hw3]; exact get_ext hX3 hg) (by rw [hw3]; exact hc3.row) (by simp) (zlen _ (by decide))).mono ?_
    rintro e3 v3 ⟨rfl, hx3, hp3⟩
    rw [hw3] at hx3
    refine ⟨hp3.trans ho3, hx3, _, rfl, fun _ => ?_, fun h => absurd rfl h⟩
    have hX3' := hX3.trans hx3
    refine ⟨by omega, by omega, by omega, by omega, List.replicate (Int.toNat 4097) 0, by rw [List.length_replicate], zrow _ _, fun hc4 w4 hw4 ho4 => ?_⟩
    have hX4 := (hX3'.trans (ext_push v3.heap (.cells (copies (Int.toNat 4097) [.int .u8 0]).toArray 5))).trans (ext_push _ (.cells #[.string (bs (bytesOf [103, 101, 116])), .string (bs (List.replicate (Int.toNat 4097) 0))] 9))
    refine (checks_any [bytesOf [103, 101, 116], List.replicate (Int.toNat 4097) 0] _ 2 w4 (by rw [hw4]; exact get_ext hX4 hg) (by rw [hw4]; exact hc4.row) (by simp) (zlen2 _ (by decide) _ (by decide))).mono ?_
    rintro e4 v4 ⟨rfl, hx4, hp4⟩
    rw [hw4] at hx4
    refine ⟨hp4.trans ho4, hx4, _, rfl, fun _ => ?_, fun h => absurd rfl h⟩
    have hX4' := hX4.trans hx4
    refine ⟨by omega, by omega, by omega, by omega, List.replicate (Int.toNat 4096) 0, by rw [List.length_replicate], zrow _ _, fun hc5 w5 hw5 ho5 => ?_⟩
    have hX5 := (hX4'.trans (ext_push v4.heap (.cells (copies (Int.toNat 4096) [.int .u8 0]).toArray 5))).trans (ext_push _ (.cells #[.string (bs (bytesOf [103, 101, 116])), .string (bs (List.replicate (Int.toNat 4096) 0))] 9))
    refine (checks_any [bytesOf [103, 101, 116], List.replicate (Int.toNat 4096) 0] _ 2 w5 (by rw [hw5]; exact get_ext hX5 hg) (by rw [hw5]; exact hc5.row) (by simp) (zlen2 _ (by decide) _ (by decide))).mono ?_
    rintro e5 v5 ⟨rfl, hx5, hp5⟩
    rw [hw5] at hx5
    refine ⟨hp5.trans ho5, hx5, _, rfl, fun _ => ?_, fun h => absurd rfl h⟩
    have hX5' := hX5.trans hx5
    intro w6 hw6 ho6
    refine (known_any w6 (by rw [hw6]; exact get_ext hX5' hg)).mono ?_
    rintro e6 v6 ⟨rfl, hx6, hp6⟩
    rw [hw6] at hx6
    exact ⟨hp6.trans ho6, hx6, _, rfl, fun _ w7 hw7 ho7 => ⟨rfl, by rw [hw7]; exact hX5'.trans hx6, ho7⟩⟩
end Go.Proofs.YtjffhomcgpigpaaDoor
