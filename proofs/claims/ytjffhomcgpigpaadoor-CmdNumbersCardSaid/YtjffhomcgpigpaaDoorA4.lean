import Derived.Test.YtjffhomcgpigpaaDoorA3
/- The document's table, read: words parted by blanks. -/
namespace Go.Proofs.YtjffhomcgpigpaaDoor
open E
set_option maxRecDepth 100000
/-- Words parted by blanks; cur: what the word has so far. -/
def wd : List UInt8 → List UInt8 → List (List UInt8)
  | cur, [] => if cur = [] then [] else [cur]
  | cur, c :: r => if c = 32 then (if cur = [] then wd [] r else cur :: wd [] r) else wd (cur ++ [c]) r
theorem strs_snoc (l : List (List UInt8)) (s : List UInt8) : strs (l ++ [s]) = strs l ++ [.string (bs s)] := by simp [strs]
theorem strs_length (l : List (List UInt8)) : (strs l).length = l.length := by simp [strs]
theorem drop_cons (s : List UInt8) (i : Nat) (h : i < s.length) : s.drop i = s.getD i 0 :: s.drop (i + 1) := by
  rw [List.drop_eq_getElem_cons h]; simp [List.getD, h]
theorem u8is (a : UInt8) (n : Nat) (hn : n < 256) : ((a.toNat : Int) = (n : Int)) ↔ a = UInt8.ofNat n := by
  rw [← UInt8.toNat_inj, UInt8.toNat_ofNat_of_lt' hn]; omega
theorem words_any (s : List UInt8) (w : World) (hs : s.length ≤ 1000000) :
    Calls Tryd.prog 34 #[.string (bs s)] w fun e w' => ∃ p cap, e = .returned (.slice p (wd [] s).length cap) ∧ StrRow w'.heap p (wd [] s) ∧ Ext w.heap w'.heap ∧ outw w' = outw w := by
  refine begins (k34 {}) [.str (.v 0)] [] { s := fun _ => s, h := fun _ => w.heap, o := outw w } 1 1000 rfl rfl rfl trivial (by simp [SV.den, SE.den]) ?_
  conv => arg 7; reduce
  simp only [VC.den, IE.den, NE.den, SE.den, SV.den, HE.den, PE.den, WS.den, List.map_cons, List.map_nil, Int.cast_ofNat_Int]
  intro _
  refine looping (k34 {}) [.str (.v 0), .slice (.v 0) (.v 1) (.v 2), .str (.v 1), .int .i64 (.ofN (.v 0))] []
    (fun x : Nat × List (List UInt8) × List UInt8 × Option Addr × Nat × Heap => { n := fun j => if j = 0 then x.1 else if j = 1 then x.2.1.length else x.2.2.2.2.1, s := fun j => if j = 0 then s else x.2.2.1, p := fun _ => x.2.2.2.1, h := fun _ => x.2.2.2.2.2, o := outw w }) 3 1000
    (fun x => x.1 ≤ s.length + 1 ∧ x.2.1.length ≤ x.1 ∧ x.2.2.1.length ≤ x.1 ∧ Ext w.heap x.2.2.2.2.2 ∧ Own x.2.2.2.2.2 w.heap.size x.2.2.2.1 x.2.2.2.2.1 1 (strs x.2.1) ∧ x.2.1 ++ wd x.2.2.1 (s.drop x.1) = wd [] s ∧ (x.1 = s.length + 1 → x.2.2.1 = []))
    (fun x => s.length + 1 - x.1) (0, [], [], none, 0, w.heap) ⟨Nat.zero_le _, Nat.zero_le _, Nat.zero_le _, Ext.refl _, Own.nil _ _ _, by simp, fun h => by simp at h⟩ rfl (by simp [SV.den, PE.den, IE.den, NE.den, SE.den, bytesOf]) rfl (fun _ => rfl) (fun _ _ => trivial) ?_
  rintro ⟨i, out, cur, p, cap, h⟩ ⟨hi, ho, hcur, hx, hown, hwd, hend⟩ N hN
  simp only at hi ho hcur hx hown hwd hend
  simp only [SV.den, SE.den, PE.den, NE.den, IE.den, List.map_cons, List.map_nil, reduceIte, Nat.reduceEqDiff] at hN
  conv => arg 7; reduce
  simp only [VC.den, BE.prop, IE.den, NE.den, SE.den, SV.den, HE.den, PE.den, WS.den, WI.den, List.map_cons, List.map_nil, Int.cast_ofNat_Int, reduceIte, Nat.reduceEqDiff, Env.setH, Env.setN, Env.setP, inK_i64]
  have hnil : bytesOf [] = [] := rfl
  have hlast : (¬((i : Int) < s.length ∧ ¬((s.getD i 0).toNat : Int) = 32)) → i ≤ s.length → wd cur (s.drop i) = (if cur = [] then [] else [cur]) ++ wd [] (s.drop (i + 1)) := by
    intro h2 hle
    by_cases hlt : i < s.length
    · have h32 : s.getD i 0 = 32 := by
        apply (u8is _ 32 (by omega)).1
        exact Decidable.byContradiction fun e => h2 ⟨by omega, e⟩
      rw [drop_cons s i hlt, wd, if_pos h32]
      split <;> rfl
    · rw [List.drop_of_length_le (by omega), List.drop_of_length_le (by omega)]
      unfold wd; rw [if_pos rfl, List.append_nil]
  refine ⟨fun h1 => ⟨fun h => h, fun ⟨h2, h3⟩ => ?_, fun h2 => ⟨fun h3 => ?_, fun h3 => ?_⟩⟩, fun h1 hf w1 hw1 ho1 => ?_⟩
  · have hlt : i < s.length := by omega
    have e1 : (s.take (i + 1)).drop i = [s.getD i 0] := by
      rw [List.take_succ_eq_append_getElem hlt, List.drop_append_of_le_length (by simp; omega), List.drop_of_length_le (by simp; omega)]
      simp [List.getD, hlt]
    refine ⟨by omega, by omega, by omega, by rw [e1]; simp only [List.length_cons, List.length_nil]; omega, by omega, fun hf => ?_⟩
    rw [e1]
    refine hN (i + 1, out, cur ++ [s.getD i 0], p, cap, h) ⟨by simp only; omega, by simp only; omega, by simp only [List.length_append, List.length_cons, List.length_nil]; omega, hx, hown, ?_, fun h => by simp only at h; omega⟩ (by simp only; omega)
    simp only
    rw [← hwd, drop_cons s i hlt]
    congr 1
    have : ¬ s.getD i 0 = 32 := fun e => h3 ((u8is _ 32 (by omega)).2 e)
    conv => rhs; rw [wd, if_neg this]
  · have hc : cur ≠ [] := by rw [hnil] at h3; exact h3
    have hown1 := hown.ext (ext_push h (.cells #[.string (bs cur)] 9))
    refine ⟨hown.ne (Nat.le_refl _), strs out, hown1.app (by simp [strs_length]) (by omega) (by omega), fun h' p' c' ha => ⟨by omega, fun hf => ?_⟩⟩
    have hown2 := hown1.next (by simp [strs_length]) (by simp) (Nat.le_trans hx.le (by simp)) ha
    have hx2 := hown1.keep (Nat.le_refl _) (hx.trans (ext_push h _)) ha
    rw [← strs_snoc] at hown2
    have := hN (i + 1, out ++ [cur], [], p', c', h') ⟨by simp only; omega, by simp only [List.length_append, List.length_cons, List.length_nil]; omega, by simp, hx2, hown2, ?_, fun _ => rfl⟩ (by simp only; omega)
    · simp only [List.length_append, List.length_cons, List.length_nil, Nat.zero_add] at this
      rw [hnil]; exact this
    · simp only
      rw [← hwd, hlast h2 (by omega), if_neg hc, List.append_assoc]
  · have hc : cur = [] := by rw [hnil] at h3; exact Decidable.byContradiction h3
    refine ⟨by omega, fun hf => ?_⟩
    rw [hnil]
    refine hN (i + 1, out, [], p, cap, h) ⟨by simp only; omega, by simp only; omega, by simp, hx, hown, ?_, fun _ => rfl⟩ (by simp only; omega)
    simp only
    rw [← hwd, hlast h2 (by omega), if_pos hc, List.nil_append]
  · have hc := hend (by omega)
    rw [hc, List.drop_of_length_le (by omega)] at hwd
    have : out = wd [] s := by
      rw [← hwd]; unfold wd; rw [if_pos rfl, List.append_nil]
    subst this
    exact ⟨p, cap, rfl, by rw [hw1]; exact hown.row, by rw [hw1]; exact hx, ho1⟩
/-- The document's table, by group. -/
def linesN : Nat → List Nat
  | 1 => [103, 101, 116, 33, 32, 50, 32, 50, 32, 115, 101, 116, 32, 51, 32, 56, 32, 115, 101, 116, 110, 120, 32, 51, 32, 51, 32, 103, 101, 116, 115, 101, 116, 32, 51, 32, 51, 32, 103, 101, 116, 100, 101, 108, 32, 50, 32, 50, 32, 97, 112, 112, 101, 110, 100, 32, 51, 32, 51, 32, 115, 116, 114, 108, 101, 110, 33, 32, 50, 32, 50, 32, 105, 110, 99, 114, 32, 50, 32, 50, 32, 100, 101, 99, 114, 32, 50, 32, 50, 32, 105, 110, 99, 114, 98, 121, 32, 51, 32, 51, 32, 100, 101, 99, 114, 98, 121, 32, 51, 32, 51, 32, 103, 101, 116, 114, 97, 110, 103, 101, 33, 32, 52, 32, 52, 32, 115, 101, 116, 114, 97, 110, 103, 101, 32, 52, 32, 52, 32, 103, 101, 116, 98, 105, 116, 33, 32, 51, 32, 51, 32, 115, 101, 116, 98, 105, 116, 32, 52, 32, 52, 32, 98, 105, 116, 99, 111, 117, 110, 116, 33, 32, 50, 32, 52, 32, 109, 103, 101, 116, 33, 32, 50, 32, 43, 32, 109, 115, 101, 116, 32, 51, 32, 43]
  | 2 => [104, 115, 101, 116, 32, 52, 32, 43, 32, 104, 115, 101, 116, 110, 120, 32, 52, 32, 52, 32, 104, 103, 101, 116, 33, 32, 51, 32, 51, 32, 104, 109, 103, 101, 116, 33, 32, 51, 32, 43, 32, 104, 100, 101, 108, 32, 51, 32, 43, 32, 104, 101, 120, 105, 115, 116, 115, 33, 32, 51, 32, 51, 32, 104, 108, 101, 110, 33, 32, 50, 32, 50, 32, 104, 107, 101, 121, 115, 33, 32, 50, 32, 50, 32, 104, 118, 97, 108, 115, 33, 32, 50, 32, 50, 32, 104, 103, 101, 116, 97, 108, 108, 33, 32, 50, 32, 50, 32, 104, 105, 110, 99, 114, 98, 121, 32, 52, 32, 52, 32, 104, 115, 116, 114, 108, 101, 110, 33, 32, 51, 32, 51, 32, 104, 115, 99, 97, 110, 33, 32, 51, 32, 55]
  | 3 => [115, 97, 100, 100, 32, 51, 32, 43, 32, 115, 114, 101, 109, 32, 51, 32, 43, 32, 115, 105, 115, 109, 101, 109, 98, 101, 114, 33, 32, 51, 32, 51, 32, 115, 99, 97, 114, 100, 33, 32, 50, 32, 50, 32, 115, 109, 101, 109, 98, 101, 114, 115, 33, 32, 50, 32, 50, 32, 115, 109, 111, 118, 101, 32, 52, 32, 52, 32, 115, 105, 110, 116, 101, 114, 33, 32, 50, 32, 43, 32, 115, 117, 110, 105, 111, 110, 33, 32, 50, 32, 43, 32, 115, 100, 105, 102, 102, 33, 32, 50, 32, 43, 32, 115, 112, 111, 112, 32, 50, 32, 50, 32, 115, 114, 97, 110, 100, 109, 101, 109, 98, 101, 114, 33, 32, 50, 32, 50, 32, 115, 115, 99, 97, 110, 33, 32, 51, 32, 55]
  | 4 => [108, 112, 117, 115, 104, 32, 51, 32, 43, 32, 114, 112, 117, 115, 104, 32, 51, 32, 43, 32, 108, 112, 111, 112, 32, 50, 32, 50, 32, 114, 112, 111, 112, 32, 50, 32, 50, 32, 108, 108, 101, 110, 33, 32, 50, 32, 50, 32, 108, 114, 97, 110, 103, 101, 33, 32, 52, 32, 52, 32, 108, 105, 110, 100, 101, 120, 33, 32, 51, 32, 51, 32, 108, 115, 101, 116, 32, 52, 32, 52, 32, 108, 105, 110, 115, 101, 114, 116, 32, 53, 32, 53, 32, 108, 114, 101, 109, 32, 52, 32, 52, 32, 108, 116, 114, 105, 109, 32, 52, 32, 52, 32, 114, 112, 111, 112, 108, 112, 117, 115, 104, 32, 51, 32, 51]
  | 5 => [100, 101, 108, 32, 50, 32, 43, 32, 101, 120, 105, 115, 116, 115, 33, 32, 50, 32, 43, 32, 116, 121, 112, 101, 33, 32, 50, 32, 50, 32, 101, 120, 112, 105, 114, 101, 32, 51, 32, 51, 32, 112, 101, 120, 112, 105, 114, 101, 32, 51, 32, 51, 32, 116, 116, 108, 33, 32, 50, 32, 50, 32, 112, 116, 116, 108, 33, 32, 50, 32, 50, 32, 112, 101, 114, 115, 105, 115, 116, 32, 50, 32, 50, 32, 114, 101, 110, 97, 109, 101, 32, 51, 32, 51, 32, 114, 101, 110, 97, 109, 101, 110, 120, 32, 51, 32, 51, 32, 99, 111, 112, 121, 32, 51, 32, 51, 32, 107, 101, 121, 115, 33, 32, 50, 32, 50, 32, 115, 99, 97, 110, 33, 32, 50, 32, 56, 32, 100, 98, 115, 105, 122, 101, 33, 32, 49, 32, 49, 32, 102, 108, 117, 115, 104, 97, 108, 108, 32, 49, 32, 49, 32, 114, 97, 110, 100, 111, 109, 107, 101, 121, 33, 32, 49, 32, 49, 32, 111, 98, 106, 101, 99, 116, 33, 32, 51, 32, 51]
  | 6 => [112, 105, 110, 103, 33, 32, 49, 32, 50, 32, 101, 99, 104, 111, 33, 32, 50, 32, 50, 32, 104, 101, 108, 108, 111, 33, 32, 49, 32, 50, 32, 109, 117, 108, 116, 105, 33, 32, 49, 32, 49, 32, 101, 120, 101, 99, 33, 32, 49, 32, 49, 32, 100, 105, 115, 99, 97, 114, 100, 33, 32, 49, 32, 49, 32, 119, 97, 116, 99, 104, 33, 32, 50, 32, 43, 32, 117, 110, 119, 97, 116, 99, 104, 33, 32, 49, 32, 49, 32, 113, 117, 105, 116, 33, 32, 49, 32, 49]
  | _ => []
theorem lines_any (g : Nat) (h1 : 1 ≤ g) (h2 : g ≤ 6) (w : World) : Calls Tryd.prog 35 #[.int .i64 g] w (RetX (.string (bs (bytesOf (linesN g)))) w.heap (outw w)) := by
  obtain rfl | rfl | rfl | rfl | rfl | rfl : g = 1 ∨ g = 2 ∨ g = 3 ∨ g = 4 ∨ g = 5 ∨ g = 6 := by omega
  · refine begins (k35 {}) [.int .i64 (.c 1)] [] { h := fun _ => w.heap, o := outw w } 1 1000 rfl rfl rfl trivial (by simp [SV.den, IE.den]) ?_
    conv => arg 7; reduce
    simp only [VC.den, SE.den, SV.den, HE.den, WS.den]
    exact fun hf wr hwr hor => ⟨rfl, by rw [hwr]; exact hf.none, hor⟩
  · refine begins (k35 {}) [.int .i64 (.c 2)] [] { h := fun _ => w.heap, o := outw w } 1 1000 rfl rfl rfl trivial (by simp [SV.den, IE.den]) ?_
    conv => arg 7; reduce
    simp only [VC.den, SE.den, SV.den, HE.den, WS.den]
    exact fun hf wr hwr hor => ⟨rfl, by rw [hwr]; exact hf.none, hor⟩
  · refine begins (k35 {}) [.int .i64 (.c 3)] [] { h := fun _ => w.heap, o := outw w } 1 1000 rfl rfl rfl trivial (by simp [SV.den, IE.den]) ?_
    conv => arg 7; reduce
    simp only [VC.den, SE.den, SV.den, HE.den, WS.den]
    exact fun hf wr hwr hor => ⟨rfl, by rw [hwr]; exact hf.none, hor⟩
  · refine begins (k35 {}) [.int .i64 (.c 4)] [] { h := fun _ => w.heap, o := outw w } 1 1000 rfl rfl rfl trivial (by simp [SV.den, IE.den]) ?_
    conv => arg 7; reduce
    simp only [VC.den, SE.den, SV.den, HE.den, WS.den]
    exact fun hf wr hwr hor => ⟨rfl, by rw [hwr]; exact hf.none, hor⟩
  · refine begins (k35 {}) [.int .i64 (.c 5)] [] { h := fun _ => w.heap, o := outw w } 1 1000 rfl rfl rfl trivial (by simp [SV.den, IE.den]) ?_
    conv => arg 7; reduce
    simp only [VC.den, SE.den, SV.den, HE.den, WS.den]
    exact fun hf wr hwr hor => ⟨rfl, by rw [hwr]; exact hf.none, hor⟩
  · refine begins (k35 {}) [.int .i64 (.c 6)] [] { h := fun _ => w.heap, o := outw w } 1 1000 rfl rfl rfl trivial (by simp [SV.den, IE.den]) ?_
    conv => arg 7; reduce
    simp only [VC.den, SE.den, SV.den, HE.den, WS.den]
    exact fun hf wr hwr hor => ⟨rfl, by rw [hwr]; exact hf.none, hor⟩
end Go.Proofs.YtjffhomcgpigpaaDoor
