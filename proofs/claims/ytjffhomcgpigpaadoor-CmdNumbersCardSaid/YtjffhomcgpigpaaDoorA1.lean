import Derived.Test.YtjffhomcgpigpaaDoorA0
/- Letters made small, by the program and by the document's answer. -/
namespace Go.Proofs.YtjffhomcgpigpaaDoor
open E
set_option maxRecDepth 100000
def lowerB (c : UInt8) : UInt8 := if 65 ≤ c ∧ c ≤ 90 then c + 32 else c
def lower (l : List UInt8) : List UInt8 := l.map lowerB
def lowTo (s : List UInt8) (i : Nat) : List UInt8 := lower (s.take i) ++ s.drop i
theorem lowTo_length (s : List UInt8) (i : Nat) : (lowTo s i).length = s.length := by simp [lowTo, lower]; omega
theorem lowTo_zero (s : List UInt8) : lowTo s 0 = s := by simp [lowTo, lower]
theorem lowTo_get (s : List UInt8) (i : Nat) (h : i < s.length) : (lowTo s i).getD i 0 = s.getD i 0 := by
  unfold lowTo lower
  have e : (s.take i).length = i := by simp; omega
  rw [List.getD_eq_getElem?_getD, List.getElem?_append_right (by simp; omega), List.length_map, e, Nat.sub_self, List.getElem?_drop, Nat.add_zero, List.getD_eq_getElem?_getD]
theorem lowTo_succ (s : List UInt8) (i : Nat) (h : i < s.length) : lowTo s (i + 1) = (lowTo s i).set i (lowerB (s.getD i 0)) := by
  unfold lowTo lower
  have e : (s.take i).length = i := by simp; omega
  rw [List.set_append_right _ _ (by simp; omega), List.take_succ_eq_append_getElem h]
  simp only [List.map_append, List.map_cons, List.map_nil, List.length_map, e, Nat.sub_self, List.append_assoc, List.cons_append, List.nil_append]
  have e2 : s.getD i 0 = s[i] := by simp [List.getD, h]
  rw [List.drop_eq_getElem_cons h, List.set_cons_zero, e2]
theorem lowTo_all (s : List UInt8) (i : Nat) (h : s.length ≤ i) : lowTo s i = lower s := by
  unfold lowTo; rw [List.take_of_length_le h, List.drop_of_length_le h, List.append_nil]
theorem u8cast (a : UInt8) (n : Nat) (hn : n < 256) : ((n : Int) ≤ a.toNat ↔ UInt8.ofNat n ≤ a) ∧ ((a.toNat : Int) ≤ n ↔ a ≤ UInt8.ofNat n) := by
  rw [UInt8.le_iff_toNat_le, UInt8.le_iff_toNat_le, UInt8.toNat_ofNat_of_lt' hn]; omega
theorem wrap_u8 (n : Nat) (hn : n < 256) : IntKind.u8.wrap (n : Int) = n := wrap_of_in (by rw [inK_u8]; omega)
theorem lower_up (a : UInt8) (h1 : (65 : Int) ≤ a.toNat) (h2 : (a.toNat : Int) ≤ 90) : (lowerB a).toNat = a.toNat + 32 := by
  have e1 : (65 : UInt8) ≤ a := by rw [UInt8.le_iff_toNat_le]; show 65 ≤ a.toNat; omega
  have e2 : a ≤ (90 : UInt8) := by rw [UInt8.le_iff_toNat_le]; show a.toNat ≤ 90; omega
  unfold lowerB; rw [if_pos ⟨e1, e2⟩, UInt8.toNat_add]
  show (a.toNat + 32) % 256 = _
  omega
theorem lower_same (a : UInt8) (h : ¬ ((65 : Int) ≤ a.toNat ∧ (a.toNat : Int) ≤ 90)) : lowerB a = a := by
  unfold lowerB
  rw [if_neg]
  rintro ⟨e1, e2⟩
  rw [UInt8.le_iff_toNat_le] at e1 e2
  have : (65 : UInt8).toNat = 65 := rfl
  have : (90 : UInt8).toNat = 90 := rfl
  omega

theorem Lower_any (s : List UInt8) (w : World) (hs : s.length ≤ 9223372036854775807) :
    Calls Tryd.prog 13 #[.string (bs s)] w (RetX (.string (bs (lower s))) w.heap (outw w)) := by
  refine begins (k13 {}) [.str (.v 0)] [] { s := fun _ => s, h := fun _ => w.heap, o := outw w } 1 1000 rfl rfl rfl trivial (by simp [SV.den, SE.den]) ?_
  conv => arg 7; reduce
  simp only [VC.den, IE.den, NE.den, SE.den, SV.den, HE.den, PE.den, WS.den, List.map_cons, List.map_nil, Int.cast_ofNat_Int, reduceIte, Nat.reduceEqDiff, Env.setH, Env.setN]
  intro c' hc' _
  have hB := CellsAt.fresh w.heap (u8s s) (List.replicate (c' - s.length) (Value.int .u8 0)) 5 (c', c' + 1) (by rw [u8s_length]; exact hc')
  refine looping (k13 {}) [.slice (.at (.v 1) (.c 0)) (.v 2) (.v 3), .slice (.at (.v 1) (.c 0)) (.v 2) (.v 3), .int .i64 (.ofN (.v 2)), .int .i64 (.ofN (.v 0))] []
    (fun x : Nat × Heap => { n := fun j => if j = 0 then x.1 else if j = 1 then w.heap.size else if j = 2 then s.length else c', h := fun _ => x.2, o := outw w }) 4 1000
    (fun x => x.1 ≤ s.length ∧ Ext w.heap x.2 ∧ CellsAt x.2 w.heap.size 0 (u8s (lowTo s x.1))) (fun x => s.length - x.1) (0, w.heap.push (.cells (u8s s ++ List.replicate (c' - s.length) (Value.int .u8 0)).toArray 5 (c', c' + 1))) ⟨Nat.zero_le _, ext_push _ _, by rw [lowTo_zero]; exact hB⟩ rfl (by simp [SV.den, PE.den, IE.den, NE.den]) rfl (fun _ => rfl) (fun _ _ => trivial) ?_
  rintro ⟨i, h⟩ ⟨hi, hx, hc⟩ N hN
  simp only at hi hx hc
  simp only [SV.den, PE.den, NE.den, IE.den, List.map_cons, List.map_nil, reduceIte, Nat.reduceEqDiff] at hN
  conv => arg 7; reduce
  simp only [VC.den, BE.prop, IE.den, NE.den, SE.den, SV.den, HE.den, PE.den, WS.den, WI.den, List.map_cons, List.map_nil, Int.cast_ofNat_Int, reduceIte, Nat.reduceEqDiff, Env.setS, Env.setI, inK_i64]
  have hlen := lowTo_length s i
  refine ⟨fun h1 => ?_, fun h1 => ?_⟩
  · have hlt : i < s.length := by omega
    have hg := hc.at0 (u8s_get (l := lowTo s i) (j := i) (by omega))
    rw [lowTo_get s i hlt] at hg
    refine ⟨by omega, _, hg, fun h2 => ⟨by omega, (hc.wr0 (j := i) (by rw [u8s_length]; omega)).1, (hc.wr0 (j := i) (by rw [u8s_length]; omega)).2, by omega, fun _ => ?_⟩, fun h2 => ⟨by omega, fun _ => ?_⟩⟩
    · have hu := lower_up (s.getD i 0) (by omega) (by omega)
      have hset := hc.set0 i (.int .u8 ((lowerB (s.getD i 0)).toNat : Int))
      rw [u8s_set, ← lowTo_succ s i hlt] at hset
      have hv : IntKind.u8.wrap (IntKind.u8.wrap (((s.getD i 0).toNat : Int) + 97) - 65) = ((lowerB (s.getD i 0)).toNat : Int) := by
        rw [hu]
        have h97 := wrap_u8 ((s.getD i 0).toNat + 97) (by omega)
        have h3 := wrap_u8 ((s.getD i 0).toNat + 32) (by omega)
        rw [show (((s.getD i 0).toNat : Int) + 97) = (((s.getD i 0).toNat + 97 : Nat) : Int) by omega, h97, show (((s.getD i 0).toNat + 97 : Nat) : Int) - 65 = (((s.getD i 0).toNat + 32 : Nat) : Int) by omega]
        exact h3
      rw [hv]
      exact hN (i + 1, _) ⟨by simp only; omega, hx.set (by omega) _ _, hset⟩ (by simp only; omega)
    · refine hN (i + 1, h) ⟨by simp only; omega, hx, ?_⟩ (by simp only; omega)
      have e := lowTo_get s i hlt
      rw [lowTo_succ s i hlt, lower_same _ (by intro h3; exact h2 ⟨by omega, by omega⟩), ← e, getD_set_same]
      exact hc
  · refine ⟨lower s, by simp [lower], ?_, fun _ w1 hw1 ho1 => ⟨rfl, by rw [hw1]; exact hx, ho1⟩⟩
    rw [lowTo_all s i (by omega)] at hc
    exact hc.row
end Go.Proofs.YtjffhomcgpigpaaDoor
