import Derived.Test.YtjffhomcgpigpaaDoorB9
import Derived.Test.YtjffhomcgpigpaaDoorC1
/- The law CmdLower: letters' sizes make no difference to which command it is: it answers true. -/
namespace Go.Proofs.YtjffhomcgpigpaaDoor
open E
set_option maxRecDepth 100000
theorem low_set (y : List UInt8) (i : Nat) (h1 : (97 : Int) ≤ (y.getD i 0).toNat) (h2 : ((y.getD i 0).toNat : Int) ≤ 122) (c : UInt8) (hc : (c.toNat : Int) = (y.getD i 0).toNat - 32) : lower (y.set i c) = lower y := by
  unfold lower
  rw [List.map_set]
  have e : lowerB c = lowerB (y.getD i 0) := by
    rw [lower_same (y.getD i 0) (by omega)]
    apply UInt8.toNat_inj.1
    rw [lower_up c (by omega) (by omega)]
    omega
  rw [e]
  by_cases hi : i < y.length
  · have e2 : y.getD i 0 = y[i] := by simp [List.getD, hi]
    rw [e2]
    apply List.ext_getElem (by simp)
    intro j h3 h4
    rw [List.getElem_set]
    split
    · rename_i h; subst h; simp
    · rfl
  · rw [List.set_eq_of_length_le (by simp; omega)]
theorem lower_length (y : List UInt8) : (lower y).length = y.length := by simp [lower]
theorem lower_take (y : List UInt8) (n : Nat) : lower (y.take n) = (lower y).take n := by simp [lower, List.map_take]
theorem look_low {a b : List UInt8} (h : lower a = lower b) : look a = look b := by unfold look; rw [h]
theorem verdict_low {a b : List UInt8} (h : lower a = lower b) (r : List (List UInt8)) : verdict (a :: r) = verdict (b :: r) := by
  have hl : a.length = b.length := by rw [← lower_length a, ← lower_length b, h]
  have ht : lower (a.take 64) = lower (b.take 64) := by rw [lower_take, lower_take, h]
  have hi : (a :: r).any isLong = (b :: r).any isLong := by simp [isLong, hl]
  unfold verdict
  simp only [look_low h, ht, hi, List.length_cons]
def bools (l : List Bool) : List Value := l.map fun b => .bool b
theorem bools_length (l : List Bool) : (bools l).length = l.length := by simp [bools]
theorem bools_at {h : Heap} {p : Option Addr} {l : List Bool} (H : row h p (bools l)) {i : Nat} (hi : i < l.length) : ∃ b o, p = some ⟨b, o, none⟩ ∧ get h b (o + i) = some (.bool l[i]) := by
  rcases H with H | ⟨b, o, rfl, H⟩
  · have : l.length = 0 := by rw [← bools_length, H]; rfl
    omega
  · exact ⟨b, o, rfl, H i _ (by simp [bools, hi])⟩
theorem get_at {h h' : Heap} (hx : Ext h h') {b o : Nat} {v : Value} (hg : get h b o = some v) : get h' b o = some v := by
  have h0 : b < h.size := by
    rcases Nat.lt_or_ge b h.size with e | e
    · exact e
    · unfold E.get at hg; rw [Array.getElem?_eq_none e] at hg; cases hg
  unfold E.get at hg ⊢; rw [hx.old b h0]; exact hg
/-- What Check told, asked again. -/
def Told (h : Heap) (v : Value) (s : List UInt8) (n : Int) : Prop := n = 0 ∧ v = .nilIface ∨ n ≠ 0 ∧ IsFault h v s n
theorem Told.ext {h h' : Heap} {v : Value} {s : List UInt8} {n : Int} (H : Told h v s n) (hx : Ext h h') : Told h' v s n :=
  H.imp id fun H => ⟨H.1, H.2.ext hx⟩
theorem Told.code {w : World} {v : Value} {s : List UInt8} {n : Int} (H : Told w.heap v s n) (hg : get w.heap 0 0 = some et) : Calls Tryd.prog 17 #[v] w (RetX (.int .i64 n) w.heap (outw w)) := by
  rcases H with ⟨rfl, rfl⟩ | ⟨_, H⟩
  · exact Code_nil w
  · exact Code_any v s n w H (cellG rfl hg)
theorem Told.cmd {w : World} {v : Value} {s : List UInt8} {n : Int} (H : Told w.heap v s n) (hg : get w.heap 0 0 = some et) : Calls Tryd.prog 18 #[v] w (RetX (.string (bs (if n = 0 then [] else s))) w.heap (outw w)) := by
  rcases H with ⟨rfl, rfl⟩ | ⟨h, H⟩
  · exact FCmd_nil w
  · rw [if_neg h]; exact FCmd_any v s n w H (cellG rfl hg)
set_option maxHeartbeats 1000000 in
theorem CmdLower_any (n : Int) (la : List (Int × List UInt8)) (fits upper : Bool) (q : Option Addr) (qc : Nat) (fl : List Bool) (p : Option Addr) (cap : Nat) (w : World) (hg : get w.heap 0 0 = some et)
    (ha : row w.heap q (flatW la)) (hla : la.length ≤ 9223372036854775807) (hf : row w.heap p (bools fl)) (hfl : fl.length ≤ 9223372036854775807) :
    Calls Tryd.prog 4 #[.agg #[.int .i64 n, .slice q la.length qc, .bool fits, .bool upper], .slice p fl.length cap] w (RetX (.bool true) w.heap (outw w)) := by
  refine begins (k4 {}) [.agg [.int .i64 (.v 0), .slice (.v 0) (.v 0) (.v 1), .bool (.v 0), .bool (.v 1)], .slice (.v 1) (.v 2) (.v 3)] [] { i := fun _ => n, p := fun j => if j = 0 then q else p, n := fun j => if j = 0 then la.length else if j = 1 then qc else if j = 2 then fl.length else cap, b := fun j => if j = 0 then fits else upper, h := fun _ => w.heap, o := outw w } 4 1000 rfl rfl rfl trivial (by simp [SV.den, IE.den, PE.den, NE.den, BE.den]) ?_
  conv => arg 7; reduce
  simp only [VC.den, BE.prop, IE.den, NE.den, SE.den, SV.den, HE.den, PE.den, BE.den, WS.den, List.map_cons, List.map_nil, Int.cast_ofNat_Int, reduceIte, Nat.reduceEqDiff, Env.setE, Env.setH, Env.setS, Env.setN, Env.setP]
  intro w1 hw1 ho1
  have hX1 := ext_push w.heap (.cells #[.int .i64 n, .slice q la.length qc, .bool fits, .bool upper] 24)
  refine (Args_any n la fits upper q qc w1 (by rw [hw1]; exact hX1.row ha) hla).mono ?_
  rintro e1 v1 ⟨x, px, cx, rfl, hx0, hxl, hxs, hr1, hx1, hp1, hcx⟩
  rw [hw1] at hx1
  refine ⟨hp1.trans ho1, hx1, px, _, cx, rfl, ?_⟩
  obtain ⟨a, r, rfl⟩ := List.exists_cons_of_ne_nil hx0
  have hX2 := hX1.trans hx1
  have ha100 : a.length ≤ 100 := hxs a (by simp)
  refine ⟨fun h => absurd h (by simp; omega), fun _ => ?_⟩
  obtain ⟨bx, ox, rfl, g0⟩ := hr1.at (i := 0) (by simp)
  refine ⟨bx, ox, rfl, by simp only [List.length_cons]; omega, a, g0, fun c' hc' _ => ?_⟩
  have hB := CellsAt.fresh v1.heap (u8s a) (List.replicate (c' - a.length) (Value.int .u8 0)) 5 (c', c' + 1) (by rw [u8s_length]; exact hc')
  refine looping (k4 {}) [.slice (.v 0) (.v 0) (.v 1), .slice (.at (.v 5) (.v 6)) (.v 2) (.v 3), .slice (.at (.v 7) (.c 0)) (.v 8) (.v 9), .int .i64 (.ofN (.v 10))] []
    (fun y : Nat × List UInt8 × Heap => { n := fun j => if j = 0 then fl.length else if j = 1 then cap else if j = 2 then (a :: r).length else if j = 3 then cx else if j = 5 then bx else if j = 6 then ox else if j = 7 then v1.heap.size else if j = 8 then a.length else if j = 9 then c' else y.1, p := fun _ => p, h := fun _ => y.2.2, o := outw w }) 11 1000
    (fun y => y.1 ≤ a.length ∧ y.2.1.length = a.length ∧ lower y.2.1 = lower a ∧ Ext v1.heap y.2.2 ∧ CellsAt y.2.2 v1.heap.size 0 (u8s y.2.1)) (fun y => a.length - y.1) (0, a, v1.heap.push (.cells (u8s a ++ List.replicate (c' - a.length) (Value.int .u8 0)).toArray 5 (c', c' + 1)))
    ⟨Nat.zero_le _, rfl, rfl, ext_push _ _, hB⟩ rfl (by simp [SV.den, PE.den, IE.den, NE.den]) rfl (fun _ => rfl) (fun _ _ => trivial) ?_
  rintro ⟨i, y, h⟩ ⟨hi, hyl, hyv, hx, hc⟩ N hN
  simp only at hi hyl hyv hx hc
  simp only [SV.den, PE.den, NE.den, IE.den, List.map_cons, List.map_nil, reduceIte, Nat.reduceEqDiff] at hN
  conv => arg 7; reduce
  simp only [VC.den, BE.prop, IE.den, NE.den, SE.den, SV.den, HE.den, PE.den, BE.den, WS.den, WI.den, List.map_cons, List.map_nil, Int.cast_ofNat_Int, reduceIte, Nat.reduceEqDiff, Env.setE, Env.setH, Env.setB, Env.setS, Env.setI, Env.setN, Env.setP, Env.setF, inK_i64]
  refine ⟨fun h1 => ?_, fun h1 => ?_⟩
  · obtain ⟨h1, h2⟩ := h1
    have hlt : i < y.length := by omega
    have hlf : i < fl.length := by omega
    obtain ⟨b1, o1, rfl, gf⟩ := bools_at ((hX2.trans hx).row hf) hlf
    have gy := hc.at0 (u8s_get (l := y) (j := i) hlt)
    have wr := hc.wr0 (j := i) (by rw [u8s_length]; exact hlt)
    have go : N [.slice (some ⟨b1, o1, none⟩) fl.length cap, .slice (some ⟨bx, ox, none⟩) (a :: r).length cx, .slice (some ⟨v1.heap.size, 0, none⟩) a.length c', .int .i64 ((i : Int) + 1)] h (outw w) :=
      hN (i + 1, y, h) ⟨by simp only; omega, hyl, hyv, hx, hc⟩ (by simp only; omega)
    refine ⟨b1, o1, rfl, by omega, fl[i], gf, fun _ => by omega, fun hb => ⟨_, gy, fun _ => by omega, fun h2 => ⟨_, gy, fun h3 => ⟨by omega, _, gy, by omega, wr.1, wr.2, by omega, fun _ => ?_⟩, fun h3 => ⟨by omega, fun _ => go⟩⟩, fun h2 => ⟨by omega, fun _ => go⟩⟩, fun hb => ⟨by omega, fun _ => go⟩⟩
    have hcc : ((y.getD i 0 - 32 : UInt8).toNat : Int) = (y.getD i 0).toNat - 32 := by
      have e32 : (32 : UInt8).toNat = 32 := rfl
      rw [UInt8.toNat_sub, e32]; omega
    have hw : IntKind.u8.wrap (((y.getD i 0).toNat : Int) - 32) = ((y.getD i 0 - 32 : UInt8).toNat : Int) := by
      have := wrap_u8 ((y.getD i 0 - 32 : UInt8).toNat) (UInt8.toNat_lt _)
      rw [hcc] at this ⊢; exact this
    rw [hw]
    have hset := hc.set0 i (.int .u8 ((y.getD i 0 - 32 : UInt8).toNat : Int))
    rw [u8s_set] at hset
    exact hN (i + 1, y.set i (y.getD i 0 - 32), _) ⟨by simp only; omega, by simp only [List.length_set]; exact hyl, by simp only; rw [low_set y i h2 h3 _ hcc]; exact hyv, hx.set (by omega) _ _, hset⟩ (by simp only; omega)
  · refine ⟨by simp only [List.length_cons]; omega, y, hyl, hc.row, ?_⟩
    have hE := ext_push h (.cells #[.string (bs y)] 9)
    have hO : Own (h.push (.cells #[.string (bs y)] 9)) h.size (some ⟨h.size, 0, none⟩) 1 1 (strs [y]) := .inr ⟨h.size, [], rfl, Nat.le_refl _, CellsAt.made h [.string (bs y)] 9, rfl⟩
    have hrow : row (h.push (.cells #[.string (bs y)] 9)) (advp (some ⟨bx, ox, none⟩) 1 cx 1) (strs r) := by
      have hr2 := (hr1.ext hx).ext hE
      unfold advp
      split
      · rename_i hc1
        simp only [List.length_cons] at hcx
        have : r = [] := List.length_eq_zero_iff.1 (by omega)
        subst this; exact .inl rfl
      · rcases hr2 with hr2 | ⟨b, o, hb, hr2⟩
        · simp [strs] at hr2
        · injection hb with hb; injection hb with hb1 hb2
          subst hb1 hb2
          refine .inr ⟨bx, ox + 1, rfl, fun j v hj => ?_⟩
          have := hr2 (j + 1) v (by simpa [strs] using hj)
          rw [show ox + 1 + j = ox + (j + 1) by omega]; exact this
    have hl1 : (strs r).length = r.length * 1 := by simp [strs_length]
    have one : ∀ u ∈ strs r, u.oneCell' = true := fun u hu => by
      obtain ⟨z, _, rfl⟩ := List.mem_map.1 hu
      rfl
    have hrl : (a :: r).length - 1 = r.length := by simp
    simp only [List.length_cons] at hxl
    rw [hrl]
    refine ⟨strs [y], strs r, hO.appPre rfl ⟨Nat.le_refl _, hl1, hrow⟩ one (by simp only [lenV]; omega) (by simp only [lenV]; omega), fun h7 p7 c7 ha7 => ?_⟩
    have hO7 := hO.next rfl hl1 hE.le ha7
    have hX7 := hO.keep (h0 := h) (Nat.le_refl _) hE ha7
    have e7 : strs [y] ++ strs r = strs (y :: r) := by simp [strs]
    rw [e7] at hO7
    have hXh : Ext w.heap h7 := hX2.trans (hx.trans hX7)
    have hy100 : y.length ≤ 100 := by omega
    have e1r : (y :: r).length = 1 + r.length := by simp only [List.length_cons]; omega
    have hvv := verdict_low hyv r
    intro w2 hw2 ho2
    refine (Check_any (a :: r) _ cx w2 (by rw [hw2]; exact (hr1.ext hx).ext hX7) (by simp only [List.length_cons]; omega) (fun t ht => by have := hxs t ht; omega)).mono ?_
    rintro e2 v2 ⟨va, rfl, hva, hx2, hp2⟩
    rw [hw2] at hx2
    obtain ⟨fa, rfl⟩ : ∃ f, va = ifcVal f := by
      rcases hva with ⟨_, rfl⟩ | ⟨_, b, rfl, _⟩
      · exact ⟨none, rfl⟩
      · exact ⟨some (70, _), rfl⟩
    refine ⟨hp2.trans ho2, hx2, _, _, _, _, _, fa, rfl, ?_⟩
    have hXa := box_ext v2.heap (verdict (a :: r)).1
    intro w3 hw3 ho3
    have hw3' : w3.heap = boxed v2.heap (verdict (a :: r)).1 := hw3
    have hC := Check_any (y :: r) p7 c7 w3 (by rw [hw3']; exact (StrRow.ext (show StrRow h7 p7 (y :: r) from hO7.row) hx2).ext hXa) (by simp only [List.length_cons]; omega) (fun t ht => by
      rcases List.mem_cons.1 ht with rfl | ht
      · omega
      · have := hxs t (List.mem_cons_of_mem _ ht); omega)
    rw [hvv, e1r] at hC
    refine hC.mono ?_
    rintro e3 v3 ⟨vb, rfl, hvb, hx3, hp3⟩
    rw [hw3'] at hx3
    obtain ⟨fb, rfl⟩ : ∃ f, vb = ifcVal f := by
      rcases hvb with ⟨_, rfl⟩ | ⟨_, b, rfl, _⟩
      · exact ⟨none, rfl⟩
      · exact ⟨some (70, _), rfl⟩
    refine ⟨hp3.trans ho3, hx3, _, _, _, _, _, fb, rfl, ?_⟩
    have hXb := box_ext v3.heap (verdict (a :: r)).1
    have hw0 : Ext w.heap (boxed v3.heap (verdict (a :: r)).1) := hXh.trans (hx2.trans (hXa.trans (hx3.trans hXb)))
    have ta : Told v2.heap (ifcVal fa) (verdict (a :: r)).2.1 (verdict (a :: r)).2.2 := hva
    have tb : Told v3.heap (ifcVal fb) (verdict (a :: r)).2.1 (verdict (a :: r)).2.2 := hvb
    have ta := ta.ext (hXa.trans (hx3.trans hXb))
    have tb := tb.ext hXb
    have hXX := hx2.trans (hXa.trans (hx3.trans hXb))
    have hcb := hXX.cellsAt (hO.other (hE.cellsAt hc) (hO.ne_lt hc.1) ha7)
    have hgx := get_at (hx.trans (hX7.trans hXX)) g0
    have hgG := get_ext hw0 hg
    refine ⟨fun _ w4 hw4 ho4 => ?_, fun h => absurd ⟨rfl, rfl, rfl, Iff.rfl, rfl⟩ h⟩
    have hw4' : w4.heap = boxed v3.heap (verdict (a :: r)).1 := hw4
    refine (Told.code (w := w4) (by rw [hw4']; exact ta) (by rw [hw4']; exact hgG)).mono ?_
    rintro e4 v4 ⟨rfl, hx4, hp4⟩
    rw [hw4'] at hx4
    refine ⟨hp4.trans ho4, hx4, _, rfl, fun w5 hw5 ho5 => ?_⟩
    refine (Told.code (w := w5) (by rw [hw5]; exact tb.ext hx4) (by rw [hw5]; exact get_ext hx4 hgG)).mono ?_
    rintro e5 v5 ⟨rfl, hx5, hp5⟩
    rw [hw5] at hx5
    refine ⟨hp5.trans ho5, hx5, _, rfl, fun _ w6 hw6 ho6 => ?_, fun h => absurd rfl h⟩
    have hX5 := hx4.trans hx5
    refine (Told.cmd (w := w6) (by rw [hw6]; exact ta.ext hX5) (by rw [hw6]; exact get_ext hX5 hgG)).mono ?_
    rintro e6 v6 ⟨rfl, hx6, hp6⟩
    rw [hw6] at hx6
    refine ⟨hp6.trans ho6, hx6, _, rfl, fun w7 hw7 ho7 => ?_⟩
    refine (Told.cmd (w := w7) (by rw [hw7]; exact tb.ext (hX5.trans hx6)) (by rw [hw7]; exact get_ext (hX5.trans hx6) hgG)).mono ?_
    rintro e7 v7 ⟨rfl, hx7, hp7⟩
    rw [hw7] at hx7
    have hX7' := hX5.trans (hx6.trans hx7)
    refine ⟨hp7.trans ho7, hx7, _, rfl, fun _ => ?_, fun h => absurd rfl h⟩
    refine ⟨by simp only [List.length_cons]; omega, a, get_at hX7' hgx, y, hyl, (hX7'.cellsAt hcb).row, fun w8 hw8 ho8 => ?_⟩
    refine (Lower_any y w8 (by omega)).mono ?_
    rintro e8 v8 ⟨rfl, hx8, hp8⟩
    rw [hw8] at hx8
    refine ⟨hp8.trans ho8, hx8, _, rfl, fun w9 hw9 ho9 => ?_⟩
    refine (Lower_any a w9 (by omega)).mono ?_
    rintro e9 v9 ⟨rfl, hx9, hp9⟩
    rw [hw9] at hx9
    have hXe := hw0.trans (hX7'.trans (hx8.trans hx9))
    refine ⟨hp9.trans ho9, hx9, _, rfl, fun _ wa hwa hoa => ?_, fun h => absurd hyv h⟩
    refine (known_any wa (by rw [hwa]; exact get_ext hXe hg)).mono ?_
    rintro ea va ⟨rfl, hxa, hpa⟩
    rw [hwa] at hxa
    exact ⟨hpa.trans hoa, hxa, _, rfl, fun _ we hwe hoe => ⟨rfl, by rw [hwe]; exact hXe.trans hxa, hoe⟩⟩
end Go.Proofs.YtjffhomcgpigpaaDoor
