import Derived.Test.YtjffhomcgpigpaaDoorA5
/- The document's table, joined: what All hands back. -/
namespace Go.Proofs.YtjffhomcgpigpaaDoor
open E
set_option maxRecDepth 100000
theorem E.Own.base {h : Heap} {base base' cap size : Nat} {p : Option Addr} {vs : List Value} (H : Own h base p cap size vs) (hb : base' ≤ base) : Own h base' p cap size vs := by
  rcases H with H | ⟨b, rest, h1, h2, h3⟩
  · exact .inl H
  · exact .inr ⟨b, rest, h1, Nat.le_trans hb h2, h3⟩
theorem All_in (R : Ending → World → Prop) (w0 : Heap) (l : List (List UInt8)) (hl : ∀ x ∈ l, x ≠ []) (hls : ∀ x ∈ l, x.length ≤ 1000000) (hll : l.length ≤ 1000) (g : Nat) (hg : g ≤ 7) (o : Os × Array (Nat × ByteArray)) (N0 : LoopN)
    (out0 : List Cd) (hlen : out0.length ≤ 10000) (p0 q : Option Addr) (cap0 qcap : Nat) (h0 : Heap) (hx0 : Ext w0 h0) (hown0 : Own h0 w0.size p0 cap0 5 (flatC out0)) (hq : StrRow h0 q l)
    (fin : ∀ p cap h, Ext w0 h → Own h w0.size p cap 5 (flatC ((triples l).foldl (insW g) out0)) → N0 [.slice p ((triples l).foldl (insW g) out0).length cap, .int .i64 ((g : Int) + 1)] h o) :
    AtLoop Tryd.prog (c19 o19) Tryd.f19 R [0, 0, 1, 1, 0, 0, 1, 0, 0, 1, 0, 1, 1] [KI.blk 2, KI.blk 1, KI.seq [1, 1, 0, 0, 1, 0, 1, 1], KI.nxt 86 [1, 2] N0, KI.blk 0, KI.seq [1, 1, 1]] [.slice p0 out0.length cap0, .int .i64 g, .slice q l.length qcap, .int .i64 0] h0 o := by
  refine looping (k19 o19) [.slice (.v 0) (.v 0) (.v 1), .int .i64 (.ofN (.v 2)), .slice (.v 1) (.v 3) (.v 4), .int .i64 (.ofN (.v 5))] []
    (fun x : Nat × List Cd × Option Addr × Nat × Heap => { n := fun j => if j = 0 then x.2.1.length else if j = 1 then x.2.2.2.1 else if j = 2 then g else if j = 3 then l.length else if j = 4 then qcap else x.1, p := fun j => if j = 0 then x.2.2.1 else q, h := fun _ => x.2.2.2.2, o := o }) 6 1000
    (fun x => x.1 ≤ l.length + 3 ∧ x.2.1.length ≤ 10000 + x.1 ∧ Ext w0 x.2.2.2.2 ∧ Own x.2.2.2.2 w0.size x.2.2.1 x.2.2.2.1 5 (flatC x.2.1) ∧ StrRow x.2.2.2.2 q l ∧ (triples (l.drop x.1)).foldl (insW g) x.2.1 = (triples l).foldl (insW g) out0)
    (fun x => l.length + 3 - x.1) (0, out0, p0, cap0, h0) ⟨Nat.zero_le _, hlen, hx0, hown0, hq, by rw [List.drop_zero]⟩ rfl (by simp [SV.den, PE.den, IE.den, NE.den]) rfl (fun _ => rfl) (fun _ _ => trivial) ?_
  rintro ⟨i, out, p, cap, h⟩ ⟨hi, hout, hx, hown, hrow, hf⟩ N hN
  simp only at hi hout hx hown hrow hf
  simp only [SV.den, PE.den, NE.den, IE.den, List.map_cons, List.map_nil, reduceIte, Nat.reduceEqDiff] at hN
  conv => arg 7; reduce
  simp only [VC.den, BE.prop, IE.den, NE.den, SE.den, SV.den, HE.den, PE.den, BE.den, WS.den, List.map_cons, List.map_nil, Int.cast_ofNat_Int, reduceIte, Nat.reduceEqDiff, Env.setE, Env.setH, Env.setS, Env.setI, Env.setN, inK_i64]
  refine ⟨by omega, fun h1 => ?_, fun h1 => ⟨by omega, fun _ => ?_⟩⟩
  · have hlt : i + 2 < l.length := by omega
    obtain ⟨x, y, rfl, g0⟩ := hrow.at (show i < l.length by omega)
    obtain ⟨_, _, e1, g1⟩ := hrow.at (show i + 1 < l.length by omega)
    injection e1 with e1; injection e1 with e1 e2; subst e1 e2
    obtain ⟨_, _, e1, g2⟩ := hrow.at (show i + 2 < l.length by omega)
    injection e1 with e1; injection e1 with e1 e2; subst e1 e2
    have w1 := hl _ (List.getElem_mem (show i < l.length by omega))
    have w2 := hl _ (List.getElem_mem (show i + 1 < l.length by omega))
    have w3 := hl _ (List.getElem_mem (show i + 2 < l.length by omega))
    have key : ∀ (cb : Nat) (h' : Heap), h.size ≤ cb → CellsAt h' cb 0 (Cd.v ⟨l[i], smallW l[i + 1], smallW l[i + 2], true, g⟩) → E.Frame (fun _ => False) h h' →
        AtCut Tryd.prog (c19 o19) Tryd.f19 R pA (KI.blk 3 :: K0 N N0) [.slice p out.length cap, .int .i64 g, .slice (some ⟨x, y, none⟩) l.length qcap, .int .i64 i, .pointer (some ⟨cb, 0, none⟩)] h' o := by
      intro cb h' hcb hc hfr
      refine All_cutA R N N0 o p _ out.length cap g l.length qcap i cb h' l[i] _ _ w1 (hls _ (List.getElem_mem _)) hc fun h2 hc2 hf2 => ?_
      have hx2 : Ext h h2 := (hfr.trans (H := fun b => b = cb) hf2 (fun _ hn => hn.elim) (fun _ _ hn => hn)).ext fun n hn e => by omega
      refine All_cutB R N N0 o w0.size p _ out cap g l.length qcap i cb h2 _ hc2 (by omega) (by omega) (hown.ext hx2) fun p3 cap3 h3 ho3 hx3 => ?_
      have e : (if l[i].getD (l[i].length - 1) 0 = 33 then (⟨l[i].take (l[i].length - 1), smallW l[i + 1], smallW l[i + 2], false, g⟩ : Cd) else ⟨l[i], smallW l[i + 1], smallW l[i + 2], true, g⟩) = mkCd g (l[i], l[i + 1], l[i + 2]) := rfl
      rw [e] at ho3
      have := hN (i + 3, insW g out (l[i], l[i + 1], l[i + 2]), p3, cap3, h3) ⟨by simp only; omega, by simp only [insW, insC_length]; omega, (hx.trans hx2).trans hx3, ho3.base (Nat.le_trans hx.le hx2.le), hrow.ext (hx2.trans hx3), ?_⟩ (by simp only; omega)
      · simp only [insW, insC_length] at this
        exact this
      · simp only
        rw [← hf, triples_drop l i hlt]
        simp [List.getD, show i < l.length by omega, show i + 1 < l.length by omega, hlt]
    have sm : ∀ (s : List UInt8), s ≠ [] → ∀ w : World, Calls Tryd.prog 36 #[.string (bs s)] w (RetX (.int .i64 (smallW s)) w.heap (outw w)) := fun s hs w => small_any s w (List.length_pos_iff.2 hs)
    refine ⟨x, y, rfl, by omega, _, g0, by omega, by omega, _, g1, by omega, by omega, _, g2, ?_, ?_⟩
    ·
      intro w1 hw1 ho1
      refine (sm _ w2 _).mono ?_
      rintro e1 v1 ⟨rfl, hx1, hp1⟩
      rw [hw1] at hx1
      refine ⟨hp1.trans ho1, hx1, ?_⟩
      refine ⟨_, rfl, ?_, ?_⟩
      ·
        intro w2 hw2 ho2
        refine (sm _ w3 _).mono ?_
        rintro e2 v2 ⟨rfl, hx2, hp2⟩
        rw [hw2] at hx2
        refine ⟨hp2.trans ho2, hx2, ?_⟩
        exact ⟨_, rfl, fun hc hfr => key _ _ (Nat.le_trans hx1.le hx2.le) hc hfr⟩
      ·
        intro w2 hw2 ho2
        refine (sm _ w3 _).mono ?_
        rintro e2 v2 ⟨rfl, hx2, hp2⟩
        rw [hw2] at hx2
        refine ⟨hp2.trans ho2, hx2, ?_⟩
        exact ⟨_, rfl, fun hc hfr => key _ _ hx1.le hc (hfr.mono fun n _ hn => by simp at hn)⟩
    ·
      intro w1 hw1 ho1
      refine (sm _ w2 _).mono ?_
      rintro e1 v1 ⟨rfl, hx1, hp1⟩
      rw [hw1] at hx1
      refine ⟨hp1.trans ho1, hx1, ?_⟩
      refine ⟨_, rfl, ?_⟩
      intro w2 hw2 ho2
      refine (sm _ w3 _).mono ?_
      rintro e2 v2 ⟨rfl, hx2, hp2⟩
      rw [hw2] at hx2
      refine ⟨hp2.trans ho2, hx2, ?_⟩
      exact ⟨_, rfl, fun hc hfr => key _ _ (Nat.le_refl _) hc (hfr.mono fun n _ hn => by simp at hn)⟩
  · rw [triples_end l i (by omega)] at hf
    simp only [List.foldl_nil] at hf
    rw [hf]
    exact fin p cap h hx (by rw [← hf]; exact hown)
/-- All commands of the first groups. -/
def allTo : Nat → List Cd
  | 0 => []
  | g + 1 => (triples (wd [] (bytesOf (linesN (g + 1))))).foldl (insW ((g + 1 : Nat) : Int)) (allTo g)
def tbl : List Cd := allTo 6
theorem allTo_len : ∀ g, g < 7 → (allTo g).length ≤ 10000 := by decide +kernel
theorem lines_len : ∀ g, g < 7 → (bytesOf (linesN g)).length ≤ 1000 := by decide +kernel
theorem wd_len : ∀ g, g < 7 → (wd [] (bytesOf (linesN g))).length ≤ 1000 ∧ ∀ x ∈ wd [] (bytesOf (linesN g)), x.length ≤ 1000000 := by decide +kernel
theorem All_any (w : World) :
    Calls Tryd.prog 19 #[] w fun e w' => ∃ p cap, e = .returned (.slice p tbl.length cap) ∧ CdRow w'.heap p tbl ∧ Ext w.heap w'.heap ∧ outw w' = outw w := by
  refine begins (k19 o19) [] [] { h := fun _ => w.heap, o := outw w } 1 1000 rfl rfl rfl trivial (by simp) ?_
  conv => arg 7; reduce
  simp only [VC.den, IE.den, NE.den, SV.den, HE.den, PE.den, WS.den, List.map_cons, List.map_nil, Int.cast_ofNat_Int]
  intro _
  refine looping (k19 o19) [.slice (.v 0) (.v 0) (.v 1), .int .i64 (.ofN (.v 2))] []
    (fun x : Nat × List Cd × Option Addr × Nat × Heap => { n := fun j => if j = 0 then x.2.1.length else if j = 1 then x.2.2.2.1 else x.1 + 1, p := fun _ => x.2.2.1, h := fun _ => x.2.2.2.2, o := outw w }) 3 1000
    (fun x => x.1 ≤ 6 ∧ x.2.1 = allTo x.1 ∧ Ext w.heap x.2.2.2.2 ∧ Own x.2.2.2.2 w.heap.size x.2.2.1 x.2.2.2.1 5 (flatC x.2.1)) (fun x => 7 - x.1) (0, [], none, 0, w.heap) ⟨by simp, rfl, Ext.refl _, Own.nil _ _ _⟩ rfl (by simp [SV.den, PE.den, IE.den, NE.den]) rfl (fun _ => rfl) (fun _ _ => trivial) ?_
  rintro ⟨g, out, p, cap, h⟩ ⟨hg, ho, hx, hown⟩ N hN
  simp only at hg ho hx hown
  subst ho
  simp only [SV.den, PE.den, NE.den, IE.den, List.map_cons, List.map_nil, reduceIte, Nat.reduceEqDiff] at hN
  conv => arg 7; reduce
  simp only [VC.den, BE.prop, IE.den, NE.den, SE.den, SV.den, HE.den, PE.den, WS.den, List.map_cons, List.map_nil, Int.cast_ofNat_Int, reduceIte, Nat.reduceEqDiff, Env.setE, Env.setH, Env.setS, Env.setN, Env.setP]
  refine ⟨fun h1 => ?_, fun h1 => ?_⟩
  ·
    intro w1 hw1 ho1
    refine (lines_any (g + 1) (by omega) (by omega) _).mono ?_
    rintro e1 v1 ⟨rfl, hx1, hp1⟩
    rw [hw1] at hx1
    refine ⟨hp1.trans ho1, hx1, ?_⟩
    refine ⟨_, rfl, ?_⟩
    intro w2 hw2 ho2
    refine (words_any _ _ (Nat.le_trans (lines_len (g + 1) (by omega)) (by omega))).mono ?_
    rintro e2 v2 ⟨q, qc, rfl, hq, hx2, hp2⟩
    rw [hw2] at hx2
    refine ⟨hp2.trans ho2, hx2, q, _, qc, rfl, fun hf => ?_⟩
    refine All_in _ w.heap (wd [] (bytesOf (linesN (g + 1)))) (fun x hx => wd_full _ _ x hx) (wd_len (g + 1) (by omega)).2 (wd_len (g + 1) (by omega)).1 (g + 1) (by omega) _ N (allTo g) (allTo_len g (by omega)) p q cap qc v2.heap ((hx.trans hx1).trans hx2) (hown.ext (hx1.trans hx2)) hq ?_
    intro p' cap' h' hx' ho'
    have := hN (g + 1, allTo (g + 1), p', cap', h') ⟨by simp only; omega, rfl, hx', ho'⟩ (by simp only; omega)
    simp only [Int.natCast_add (g + 1) 1] at this
    exact this
  · have : g = 6 := by omega
    subst this
    exact fun hf wr hwr hor => ⟨p, cap, rfl, by rw [hwr]; exact hown.row, by rw [hwr]; exact hx, hor⟩
end Go.Proofs.YtjffhomcgpigpaaDoor
