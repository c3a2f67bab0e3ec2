import Derived.Test.YtjffhomcgpigpaaDoorC0
/- Args: a command as it is drawn. -/
namespace Go.Proofs.YtjffhomcgpigpaaDoor
open E
set_option maxRecDepth 100000
abbrev p8 : List Nat := [1, 1, 1, 1, 1, 1, 1, 1]
abbrev p12 : List Nat := [1, 1, 1, 1, 1, 1, 1, 1, 1, 1, 1, 1]
abbrev o8 : Opts := { cuts := [p8, p12] }
/-- What Args hands back: words, at least one, none long. -/
def ArgR (h0 : Heap) (o : Os × Array (Nat × ByteArray)) : Ending → World → Prop := fun e w' => ∃ (x : List (List UInt8)) (q : Option Addr) (qc : Nat),
  e = .returned (.slice q x.length qc) ∧ x ≠ [] ∧ x.length ≤ 300 ∧ (∀ s ∈ x, s.length ≤ 100) ∧ StrRow w'.heap q x ∧ Ext h0 w'.heap ∧ outw w' = o ∧ x.length ≤ qc
theorem tbl_nice : ∀ c ∈ tbl, c.name ≠ [] ∧ c.name.length ≤ 100 ∧ 1 ≤ c.least ∧ c.least ≤ 10 ∧ 1 ≤ c.most ∧ c.most ≤ 256 := by decide +kernel
/-- Words as they are drawn, each by its number and its text. -/
def flatW (l : List (Int × List UInt8)) : List Value := l.flatMap fun x => [.int .i64 x.1, .string (bs x.2)]
theorem flatW_length (l : List (Int × List UInt8)) : (flatW l).length = 2 * l.length := by
  induction l with
  | nil => rfl
  | cons c l ih => simp only [flatW, List.flatMap_cons, List.length_append, List.length_cons] at *; rw [ih]; simp; omega
theorem Args_end (h0 : Heap) (o : Os × Array (Nat × ByteArray)) (base : Nat) (p : Option Addr) (cap cb : Nat) (x : List (List UInt8)) (h : Heap) (c : Cd) (hc : CellsAt h cb 0 c.v) (hx : Ext h0 h)
    (hb : h0.size ≤ base) (hbh : base ≤ h.size) (hcb : cb < base) (hx0 : x ≠ []) (hxl : x.length ≤ 299) (hxs : ∀ s ∈ x, s.length ≤ 100) (hown : Own h base p cap 1 (strs x)) :
    AtCut Tryd.prog (c8 o8) Tryd.f8 (ArgR h0 o) p12 [] [.pointer (some ⟨cb, 0, none⟩), .slice p x.length cap] h o := by
  refine cutting (k8 o8) [.ptr (.at (.v 0) (.c 0)), .slice (.v 0) (.v 1) (.v 2)] [(.v 0, .c 0, [.str (.v 0), .int .i64 (.v 0), .int .i64 (.v 1), .bool (.v 0), .int .i64 (.v 2)])]
    { n := fun j => if j = 0 then cb else if j = 1 then x.length else cap, p := fun _ => p, s := fun _ => c.name, i := fun j => if j = 0 then c.least else if j = 1 then c.most else c.group, b := fun _ => c.write, h := fun _ => h, o := o } 3 1000
    rfl (by simp [SV.den, PE.den, NE.den]) rfl rfl ⟨by simpa [NE.den, SV.den, SE.den, IE.den, BE.den, Cd.v] using hc, trivial, trivial⟩ ?_
  conv => arg 7; reduce
  simp only [VC.den, BE.prop, IE.den, NE.den, SE.den, SV.den, HE.den, PE.den, BE.den, WS.den, WI.den, List.map_cons, List.map_nil, Int.cast_ofNat_Int, reduceIte, Nat.reduceEqDiff, Env.setH, Env.setN, Env.setP]
  have e1 : bytesOf [49] = [(49 : UInt8)] := rfl
  have hne1 : ∀ a, p = some a → a.block ≠ h.size := hown.ne (Nat.le_refl _)
  have hne2 : ∀ a, p = some a → a.block ≠ cb := hown.ne_lt hcb
  have one : AppK (h.push (.cells #[.string (bs (bytesOf [49]))] 9)) 1 16 p x.length cap 1 (strs x) ∧ ∀ (h' : Heap) (p' : Option Addr) (c' : Nat),
      Appended 9 1 (h.push (.cells #[.string (bs (bytesOf [49]))] 9)) p x.length cap 1 (strs x) [.string (bs (bytesOf [49]))] h' p' c' → ∀ w : World, w.heap = h' → outw w = o → ArgR h0 o (.returned (.slice p' (x.length + 1) c')) w := by
    have hown1 := hown.ext (ext_push h (.cells #[.string (bs (bytesOf [49]))] 9))
    have hx1 := hx.trans (ext_push h (.cells #[.string (bs (bytesOf [49]))] 9))
    refine ⟨hown1.app (by simp [strs_length]) (by omega) (by omega), fun h' p' c' ha w hw ho => ?_⟩
    have o1 := hown1.next (by simp [strs_length]) (by simp) (Nat.le_trans hbh (ext_push h _).le) ha
    rw [← strs_snoc] at o1
    refine ⟨x ++ [bytesOf [49]], p', c', by simp, by simp, by simp; omega, ?_, by rw [hw]; exact o1.row, by rw [hw]; exact hown1.keep hb hx1 ha, ho, o1.cap_le (by simp [strs_length]) (by omega)⟩
    intro s hs
    rcases List.mem_append.1 hs with hs | hs
    · exact hxs s hs
    · rw [List.mem_singleton.1 hs]; decide
  refine ⟨fun _ => ⟨hne1, hne2, _, one.1, fun h' p' c' ha _ _ => one.2 h' p' c' ha⟩, fun _ => ⟨fun _ => ⟨hne1, hne2, _, one.1, fun h' p' c' ha _ _ => one.2 h' p' c' ha⟩, fun _ _ _ w hw ho => ?_⟩⟩
  exact ⟨x, p, cap, rfl, hx0, by omega, hxs, by rw [hw]; exact hown.row, by rw [hw]; exact hx, ho, hown.cap_le (by rw [strs_length]; omega) (by omega)⟩
theorem flatW_at {h : Heap} {p : Option Addr} {l : List (Int × List UInt8)} (H : row h p (flatW l)) {i : Nat} (hi : i < l.length) : ∃ b o, p = some ⟨b, o, none⟩ ∧
    get h b (o + i * 2) = some (.int .i64 l[i].1) ∧ get h b (o + i * 2 + 1) = some (.string (bs l[i].2)) := by
  have key : ∀ (l : List (Int × List UInt8)) (i : Nat) (hi : i < l.length), (flatW l)[i * 2]? = some (.int .i64 l[i].1) ∧ (flatW l)[i * 2 + 1]? = some (.string (bs l[i].2)) := by
    intro l
    induction l with
    | nil => intro i hi; simp at hi
    | cons c l ih =>
      intro i hi
      cases i with
      | zero => simp [flatW]
      | succ i =>
        have := ih i (by simpa using hi)
        have e : flatW (c :: l) = .int .i64 c.1 :: .string (bs c.2) :: flatW l := by simp [flatW]
        rw [e, show (i + 1) * 2 = i * 2 + 1 + 1 by omega, show i * 2 + 1 + 1 + 1 = (i * 2 + 1) + 1 + 1 by omega]
        simpa using this
  obtain ⟨k0, k1⟩ := key l i hi
  rcases H with H | ⟨b, o, rfl, H⟩
  · have := congrArg List.length H
    rw [flatW_length] at this; simp at this; omega
  · exact ⟨b, o, rfl, H _ _ k0, by rw [Nat.add_assoc]; exact H _ _ k1⟩
theorem own_take {h : Heap} {base cap : Nat} {p : Option Addr} {y : List (List UInt8)} (H : Own h base p cap 1 (strs y)) (k : Nat) : Own h base p cap 1 (strs (y.take k)) := by
  have e : strs y = strs (y.take k) ++ strs (y.drop k) := by unfold strs; rw [← List.map_append, List.take_append_drop]
  rcases H with ⟨h1, h2, h3⟩ | ⟨b, rest, h1, h2, hc, h3⟩
  · refine .inl ⟨h1, ?_, h3⟩
    rw [e] at h2; exact (List.append_eq_nil_iff.1 h2).1
  · rw [e, List.append_assoc] at hc h3
    exact .inr ⟨b, _, h1, h2, hc, h3⟩
theorem app_le {e size n cap m c' : Nat} {h h' : Heap} {p p' : Option Addr} {vs news : List Value} (ha : Appended e size h p n cap m vs news h' p' c') : h.size ≤ h'.size := by
  rcases ha with ⟨_, rfl, _, _⟩ | ⟨_, _, _, _, rfl, _⟩
  · unfold setRow; split
    · rw [setcs_sz]; exact Nat.le_refl _
    · exact Nat.le_refl _
  · simp
theorem Args_words (h0 : Heap) (o : Os × Array (Nat × ByteArray)) (base : Nat) (p q : Option Addr) (cap qc ab cb : Nat) (n : Int) (l : List (Int × List UInt8)) (fits upper : Bool) (x : List UInt8) (h : Heap) (c : Cd)
    (hc : CellsAt h cb 0 c.v) (ha : CellsAt h ab 0 [.int .i64 n, .slice q l.length qc, .bool fits, .bool upper]) (hne : ab ≠ cb) (hl : row h0 q (flatW l)) (_hln : l.length ≤ 9223372036854775807) (hx : Ext h0 h)
    (hb : h0.size ≤ base) (hbh : base ≤ h.size) (hcb : cb < base) (hab : ab < base) (hxs : x.length ≤ 100) (hown : Own h base p cap 1 (strs [x])) (hc1 : c.least ≤ 10) (hc2 : 1 ≤ c.most) (hc3 : c.most ≤ 256) :
    AtCut Tryd.prog (c8 o8) Tryd.f8 (ArgR h0 o) p8 [] [.pointer (some ⟨ab, 0, none⟩), .pointer (some ⟨cb, 0, none⟩), .slice p 1 cap] h o := by
  refine cutting (k8 o8) [.ptr (.at (.v 3) (.c 0)), .ptr (.at (.v 0) (.c 0)), .slice (.v 0) (.c 1) (.v 2)] [(.v 0, .c 0, [.str (.v 0), .int .i64 (.v 0), .int .i64 (.v 1), .bool (.v 0), .int .i64 (.v 2)]), (.v 3, .c 0, [.int .i64 (.v 3), .slice (.v 1) (.v 4) (.v 5), .bool (.v 1), .bool (.v 2)])]
    { n := fun j => if j = 0 then cb else if j = 2 then cap else if j = 3 then ab else if j = 4 then l.length else qc, p := fun j => if j = 0 then p else q, s := fun _ => c.name, i := fun j => if j = 0 then c.least else if j = 1 then c.most else if j = 2 then c.group else n, b := fun j => if j = 0 then c.write else if j = 1 then fits else upper, h := fun _ => h, o := o } 6 1000
    rfl (by simp [SV.den, PE.den, NE.den]) rfl rfl ⟨by simpa [NE.den, SV.den, SE.den, IE.den, BE.den, Cd.v] using hc, ⟨by simpa [NE.den] using hne.symm, trivial⟩, by simpa [NE.den, SV.den, SE.den, IE.den, BE.den, PE.den] using ha, trivial, trivial⟩ ?_
  conv => arg 7; reduce
  simp only [VC.den, IE.den, NE.den, SE.den, SV.den, HE.den, PE.den, BE.den, WS.den, List.map_cons, List.map_nil, Int.cast_ofNat_Int, reduceIte, Nat.reduceEqDiff]
  have hne2 : cb ≠ ab := hne.symm
  intro _ _ _
  refine looping (k8 o8) [.ptr (.at (.v 3) (.c 0)), .ptr (.at (.v 0) (.c 0)), .slice (.v 0) (.v 1) (.v 2), .int .i64 (.ofN (.v 6))] [(.v 0, .c 0, [.str (.v 0), .int .i64 (.v 0), .int .i64 (.v 1), .bool (.v 0), .int .i64 (.v 2)]), (.v 3, .c 0, [.int .i64 (.v 3), .slice (.v 1) (.v 4) (.v 5), .bool (.v 1), .bool (.v 2)])]
    (fun y : List (List UInt8) × Option Addr × Nat × Heap => { n := fun j => if j = 0 then cb else if j = 1 then y.1.length else if j = 2 then y.2.2.1 else if j = 3 then ab else if j = 4 then l.length else if j = 5 then qc else y.1.length - 1, p := fun j => if j = 0 then y.2.1 else q, s := fun _ => c.name, i := fun j => if j = 0 then c.least else if j = 1 then c.most else if j = 2 then c.group else n, b := fun j => if j = 0 then c.write else if j = 1 then fits else upper, h := fun _ => y.2.2.2, o := o }) 7 1000
    (fun y => 1 ≤ y.1.length ∧ y.1.length ≤ 10 ∧ (∀ s ∈ y.1, s.length ≤ 100) ∧ Ext h0 y.2.2.2 ∧ base ≤ y.2.2.2.size ∧ CellsAt y.2.2.2 cb 0 c.v ∧ CellsAt y.2.2.2 ab 0 [.int .i64 n, .slice q l.length qc, .bool fits, .bool upper] ∧ Own y.2.2.2 base y.2.1 y.2.2.1 1 (strs y.1))
    (fun y => 10 - y.1.length) ([x], p, cap, h) ⟨by simp, by simp, by simpa using hxs, hx, hbh, hc, ha, hown⟩ rfl (by simp [SV.den, PE.den, IE.den, NE.den]) rfl (fun _ => rfl) (fun y hy => ⟨by simpa [NE.den, SV.den, SE.den, IE.den, BE.den, Cd.v] using hy.2.2.2.2.2.1, ⟨by simpa [NE.den] using hne2, trivial⟩, by simpa [NE.den, SV.den, SE.den, IE.den, BE.den, PE.den] using hy.2.2.2.2.2.2.1, trivial, trivial⟩) ?_
  rintro ⟨y, p, cap, h⟩ ⟨hy1, hy2, hys, hx, hbh, hc, ha, hown⟩ N hN
  simp only at hy1 hy2 hys hx hbh hc ha hown
  simp only [SV.den, PE.den, NE.den, IE.den, List.map_cons, List.map_nil, reduceIte, Nat.reduceEqDiff] at hN
  conv => arg 7; reduce
  simp only [VC.den, BE.prop, IE.den, NE.den, SE.den, SV.den, HE.den, PE.den, BE.den, WS.den, WI.den, List.map_cons, List.map_nil, Int.cast_ofNat_Int, reduceIte, Nat.reduceEqDiff, Env.setE, Env.setH, Env.setS, Env.setI, Env.setN, Env.setP, inK_i64]
  refine ⟨fun ⟨h1, h2⟩ => ?_, fun h1 => ⟨fun h2 _ _ _ w hw ho => ?_, fun h2 _ _ _ => ?_⟩⟩
  · have hlt : y.length - 1 < l.length := by omega
    obtain ⟨b, o', rfl, g0, g1⟩ := flatW_at (hx.row hl) hlt
    refine ⟨b, o', rfl, h1, _, _, g0, g1, ?_⟩
    intro w1 hw1 ho1
    refine (Of_any _ _ w1).mono ?_
    rintro e1 v1 ⟨t, rfl, ht, hx1, hp1⟩
    rw [hw1] at hx1
    have hown1 := (hown.ext hx1).ext (ext_push v1.heap (.cells #[.string (bs t)] 9))
    have hx1' := (hx.trans hx1).trans (ext_push v1.heap (.cells #[.string (bs t)] 9))
    refine ⟨hp1.trans ho1, hx1, _, rfl, (hown.ext hx1).ne (Nat.le_refl _), hown.ne_lt hcb, hown.ne_lt hab, strs y, hown1.app (by simp [strs_length]) (by omega) (by omega), fun h' p' c' hap => ⟨by omega, fun hc' ha' _ => ?_⟩⟩
    have o1 := hown1.next (by simp [strs_length]) (by simp) (Nat.le_trans hbh (Nat.le_trans hx1.le (ext_push v1.heap _).le)) hap
    have x1 := hown1.keep hb hx1' hap
    rw [← strs_snoc] at o1
    have := hN (y ++ [t], p', c', h') ⟨by simp only [List.length_append, List.length_cons, List.length_nil]; omega, by simp only [List.length_append, List.length_cons, List.length_nil]; omega, ?_, x1, Nat.le_trans hbh (Nat.le_trans hx1.le (Nat.le_trans (ext_push v1.heap _).le (app_le hap))), hc', ha', o1⟩ (by simp only [List.length_append, List.length_cons, List.length_nil]; omega)
    · simp only [List.length_append, List.length_cons, List.length_nil, Nat.zero_add, Nat.add_sub_cancel] at this
      rw [show ((y.length - 1 : Nat) : Int) + 1 = (y.length : Int) by omega]
      exact this
    · intro s hs'
      rcases List.mem_append.1 hs' with h | h
      · exact hys s h
      · rw [List.mem_singleton.1 h]; omega
  · exact ⟨y, p, cap, rfl, fun e => by rw [e] at hy1; simp at hy1, by omega, hys, by rw [hw]; exact hown.row, by rw [hw]; exact hx, ho, hown.cap_le (by rw [strs_length]; omega) (by omega)⟩
  · refine looping (k8 o8) [.ptr (.at (.v 0) (.c 0)), .slice (.v 0) (.v 1) (.v 2)] [(.v 0, .c 0, [.str (.v 0), .int .i64 (.v 0), .int .i64 (.v 1), .bool (.v 0), .int .i64 (.v 2)])]
      (fun y : List (List UInt8) × Option Addr × Nat × Heap => { n := fun j => if j = 0 then cb else if j = 1 then y.1.length else y.2.2.1, p := fun _ => y.2.1, s := fun _ => c.name, i := fun j => if j = 0 then c.least else if j = 1 then c.most else c.group, b := fun _ => c.write, h := fun _ => y.2.2.2, o := o }) 7 1000
      (fun y => 1 ≤ y.1.length ∧ y.1.length ≤ 10 ∧ (∀ s ∈ y.1, s.length ≤ 100) ∧ Ext h0 y.2.2.2 ∧ base ≤ y.2.2.2.size ∧ CellsAt y.2.2.2 cb 0 c.v ∧ Own y.2.2.2 base y.2.1 y.2.2.1 1 (strs y.1))
      (fun y => 10 - y.1.length) (y, p, cap, h) ⟨hy1, hy2, hys, hx, hbh, hc, hown⟩ rfl (by simp [SV.den, PE.den, NE.den]) rfl (fun _ => rfl) (fun y hy => ⟨by simpa [NE.den, SV.den, SE.den, IE.den, BE.den, Cd.v] using hy.2.2.2.2.2.1, trivial, trivial⟩) ?_
    rintro ⟨y, p, cap, h⟩ ⟨hy1, hy2, hys, hx, hbh, hc, hown⟩ N hN
    simp only at hy1 hy2 hys hx hbh hc hown
    simp only [SV.den, PE.den, NE.den, List.map_cons, List.map_nil, reduceIte, Nat.reduceEqDiff] at hN
    conv => arg 7; reduce
    simp only [VC.den, BE.prop, IE.den, NE.den, SE.den, SV.den, HE.den, PE.den, BE.den, WS.den, WI.den, List.map_cons, List.map_nil, Int.cast_ofNat_Int, reduceIte, Nat.reduceEqDiff, Env.setE, Env.setH, Env.setS, Env.setN, Env.setP]
    refine ⟨fun h1 => ?_, fun h1 => ⟨fun h2 => ?_, fun h2 _ _ => ?_⟩⟩
    · intro w1 hw1 ho1
      refine (table_any w1).mono ?_
      rintro e1 v1 ⟨tp, rfl, htr, hx1, hp1⟩
      rw [hw1] at hx1
      have hm : ((y.length : Int)).tmod 6 = ((y.length % 6 : Nat) : Int) := tmod_nat y.length 6
      have hlt : y.length % 6 < tabS.length := by rw [tabS_len]; omega
      obtain ⟨b, o', rfl, g0⟩ := htr.at hlt
      have ht : tabS[y.length % 6].length ≤ 60 := tabS_short _ (List.getElem_mem _)
      rw [hm, Int.toNat_natCast]
      refine ⟨hp1.trans ho1, hx1, _, _, _, rfl, b, o', rfl, by omega, by omega, _, g0, ?_⟩
      generalize tabS[y.length % 6] = t at ht
      have hown1 := (hown.ext hx1).ext (ext_push v1.heap (.cells #[.string (bs t)] 9))
      have hx1' := (hx.trans hx1).trans (ext_push v1.heap (.cells #[.string (bs t)] 9))
      refine ⟨(hown.ext hx1).ne (Nat.le_refl _), hown.ne_lt hcb, strs y, hown1.app (by simp [strs_length]) (by omega) (by omega), fun h' p' c' hap hc' _ => ?_⟩
      have o1 := hown1.next (by simp [strs_length]) (by simp) (Nat.le_trans hbh (Nat.le_trans hx1.le (ext_push v1.heap _).le)) hap
      have x1 := hown1.keep hb hx1' hap
      rw [← strs_snoc] at o1
      have := hN (y ++ [t], p', c', h') ⟨by simp only [List.length_append, List.length_cons, List.length_nil]; omega, by simp only [List.length_append, List.length_cons, List.length_nil]; omega, ?_, x1, Nat.le_trans hbh (Nat.le_trans hx1.le (Nat.le_trans (ext_push v1.heap _).le (app_le hap))), hc', o1⟩ (by simp only [List.length_append, List.length_cons, List.length_nil]; omega)
      · simp only [List.length_append, List.length_cons, List.length_nil, Nat.zero_add] at this
        exact this
      · intro s hs'
        rcases List.mem_append.1 hs' with h | h
        · exact hys s h
        · rw [List.mem_singleton.1 h]; omega
    · have hcap : y.length ≤ cap := hown.cap_le (by rw [strs_length]; omega) (by omega)
      refine ⟨by omega, by omega, fun _ _ => ?_⟩
      have hlt : (y.take c.most.toNat).length = c.most.toNat := by rw [List.length_take]; omega
      have := Args_end h0 o base p cap cb (y.take c.most.toNat) h c hc hx hb hbh hcb (fun e => by rw [e] at hlt; simp at hlt; omega) (by omega) (fun s hs => hys s (List.mem_of_mem_take hs)) (own_take hown _)
      rw [hlt] at this
      exact this
    · exact Args_end h0 o base p cap cb y h c hc hx hb hbh hcb (fun e => by rw [e] at hy1; simp at hy1) (by omega) hys hown
theorem tbl_count : tbl.length = 81 := by decide +kernel
def boxQ (h : Heap) (c : Cd) : Heap := setc (setc (setc (setc (setc (h.push (.cells #[.string (bs (bytesOf [])), .int .i64 0, .int .i64 0, .bool false, .int .i64 0] 32)) h.size 0 (.string (bs c.name))) h.size 1 (.int .i64 c.least)) h.size 2 (.int .i64 c.most)) h.size 3 (.bool c.write)) h.size 4 (.int .i64 c.group)
theorem ext_setq {h h1 : Heap} (hx : Ext h h1) {b : Nat} (hb : h.size ≤ b) (o : Nat) (v : Value) : Ext h (setc h1 b o v) := ((hx.frame (fun _ => False)).set (fun hl => by omega) o v).none
theorem boxQ_ext (h : Heap) (c : Cd) : Ext h (boxQ h c) := by
  have := Nat.le_refl h.size
  exact ext_setq (ext_setq (ext_setq (ext_setq (ext_setq (ext_push h _) this _ _) this _ _) this _ _) this _ _) this _ _
theorem boxQ_cells (h : Heap) (c : Cd) : CellsAt (boxQ h c) h.size 0 c.v :=
  (((((CellsAt.made h [.string (bs (bytesOf [])), .int .i64 0, .int .i64 0, .bool false, .int .i64 0] 32).set0 0 (.string (bs c.name))).set0 1 (.int .i64 c.least)).set0 2 (.int .i64 c.most)).set0 3 (.bool c.write)).set0 4 (.int .i64 c.group)
theorem Args_any (n : Int) (l : List (Int × List UInt8)) (fits upper : Bool) (q : Option Addr) (qc : Nat) (w : World) (hl : row w.heap q (flatW l)) (hln : l.length ≤ 9223372036854775807) :
    Calls Tryd.prog 8 #[.agg #[.int .i64 n, .slice q l.length qc, .bool fits, .bool upper], .int .i64 0] w (ArgR w.heap (outw w)) := by
  refine begins (k8 o8) [.agg [.int .i64 (.v 0), .slice (.v 0) (.v 0) (.v 1), .bool (.v 0), .bool (.v 1)], .int .i64 (.c 0)] [] { i := fun _ => n, p := fun _ => q, n := fun j => if j = 0 then l.length else qc, b := fun j => if j = 0 then fits else upper, h := fun _ => w.heap, o := outw w } 2 1000 rfl rfl rfl trivial (by simp [SV.den, IE.den, PE.den, NE.den, BE.den]) ?_
  conv => arg 7; reduce
  simp only [VC.den, IE.den, NE.den, SV.den, HE.den, PE.den, BE.den, WS.den, List.map_cons, List.map_nil, Int.cast_ofNat_Int, reduceIte, Nat.reduceEqDiff, Env.setE, Env.setH, Env.setN, Env.setP]
  intro w1 hw1 ho1
  refine (All_any _).mono ?_
  rintro e1 v1 ⟨tp, tc, rfl, hr, hx1, hp1⟩
  rw [hw1] at hx1
  have hX0 : Ext w.heap v1.heap := (ext_push _ _).trans hx1
  refine ⟨hp1.trans ho1, hx1, tp, _, tc, rfl, fun ha _ => ?_⟩
  refine looping (k8 o8) [.int .i64 (.c 0), .ptr (.at (.v 0) (.c 0)), .slice (.v 0) (.v 1) (.v 2), .slice (.v 1) (.v 3) (.v 4), .int .i64 (.ofN (.v 1))] [(.v 0, .c 0, [.int .i64 (.v 0), .slice (.v 2) (.v 5) (.v 6), .bool (.v 0), .bool (.v 1)])]
    (fun y : Nat × Option Addr × Nat × Heap => { n := fun j => if j = 0 then w.heap.size else if j = 1 then y.1 else if j = 2 then y.2.2.1 else if j = 3 then tbl.length else if j = 4 then tc else if j = 5 then l.length else qc, p := fun j => if j = 0 then y.2.1 else if j = 1 then tp else q, i := fun _ => n, b := fun j => if j = 0 then fits else upper, h := fun _ => y.2.2.2, o := outw w }) 7 1000
    (fun y => y.1 ≤ tbl.length ∧ Ext v1.heap y.2.2.2 ∧ Own y.2.2.2 v1.heap.size y.2.1 y.2.2.1 5 (flatC (tbl.take y.1)))
    (fun y => tbl.length - y.1) (0, none, 0, v1.heap) ⟨Nat.zero_le _, Ext.refl _, Own.nil _ _ _⟩ rfl (by simp [SV.den, PE.den, IE.den, NE.den]) rfl (fun _ => rfl) (fun y hy => ⟨by simpa [NE.den, SV.den, SE.den, IE.den, BE.den, PE.den] using hy.2.1.cellsAt ha, trivial, trivial⟩) ?_
  rintro ⟨i, p, cap, h⟩ ⟨hi, hx, hown⟩ N hN
  simp only at hi hx hown
  simp only [SV.den, PE.den, NE.den, IE.den, List.map_cons, List.map_nil, reduceIte, Nat.reduceEqDiff] at hN
  conv => arg 7; reduce
  simp only [VC.den, BE.prop, IE.den, NE.den, SE.den, SV.den, HE.den, PE.den, BE.den, WS.den, WI.den, List.map_cons, List.map_nil, Int.cast_ofNat_Int, reduceIte, Nat.reduceEqDiff, Env.setE, Env.setH, Env.setB, Env.setS, Env.setI, Env.setN, Env.setP, inK_i64]
  refine ⟨fun h1 => ?_, fun h1 => ⟨fun h2 => by rw [tbl_count] at h1; omega, fun h2 => ?_⟩⟩
  · have hlt : i < tbl.length := by omega
    obtain ⟨b, o, rfl, g0, g1, g2, g3, g4⟩ := (CdRow.ext (show CdRow v1.heap tp tbl from hr) hx).at hlt
    have hown1 := hown.ext (ext_push h (.cells tbl[i].v.toArray 32))
    have hx1' := hx.trans (ext_push h (.cells tbl[i].v.toArray 32))
    have hlen : (flatC (tbl.take i)).length = i * 5 := by rw [flatC_length, List.length_take]; omega
    have hlt' := hlt
    rw [tbl_count] at hlt'
    refine ⟨b, o, rfl, h1, _, _, _, _, _, g0, g1, g2, g3, g4, hown.ne (Nat.le_refl _), hown.ne_lt (Nat.lt_of_lt_of_le (by simp) hx1.le), _, hown1.app hlen (by omega) (by omega), fun h' p' c' hap => ⟨by omega, fun _ _ => ?_⟩⟩
    have o1 := hown1.next hlen rfl hx1'.le hap
    have x1 := hown1.keep (Nat.le_refl _) hx1' hap
    refine hN (i + 1, p', c', h') ⟨hlt, x1, ?_⟩ (by simp only; omega)
    simp only
    rw [List.take_succ_eq_append_getElem hlt, flatC_snoc]
    exact o1
  · have hi' : i = 81 := by rw [tbl_count] at h1 hi; omega
    subst hi'
    rw [List.take_of_length_le (by rw [tbl_count]; omega)] at hown
    have hr2 : CdRow h p tbl := hown.row
    intro w2 hw2 ho2
    refine (Within_any n _).mono ?_
    rintro e2 v2 ⟨rfl, hx2, hp2⟩
    rw [hw2] at hx2
    refine ⟨hp2.trans ho2, hx2, ?_⟩
    have hm : ((n % 1048577).tmod ((81 : Nat) : Int)) = (((n % 1048577).toNat % 81 : Nat) : Int) := by
      rw [← tmod_nat]; congr 1; omega
    have hlt : (n % 1048577).toNat % 81 < tbl.length := by rw [tbl_count]; omega
    obtain ⟨b, o, rfl, g0, g1, g2, g3, g4⟩ := (hr2.ext hx2).at hlt
    obtain ⟨c1, c2, c3, c4, c5, c6⟩ := tbl_nice _ (List.getElem_mem hlt)
    generalize tbl[(n % 1048577).toNat % 81] = c at *
    refine ⟨_, rfl, h2, ?_⟩
    rw [hm, Int.toNat_natCast]
    refine ⟨b, o, rfl, by omega, by omega, _, _, _, _, _, g0, g1, g2, g3, g4, ?_⟩
    have hXq := boxQ_ext v2.heap c
    have hCq := boxQ_cells v2.heap c
    unfold boxQ at hXq hCq
    generalize setc (setc (setc (setc (setc (v2.heap.push (.cells #[.string (bs (bytesOf [])), .int .i64 0, .int .i64 0, .bool false, .int .i64 0] 32)) v2.heap.size 0 (.string (bs c.name))) v2.heap.size 1 (.int .i64 c.least)) v2.heap.size 2 (.int .i64 c.most)) v2.heap.size 3 (.bool c.write)) v2.heap.size 4 (.int .i64 c.group) = hh at hXq hCq ⊢
    have hsz : v2.heap.size < hh.size := hCq.1
    have hwl : w.heap.size < v2.heap.size := by
      have := hX0.le; have := hx.le; have := hx2.le; have := ha.1; omega
    have fin : ∀ (H : Heap) (t : List UInt8), hh.size ≤ H.size → t.length ≤ 100 → CellsAt (H.push (.cells #[.string (bs t)] 9)) v2.heap.size 0 c.v → CellsAt (H.push (.cells #[.string (bs t)] 9)) w.heap.size 0 [.int .i64 n, .slice q l.length qc, .bool fits, .bool upper] →
        Ext h (H.push (.cells #[.string (bs t)] 9)) → AtCut Tryd.prog (c8 o8) Tryd.f8 (ArgR w.heap (outw w)) p8 [] [.pointer (some ⟨w.heap.size, 0, none⟩), .pointer (some ⟨v2.heap.size, 0, none⟩), .slice (some ⟨H.size, 0, none⟩) 1 1] (H.push (.cells #[.string (bs t)] 9)) (outw w) := by
      intro H t hH ht hc ha hxx
      exact Args_words w.heap (outw w) H.size (some ⟨H.size, 0, none⟩) q 1 qc w.heap.size v2.heap.size n l fits upper t _ c hc ha (by omega) hl hln (hX0.trans (hx.trans hxx)) (by omega) (by simp) (by omega) (by omega) ht
        (.inr ⟨H.size, [], rfl, Nat.le_refl _, by simpa [strs] using CellsAt.made H [.string (bs t)] 9, by simp [strs]⟩) c4 c5 c6
    refine ⟨fun _ c' hc' => ?_, fun _ _ hc ha hf => fin hh c.name (Nat.le_refl _) c2 hc ha hf.none⟩
    have hpos : 0 < c.name.length := List.length_pos_iff.2 c1
    have hh1 : hh.size ≤ (hh.push (.cells #[.string (bs c.name)] 9)).size := by simp
    generalize hh.push (.cells #[.string (bs c.name)] 9) = H1 at hh1 ⊢
    have hB := CellsAt.fresh H1 (u8s c.name) (List.replicate (c' - c.name.length) (Value.int .u8 0)) 5 (c', c' + 1) (by rw [u8s_length]; exact hc')
    have hh2 : hh.size ≤ (H1.push (.cells (u8s c.name ++ List.replicate (c' - c.name.length) (Value.int .u8 0)).toArray 5 (c', c' + 1))).size := by simp; omega
    generalize H1.push (.cells (u8s c.name ++ List.replicate (c' - c.name.length) (Value.int .u8 0)).toArray 5 (c', c' + 1)) = H2 at hB hh2 ⊢
    have hg := hB.at0 (u8s_get (l := c.name) (j := 0) hpos)
    have hwr := hB.wr0 (j := 0) (by rw [u8s_length]; exact hpos)
    obtain ⟨u, hu⟩ : ∃ u : UInt8, IntKind.u8.wrap (((c.name.getD 0 0).toNat : Int) - 32) = (u.toNat : Int) := by
      have hw := wrap_u8_in (((c.name.getD 0 0).toNat : Int) - 32)
      refine ⟨UInt8.ofNat (IntKind.u8.wrap (((c.name.getD 0 0).toNat : Int) - 32)).toNat, ?_⟩
      rw [UInt8.toNat_ofNat_of_lt' (by show _ < 256; omega)]; omega
    have hset := hB.set0 0 (.int .u8 (u.toNat : Int))
    rw [u8s_set] at hset
    refine ⟨by omega, _, hg, by omega, hwr.1, hwr.2, c.name.set 0 u, by simp, by rw [hu]; exact hset.row, fun _ hc ha hf => ?_⟩
    exact fin _ _ (by rw [size_setc]; exact hh2) (by simp; omega) hc ha hf.none
end Go.Proofs.YtjffhomcgpigpaaDoor
