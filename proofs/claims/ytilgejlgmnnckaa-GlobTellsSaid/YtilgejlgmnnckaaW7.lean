import Derived.Test.YtilgejlgmnnckaaW6
namespace Go.Proofs.Ytilgejlgmnnckaa
open E
set_option maxRecDepth 100000
theorem rclass_loop (c : UInt8) (hp : Heap) (o : Os × Array (Nat × ByteArray)) (nt : Bool) (q0 : List UInt8) (hq0 : q0.length ≤ 1000000000) :
    AtLoop Try.prog (c18 []) Try.f18 (Ret (.tuple #[.bool ((Glob.cls c false q0).1 != nt), .string (bs (Glob.cls c false q0).2)]) hp o)
      [0, 0, 0, 1, 1, 1, 1] [KI.blk 0, KI.seq [1, 1, 1, 1, 1]] [.string (bs q0), .int .u8 c.toNat, .bool nt, .bool false] hp o := by
  refine looping (k18 []) [.str (.v 0), .int .u8 (.v 0), .bool (.v 1), .bool (.v 0)]
    (fun x : List UInt8 × Bool => { s := fun _ => x.1, i := fun _ => c.toNat, b := fun j => if j = 0 then x.2 else nt, h := fun _ => hp, o := o }) 2 1000
    (fun x => x.1.length ≤ 1000000000 ∧ Glob.cls c x.2 x.1 = Glob.cls c false q0) (fun x => x.1.length) (q0, false) ⟨hq0, rfl⟩ rfl (by simp [SV.den, SE.den, IE.den, BE.den]) rfl (fun _ => rfl) ?_
  rintro ⟨q, has⟩ ⟨hq, hI⟩ N hN
  simp only at hq hI
  conv => arg 7; reduce
  simp only [VC.den, BE.prop, IE.den, NE.den, SE.den, SV.den, HE.den, BE.den, inK_i64, List.map_cons, List.map_nil, Int.cast_ofNat_Int, u8eq, u8le, u8n _ 92 (by omega), u8n _ 93 (by omega), u8n _ 45 (by omega), reduceIte, Nat.reduceEqDiff]
  simp only [IE.den, NE.den, SE.den, SV.den, BE.den, List.map_cons, List.map_nil, reduceIte] at hN
  have hN' : ∀ (q' : List UInt8) (has' : Bool), q'.length < q.length → Glob.cls c has' q' = Glob.cls c has q → N [.string (bs q'), .int .u8 c.toNat, .bool nt, .bool has'] hp o := by
    intro q' has' h1 h3
    exact hN (q', has') ⟨by simp only; omega, h3.trans hI⟩ h1
  rw [← hI]
  clear hI hN
  have hplain : 0 < q.length → ¬ q.getD 0 0 = OfNat.ofNat 93 → ¬ (q.getD 0 0 = OfNat.ofNat 92 ∧ 1 < (q.length : Int)) → ¬ ((2 < (q.length : Int) ∧ q.getD 1 0 = OfNat.ofNat 45) ∧ ¬ q.getD 2 0 = OfNat.ofNat 93) →
      Glob.cls c (has || decide (q.getD 0 0 = c)) (q.drop 1) = Glob.cls c has q := by
    intro h0 h1 h2 h3
    have hd := dropC q 0 h0
    simp only [List.drop_zero, Nat.zero_add] at hd
    conv => rhs; rw [hd]
    refine (Glob.cls_plain c _ has _ h1 ?_ ?_).symm
    · by_cases e : q.getD 0 0 = OfNat.ofNat 92
      · right; exact dropE _ _ (by have : ¬ (1 < (q.length : Int)) := fun h => h2 ⟨e, h⟩
                                   omega)
      · exact .inl e
    · intro d t hd
      have hl := congrArg List.length hd
      simp at hl
      rw [dropC q 1 (by omega), dropC q (1 + 1) (by omega)] at hd
      injection hd with e1 e2
      injection e2 with e2 e3
      rw [← e2]
      exact Decidable.byContradiction fun e => h3 ⟨⟨by omega, e1⟩, e⟩
  have hesc : q.getD 0 0 = OfNat.ofNat 92 → 1 < (q.length : Int) → Glob.cls c (has || decide (q.getD 1 0 = c)) (q.drop 2) = Glob.cls c has q := by
    intro h1 h2
    have hd := dropC q 0 (by omega)
    rw [dropC q 1 (by omega), h1] at hd
    simp only [List.drop_zero, Nat.zero_add, Nat.reduceAdd] at hd
    conv => rhs; rw [hd]
    exact (Glob.cls_esc c _ has _).symm
  have hrange : ¬ q.getD 0 0 = OfNat.ofNat 93 → ¬ (q.getD 0 0 = OfNat.ofNat 92 ∧ 1 < (q.length : Int)) → 2 < (q.length : Int) → q.getD 1 0 = OfNat.ofNat 45 → ¬ q.getD 2 0 = OfNat.ofNat 93 →
      ∀ b, (b = (has || (decide (min (q.getD 0 0) (q.getD 2 0) ≤ c) && decide (c ≤ max (q.getD 0 0) (q.getD 2 0))))) → Glob.cls c b (q.drop 3) = Glob.cls c has q := by
    rintro h1 h2 h3 h4 h5 b rfl
    have hd := dropC q 0 (by omega)
    rw [dropC q 1 (by omega), dropC q 2 (by omega), h4] at hd
    simp only [List.drop_zero, Nat.zero_add, Nat.reduceAdd] at hd
    conv => rhs; rw [hd]
    exact (Glob.cls_range c _ _ has _ h1 (fun e => h2 ⟨e, by omega⟩) h5).symm
  have hmin : (q.getD 2 0).toNat < (q.getD 0 0).toNat → min (q.getD 0 0) (q.getD 2 0) = q.getD 2 0 ∧ max (q.getD 0 0) (q.getD 2 0) = q.getD 0 0 := by
    intro h
    have h1 : ¬ q.getD 0 0 ≤ q.getD 2 0 := by rw [UInt8.le_iff_toNat_le]; omega
    exact ⟨if_neg h1, if_neg h1⟩
  have hmin' : ¬ (q.getD 2 0).toNat < (q.getD 0 0).toNat → min (q.getD 0 0) (q.getD 2 0) = q.getD 0 0 ∧ max (q.getD 0 0) (q.getD 2 0) = q.getD 2 0 := by
    intro h
    have h1 : q.getD 0 0 ≤ q.getD 2 0 := by rw [UInt8.le_iff_toNat_le]; omega
    exact ⟨if_pos h1, if_pos h1⟩
  have hlen : ∀ k, (q.drop k).length = q.length - k := fun k => List.length_drop
  refine ⟨fun _ => by omega, fun h => h, fun ⟨h1, h2⟩ => ⟨by omega, by omega, fun ⟨h3, h4⟩ => ⟨fun _ => by omega, fun _ => by omega, by omega, by omega, ?_⟩, fun h3 => ⟨fun _ => by omega, fun _ => by omega, fun _ => by omega, fun h => h.1, fun ⟨⟨h4, h5⟩, h6⟩ => ⟨by omega, by omega, by omega, by omega,
    fun h7 => ⟨fun h8 => ⟨by omega, by omega, ?_⟩, fun h8 => ⟨by omega, by omega, ?_⟩⟩, fun h7 => ⟨fun h8 => ⟨by omega, by omega, ?_⟩, fun h8 => ⟨by omega, by omega, ?_⟩⟩⟩, fun h4 => ⟨fun _ => by omega, fun _ => by omega, by omega, by omega, ?_⟩⟩⟩,
    fun h1 => ⟨fun h2 => ⟨by omega, by omega, fun w1 hw1 ho1 => ⟨?_, hw1, ho1⟩⟩, fun h2 w1 hw1 ho1 => ⟨?_, hw1, ho1⟩⟩⟩
  · exact hN' _ _ (by rw [hlen]; omega) (hesc h3 h4)
  · exact hN' _ _ (by rw [hlen]; omega) (hrange h2 h3 h4 h5 h6 _ (by simp [h8]))
  · refine hN' _ _ (by rw [hlen]; omega) (hrange h2 h3 h4 h5 h6 _ ?_)
    rw [(hmin (by omega)).1, (hmin (by omega)).2]; simp [h8]
  · exact hN' _ _ (by rw [hlen]; omega) (hrange h2 h3 h4 h5 h6 _ (by simp [h8]))
  · refine hN' _ _ (by rw [hlen]; omega) (hrange h2 h3 h4 h5 h6 _ ?_)
    rw [(hmin' (by omega)).1, (hmin' (by omega)).2]; simp [h8]
  · exact hN' _ _ (by rw [hlen]; omega) (hplain (by omega) h2 h3 h4)
  · have e : q.getD 0 0 = OfNat.ofNat 93 := Decidable.byContradiction fun e => h1 ⟨by omega, e⟩
    have hd := dropC q 0 (by omega)
    rw [e] at hd
    simp only [List.drop_zero, Nat.zero_add] at hd
    have h3 : Glob.cls c has q = (has, q.drop 1) := by
      conv => lhs; rw [hd]
      exact Glob.cls_close c has (q.drop 1)
    rw [h3]
    cases has <;> cases nt <;> rfl
  · obtain rfl : q = [] := by cases q with | nil => rfl | cons a r => simp at h2
    rw [Glob.cls_end]
    cases has <;> cases nt <;> rfl

theorem rclass_any (p : List UInt8) (c : UInt8) (w : World) (hs : p.length ≤ 1000000000) :
    Calls Try.prog 18 #[.string (bs p), .int .u8 c.toNat] w (Ret (.tuple #[.bool (Glob.classS p c).1, .string (bs (Glob.classS p c).2)]) w.heap (outw w)) := by
  refine begins (k18 []) [.str (.v 0), .int .u8 (.v 0)] { s := fun _ => p, i := fun _ => c.toNat, h := fun _ => w.heap, o := outw w } 1 1000 rfl rfl rfl (by simp [SV.den, SE.den, IE.den]) ?_
  conv => arg 7; reduce
  simp only [VC.den, BE.prop, IE.den, NE.den, SE.den, SV.den, HE.den, BE.den, List.map_cons, List.map_nil, Int.cast_ofNat_Int, u8n _ 94 (by omega)]
  refine ⟨fun _ => by omega, fun h => h, fun ⟨h1, h2⟩ => ⟨by omega, by omega, ?_⟩, fun h => ?_⟩
  · show AtLoop Try.prog (c18 []) Try.f18 _ _ _ _ _ _
    have e : Glob.classS p c = (!(Glob.cls c false (p.drop 1)).1, (Glob.cls c false (p.drop 1)).2) := by
      have hp := dropC p 0 (by omega)
      rw [h2] at hp
      simp only [List.drop_zero, Nat.zero_add] at hp
      conv => lhs; rw [hp]
      rfl
    rw [e]
    simpa using rclass_loop c w.heap (outw w) true (p.drop 1) (by simp; omega)
  · show AtLoop Try.prog (c18 []) Try.f18 _ _ _ _ _ _
    have e : Glob.classS p c = Glob.cls c false p := by
      unfold Glob.classS
      split
      · exfalso; apply h; simp
      · rfl
    rw [e]
    simpa using rclass_loop c w.heap (outw w) false p hs

theorem rone_any (p : List UInt8) (c : UInt8) (w : World) (hs : p.length ≤ 1000000000) (h0 : 0 < p.length) :
    Calls Try.prog 16 #[.string (bs p), .int .u8 c.toNat] w (Ret (.tuple #[.bool (Glob.one p c).1, .string (bs (Glob.one p c).2)]) w.heap (outw w)) := by
  refine begins (k16 []) [.str (.v 0), .int .u8 (.v 0)] { s := fun _ => p, i := fun _ => c.toNat, h := fun _ => w.heap, o := outw w } 1 1000 rfl rfl rfl (by simp [SV.den, SE.den, IE.den]) ?_
  conv => arg 7; reduce
  simp only [VC.den, BE.prop, IE.den, NE.den, SE.den, SV.den, HE.den, BE.den, List.map_cons, List.map_nil, Int.cast_ofNat_Int, u8eq, u8n _ 63 (by omega), u8n _ 91 (by omega), u8n _ 92 (by omega), Env.setE, Env.setH, Env.setI, Env.setB, Env.setS, reduceIte]
  obtain ⟨a, r, rfl⟩ : ∃ a r, p = a :: r := by cases p with | nil => simp at h0 | cons a r => exact ⟨a, r, rfl⟩
  simp only [List.getD_cons_zero, List.getD_cons_succ, List.drop_succ_cons, List.drop_zero, List.length_cons]
  simp only [List.length_cons] at hs
  refine ⟨by omega, by omega, fun h1 => ⟨by omega, by omega, fun w1 hw1 ho1 => ⟨?_, hw1, ho1⟩⟩, fun h1 => ⟨fun h2 => ⟨by omega, by omega, fun w1 hw1 ho1 => ?_⟩, fun h2 => ⟨fun h3 => ⟨fun h4 => ⟨by omega, by omega, by omega, by omega, fun w1 hw1 ho1 => ⟨?_, hw1, ho1⟩⟩, fun h4 => ⟨by omega, by omega, by omega, by omega, fun w1 hw1 ho1 => ⟨?_, hw1, ho1⟩⟩⟩, fun h3 => ⟨by omega, by omega, by omega, by omega, fun w1 hw1 ho1 => ⟨?_, hw1, ho1⟩⟩⟩⟩⟩
  · rw [show a = 63 from h1, Glob.one_q]
  · refine (rclass_any r c w1 (by omega)).mono ?_
    intro e w' ⟨he, hw', ho'⟩
    refine ⟨by rw [ho', ho1], _, _, he, fun w2 hw2 ho2 => ⟨?_, by rw [hw2, hw', hw1], ho2⟩⟩
    rw [show a = 91 from h2, Glob.one_b]
  · obtain ⟨b, t, rfl⟩ : ∃ b t, r = b :: t := by cases r with | nil => simp at h4 | cons b t => exact ⟨b, t, rfl⟩
    rw [show a = 92 from h3, Glob.one_e]
    rfl
  · obtain rfl : r = [] := by cases r with | nil => rfl | cons b t => simp at h4; omega
    rw [show a = 92 from h3, Glob.one_e0]
    rfl
  · rw [Glob.one_p a r c h1 h2 h3]
    rfl
end Go.Proofs.Ytilgejlgmnnckaa
