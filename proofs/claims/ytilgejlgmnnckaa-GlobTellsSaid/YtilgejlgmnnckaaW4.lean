import Derived.Test.YtilgejlgmnnckaaT
import Derived.Test.YtilgejlgmnnckaaG
namespace Go.Proofs.Ytilgejlgmnnckaa
open E
set_option maxRecDepth 100000

theorem dropC (p : List UInt8) (k : Nat) (h : k < p.length) : p.drop k = p.getD k 0 :: p.drop (k + 1) := by
  rw [List.drop_eq_getElem_cons h]; simp [List.getD, h]
theorem dropE (p : List UInt8) (k : Nat) (h : p.length ≤ k) : p.drop k = [] := List.drop_of_length_le h
theorem u8eq (a c : UInt8) : ((a.toNat : Int) = c.toNat) = (a = c) := by
  apply propext; constructor
  · intro h; exact UInt8.toNat_inj.1 (by omega)
  · rintro rfl; rfl
theorem u8n (a : UInt8) (n : Nat) (hn : n < 256) : ((a.toNat : Int) = OfNat.ofNat n) = (a = OfNat.ofNat n) := by
  apply propext; constructor
  · intro h
    apply UInt8.toNat_inj.1
    have : (OfNat.ofNat n : Int) = (n : Int) := rfl
    rw [this] at h
    have h2 : a.toNat = n := by omega
    rw [h2]; exact (UInt8.toNat_ofNat_of_lt' hn).symm
  · rintro rfl; exact congrArg Int.ofNat (UInt8.toNat_ofNat_of_lt' hn)
theorem u8le (a c : UInt8) : ((a.toNat : Int) ≤ c.toNat) = (a ≤ c) := by
  apply propext; rw [UInt8.le_iff_toNat_le]; omega
theorem u8min (a c d : UInt8) : (min (a.toNat : Int) c.toNat ≤ d.toNat) = (min a c ≤ d) := by
  apply propext; rw [UInt8.le_iff_toNat_le]
  have : (min a c).toNat = min a.toNat c.toNat := by
    show (if a ≤ c then a else c).toNat = _
    split <;> rename_i h <;> rw [UInt8.le_iff_toNat_le] at h <;> omega
  omega
theorem u8max (a c d : UInt8) : ((d.toNat : Int) ≤ max (a.toNat : Int) c.toNat) = (d ≤ max a c) := by
  apply propext; rw [UInt8.le_iff_toNat_le]
  have : (max a c).toNat = max a.toNat c.toNat := by
    show (if a ≤ c then c else a).toNat = _
    split <;> rename_i h <;> rw [UInt8.le_iff_toNat_le] at h <;> omega
  omega

theorem class_loop (p : List UInt8) (c : UInt8) (hp : Heap) (o : Os × Array (Nat × ByteArray)) (hs : p.length ≤ 1000000000) (nt : Bool) (k0 : Nat) (hk0 : k0 ≤ p.length) :
    AtLoop Try.prog (c17 []) Try.f17 (Ret (.tuple #[.bool ((Glob.cls c false (p.drop k0)).1 != nt), .int .i64 ((p.length : Int) - (Glob.cls c false (p.drop k0)).2.length)]) hp o)
      [0, 0, 0, 1, 1, 1, 1] [KI.blk 0, KI.seq [1, 1, 1, 1, 1]] [.string (bs p), .int .u8 c.toNat, .int .i64 k0, .bool nt, .bool false] hp o := by
  refine looping (k17 []) [.str (.v 0), .int .u8 (.v 0), .int .i64 (.ofN (.v 0)), .bool (.v 1), .bool (.v 0)]
    (fun x : Nat × Bool => { s := fun _ => p, i := fun _ => c.toNat, n := fun _ => x.1, b := fun j => if j = 0 then x.2 else nt, h := fun _ => hp, o := o }) 2 1000
    (fun x => x.1 ≤ p.length ∧ Glob.cls c x.2 (p.drop x.1) = Glob.cls c false (p.drop k0)) (fun x => p.length - x.1) (k0, false) ⟨hk0, rfl⟩ rfl (by simp [SV.den, SE.den, IE.den, NE.den, BE.den]) rfl (fun _ => rfl) ?_
  rintro ⟨k, has⟩ ⟨hk, hI⟩ N hN
  conv => arg 7; reduce
  simp only [VC.den, BE.prop, IE.den, NE.den, SE.den, SV.den, HE.den, BE.den, inK_i64, List.map_cons, List.map_nil, Int.cast_ofNat_Int, u8eq, u8min, u8max, u8n _ 92 (by omega), u8n _ 93 (by omega), u8n _ 45 (by omega)]
  simp only [IE.den, NE.den, SE.den, SV.den, BE.den, List.map_cons, List.map_nil, reduceIte] at hN
  have hN' : ∀ (k' : Nat) (has' : Bool), k < k' → k' ≤ p.length → Glob.cls c has' (p.drop k') = Glob.cls c has (p.drop k) → N [.string (bs p), .int .u8 c.toNat, .int .i64 k', .bool nt, .bool has'] hp o := by
    intro k' has' h1 h2 h3
    exact hN (k', has') ⟨h2, h3.trans hI⟩ (by simp; omega)
  rw [← hI]
  clear hI hN
  refine ⟨fun _ => by omega, fun _ => by omega, fun ⟨h1, h2⟩ => ⟨by omega, by omega, fun _ => by omega, fun ⟨h3, h4⟩ => ⟨fun _ => by omega, fun _ => by omega, fun _ => by omega, by omega, ?_⟩, fun h3 => ⟨by omega, fun _ => by omega, fun _ => by omega, fun _ => by omega, fun _ => by omega, fun _ => by omega, fun _ => by omega, fun ⟨⟨h4, h5⟩, h6⟩ =>
    ⟨by omega, by omega, by omega, by omega, by omega, by omega, by omega, by omega, by omega, by omega, fun h7 => ⟨by omega, ?_⟩, fun h7 => ⟨by omega, ?_⟩⟩, fun h4 => ⟨fun _ => by omega, fun _ => by omega, by omega, ?_⟩⟩⟩, fun h1 => ⟨by omega, fun w1 hw1 ho1 => ⟨?_, hw1, ho1⟩⟩⟩
  · refine hN' (k + 2) _ (by omega) (by omega) ?_
    rw [dropC p k (by omega), h3, dropC p (k + 1) (by omega), Glob.cls_esc]
    simp only [Nat.add_assoc, Nat.reduceAdd]
    congr 1
  · refine hN' (k + 3) _ (by omega) (by omega) ?_
    rw [dropC p k (by omega), dropC p (k + 1) (by omega), h5, dropC p (k + 1 + 1) (by omega)]
    have h7' : has = true := by simpa using h7
    rw [h7']
    exact (Glob.cls_range c _ _ true _ h2 (fun e => h3 ⟨e, by omega⟩) h6).symm
  · refine hN' (k + 3) _ (by omega) (by omega) ?_
    rw [dropC p k (by omega), dropC p (k + 1) (by omega), h5, dropC p (k + 1 + 1) (by omega)]
    have h7' : has = false := by simpa using h7
    rw [h7']
    exact (Glob.cls_range c _ _ false _ h2 (fun e => h3 ⟨e, by omega⟩) h6).symm
  · refine hN' (k + 1) _ (by omega) (by omega) ?_
    rw [dropC p k (by omega)]
    refine (Glob.cls_plain c _ has _ h2 ?_ ?_).symm
    · by_cases e : p.getD k 0 = OfNat.ofNat 92
      · right; exact dropE _ _ (by have : ¬ ((k : Int) + 1 < p.length) := fun h => h3 ⟨e, h⟩
                                   omega)
      · exact .inl e
    · intro d t hd
      have hl := congrArg List.length hd
      simp at hl
      rw [dropC p (k + 1) (by omega), dropC p (k + 1 + 1) (by omega)] at hd
      injection hd with e1 e2
      injection e2 with e2 e3
      rw [← e2]
      exact Decidable.byContradiction fun e => h4 ⟨⟨by omega, e1⟩, e⟩
  · by_cases hk2 : k < p.length
    · have e : p.getD k 0 = OfNat.ofNat 93 := Decidable.byContradiction fun e => h1 ⟨by omega, e⟩
      rw [dropC p k hk2, e]
      have := Glob.cls_close c has (p.drop (k + 1))
      rw [show (OfNat.ofNat 93 : UInt8) = 93 from rfl, this]
      simp only [if_true, List.length_drop]
      rw [show min ((k : Int) + 1) p.length = (p.length : Int) - ((p.length - (k + 1) : Nat) : Int) by omega]
      cases has <;> cases nt <;> rfl
    · rw [dropE p k (by omega), Glob.cls_end]
      simp only [if_true, List.length_nil]
      rw [show min ((k : Int) + 1) p.length = (p.length : Int) - ((0 : Nat) : Int) by omega]
      cases has <;> cases nt <;> rfl

theorem class_any (p : List UInt8) (c : UInt8) (w : World) (hs : p.length ≤ 1000000000) :
    Calls Try.prog 17 #[.string (bs p), .int .u8 c.toNat] w (Ret (.tuple #[.bool (Glob.classS p c).1, .int .i64 ((p.length : Int) - (Glob.classS p c).2.length)]) w.heap (outw w)) := by
  refine begins (k17 []) [.str (.v 0), .int .u8 (.v 0)] { s := fun _ => p, i := fun _ => c.toNat, h := fun _ => w.heap, o := outw w } 1 1000 rfl rfl rfl (by simp [SV.den, SE.den, IE.den]) ?_
  conv => arg 7; reduce
  simp only [VC.den, BE.prop, IE.den, NE.den, SE.den, SV.den, HE.den, BE.den, List.map_cons, List.map_nil, Int.cast_ofNat_Int, u8n _ 94 (by omega)]
  refine ⟨fun _ => by omega, fun h => h, fun ⟨h1, h2⟩ => ?_, fun h => ?_⟩
  · have := class_loop p c w.heap (outw w) hs true 1 (by omega)
    have e : Glob.classS p c = (!(Glob.cls c false (p.drop 1)).1, (Glob.cls c false (p.drop 1)).2) := by
      have hp := dropC p 0 (by omega)
      rw [h2] at hp
      simp only [List.drop_zero, Nat.zero_add] at hp
      conv => lhs; rw [hp]
      rfl
    rw [e]
    show AtLoop Try.prog (c17 []) Try.f17 _ _ _ _ _ _
    simpa using this
  · have := class_loop p c w.heap (outw w) hs false 0 (by omega)
    have e : Glob.classS p c = Glob.cls c false p := by
      unfold Glob.classS
      split
      · exfalso; apply h; simp
      · rfl
    rw [e]
    show AtLoop Try.prog (c17 []) Try.f17 _ _ _ _ _ _
    simpa using this
end Go.Proofs.Ytilgejlgmnnckaa
