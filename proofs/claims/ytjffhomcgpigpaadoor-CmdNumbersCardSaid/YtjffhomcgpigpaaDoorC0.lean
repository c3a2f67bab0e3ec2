import Derived.Test.YtjffhomcgpigpaaDoorA6
/- Words that are drawn: their table, one of them, a few. -/
namespace Go.Proofs.YtjffhomcgpigpaaDoor
open E
set_option maxRecDepth 100000
def tabS : List (List UInt8) := [bytesOf [97], bytesOf [98], bytesOf [99], bytesOf [100], bytesOf [49], bytesOf [50], bytesOf [48], bytesOf [45, 49], bytesOf [120], bytesOf [53], bytesOf [110, 120], bytesOf [120, 120], bytesOf [103, 101, 116], bytesOf [101, 120], bytesOf [112, 120], bytesOf [107, 101, 101, 112, 116, 116, 108], bytesOf [109, 97, 116, 99, 104], bytesOf [99, 111, 117, 110, 116], bytesOf [116, 121, 112, 101], bytesOf [42], bytesOf [98, 101, 102, 111, 114, 101], bytesOf [65, 70, 84, 69, 82], bytesOf [101, 110, 99, 111, 100, 105, 110, 103], bytesOf [115, 116, 114, 105, 110, 103], bytesOf [49, 48], bytesOf [51], bytesOf [45, 50], bytesOf [49, 48, 48], bytesOf [], bytesOf [104, 101, 108, 108, 111], bytesOf [121], bytesOf [49, 50, 120], bytesOf [57, 50, 50, 51, 51, 55, 50, 48, 51, 54, 56, 53, 52, 55, 55, 53, 56, 48, 55], bytesOf [63], bytesOf [104, 97, 115, 104], bytesOf [115, 101, 116], bytesOf [108, 105, 115, 116], bytesOf [49, 48, 48, 48], bytesOf [102, 49], bytesOf [102, 50]]
theorem tabS_len : tabS.length = 40 := rfl
theorem tabS_short : ∀ s ∈ tabS, s.length ≤ 60 := by decide +kernel
theorem table_any (w : World) :
    Calls Tryd.prog 24 #[] w fun e w' => ∃ p, e = .returned (.slice p 40 40) ∧ StrRow w'.heap p tabS ∧ Ext w.heap w'.heap ∧ outw w' = outw w := by
  refine begins (k24 {}) [] [] { h := fun _ => w.heap, o := outw w } 1 1000 rfl rfl rfl trivial (by simp) ?_
  conv => arg 7; reduce
  simp only [VC.den, NE.den, SE.den, SV.den, HE.den, PE.den, WS.den, List.map_cons, List.map_nil, reduceIte, Env.setN]
  exact fun hf w1 hw1 ho1 => ⟨_, rfl, by rw [hw1]; exact (CellsAt.made w.heap (strs tabS) 9).row, by rw [hw1]; exact hf.none, ho1⟩
theorem Of_any (n : Int) (s : List UInt8) (w : World) :
    Calls Tryd.prog 23 #[.agg #[.int .i64 n, .string (bs s)]] w fun e w' => ∃ t : List UInt8, e = .returned (.string (bs t)) ∧ t.length ≤ 60 ∧ Ext w.heap w'.heap ∧ outw w' = outw w := by
  refine begins (k23 {}) [.agg [.int .i64 (.v 0), .str (.v 0)]] [] { i := fun _ => n, s := fun _ => s, h := fun _ => w.heap, o := outw w } 1 1000 rfl rfl rfl trivial (by simp [SV.den, SE.den, IE.den]) ?_
  conv => arg 7; reduce
  simp only [VC.den, BE.prop, IE.den, NE.den, SE.den, SV.den, HE.den, PE.den, WS.den, List.map_cons, List.map_nil, Int.cast_ofNat_Int, reduceIte, Nat.reduceEqDiff, Env.setE, Env.setH, Env.setS, Env.setN, Env.setP]
  intro w1 hw1 ho1
  refine (table_any w1).mono ?_
  rintro e1 v1 ⟨q, rfl, hr, hx1, hp1⟩
  rw [hw1] at hx1
  have cut : ∀ w2 : World, w2.heap = v1.heap → outw w2 = outw w → Calls Tryd.prog 21 #[.string (bs s), .int .i64 60] w2 fun e w' => outw w' = outw w ∧ Ext v1.heap w'.heap ∧ ∃ x, e = .returned (.string (bs x)) ∧ (E.Frame (fun _ => False) w.heap w'.heap → ∀ w3 : World, w3.heap = w'.heap → outw w3 = outw w → ∃ t : List UInt8, Ending.returned (.string (bs x)) = .returned (.string (bs t)) ∧ t.length ≤ 60 ∧ Ext w.heap w3.heap ∧ outw w3 = outw w) := by
    intro w2 hw2 ho2
    refine (Cut_any s 60 _ (by decide)).mono ?_
    rintro e2 v2 ⟨rfl, hx2, hp2⟩
    rw [hw2] at hx2
    refine ⟨hp2.trans ho2, hx2, ?_⟩
    exact ⟨_, rfl, fun hf w3 hw3 ho3 => ⟨_, rfl, by simp; omega, by rw [hw3]; exact hf.none, ho3⟩⟩
  refine ⟨hp1.trans ho1, hx1, _, _, _, rfl, fun _ => cut, fun h1 => ⟨fun _ => cut, fun h2 => ?_⟩⟩
  have hlt : n.toNat < tabS.length := by rw [tabS_len]; omega
  obtain ⟨b, o, rfl, g0⟩ := hr.at hlt
  refine ⟨b, o, rfl, by omega, by omega, _, g0, fun hf w3 hw3 ho3 => ⟨_, rfl, tabS_short _ (List.getElem_mem _), by rw [hw3]; exact hf.none, ho3⟩⟩
theorem Few_any (l : List (List UInt8)) (p : Option Addr) (cap : Nat) (w : World) (hl : StrRow w.heap p l) (_hln : l.length ≤ 9223372036854775807) :
    Calls Tryd.prog 7 #[.slice p l.length cap, .int .i64 12, .int .i64 100] w fun e w' => ∃ (x : List (List UInt8)) (q : Option Addr) (qc : Nat), e = .returned (.slice q x.length qc) ∧ x.length ≤ 12 ∧ (∀ s ∈ x, s.length ≤ 100) ∧ StrRow w'.heap q x ∧ Ext w.heap w'.heap ∧ outw w' = outw w := by
  refine begins (k7 {}) [.slice (.v 0) (.v 0) (.v 1), .int .i64 (.c 12), .int .i64 (.c 100)] [] { p := fun _ => p, n := fun j => if j = 0 then l.length else cap, h := fun _ => w.heap, o := outw w } 2 1000 rfl rfl rfl trivial (by simp [SV.den, IE.den, PE.den, NE.den]) ?_
  conv => arg 7; reduce
  simp only [VC.den, IE.den, NE.den, SV.den, HE.den, PE.den, WS.den, List.map_cons, List.map_nil, Int.cast_ofNat_Int, reduceIte, Nat.reduceEqDiff]
  intro _
  refine looping (k7 {}) [.slice (.v 0) (.v 0) (.v 1), .int .i64 (.c 12), .int .i64 (.c 100), .slice (.v 1) (.v 2) (.v 3), .int .i64 (.ofN (.v 2))] []
    (fun x : List (List UInt8) × Option Addr × Nat × Heap => { n := fun j => if j = 0 then l.length else if j = 1 then cap else if j = 2 then x.1.length else x.2.2.1, p := fun j => if j = 0 then p else x.2.1, h := fun _ => x.2.2.2, o := outw w }) 4 1000
    (fun x => x.1.length ≤ 12 ∧ x.1.length ≤ l.length ∧ (∀ s ∈ x.1, s.length ≤ 100) ∧ Ext w.heap x.2.2.2 ∧ Own x.2.2.2 w.heap.size x.2.1 x.2.2.1 1 (strs x.1)) (fun x => 12 - x.1.length) ([], none, 0, w.heap) ⟨by simp, by simp, nofun, Ext.refl _, Own.nil _ _ _⟩ rfl (by simp [SV.den, PE.den, IE.den, NE.den]) rfl (fun _ => rfl) (fun _ _ => trivial) ?_
  rintro ⟨x, q, qc, h⟩ ⟨hx1, hx2, hs, hx, hown⟩ N hN
  simp only at hx1 hx2 hs hx hown
  simp only [SV.den, PE.den, NE.den, IE.den, List.map_cons, List.map_nil, reduceIte, Nat.reduceEqDiff] at hN
  conv => arg 7; reduce
  simp only [VC.den, BE.prop, IE.den, NE.den, SE.den, SV.den, HE.den, PE.den, WS.den, WI.den, List.map_cons, List.map_nil, Int.cast_ofNat_Int, reduceIte, Nat.reduceEqDiff, Env.setE, Env.setH, Env.setS, Env.setN, Env.setP, inK_i64]
  refine ⟨fun ⟨h1, h2⟩ => ?_, fun h1 hf w1 hw1 ho1 => ⟨x, q, qc, rfl, hx1, hs, by rw [hw1]; exact hown.row, by rw [hw1]; exact hx, ho1⟩⟩
  have hlt : x.length < l.length := by omega
  obtain ⟨b, o, rfl, g0⟩ := (StrRow.ext hl hx).at hlt
  refine ⟨b, o, rfl, h1, _, g0, ?_⟩
  intro w1 hw1 ho1
  refine (Cut_any _ 100 _ (by decide)).mono ?_
  rintro e1 v1 ⟨rfl, hx1, hp1⟩
  rw [hw1] at hx1
  refine ⟨hp1.trans ho1, hx1, ?_⟩
  have hown1 := (hown.ext hx1).ext (ext_push v1.heap (.cells #[.string (bs (l[x.length].take (100 : Int).toNat))] 9))
  have hx1' := (hx.trans hx1).trans (ext_push v1.heap (.cells #[.string (bs (l[x.length].take (100 : Int).toNat))] 9))
  refine ⟨_, rfl, (hown.ext hx1).ne (Nat.le_refl _), strs x, hown1.app (by simp [strs_length]) (by omega) (by omega), fun h' p' c' ha => ⟨by omega, fun _ => ?_⟩⟩
  have o1 := hown1.next (by simp [strs_length]) (by simp) hx1'.le ha
  have x1 := hown1.keep (Nat.le_refl _) hx1' ha
  rw [← strs_snoc] at o1
  have := hN (x ++ [l[x.length].take (100 : Int).toNat], p', c', h') ⟨by simp only [List.length_append, List.length_cons, List.length_nil]; omega, by simp only [List.length_append, List.length_cons, List.length_nil]; omega, ?_, x1, o1⟩ (by simp only [List.length_append, List.length_cons, List.length_nil]; omega)
  · simp only [List.length_append, List.length_cons, List.length_nil, Nat.zero_add, Int.natCast_add, Int.cast_ofNat_Int] at this
    exact this
  · intro s hs'
    rcases List.mem_append.1 hs' with h | h
    · exact hs s h
    · rw [List.mem_singleton.1 h]; simp; omega
end Go.Proofs.YtjffhomcgpigpaaDoor
