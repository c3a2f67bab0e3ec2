import Derived.Test.YtjffhomcgpigpaaDoorA7
/- The shipped table: rows, all. -/
namespace Go.Proofs.YtjffhomcgpigpaaDoor
open E
set_option maxRecDepth 100000
structure Rw where
  name : List UInt8
  least : Int
  most : Int
  read : Bool
def Rw.v (r : Rw) : List Value := [.string (bs r.name), .int .i64 r.least, .int .i64 r.most, .bool r.read]
def flatR (l : List Rw) : List Value := l.flatMap Rw.v
def rowsN : Nat → List Rw
  | 1 => [⟨bytesOf [103, 101, 116], 2, 0, true⟩, ⟨bytesOf [115, 101, 116], 3, 8, false⟩, ⟨bytesOf [115, 101, 116, 110, 120], 3, 0, false⟩, ⟨bytesOf [103, 101, 116, 115, 101, 116], 3, 0, false⟩, ⟨bytesOf [103, 101, 116, 100, 101, 108], 2, 0, false⟩, ⟨bytesOf [97, 112, 112, 101, 110, 100], 3, 0, false⟩, ⟨bytesOf [115, 116, 114, 108, 101, 110], 2, 0, true⟩, ⟨bytesOf [105, 110, 99, 114], 2, 0, false⟩, ⟨bytesOf [100, 101, 99, 114], 2, 0, false⟩, ⟨bytesOf [105, 110, 99, 114, 98, 121], 3, 0, false⟩, ⟨bytesOf [100, 101, 99, 114, 98, 121], 3, 0, false⟩, ⟨bytesOf [103, 101, 116, 114, 97, 110, 103, 101], 4, 0, true⟩, ⟨bytesOf [115, 101, 116, 114, 97, 110, 103, 101], 4, 0, false⟩, ⟨bytesOf [103, 101, 116, 98, 105, 116], 3, 0, true⟩, ⟨bytesOf [115, 101, 116, 98, 105, 116], 4, 0, false⟩, ⟨bytesOf [98, 105, 116, 99, 111, 117, 110, 116], 2, 4, true⟩, ⟨bytesOf [109, 103, 101, 116], 2, -1, true⟩, ⟨bytesOf [109, 115, 101, 116], 3, -1, false⟩]
  | 2 => [⟨bytesOf [104, 115, 101, 116], 4, -1, false⟩, ⟨bytesOf [104, 115, 101, 116, 110, 120], 4, 0, false⟩, ⟨bytesOf [104, 103, 101, 116], 3, 0, true⟩, ⟨bytesOf [104, 109, 103, 101, 116], 3, -1, true⟩, ⟨bytesOf [104, 100, 101, 108], 3, -1, false⟩, ⟨bytesOf [104, 101, 120, 105, 115, 116, 115], 3, 0, true⟩, ⟨bytesOf [104, 108, 101, 110], 2, 0, true⟩, ⟨bytesOf [104, 107, 101, 121, 115], 2, 0, true⟩, ⟨bytesOf [104, 118, 97, 108, 115], 2, 0, true⟩, ⟨bytesOf [104, 103, 101, 116, 97, 108, 108], 2, 0, true⟩, ⟨bytesOf [104, 105, 110, 99, 114, 98, 121], 4, 0, false⟩, ⟨bytesOf [104, 115, 116, 114, 108, 101, 110], 3, 0, true⟩, ⟨bytesOf [104, 115, 99, 97, 110], 3, 7, true⟩]
  | 3 => [⟨bytesOf [115, 97, 100, 100], 3, -1, false⟩, ⟨bytesOf [115, 114, 101, 109], 3, -1, false⟩, ⟨bytesOf [115, 105, 115, 109, 101, 109, 98, 101, 114], 3, 0, true⟩, ⟨bytesOf [115, 99, 97, 114, 100], 2, 0, true⟩, ⟨bytesOf [115, 109, 101, 109, 98, 101, 114, 115], 2, 0, true⟩, ⟨bytesOf [115, 109, 111, 118, 101], 4, 0, false⟩, ⟨bytesOf [115, 105, 110, 116, 101, 114], 2, -1, true⟩, ⟨bytesOf [115, 117, 110, 105, 111, 110], 2, -1, true⟩, ⟨bytesOf [115, 100, 105, 102, 102], 2, -1, true⟩, ⟨bytesOf [115, 112, 111, 112], 2, 0, false⟩, ⟨bytesOf [115, 114, 97, 110, 100, 109, 101, 109, 98, 101, 114], 2, 0, true⟩, ⟨bytesOf [115, 115, 99, 97, 110], 3, 7, true⟩]
  | 4 => [⟨bytesOf [108, 112, 117, 115, 104], 3, -1, false⟩, ⟨bytesOf [114, 112, 117, 115, 104], 3, -1, false⟩, ⟨bytesOf [108, 112, 111, 112], 2, 0, false⟩, ⟨bytesOf [114, 112, 111, 112], 2, 0, false⟩, ⟨bytesOf [108, 108, 101, 110], 2, 0, true⟩, ⟨bytesOf [108, 114, 97, 110, 103, 101], 4, 0, true⟩, ⟨bytesOf [108, 105, 110, 100, 101, 120], 3, 0, true⟩, ⟨bytesOf [108, 115, 101, 116], 4, 0, false⟩, ⟨bytesOf [108, 105, 110, 115, 101, 114, 116], 5, 0, false⟩, ⟨bytesOf [108, 114, 101, 109], 4, 0, false⟩, ⟨bytesOf [108, 116, 114, 105, 109], 4, 0, false⟩, ⟨bytesOf [114, 112, 111, 112, 108, 112, 117, 115, 104], 3, 0, false⟩]
  | 5 => [⟨bytesOf [100, 101, 108], 2, -1, false⟩, ⟨bytesOf [101, 120, 105, 115, 116, 115], 2, -1, true⟩, ⟨bytesOf [116, 121, 112, 101], 2, 0, true⟩, ⟨bytesOf [101, 120, 112, 105, 114, 101], 3, 0, false⟩, ⟨bytesOf [112, 101, 120, 112, 105, 114, 101], 3, 0, false⟩, ⟨bytesOf [116, 116, 108], 2, 0, true⟩, ⟨bytesOf [112, 116, 116, 108], 2, 0, true⟩, ⟨bytesOf [112, 101, 114, 115, 105, 115, 116], 2, 0, false⟩, ⟨bytesOf [114, 101, 110, 97, 109, 101], 3, 0, false⟩, ⟨bytesOf [114, 101, 110, 97, 109, 101, 110, 120], 3, 0, false⟩, ⟨bytesOf [99, 111, 112, 121], 3, 0, false⟩, ⟨bytesOf [107, 101, 121, 115], 2, 0, true⟩, ⟨bytesOf [115, 99, 97, 110], 2, 8, true⟩, ⟨bytesOf [100, 98, 115, 105, 122, 101], 1, 0, true⟩, ⟨bytesOf [102, 108, 117, 115, 104, 97, 108, 108], 1, 0, false⟩, ⟨bytesOf [114, 97, 110, 100, 111, 109, 107, 101, 121], 1, 0, true⟩, ⟨bytesOf [111, 98, 106, 101, 99, 116], 3, 0, true⟩]
  | 6 => [⟨bytesOf [112, 105, 110, 103], 1, 2, true⟩, ⟨bytesOf [101, 99, 104, 111], 2, 0, true⟩, ⟨bytesOf [104, 101, 108, 108, 111], 1, 2, true⟩, ⟨bytesOf [109, 117, 108, 116, 105], 1, 0, true⟩, ⟨bytesOf [101, 120, 101, 99], 1, 0, true⟩, ⟨bytesOf [100, 105, 115, 99, 97, 114, 100], 1, 0, true⟩, ⟨bytesOf [119, 97, 116, 99, 104], 2, -1, true⟩, ⟨bytesOf [117, 110, 119, 97, 116, 99, 104], 1, 0, true⟩, ⟨bytesOf [113, 117, 105, 116], 1, 0, true⟩]
  | _ => []
theorem rows_any (g : Nat) (h1 : 1 ≤ g) (h2 : g ≤ 6) (w : World) :
    Calls Tryd.prog 37 #[.int .i64 g] w fun e w' => ∃ b, e = .returned (.slice (some ⟨b, 0, none⟩) (rowsN g).length (rowsN g).length) ∧ CellsAt w'.heap b 0 (flatR (rowsN g)) ∧ w.heap.size ≤ b ∧ Ext w.heap w'.heap ∧ outw w' = outw w := by
  obtain rfl | rfl | rfl | rfl | rfl | rfl : g = 1 ∨ g = 2 ∨ g = 3 ∨ g = 4 ∨ g = 5 ∨ g = 6 := by omega
  · refine begins (k37 {}) [.int .i64 (.c 1)] [] { h := fun _ => w.heap, o := outw w } 1 1000 rfl rfl rfl trivial (by simp [SV.den, IE.den]) ?_
    conv => arg 7; reduce
    simp only [VC.den, IE.den, NE.den, SE.den, SV.den, HE.den, PE.den, BE.den, WS.den, List.map_cons, List.map_nil, Int.cast_ofNat_Int, reduceIte, Env.setN]
    exact fun hf wr hwr hor => ⟨_, rfl, by rw [hwr]; exact CellsAt.made _ _ _, Nat.le_refl _, by rw [hwr]; exact ext_push _ _, hor⟩
  · refine begins (k37 {}) [.int .i64 (.c 2)] [] { h := fun _ => w.heap, o := outw w } 1 1000 rfl rfl rfl trivial (by simp [SV.den, IE.den]) ?_
    conv => arg 7; reduce
    simp only [VC.den, IE.den, NE.den, SE.den, SV.den, HE.den, PE.den, BE.den, WS.den, List.map_cons, List.map_nil, Int.cast_ofNat_Int, reduceIte, Env.setN]
    exact fun hf wr hwr hor => ⟨_, rfl, by rw [hwr]; exact CellsAt.made _ _ _, Nat.le_refl _, by rw [hwr]; exact ext_push _ _, hor⟩
  · refine begins (k37 {}) [.int .i64 (.c 3)] [] { h := fun _ => w.heap, o := outw w } 1 1000 rfl rfl rfl trivial (by simp [SV.den, IE.den]) ?_
    conv => arg 7; reduce
    simp only [VC.den, IE.den, NE.den, SE.den, SV.den, HE.den, PE.den, BE.den, WS.den, List.map_cons, List.map_nil, Int.cast_ofNat_Int, reduceIte, Env.setN]
    exact fun hf wr hwr hor => ⟨_, rfl, by rw [hwr]; exact CellsAt.made _ _ _, Nat.le_refl _, by rw [hwr]; exact ext_push _ _, hor⟩
  · refine begins (k37 {}) [.int .i64 (.c 4)] [] { h := fun _ => w.heap, o := outw w } 1 1000 rfl rfl rfl trivial (by simp [SV.den, IE.den]) ?_
    conv => arg 7; reduce
    simp only [VC.den, IE.den, NE.den, SE.den, SV.den, HE.den, PE.den, BE.den, WS.den, List.map_cons, List.map_nil, Int.cast_ofNat_Int, reduceIte, Env.setN]
    exact fun hf wr hwr hor => ⟨_, rfl, by rw [hwr]; exact CellsAt.made _ _ _, Nat.le_refl _, by rw [hwr]; exact ext_push _ _, hor⟩
  · refine begins (k37 {}) [.int .i64 (.c 5)] [] { h := fun _ => w.heap, o := outw w } 1 1000 rfl rfl rfl trivial (by simp [SV.den, IE.den]) ?_
    conv => arg 7; reduce
    simp only [VC.den, IE.den, NE.den, SE.den, SV.den, HE.den, PE.den, BE.den, WS.den, List.map_cons, List.map_nil, Int.cast_ofNat_Int, reduceIte, Env.setN]
    exact fun hf wr hwr hor => ⟨_, rfl, by rw [hwr]; exact CellsAt.made _ _ _, Nat.le_refl _, by rw [hwr]; exact ext_push _ _, hor⟩
  · refine begins (k37 {}) [.int .i64 (.c 6)] [] { h := fun _ => w.heap, o := outw w } 1 1000 rfl rfl rfl trivial (by simp [SV.den, IE.den]) ?_
    conv => arg 7; reduce
    simp only [VC.den, IE.den, NE.den, SE.den, SV.den, HE.den, PE.den, BE.den, WS.den, List.map_cons, List.map_nil, Int.cast_ofNat_Int, reduceIte, Env.setN]
    exact fun hf wr hwr hor => ⟨_, rfl, by rw [hwr]; exact CellsAt.made _ _ _, Nat.le_refl _, by rw [hwr]; exact ext_push _ _, hor⟩
theorem flatR_length (l : List Rw) : (flatR l).length = 4 * l.length := by
  induction l with
  | nil => rfl
  | cons c l ih => simp only [flatR, List.flatMap_cons, List.length_append, List.length_cons] at *; rw [ih]; simp [Rw.v]; omega
theorem flatR_get (l : List Rw) (i j : Nat) (hi : i < l.length) (hj : j < 4) : (flatR l)[4 * i + j]? = (l[i].v)[j]? := by
  induction l generalizing i with
  | nil => simp at hi
  | cons c l ih =>
    cases i with
    | zero =>
      show (Rw.v c ++ _)[_]? = _
      rw [List.getElem?_append_left (by simp [Rw.v]; omega)]
      simp
    | succ i =>
      have := ih i (by simpa using hi)
      simp only [flatR, List.flatMap_cons, List.getElem_cons_succ] at *
      rw [← this, List.getElem?_append_right (by simp [Rw.v]; omega)]
      congr 1
      simp [Rw.v]; omega
theorem RwAt {h : Heap} {b : Nat} {l : List Rw} (H : CellsAt h b 0 (flatR l)) {i : Nat} (hi : i < l.length) :
    get h b (0 + i * 4) = some (.string (bs l[i].name)) ∧ get h b (0 + i * 4 + 1) = some (.int .i64 l[i].least) ∧ get h b (0 + i * 4 + 2) = some (.int .i64 l[i].most) ∧ get h b (0 + i * 4 + 3) = some (.bool l[i].read) := by
  have k : ∀ j v, j < 4 → (l[i].v)[j]? = some v → get h b (0 + i * 4 + j) = some v := fun j v hj hv => by
    have := H.get (j := 4 * i + j) (v := v) (by rw [flatR_get l i j hi hj]; exact hv)
    rw [show 0 + (4 * i + j) = 0 + i * 4 + j by omega] at this; exact this
  exact ⟨k 0 _ (by omega) rfl, k 1 _ (by omega) rfl, k 2 _ (by omega) rfl, k 3 _ (by omega) rfl⟩
def conv (g : Nat) (r : Rw) : Cd := ⟨r.name, r.least, if r.most = 0 then r.least else if r.most = -1 then 256 else r.most, !r.read, g⟩
abbrev p25 : List Nat := [1, 1, 1, 0, 0, 1, 1, 0, 0, 1, 0, 0, 1, 0, 0, 1, 0, 1, 1]
abbrev o25 : Opts := { cuts := [p25] }
abbrev K25 (N N0 : LoopN) : List KI := [KI.blk 3, KI.seq [1, 1, 1, 0, 0, 1, 0, 0, 1, 0, 0, 1, 0, 1, 1], KI.nxt 46 [1, 2, 11, 12, 13] N, KI.blk 2, KI.blk 1, KI.seq [1, 1, 0, 0, 1, 0, 1, 1], KI.nxt 46 [1, 2] N0, KI.blk 0, KI.seq [1, 1, 1]]
theorem all_cut (R : Ending → World → Prop) (N N0 : LoopN) (o : Os × Array (Nat × ByteArray)) (w0 : Heap) (rb : Nat) (p : Option Addr) (out : List Cd) (cap g ln i cb : Nat) (h : Heap) (c : Cd) (vs : List Value) (hc : CellsAt h cb 0 c.v) (hi : i ≤ 100000) (hol : out.length ≤ 100000)
    (hx : Ext w0 h) (hown : Own h w0.size p cap 5 (flatC out)) (hrow : CellsAt h rb 0 vs) (hrb : ∀ a, p = some a → a.block ≠ rb) (hcb : ∀ a, p = some a → a.block ≠ cb)
    (fin : ∀ p' cap' h', Ext w0 h' → Own h' w0.size p' cap' 5 (flatC (out ++ [c])) → CellsAt h' rb 0 vs → (∀ a, p' = some a → a.block ≠ rb) → N [.slice p' (out.length + 1) cap', .int .i64 g, .slice (some ⟨rb, 0, none⟩) ln ln, .int .i64 ln, .int .i64 ((i : Int) + 1)] h' o) :
    AtCut Tryd.prog (c25 o25) Tryd.f25 R p25 (K25 N N0) [.slice p out.length cap, .int .i64 g, .pointer (some ⟨cb, 0, none⟩), .slice (some ⟨rb, 0, none⟩) ln ln, .int .i64 ln, .int .i64 i] h o := by
  refine cutting (k25 o25) [.slice (.v 0) (.v 0) (.v 1), .int .i64 (.ofN (.v 2)), .ptr (.at (.v 3) (.c 0)), .slice (.at (.v 4) (.c 0)) (.v 5) (.v 5), .int .i64 (.ofN (.v 5)), .int .i64 (.ofN (.v 6))] [(.v 3, .c 0, [.str (.v 0), .int .i64 (.v 0), .int .i64 (.v 1), .bool (.v 0), .int .i64 (.v 2)])]
    { n := fun j => if j = 0 then out.length else if j = 1 then cap else if j = 2 then g else if j = 3 then cb else if j = 4 then rb else if j = 5 then ln else i, p := fun j => p, s := fun _ => c.name, i := fun j => if j = 0 then c.least else if j = 1 then c.most else c.group, b := fun _ => c.write, h := fun _ => h, o := o } 7 1000
    rfl (by simp [SV.den, PE.den, IE.den, NE.den]) rfl rfl ⟨by simpa [NE.den, SV.den, SE.den, IE.den, BE.den, Cd.v] using hc, trivial, trivial⟩ ?_
  conv => arg 7; reduce
  simp only [VC.den, BE.prop, IE.den, NE.den, SE.den, SV.den, HE.den, PE.den, BE.den, WS.den, WI.den, List.map_cons, List.map_nil, Int.cast_ofNat_Int, reduceIte, Nat.reduceEqDiff, Env.setH, Env.setN, Env.setP, inK_i64]
  have hown1 := hown.ext (ext_push h (.cells #[.string (bs c.name), .int .i64 c.least, .int .i64 c.most, .bool c.write, .int .i64 c.group] 29))
  have hxx := hx.trans (ext_push h (.cells #[.string (bs c.name), .int .i64 c.least, .int .i64 c.most, .bool c.write, .int .i64 c.group] 29))
  refine ⟨hown.ne (Nat.le_refl _), hcb, flatC out, hown1.app (by rw [flatC_length]; omega) (by omega) (by omega), fun h' p' c' ha => ⟨by omega, fun _ _ => ?_⟩⟩
  have o1 := hown1.next (by rw [flatC_length]; omega) (by simp) (Nat.le_trans hx.le (by simp)) ha
  have x1 := hown1.keep (Nat.le_refl _) hxx ha
  refine fin p' c' h' x1 (by rw [flatC_snoc]; exact o1) (hown1.other (hrow.push _) hrb ha) (app_ne ha hrb ?_)
  have := hrow.1
  simp; omega
theorem all_in (R : Ending → World → Prop) (w0 : Heap) (g : Nat) (hg : g ≤ 6) (l : List Rw) (hll : l.length ≤ 1000) (o : Os × Array (Nat × ByteArray)) (N0 : LoopN) (rb : Nat)
    (out0 : List Cd) (hlen : out0.length ≤ 10000) (p0 : Option Addr) (cap0 : Nat) (h0 : Heap) (hx0 : Ext w0 h0) (hown0 : Own h0 w0.size p0 cap0 5 (flatC out0)) (hrow : CellsAt h0 rb 0 (flatR l)) (hrb : ∀ a, p0 = some a → a.block ≠ rb)
    (fin : ∀ p cap h, Ext w0 h → Own h w0.size p cap 5 (flatC (out0 ++ l.map (conv g))) → N0 [.slice p (out0 ++ l.map (conv g)).length cap, .int .i64 ((g : Int) + 1)] h o) :
    AtLoop Tryd.prog (c25 o25) Tryd.f25 R [0, 0, 1, 0, 0, 1, 0, 0, 1, 0, 1, 1] [KI.blk 2, KI.blk 1, KI.seq [1, 1, 0, 0, 1, 0, 1, 1], KI.nxt 46 [1, 2] N0, KI.blk 0, KI.seq [1, 1, 1]] [.slice p0 out0.length cap0, .int .i64 g, .slice (some ⟨rb, 0, none⟩) l.length l.length, .int .i64 l.length, .int .i64 0] h0 o := by
  refine looping (k25 o25) [.slice (.v 0) (.v 0) (.v 1), .int .i64 (.ofN (.v 2)), .slice (.at (.v 3) (.c 0)) (.v 4) (.v 4), .int .i64 (.ofN (.v 4)), .int .i64 (.ofN (.v 5))] []
    (fun x : Nat × List Cd × Option Addr × Nat × Heap => { n := fun j => if j = 0 then x.2.1.length else if j = 1 then x.2.2.2.1 else if j = 2 then g else if j = 3 then rb else if j = 4 then l.length else x.1, p := fun _ => x.2.2.1, h := fun _ => x.2.2.2.2, o := o }) 6 1000
    (fun x => x.1 ≤ l.length ∧ x.2.1 = out0 ++ (l.take x.1).map (conv g) ∧ Ext w0 x.2.2.2.2 ∧ Own x.2.2.2.2 w0.size x.2.2.1 x.2.2.2.1 5 (flatC x.2.1) ∧ CellsAt x.2.2.2.2 rb 0 (flatR l) ∧ (∀ a, x.2.2.1 = some a → a.block ≠ rb))
    (fun x => l.length - x.1) (0, out0, p0, cap0, h0) ⟨Nat.zero_le _, by simp, hx0, hown0, hrow, hrb⟩ rfl (by simp [SV.den, PE.den, IE.den, NE.den]) rfl (fun _ => rfl) (fun _ _ => trivial) ?_
  rintro ⟨i, out, p, cap, h⟩ ⟨hi, ho, hx, hown, hrow, hrb⟩ N hN
  simp only at hi ho hx hown hrow hrb
  simp only [SV.den, PE.den, NE.den, IE.den, List.map_cons, List.map_nil, reduceIte, Nat.reduceEqDiff] at hN
  conv => arg 7; reduce
  simp only [VC.den, BE.prop, IE.den, NE.den, SE.den, SV.den, HE.den, PE.den, BE.den, WS.den, List.map_cons, List.map_nil, Int.cast_ofNat_Int, reduceIte, Nat.reduceEqDiff, Env.setB, Env.setS, Env.setI, Env.setN, inK_i64]
  refine ⟨fun h1 => ?_, fun h1 => ?_⟩
  · have hlt : i < l.length := by omega
    obtain ⟨g0, g1, g2, g3⟩ := RwAt hrow hlt
    have w1 : ∀ cb h', h.size ≤ cb → CellsAt h' cb 0 (conv g l[i]).v → E.Frame (fun _ => False) h h' → AtCut Tryd.prog (c25 o25) Tryd.f25 R p25 (K25 N N0) [.slice p out.length cap, .int .i64 g, .pointer (some ⟨cb, 0, none⟩), .slice (some ⟨rb, 0, none⟩) l.length l.length, .int .i64 l.length, .int .i64 i] h' o := by
      intro cb h' hcb hc hf
      refine all_cut R N N0 o w0 rb p out cap g l.length i cb h' _ _ hc (by omega) (by rw [ho]; simp; omega) (hx.trans hf.none) (hown.ext hf.none) (hf.none.cellsAt hrow) hrb (hown.ne hcb) fun p' cap' h2 hx2 ho2 hr2 hb2 => ?_
      have e : out ++ [conv g l[i]] = out0 ++ (l.take (i + 1)).map (conv g) := by
        rw [ho, List.take_succ_eq_append_getElem hlt, List.map_append, List.append_assoc]; rfl
      have := hN (i + 1, out ++ [conv g l[i]], p', cap', h2) ⟨hlt, e, hx2, ho2, hr2, hb2⟩ (by simp only; omega)
      simp only [List.length_append, List.length_cons, List.length_nil, Nat.zero_add, Int.natCast_add i 1] at this
      exact this
    rw [Nat.zero_add] at g0 g1 g2 g3
    refine ⟨h1, _, _, _, _, g0, g1, g2, g3, fun h2 hc hf => w1 _ _ (by simp only [size_setc, Array.size_push]; omega) ?_ hf, fun h2 => ⟨fun h3 hc hf => w1 _ _ (by simp only [size_setc, Array.size_push]; omega) ?_ hf, fun h3 hc hf => w1 _ _ (by simp only [size_setc, Array.size_push]; omega) ?_ hf⟩⟩
    · unfold conv Cd.v; simp only; rw [if_pos h2]; exact hc
    · unfold conv Cd.v; simp only; rw [if_neg h2, if_pos h3]; exact hc
    · unfold conv Cd.v; simp only; rw [if_neg h2, if_neg h3]; exact hc
  · have : i = l.length := by omega
    subst this
    rw [List.take_length] at ho
    subst ho
    exact ⟨by omega, fun hf => fin p cap h hx hown⟩
def rowsTo : Nat → List Cd
  | 0 => []
  | g + 1 => rowsTo g ++ (rowsN (g + 1)).map (conv (g + 1))
theorem rowsN_len : ∀ g, g < 7 → (rowsN g).length ≤ 1000 := by decide +kernel
theorem rowsTo_len : ∀ g, g < 7 → (rowsTo g).length ≤ 10000 := by decide +kernel
theorem raw_perm : (rowsTo 6).Perm tbl := by
  rw [← List.isPerm_iff]; decide +kernel
theorem tbl_sorted : tbl.Pairwise (fun x y => Op.bytesLess y.name x.name = false) := by
  decide +kernel
theorem tbl_strict : ∀ x ∈ tbl, ∀ y ∈ tbl, Op.bytesLess y.name x.name = false → Op.bytesLess x.name y.name = false → x = y := by
  decide +kernel
theorem sorted_tbl (l : List Cd) (hp : l.Perm (rowsTo 6)) (hs : l.Pairwise (fun x y => Op.bytesLess y.name x.name = false)) : l = tbl := by
  have hp' := hp.trans raw_perm
  exact List.Perm.eq_of_pairwise (fun a b ha hb h1 h2 => tbl_strict a (hp'.mem_iff.1 ha) b hb h1 h2) hs tbl_sorted hp'
theorem all_any (w : World) : Calls Tryd.prog 25 #[] w fun e w' => ∃ p cap, e = .returned (.slice p tbl.length cap) ∧ CdRow w'.heap p tbl ∧ Ext w.heap w'.heap ∧ outw w' = outw w := by
  refine begins (k25 o25) [] [] { h := fun _ => w.heap, o := outw w } 1 1000 rfl rfl rfl trivial (by simp) ?_
  conv => arg 7; reduce
  simp only [VC.den, IE.den, NE.den, SV.den, HE.den, PE.den, WS.den, List.map_cons, List.map_nil, Int.cast_ofNat_Int]
  intro _
  refine looping (k25 o25) [.slice (.v 0) (.v 0) (.v 1), .int .i64 (.ofN (.v 2))] []
    (fun x : Nat × List Cd × Option Addr × Nat × Heap => { n := fun j => if j = 0 then x.2.1.length else if j = 1 then x.2.2.2.1 else x.1 + 1, p := fun _ => x.2.2.1, h := fun _ => x.2.2.2.2, o := outw w }) 3 1000
    (fun x => x.1 ≤ 6 ∧ x.2.1 = rowsTo x.1 ∧ Ext w.heap x.2.2.2.2 ∧ Own x.2.2.2.2 w.heap.size x.2.2.1 x.2.2.2.1 5 (flatC x.2.1)) (fun x => 7 - x.1) (0, [], none, 0, w.heap) ⟨by simp, rfl, Ext.refl _, Own.nil _ _ _⟩ rfl (by simp [SV.den, PE.den, IE.den, NE.den]) rfl (fun _ => rfl) (fun _ _ => trivial) ?_
  rintro ⟨g, out, p, cap, h⟩ ⟨hg, ho, hx, hown⟩ N hN
  simp only at hg ho hx hown
  subst ho
  simp only [SV.den, PE.den, NE.den, IE.den, List.map_cons, List.map_nil, reduceIte, Nat.reduceEqDiff] at hN
  conv => arg 7; reduce
  simp only [VC.den, BE.prop, IE.den, NE.den, SV.den, HE.den, PE.den, WS.den, WI.den, noneIn, List.map_cons, List.map_nil, Int.cast_ofNat_Int, reduceIte, Nat.reduceEqDiff, Env.setE, Env.setH, Env.setN, Env.setP, Env.setW]
  refine ⟨fun h1 => ?_, fun h1 => ?_⟩
  · intro w1 hw1 ho1
    refine (rows_any (g + 1) (by omega) (by omega) _).mono ?_
    rintro e1 v1 ⟨rb, rfl, hc1, hrb, hx1, hp1⟩
    rw [hw1] at hx1 hrb
    refine ⟨hp1.trans ho1, hx1, _, _, _, rfl, fun hf => ?_⟩
    refine all_in _ w.heap (g + 1) (by omega) (rowsN (g + 1)) (rowsN_len _ (by omega)) (outw w) N rb (rowsTo g) (rowsTo_len g (by omega)) p cap v1.heap (hx.trans hx1) (hown.ext hx1) hc1 (hown.ne hrb) ?_
    intro p' cap' h' hx' ho'
    have := hN (g + 1, rowsTo (g + 1), p', cap', h') ⟨by simp only; omega, rfl, hx', ho'⟩ (by simp only; omega)
    simp only [Int.natCast_add (g + 1) 1] at this
    exact this
  · have : g = 6 := by omega
    subst this
    rcases hown with ⟨_, h3, _⟩ | ⟨b, rest, rfl, hb, hc, hr⟩
    · exact absurd (congrArg List.length (h3 : flatC (rowsTo 6) = [])) (by rw [flatC_length]; decide +kernel)
    · intro w1 hw1 ho1
      have hc' : CellsAt w1.heap b 0 (flatC (rowsTo 6)) := by
        rw [hw1]
        refine ⟨hc.1, fun j v hj => hc.2 j v ?_⟩
        rw [List.getElem?_append_left (List.getElem?_eq_some_iff.1 hj).1]; exact hj
      refine (Sort_any b 0 cap (rowsTo 6) w1 hc' (by decide +kernel)).mono ?_
      rintro e w' ⟨rfl, ho', hf, l', hp, hs, hc2⟩
      have := sorted_tbl l' hp hs
      subst this
      refine ⟨ho'.trans ho1, fun n => n = b, by rw [← hw1]; exact hf, trivial, rfl, fun _ wr hwr hor => ⟨_, cap, ?_, by rw [hwr]; exact hc2.row, ?_, hor⟩⟩
      · rw [hp.length_eq]
      · rw [hwr]
        rw [hw1] at hf
        exact ((hx.frame (fun n => n = b)).trans (H := fun n => n = b) hf (fun _ h => h) (fun _ _ h => h)).ext fun n hn e => by omega
end Go.Proofs.YtjffhomcgpigpaaDoor
