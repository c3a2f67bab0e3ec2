import Derived.Test.YtjffhomcgpigpaaDoorA4
/- The document's table: all commands, in rising order. -/
namespace Go.Proofs.YtjffhomcgpigpaaDoor
open E
set_option maxRecDepth 100000
namespace E
theorem Own.appPre {h : Heap} {base cap size n bytes : Nat} {p : Option Addr} {vs news : List Value} {x : Value} (H : Own h base p cap size vs) (hn : vs.length = n * size) (hs : SrcIs h size x (lenV x) news) (ho : ∀ u ∈ news, u.oneCell' = true)
    (hfit : (n + lenV x) * bytes ≤ 140737488355328) (hlen : n + lenV x ≤ 9223372036854775807) : AppPre h size bytes p n cap x vs news := by
  have k := H.app (m := lenV x) hn hfit hlen
  have hl : news.length = lenV x * size := by
    cases x <;> simp only [SrcIs] at hs <;> first | exact hs.2.1 | exact hs.elim | skip
    obtain ⟨rfl, _, rfl⟩ := hs
    simp [u8s_length, lenV]
  exact ⟨hs, k.oldL, k.old, ho, fun hr => by rw [hl]; exact k.room hr, k.fit, k.len⟩
end E
/-- Words, three by three. -/
def triples : List (List UInt8) → List (List UInt8 × List UInt8 × List UInt8)
  | a :: b :: c :: r => (a, b, c) :: triples r
  | _ => []
/-- A command, of its three words. -/
def mkCd (g : Int) (x : List UInt8 × List UInt8 × List UInt8) : Cd :=
  if x.1.getD (x.1.length - 1) 0 = 33 then ⟨x.1.take (x.1.length - 1), smallW x.2.1, smallW x.2.2, false, g⟩ else ⟨x.1, smallW x.2.1, smallW x.2.2, true, g⟩
def gtB (s t : List UInt8) : Bool := !(bytesLt s t || decide (s = t))
/-- Where a command goes: behind all, and then ahead of each that is greater. -/
def place (l : List Cd) (c : Cd) : Nat → Nat
  | 0 => 0
  | k + 1 => if gtB (l.getD k Cd.none).name c.name then place l c k else k + 1
theorem place_le (l : List Cd) (c : Cd) : ∀ k, place l c k ≤ k
  | 0 => Nat.le_refl _
  | k + 1 => by unfold place; split; exact Nat.le_succ_of_le (place_le l c k); exact Nat.le_refl _
def insC (l : List Cd) (c : Cd) : List Cd := l.take (place l c l.length) ++ [c] ++ l.drop (place l c l.length)
theorem insC_length (l : List Cd) (c : Cd) : (insC l c).length = l.length + 1 := by simp [insC]; have := place_le l c l.length; omega
def insW (g : Int) (l : List Cd) (x : List UInt8 × List UInt8 × List UInt8) : List Cd := insC l (mkCd g x)
theorem wd_full : ∀ (s cur : List UInt8), ∀ x ∈ wd cur s, x ≠ []
  | [], cur, x, hx => by
    unfold wd at hx
    split at hx
    · cases hx
    · rename_i h; simp at hx; subst hx; exact h
  | c :: r, cur, x, hx => by
    unfold wd at hx
    split at hx
    · split at hx
      · exact wd_full r [] x hx
      · rename_i h
        rcases List.mem_cons.1 hx with rfl | hx
        · exact h
        · exact wd_full r [] x hx
    · exact wd_full r _ x hx
theorem triples_drop (l : List (List UInt8)) (i : Nat) (h : i + 2 < l.length) : triples (l.drop i) = (l.getD i [], l.getD (i + 1) [], l.getD (i + 2) []) :: triples (l.drop (i + 3)) := by
  rw [List.drop_eq_getElem_cons (by omega), List.drop_eq_getElem_cons (by omega), List.drop_eq_getElem_cons h, triples]
  simp [List.getD, show i < l.length by omega, show i + 1 < l.length by omega, h]
theorem triples_end (l : List (List UInt8)) (i : Nat) (h : ¬ i + 2 < l.length) : triples (l.drop i) = [] := by
  have : (l.drop i).length < 3 := by simp; omega
  generalize l.drop i = m at this
  match m, this with
  | [], _ => rfl
  | [_], _ => rfl
  | [_, _], _ => rfl
  | _ :: _ :: _ :: _, h => simp at h; omega
abbrev pA : List Nat := [1, 0, 0, 1, 0, 0, 1, 1, 0, 0, 1, 0, 0, 1, 0, 1, 1]
abbrev pB : List Nat := [1, 1, 0, 0, 1, 0, 0, 1, 1, 0, 0, 1, 0, 0, 1, 0, 1, 1]
abbrev pC : List Nat := [1, 1, 1, 1, 0, 0, 1, 0, 0, 1, 1, 0, 0, 1, 0, 0, 1, 0, 1, 1]
abbrev o19 : Opts := { cuts := [pA, pB, pC] }
abbrev LoopN := List Value → Heap → Os × Array (Nat × ByteArray) → Prop
abbrev K0 (N N0 : LoopN) : List KI := [KI.seq [1, 1, 0, 0, 1, 1, 0, 0, 1, 0, 0, 1, 0, 1, 1], KI.nxt 86 [1, 2, 3, 4] N, KI.blk 2, KI.blk 1, KI.seq [1, 1, 0, 0, 1, 0, 1, 1], KI.nxt 86 [1, 2] N0, KI.blk 0, KI.seq [1, 1, 1]]
set_option pp.deepTerms true
set_option pp.maxSteps 100000
theorem All_cutA (R : Ending → World → Prop) (N N0 : LoopN) (o : Os × Array (Nat × ByteArray)) (p q : Option Addr) (n cap g ln qcap i cb : Nat) (h : Heap) (a : List UInt8) (x y : Int) (ha : a ≠ []) (hal : a.length ≤ 1000000)
    (hc : CellsAt h cb 0 (Cd.v ⟨a, x, y, true, g⟩)) 
    (fin : ∀ h', CellsAt h' cb 0 (Cd.v (if a.getD (a.length - 1) 0 = 33 then ⟨a.take (a.length - 1), x, y, false, g⟩ else ⟨a, x, y, true, g⟩)) → E.Frame (fun b => b = cb) h h' →
      AtCut Tryd.prog (c19 o19) Tryd.f19 R pB (KI.blk 3 :: K0 N N0) [.slice p n cap, .int .i64 g, .slice q ln qcap, .int .i64 i, .pointer (some ⟨cb, 0, none⟩)] h' o) :
    AtCut Tryd.prog (c19 o19) Tryd.f19 R pA (KI.blk 3 :: K0 N N0) [.slice p n cap, .int .i64 g, .slice q ln qcap, .int .i64 i, .pointer (some ⟨cb, 0, none⟩)] h o := by
  refine cutting (k19 o19) [.slice (.v 0) (.v 0) (.v 1), .int .i64 (.ofN (.v 2)), .slice (.v 1) (.v 3) (.v 4), .int .i64 (.ofN (.v 5)), .ptr (.at (.v 6) (.c 0))] [(.v 6, .c 0, [.str (.v 0), .int .i64 (.v 0), .int .i64 (.v 1), .bool (.c true), .int .i64 (.ofN (.v 2))])]
    { n := fun j => if j = 0 then n else if j = 1 then cap else if j = 2 then g else if j = 3 then ln else if j = 4 then qcap else if j = 5 then i else cb, p := fun j => if j = 0 then p else q, s := fun _ => a, i := fun j => if j = 0 then x else y, h := fun _ => h, o := o } 7 1000
    rfl (by simp [SV.den, PE.den, IE.den, NE.den]) rfl rfl ⟨by simpa [NE.den, SV.den, SE.den, IE.den, BE.den, Cd.v] using hc, trivial, trivial⟩ ?_
  conv => arg 7; reduce
  simp only [VC.den, BE.prop, IE.den, NE.den, SE.den, SV.den, HE.den, PE.den, BE.den, WS.den, WI.den, List.map_cons, List.map_nil, Int.cast_ofNat_Int, reduceIte, Nat.reduceEqDiff, inK_i64]
  have hla : 0 < a.length := List.length_pos_iff.2 ha
  have e1 : ((a.length : Int) - 1).toNat = a.length - 1 := by omega
  have e2 : ((a.getD (a.length - 1) 0).toNat : Int) = 33 ↔ a.getD (a.length - 1) 0 = 33 := u8is _ 33 (by omega)
  rw [e1, e2]
  refine ⟨by omega, by omega, by omega, fun h1 => ⟨by omega, by omega, by omega, fun hc' hf => ?_⟩, fun h1 hc' hf => ?_⟩
  · exact fin _ (by rw [if_pos h1]; exact hc') (hf.mono fun n _ hn => by rcases hn with h | h | h; exact h; exact h; exact h.elim)
  · exact fin _ (by rw [if_neg h1]; exact hc') (hf.mono fun n _ hn => hn.elim)
theorem flatC_one (l : List Cd) : ∀ u ∈ flatC l, u.oneCell' = true := by
  intro u hu
  obtain ⟨c, _, hc⟩ := List.mem_flatMap.1 hu
  simp only [Cd.v, List.mem_cons, List.not_mem_nil, or_false] at hc
  rcases hc with rfl | rfl | rfl | rfl | rfl <;> rfl
theorem flatC_take (l : List Cd) (k : Nat) : flatC (l.take k) = (flatC l).take (5 * k) := by
  induction l generalizing k with
  | nil => simp [flatC]
  | cons c l ih =>
    cases k with
    | zero => simp [flatC]
    | succ k =>
      have e : (c.v ++ flatC l).take (5 * (k + 1)) = c.v ++ (flatC l).take (5 * k) := by
        rw [List.take_append, List.take_of_length_le (by simp [Cd.v]; omega)]
        congr 2
      show flatC (c :: l.take k) = (flatC (c :: l)).take (5 * (k + 1))
      simp only [flatC, List.flatMap_cons] at *
      rw [e, ← ih]
theorem flatC_drop (l : List Cd) (k : Nat) : flatC (l.drop k) = (flatC l).drop (5 * k) := by
  induction l generalizing k with
  | nil => simp [flatC]
  | cons c l ih =>
    cases k with
    | zero => simp [flatC]
    | succ k =>
      have e : (c.v ++ flatC l).drop (5 * (k + 1)) = (flatC l).drop (5 * k) := by
        rw [List.drop_append, List.drop_of_length_le (by simp [Cd.v]; omega), List.nil_append]
        congr 1
      show flatC (l.drop k) = (flatC (c :: l)).drop (5 * (k + 1))
      simp only [flatC, List.flatMap_cons] at *
      rw [e, ← ih]
theorem CdRow.take {h : Heap} {p : Option Addr} {l : List Cd} (H : CdRow h p l) (k : Nat) : CdRow h p (l.take k) := by
  unfold CdRow at *
  rw [flatC_take]
  rcases H with H | ⟨b, o, rfl, H⟩
  · left; rw [H]; simp
  · refine .inr ⟨b, o, rfl, fun j v hj => H j v ?_⟩
    rw [List.getElem?_take] at hj
    split at hj
    · exact hj
    · cases hj
theorem CdRow.drop {h : Heap} {p : Option Addr} {l : List Cd} {cap : Nat} (H : CdRow h p l) (k : Nat) (hk : k ≤ l.length) (hc : l.length ≤ cap) : CdRow h (advp p k cap 5) (l.drop k) := by
  unfold CdRow at *
  by_cases e : cap = k
  · left
    rw [List.drop_of_length_le (by omega)]; rfl
  · rw [flatC_drop]
    unfold advp
    rw [if_neg e]
    rcases H with H | ⟨b, o, rfl, H⟩
    · left; rw [H]; simp
    · refine .inr ⟨b, o + 5 * k, ?_, fun j v hj => ?_⟩
      · rw [Nat.mul_comm 5 k, Option.map_some, addr_add]
      · rw [List.getElem?_drop] at hj
        have := H _ v hj
        rw [Nat.add_assoc]; exact this
theorem app_ne {h h' : Heap} {e size n cap m : Nat} {p p' : Option Addr} {vs news : List Value} {c' b : Nat} (ha : Appended e size h p n cap m vs news h' p' c') (hp : ∀ a, p = some a → a.block ≠ b) (hb : b < h.size) : ∀ a, p' = some a → a.block ≠ b := by
  rcases ha with ⟨_, _, rfl, _⟩ | ⟨_, _, _, _, _, rfl⟩
  · exact hp
  · intro a ha; injection ha with ha; subst ha; simp only; omega
theorem E.Own.cap_le {h : Heap} {base cap size n : Nat} {p : Option Addr} {vs : List Value} (H : Own h base p cap size vs) (hn : vs.length = n * size) (hs : 0 < size) : n ≤ cap := by
  rcases H with ⟨_, rfl, rfl⟩ | ⟨b, rest, _, _, _, h3⟩
  · have h0 : n * size = 0 := hn.symm
    rcases Nat.mul_eq_zero.1 h0 with h | h <;> omega
  · rw [List.length_append, hn] at h3
    exact Nat.le_of_mul_le_mul_right (by omega : n * size ≤ cap * size) hs
theorem All_cutC (R : Ending → World → Prop) (N N0 : LoopN) (o : Os × Array (Nat × ByteArray)) (base : Nat) (p q : Option Addr) (out : List Cd) (cap g ln qcap i cb k : Nat) (h : Heap) (c : Cd) (hc : CellsAt h cb 0 c.v) (hk : k ≤ out.length) (hi : i ≤ 100000) (hol : out.length ≤ 100000)
    (hown : Own h base p cap 5 (flatC out))
    (fin : ∀ p' cap' h', Own h' h.size p' cap' 5 (flatC (out.take k ++ [c] ++ out.drop k)) → Ext h h' → N [.slice p' (out.length + 1) cap', .int .i64 g, .slice q ln qcap, .int .i64 ((i : Int) + 3)] h' o) :
    AtCut Tryd.prog (c19 o19) Tryd.f19 R pC (KI.blk 3 :: K0 N N0) [.slice p out.length cap, .int .i64 g, .slice q ln qcap, .int .i64 i, .pointer (some ⟨cb, 0, none⟩), .int .i64 k] h o := by
  have hrow : CdRow h p out := hown.row
  have hcap : out.length ≤ cap := hown.cap_le (by rw [flatC_length]; omega) (by omega)
  have hnext : ∀ h' p' c', Own h' h.size p' c' 5 (flatC (out.take k ++ [c] ++ out.drop k)) → Ext h h' → N [.slice p' (k + 1 + (out.length - k)) c', .int .i64 g, .slice q ln qcap, .int .i64 ((i : Int) + 3)] h' o := by
    intro h' p' c' h1 h2
    rw [show k + 1 + (out.length - k) = out.length + 1 by omega]
    exact fin p' c' h' h1 h2
  -- the three appends
  have ap1 : ∀ (H : Heap) (b0 : Nat), CellsAt H b0 0 [] → Ext h H → h.size ≤ b0 → AppPre H 5 48 (some ⟨b0, 0, none⟩) 0 0 (.slice p k cap) [] (flatC (out.take k)) ∧
      ∀ h1 p1 c1, Appended 32 5 H (some ⟨b0, 0, none⟩) 0 0 k [] (flatC (out.take k)) h1 p1 c1 → Own h1 h.size p1 c1 5 (flatC (out.take k)) ∧ Ext h h1 := by
    intro H b0 hb hx hge
    have hO : Own H h.size (some ⟨b0, 0, none⟩) 0 5 [] := .inr ⟨b0, [], rfl, hge, by simpa using hb, rfl⟩
    have hlen : (flatC (out.take k)).length = k * 5 := by rw [flatC_length, List.length_take, Nat.min_eq_left hk]; omega
    refine ⟨hO.appPre rfl ⟨Nat.le_refl _, hlen, (hrow.take k).ext hx⟩ (flatC_one _) (by simp only [lenV]; omega) (by simp only [lenV]; omega), fun h1 p1 c1 ha => ⟨?_, hO.keep (Nat.le_refl _) hx ha⟩⟩
    have := hO.next rfl hlen hx.le ha
    simpa using this
  have ap2 : ∀ (H : Heap) (p1 : Option Addr) (c1 : Nat), Own H h.size p1 c1 5 (flatC (out.take k)) → Ext h H → AppK H 5 48 p1 k c1 1 (flatC (out.take k)) ∧
      ∀ h2 p2 c2, Appended 32 5 H p1 k c1 1 (flatC (out.take k)) c.v h2 p2 c2 → Own h2 h.size p2 c2 5 (flatC (out.take k ++ [c])) ∧ Ext h h2 := by
    intro H p1 c1 hO hx
    have hlen : (flatC (out.take k)).length = k * 5 := by rw [flatC_length, List.length_take, Nat.min_eq_left hk]; omega
    refine ⟨hO.app hlen (by omega) (by omega), fun h2 p2 c2 ha => ⟨?_, hO.keep (Nat.le_refl _) hx ha⟩⟩
    rw [flatC_snoc]
    exact hO.next hlen (by simp [Cd.v]) hx.le ha
  have ap3 : ∀ (H : Heap) (p2 : Option Addr) (c2 : Nat), Own H h.size p2 c2 5 (flatC (out.take k ++ [c])) → Ext h H → AppPre H 5 48 p2 (k + 1) c2 (.slice (advp p k cap 5) (out.length - k) (cap - k)) (flatC (out.take k ++ [c])) (flatC (out.drop k)) ∧
      ∀ h3 p3 c3, Appended 32 5 H p2 (k + 1) c2 (out.length - k) (flatC (out.take k ++ [c])) (flatC (out.drop k)) h3 p3 c3 → Own h3 h.size p3 c3 5 (flatC (out.take k ++ [c] ++ out.drop k)) ∧ Ext h h3 := by
    intro H p2 c2 hO hx
    have hlen : (flatC (out.take k ++ [c])).length = (k + 1) * 5 := by rw [flatC_length]; simp; omega
    have hlen2 : (flatC (out.drop k)).length = (out.length - k) * 5 := by rw [flatC_length, List.length_drop]; omega
    refine ⟨hO.appPre hlen ⟨Nat.le_refl _, hlen2, (hrow.drop k hk hcap).ext hx⟩ (flatC_one _) (by simp only [lenV]; omega) (by simp only [lenV]; omega), fun h3 p3 c3 ha => ⟨?_, hO.keep (Nat.le_refl _) hx ha⟩⟩
    have e : flatC (out.take k ++ [c] ++ out.drop k) = flatC (out.take k ++ [c]) ++ flatC (out.drop k) := by simp [flatC]
    rw [e]
    exact hO.next hlen hlen2 hx.le ha
  have empty : ∀ H : Heap, CellsAt (H.push (.cells #[] 32)) H.size 0 [] := fun H => CellsAt.made H [] 32
  have hcb := hc.1
  refine cutting (k19 o19) [.slice (.v 0) (.v 0) (.v 1), .int .i64 (.ofN (.v 2)), .slice (.v 1) (.v 3) (.v 4), .int .i64 (.ofN (.v 5)), .ptr (.at (.v 6) (.c 0)), .int .i64 (.ofN (.v 7))] [(.v 6, .c 0, [.str (.v 0), .int .i64 (.v 0), .int .i64 (.v 1), .bool (.v 0), .int .i64 (.v 2)])]
    { n := fun j => if j = 0 then out.length else if j = 1 then cap else if j = 2 then g else if j = 3 then ln else if j = 4 then qcap else if j = 5 then i else if j = 6 then cb else k, p := fun j => if j = 0 then p else q, s := fun _ => c.name, i := fun j => if j = 0 then c.least else if j = 1 then c.most else c.group, b := fun _ => c.write, h := fun _ => h, o := o } 8 1000
    rfl (by simp [SV.den, PE.den, IE.den, NE.den]) rfl rfl ⟨by simpa [NE.den, SV.den, SE.den, IE.den, BE.den, Cd.v] using hc, trivial, trivial⟩ ?_
  conv => arg 7; reduce
  simp only [VC.den, BE.prop, IE.den, NE.den, SE.den, SV.den, HE.den, PE.den, BE.den, WS.den, WI.den, List.map_cons, List.map_nil, Int.cast_ofNat_Int, reduceIte, Nat.reduceEqDiff, Env.setH, Env.setN, Env.setP, inK_i64]
  refine ⟨by omega, by omega, ⟨?_, ?_⟩, ?_⟩
  · obtain ⟨a1, b1⟩ := ap1 _ _ (empty h) (ext_push h _) (Nat.le_refl _)
    refine ⟨_, _, a1, fun h1 p1 c1 ha1 => ?_⟩
    obtain ⟨o1, x1⟩ := b1 h1 p1 c1 ha1
    refine ⟨o1.ne (Nat.le_refl _), o1.ne_lt hcb, ?_⟩
    obtain ⟨a2, b2⟩ := ap2 _ p1 c1 (o1.ext (ext_push h1 _)) (x1.trans (ext_push h1 _))
    refine ⟨_, a2, fun h2 p2 c2 ha2 => ?_⟩
    obtain ⟨o2, x2⟩ := b2 h2 p2 c2 ha2
    refine ⟨app_ne ha2 (o1.ne (Nat.le_refl _)) (by simp), o2.ne_lt hcb, ?_⟩
    obtain ⟨a3, b3⟩ := ap3 _ p2 c2 o2 x2
    refine ⟨_, _, a3, fun h3 p3 c3 ha3 => ?_⟩
    obtain ⟨o3, x3⟩ := b3 h3 p3 c3 ha3
    exact ⟨by omega, fun _ _ => hnext h3 p3 c3 o3 x3⟩
  · obtain ⟨a1, b1⟩ := ap1 ((Array.push h (Obj.cells #[] 32)).push (.cells c.v.toArray 32)) h.size ((empty h).push _) ((ext_push h _).trans (ext_push _ _)) (Nat.le_refl _)
    refine ⟨_, _, a1, fun h1 p1 c1 ha1 => ?_⟩
    obtain ⟨o1, x1⟩ := b1 h1 p1 c1 ha1
    have n1 := app_ne (b := (Array.push h (Obj.cells #[] 32)).size) ha1 (by intro a ha; injection ha with ha; subst ha; simp) (by simp)
    refine ⟨n1, o1.ne_lt hcb, ?_⟩
    obtain ⟨a2, b2⟩ := ap2 _ p1 c1 o1 x1
    refine ⟨_, a2, fun h2 p2 c2 ha2 => ?_⟩
    obtain ⟨o2, x2⟩ := b2 h2 p2 c2 ha2
    have hsz : (Array.push h (Obj.cells #[] 32)).size < h1.size := by
      rcases ha1 with ⟨_, rfl, _, _⟩ | ⟨_, _, _, _, rfl, _⟩
      · unfold setRow; simp [setcs_sz]
      · simp; try omega
    refine ⟨app_ne ha2 n1 hsz, o2.ne_lt hcb, ?_⟩
    obtain ⟨a3, b3⟩ := ap3 _ p2 c2 o2 x2
    refine ⟨_, _, a3, fun h3 p3 c3 ha3 => ?_⟩
    obtain ⟨o3, x3⟩ := b3 h3 p3 c3 ha3
    exact ⟨by omega, fun _ _ => hnext h3 p3 c3 o3 x3⟩
  · obtain ⟨a1, b1⟩ := ap1 ((Array.push h (.cells c.v.toArray 32)).push (Obj.cells #[] 32)) (Array.push h (.cells c.v.toArray 32)).size (empty _) ((ext_push h _).trans (ext_push _ _)) (by simp)
    refine ⟨_, _, a1, fun h1 p1 c1 ha1 => ?_⟩
    obtain ⟨o1, x1⟩ := b1 h1 p1 c1 ha1
    have n1 := app_ne (b := h.size) ha1 (by intro a ha; injection ha with ha; subst ha; simp) (by simp only [Array.size_push]; omega)
    refine ⟨n1, o1.ne_lt hcb, ?_⟩
    obtain ⟨a2, b2⟩ := ap2 _ p1 c1 o1 x1
    refine ⟨_, a2, fun h2 p2 c2 ha2 => ?_⟩
    obtain ⟨o2, x2⟩ := b2 h2 p2 c2 ha2
    have hsz : h.size < h1.size := by
      rcases ha1 with ⟨_, rfl, _, _⟩ | ⟨_, _, _, _, rfl, _⟩
      · unfold setRow; simp [setcs_sz]; try omega
      · simp; try omega
    refine ⟨app_ne ha2 n1 hsz, o2.ne_lt hcb, ?_⟩
    obtain ⟨a3, b3⟩ := ap3 _ p2 c2 o2 x2
    refine ⟨_, _, a3, fun h3 p3 c3 ha3 => ?_⟩
    obtain ⟨o3, x3⟩ := b3 h3 p3 c3 ha3
    exact ⟨by omega, fun _ _ => hnext h3 p3 c3 o3 x3⟩
theorem All_cutB (R : Ending → World → Prop) (N N0 : LoopN) (o : Os × Array (Nat × ByteArray)) (base : Nat) (p q : Option Addr) (out : List Cd) (cap g ln qcap i cb : Nat) (h : Heap) (c : Cd) (hc : CellsAt h cb 0 c.v) (hi : i ≤ 100000) (hol : out.length ≤ 100000)
    (hown : Own h base p cap 5 (flatC out))
    (fin : ∀ p' cap' h', Own h' h.size p' cap' 5 (flatC (insC out c)) → Ext h h' → N [.slice p' (out.length + 1) cap', .int .i64 g, .slice q ln qcap, .int .i64 ((i : Int) + 3)] h' o) :
    AtCut Tryd.prog (c19 o19) Tryd.f19 R pB (KI.blk 3 :: K0 N N0) [.slice p out.length cap, .int .i64 g, .slice q ln qcap, .int .i64 i, .pointer (some ⟨cb, 0, none⟩)] h o := by
  refine cutting (k19 o19) [.slice (.v 0) (.v 0) (.v 1), .int .i64 (.ofN (.v 2)), .slice (.v 1) (.v 3) (.v 4), .int .i64 (.ofN (.v 5)), .ptr (.at (.v 6) (.c 0))] [(.v 6, .c 0, [.str (.v 0), .int .i64 (.v 0), .int .i64 (.v 1), .bool (.v 0), .int .i64 (.v 2)])]
    { n := fun j => if j = 0 then out.length else if j = 1 then cap else if j = 2 then g else if j = 3 then ln else if j = 4 then qcap else if j = 5 then i else cb, p := fun j => if j = 0 then p else q, s := fun _ => c.name, i := fun j => if j = 0 then c.least else if j = 1 then c.most else c.group, b := fun _ => c.write, h := fun _ => h, o := o } 7 1000
    rfl (by simp [SV.den, PE.den, IE.den, NE.den]) rfl rfl ⟨by simpa [NE.den, SV.den, SE.den, IE.den, BE.den, Cd.v] using hc, trivial, trivial⟩ ?_
  conv => arg 7; reduce
  simp only [VC.den, IE.den, NE.den, SE.den, SV.den, HE.den, PE.den, BE.den, WS.den, List.map_cons, List.map_nil, reduceIte, Nat.reduceEqDiff]
  intro _ _
  refine looping (k19 o19) [.slice (.v 0) (.v 0) (.v 1), .int .i64 (.ofN (.v 2)), .slice (.v 1) (.v 3) (.v 4), .int .i64 (.ofN (.v 5)), .ptr (.at (.v 6) (.c 0)), .int .i64 (.ofN (.v 7))] [(.v 6, .c 0, [.str (.v 0), .int .i64 (.v 0), .int .i64 (.v 1), .bool (.v 0), .int .i64 (.v 2)])]
    (fun k : Nat => { n := fun j => if j = 0 then out.length else if j = 1 then cap else if j = 2 then g else if j = 3 then ln else if j = 4 then qcap else if j = 5 then i else if j = 6 then cb else k, p := fun j => if j = 0 then p else q, s := fun _ => c.name, i := fun j => if j = 0 then c.least else if j = 1 then c.most else c.group, b := fun _ => c.write, h := fun _ => h, o := o }) 8 1000
    (fun k => k ≤ out.length ∧ place out c k = place out c out.length) (fun k => k) out.length ⟨Nat.le_refl _, rfl⟩ rfl (by simp [SV.den, PE.den, IE.den, NE.den]) rfl (fun _ => rfl) (fun _ _ => ⟨by simpa [NE.den, SV.den, SE.den, IE.den, BE.den, Cd.v] using hc, trivial, trivial⟩) ?_
  rintro k ⟨hk, hpl⟩ N1 hN
  simp only [SV.den, PE.den, NE.den, IE.den, List.map_cons, List.map_nil, reduceIte, Nat.reduceEqDiff] at hN
  conv => arg 7; reduce
  simp only [VC.den, BE.prop, IE.den, NE.den, SE.den, SV.den, HE.den, PE.den, BE.den, WS.den, List.map_cons, List.map_nil, Int.cast_ofNat_Int, reduceIte, Nat.reduceEqDiff, Env.setS, Env.setN, inK_i64]
  have done : place out c k = k → AtCut Tryd.prog (c19 o19) Tryd.f19 R pC (KI.blk 3 :: K0 N N0) [.slice p out.length cap, .int .i64 g, .slice q ln qcap, .int .i64 i, .pointer (some ⟨cb, 0, none⟩), .int .i64 k] h o := fun he =>
    All_cutC R N N0 o base p q out cap g ln qcap i cb k h c hc hk hi hol hown (by
      have e : insC out c = out.take k ++ [c] ++ out.drop k := by unfold insC; rw [← hpl, he]
      rw [← e]; exact fin)
  refine ⟨fun h1 => ?_, fun h1 _ _ => ?_⟩
  · have hlt : k - 1 < out.length := by omega
    obtain ⟨x, y, rfl, g0, _⟩ := CdRow.at (show CdRow h p out from hown.row) hlt
    have e1 : ((k : Int) - 1).toNat = k - 1 := by omega
    rw [e1]
    have e2 : (out.getD (k - 1) Cd.none) = out[k - 1] := by simp [List.getD, hlt]
    obtain ⟨j, rfl⟩ : ∃ j, k = j + 1 := ⟨k - 1, by omega⟩
    simp only [Nat.add_sub_cancel] at g0 e2 ⊢
    have hp : place out c (j + 1) = if gtB out[j].name c.name then place out c j else j + 1 := by rw [place, e2]
    have hgt : gtB out[j].name c.name = true ↔ ¬ (bytesLt out[j].name c.name = true ∨ out[j].name = c.name) := by
      unfold gtB; simp
    refine ⟨by omega, x, y, rfl, by omega, by omega, _, g0, fun h2 => ⟨by omega, fun _ _ => ?_⟩, fun h2 _ _ => ?_⟩
    · have := hN j ⟨by omega, by rw [← hpl, hp, if_pos (hgt.2 h2)]⟩ (by omega)
      rw [show ((j + 1 : Nat) : Int) - 1 = (j : Int) by omega]
      exact this
    · exact done (by rw [hp, if_neg (fun e => h2 (hgt.1 e))])
  · exact done (by have : k = 0 := by omega
                   subst this; rfl)
end Go.Proofs.YtjffhomcgpigpaaDoor
