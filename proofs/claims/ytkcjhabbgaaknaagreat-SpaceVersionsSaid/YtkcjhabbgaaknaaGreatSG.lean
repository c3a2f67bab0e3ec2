import Derived.Test.YtkcjhabbgaaknaaGreatSF
import Derived.Test.YtkcjhabbgaaknaaGreatSE
/- Versions: what stays so, whatever is done. -/
namespace Go.Proofs.YtkcjhabbgaaknaaGreat
open E
set_option maxRecDepth 100000
def mine : Key := bytesOf [109, 105, 110, 101]
def K8 : List Key := mine :: (List.range 7).map nameK
theorem K8_len : K8.length = 8 := rfl
theorem name_in {n : Nat} (hn : n < 7) : nameK n ∈ K8 := List.mem_cons_of_mem _ (List.mem_map.2 ⟨n, List.mem_range.2 hn, rfl⟩)
theorem name_ne (n : Nat) : nameK n ≠ mine := fun e => by
  have := congrArg List.length e
  cases this
theorem name_len (n : Nat) : (nameK n).length = 2 := rfl
theorem mine_len : mine.length = 4 := rfl
def qn (n : Nat) (v : Int) : Int → List (Key × Int) → Prop := fun c mv => 0 ≤ c ∧ c ≤ n ∧ v ≤ c ∧ (mine, v) ∈ mv ∧ ∀ x ∈ mv, x.1 ∈ K8
theorem wrap_succ {c : Int} {n : Nat} (h0 : 0 ≤ c) (h1 : c ≤ n) (hn : n ≤ 1000) : IntKind.u64.wrap (c + 1) = c + 1 := wrap_of_in (by rw [inK_u64]; omega)
theorem qn_mono (n : Nat) (v : Int) : ∀ c mv, qn n v c mv → qn (n + 1) v c mv := fun c mv h => ⟨h.1, by have := h.2.1; omega, h.2.2⟩
theorem chg_name (n : Nat) (v : Int) (hn : n ≤ 1000) {k : Nat} (hk : k < 7) : Chg (qn n v) (qn (n + 1) v) (nameK k) := by
  rintro c mv hu ⟨h0, h1, h2, h3, h4⟩
  have hw := wrap_succ h0 h1 hn
  have hl := len_keys hu h4
  rw [K8_len] at hl
  rw [hw]
  exact ⟨by omega, by omega, by omega, by omega, List.mem_cons_of_mem _ (mem_rm.2 ⟨h3, fun e => name_ne k e.symm⟩), pt_in h4 (name_in hk)⟩
theorem chg_mine (n : Nat) (v : Int) (hn : n ≤ 1000) : Chg (qn n v) (fun c mv => ∃ v', v < v' ∧ qn (n + 1) v' c mv) mine := by
  rintro c mv hu ⟨h0, h1, h2, h3, h4⟩
  have hw := wrap_succ h0 h1 hn
  have hl := len_keys hu h4
  rw [K8_len] at hl
  rw [hw]
  exact ⟨by omega, c + 1, by omega, by omega, by omega, by omega, List.mem_cons_self, pt_in h4 List.mem_cons_self⟩
structure VInv (h0 : Heap) (Z : Nat → Prop) (sb : Nat) (q : Int → List (Key × Int) → Prop) (h : Heap) (md : List (Key × Option Addr)) (me : List (Key × Int)) : Prop where
  zo : ∀ b, b ≤ h0.size → Z b
  sp : SpQ Z q h sb md me
  tv : TV Z h md
  mi : ∃ a, (mine, some a) ∈ md
  kd : ∀ x ∈ md, x.1 ∈ K8
  ke : ∀ x ∈ me, x.1 ∈ K8
  lv : ∀ x ∈ me, (0 : Int) < x.2
  xw : Ext h0 h
def VI (h0 : Heap) (sb : Nat) (q : Int → List (Key × Int) → Prop) (h : Heap) : Prop := ∃ Z md me, VInv h0 Z sb q h md me
def VR (h0 : Heap) (sb : Nat) (q : Int → List (Key × Int) → Prop) (h : Heap) (o : Os × Array (Nat × ByteArray)) : Ending → World → Prop :=
  fun _ w' => E.Frame (fun b => h0.size < b) h w'.heap ∧ outw w' = o ∧ VI h0 sb q w'.heap
section
variable {h0 h h' : Heap} {Z : Nat → Prop} {sb : Nat} {q q' : Int → List (Key × Int) → Prop} {md : List (Key × Option Addr)} {me : List (Key × Int)}
theorem VInv.dl (H : VInv h0 Z sb q h md me) : md.length ≤ 12 := by
  have := len_keys H.sp.nd.1 H.kd
  rw [K8_len] at this; omega
theorem VInv.el (H : VInv h0 Z sb q h md me) : me.length ≤ 12 := by
  have := len_keys H.sp.nd.2 H.ke
  rw [K8_len] at this; omega
theorem VInv.fr (H : VInv h0 Z sb q h md me) (hf : E.Frame (fun b => ¬ Z b) h h') : E.Frame (fun b => h0.size < b) h h' :=
  hf.mono fun b _ hb => Nat.lt_of_not_le fun hle => hb (H.zo b hle)
theorem VInv.xf (H : VInv h0 Z sb q h md me) (hf : E.Frame (fun b => ¬ Z b) h h') : Ext h0 h' := frame_old hf H.xw fun b hb => H.zo b (Nat.le_of_lt hb)
theorem VI.ext (H : VI h0 sb q h) (hx : Ext h h') : VI h0 sb q h' := by
  obtain ⟨Z, md, me, H⟩ := H
  exact ⟨Z, md, me, H.zo, H.sp.ext hx, H.tv.ext hx, H.mi, H.kd, H.ke, H.lv, H.xw.trans hx⟩
theorem VI.mono (H : VI h0 sb q h) (hq : ∀ c mv, q c mv → q' c mv) : VI h0 sb q' h := by
  obtain ⟨Z, md, me, H⟩ := H
  exact ⟨Z, md, me, H.zo, H.sp.mono hq, H.tv, H.mi, H.kd, H.ke, H.lv, H.xw⟩
end
theorem V_put (h0 h : Heap) (sb vb : Nat) (t : List UInt8) (n k : Nat) (v : Int) (w : World) (H : VI h0 sb (qn n v) h) (hx : Ext h w.heap) (hvb : h.size ≤ vb) (hT : TextAt w.heap vb t) (hn : n ≤ 1000) (hk : k < 7) :
    Calls Tryz.prog 7 #[.pointer (some ⟨sb, 0, none⟩), .string (bs (nameK k)), .pointer (some ⟨vb, 0, none⟩), .int .i64 0] w (fun e w' => e = .returned (.int .i64 0) ∧ VR h0 sb (qn (n + 1) v) w.heap (outw w) e w') := by
  obtain ⟨Z, md, me, H⟩ := H
  have H1 := H.sp.more hx hvb hT.1
  refine (Put_Q (fun b => Z b ∨ b = vb) _ _ sb vb t md me (nameK k) 0 w H1 (chg_name n v hn hk) (by rw [name_len]; omega) H.dl H.el H.lv hT (Or.inr rfl)).mono ?_
  rintro e w' ⟨rfl, hf, ho, HS⟩
  have hz : ∀ b, b ≤ h0.size → Z b ∨ b = vb := fun b hb => .inl (H.zo b hb)
  refine ⟨rfl, hf.mono fun b _ hb => Nat.lt_of_not_le fun hle => hb (hz b hle), ho, (fun b => Z b ∨ b = vb), _, _, hz, HS, fun x hx' => ?_, ?_, pt_in H.kd (name_in hk), rm_in H.ke, rm_live _ H.lv, frame_old hf (H.xw.trans hx) fun b hb => hz b (Nat.le_of_lt hb)⟩
  · rcases List.mem_cons.1 hx' with rfl | hx'
    · exact ⟨vb, t, rfl, hT.keep hf (.inr rfl), .inr rfl⟩
    · obtain ⟨b, u, e1, e2, e3⟩ := H.tv x (mem_rm.1 hx').1
      exact ⟨b, u, e1, TextAt.keep (Z := fun b => Z b ∨ b = vb) (hx.cellsAt e2) hf (.inl e3), .inl e3⟩
  · obtain ⟨a, ha⟩ := H.mi
    exact ⟨a, List.mem_cons_of_mem _ (mem_rm.2 ⟨ha, fun e => name_ne k e.symm⟩)⟩
theorem V_delete (h0 : Heap) (sb : Nat) (n k : Nat) (v : Int) (w : World) (H : VI h0 sb (qn n v) w.heap) (hn : n ≤ 1000) (hk : k < 7) :
    Calls Tryz.prog 18 #[.pointer (some ⟨sb, 0, none⟩), .string (bs (nameK k)), .int .i64 0] w (fun e w' => (∃ b, e = .returned (.bool b)) ∧ VR h0 sb (qn (n + 1) v) w.heap (outw w) e w') := by
  obtain ⟨Z, md, me, H⟩ := H
  refine (Delete_Q Z _ _ sb md me (nameK k) 0 w H.sp (chg_name n v hn hk) (qn_mono n v) (by rw [name_len]; omega) H.dl H.el H.lv).mono ?_
  rintro e w' ⟨b, md', me', ⟨rfl, hf, ho, HS⟩, hm⟩
  refine ⟨⟨b, rfl⟩, H.fr hf, ho, Z, md', me', H.zo, HS, ?_, ?_, ?_, ?_, ?_, H.xf hf⟩
  · rcases hm with ⟨rfl, rfl⟩ | ⟨rfl, rfl⟩
    · exact H.tv.keep hf
    · exact (H.tv.rm _).keep hf
  · obtain ⟨a, ha⟩ := H.mi
    rcases hm with ⟨rfl, rfl⟩ | ⟨rfl, rfl⟩
    · exact ⟨a, ha⟩
    · exact ⟨a, mem_rm.2 ⟨ha, fun e => name_ne k e.symm⟩⟩
  · rcases hm with ⟨rfl, rfl⟩ | ⟨rfl, rfl⟩
    · exact H.kd
    · exact rm_in H.kd
  · rcases hm with ⟨rfl, rfl⟩ | ⟨rfl, rfl⟩
    · exact H.ke
    · exact rm_in H.ke
  · rcases hm with ⟨rfl, rfl⟩ | ⟨rfl, rfl⟩
    · exact H.lv
    · exact rm_live _ H.lv
theorem Expire_none (Z : Nat → Prop) (K : List Key) (sb : Nat) (md : List (Key × Option Addr)) (me : List (Key × Int)) (key : Key) (at_ now : Int) (w : World) (H : SpS Z K w.heap sb md me) (hs : key.length ≤ 4096) (hl : ∀ x ∈ me, now < x.2) (hno : ∀ x ∈ md, x.1 ≠ key) :
    Calls Tryz.prog 10 #[.pointer (some ⟨sb, 0, none⟩), .string (bs key), .int .i64 at_, .int .i64 now] w (RetX (.bool false) w.heap (outw w)) := by
  refine begins (k10 {}) [.ptr (.at (.v 0) (.c 0)), .str (.v 0), .int .i64 (.v 1), .int .i64 (.v 0)] [] { n := fun _ => sb, i := fun j => if j = 0 then now else at_, s := fun _ => key, h := fun _ => w.heap, o := outw w } 2 1000 rfl rfl rfl trivial (by simp [SV.den, SE.den, NE.den, PE.den, IE.den]) ?_
  conv => arg 7; reduce
  simp only [VC.den, BE.prop, IE.den, NE.den, SE.den, SV.den, HE.den, PE.den, BE.den, WS.den, WI.den, noneIn, List.map_cons, List.map_nil, reduceIte, Nat.reduceEqDiff, Env.setE, Env.setH, Env.setB, Env.setI, Env.setP, Env.setW]
  intro w1 hw1 ho1
  refine (there_live Z K sb md me key now w1 (by rw [hw1]; exact H) (by omega) hl).mono ?_
  rintro e1 v1 ⟨b, p, ok, rfl, hH, hb, hx1, hp1⟩
  rw [hw1] at hx1
  have hp : p = none := by
    rcases hH with ⟨_, hm⟩ | ⟨_, h, _⟩
    · exact absurd rfl (hno _ hm)
    · exact h
  refine ⟨hp1.trans ho1, _, hx1.frame (fun _ => False), trivial, b, rfl, fun _ _ w2 hw2 ho2 => ⟨rfl, by rw [hw2]; exact hx1, ho2⟩, fun h => ?_⟩
  exact absurd (fun e => hb.1 e hp) h
theorem V_expire (h0 : Heap) (sb : Nat) (n k : Nat) (v : Int) (w : World) (H : VI h0 sb (qn n v) w.heap) (hn : n ≤ 1000) (hk : k < 7) :
    Calls Tryz.prog 10 #[.pointer (some ⟨sb, 0, none⟩), .string (bs (nameK k)), .int .i64 50, .int .i64 0] w (fun e w' => (∃ b, e = .returned (.bool b)) ∧ VR h0 sb (qn (n + 1) v) w.heap (outw w) e w') := by
  have HV := H
  obtain ⟨Z, md, me, H⟩ := H
  by_cases hin : ∃ p, (nameK k, p) ∈ md
  · obtain ⟨p, hp⟩ := hin
    obtain ⟨b, t, e1, _⟩ := H.tv _ hp
    simp only at e1
    subst e1
    refine (Expire_Q Z _ _ sb md me (nameK k) 50 0 _ w H.sp (chg_name n v hn hk) (by rw [name_len]; omega) H.el H.lv hp (by decide)).mono ?_
    rintro e w' ⟨rfl, hf, ho, HS⟩
    refine ⟨⟨_, rfl⟩, H.fr hf, ho, Z, _, _, H.zo, HS, H.tv.keep hf, H.mi, H.kd, pt_in H.ke (name_in hk), fun x hx => ?_, H.xf hf⟩
    rcases List.mem_cons.1 hx with rfl | hx
    · show (0 : Int) < 50; decide
    · exact H.lv x (mem_rm.1 hx).1
  · obtain ⟨K, HK⟩ := H.sp.S
    refine (Expire_none Z K sb md me (nameK k) 50 0 w HK (by rw [name_len]; omega) H.lv fun x hx e => hin ⟨x.2, by rw [← e]; exact hx⟩).mono ?_
    rintro e w' ⟨rfl, hx, ho⟩
    exact ⟨⟨_, rfl⟩, hx.frame _, ho, (HV.ext hx).mono (qn_mono n v)⟩
theorem V_touch (h0 : Heap) (sb : Nat) (n k : Nat) (v : Int) (w : World) (H : VI h0 sb (qn n v) w.heap) (hn : n ≤ 1000) (hk : k < 7) :
    Calls Tryz.prog 21 #[.pointer (some ⟨sb, 0, none⟩), .string (bs (nameK k)), .int .i64 0] w (fun e w' => e = .returned (.tuple #[]) ∧ VR h0 sb (qn (n + 1) v) w.heap (outw w) e w') := by
  obtain ⟨Z, md, me, H⟩ := H
  refine (Touch_Q Z _ _ sb md me (nameK k) 0 w H.sp (chg_name n v hn hk) H.tv (by rw [name_len]; omega) H.lv).mono ?_
  rintro e w' (⟨rfl, hf, ho, HS⟩ | ⟨_, rfl, hf, ho, HS⟩)
  · exact ⟨rfl, H.fr hf, ho, Z, md, me, H.zo, HS, H.tv.keep hf, H.mi, H.kd, H.ke, H.lv, H.xf hf⟩
  · exact ⟨rfl, H.fr hf, ho, Z, md, me, H.zo, HS.mono (qn_mono n v), H.tv.keep hf, H.mi, H.kd, H.ke, H.lv, H.xf hf⟩
theorem V_mine (h0 : Heap) (sb : Nat) (n : Nat) (v : Int) (w : World) (H : VI h0 sb (qn n v) w.heap) (hn : n ≤ 1000) :
    Calls Tryz.prog 21 #[.pointer (some ⟨sb, 0, none⟩), .string (bs mine), .int .i64 0] w (fun e w' => e = .returned (.tuple #[]) ∧ ∃ v', v < v' ∧ VR h0 sb (qn (n + 1) v') w.heap (outw w) e w') := by
  obtain ⟨Z, md, me, H⟩ := H
  refine (Touch_Q Z _ _ sb md me mine 0 w H.sp (chg_mine n v hn) H.tv (by rw [mine_len]; omega) H.lv).mono ?_
  rintro e w' (⟨rfl, hf, ho, s, Hs, h1, h2, h3, ⟨v', hv', hq⟩, h4⟩ | ⟨hno, _⟩)
  · exact ⟨rfl, v', hv', H.fr hf, ho, Z, md, me, H.zo, ⟨s, Hs, h1, h2, h3, hq, h4⟩, H.tv.keep hf, H.mi, H.kd, H.ke, H.lv, H.xf hf⟩
  · obtain ⟨a, ha⟩ := H.mi
    exact absurd rfl (hno _ ha)
theorem V_version (h0 : Heap) (sb : Nat) (n : Nat) (v : Int) (w : World) (H : VI h0 sb (qn n v) w.heap) :
    Calls Tryz.prog 19 #[.pointer (some ⟨sb, 0, none⟩), .string (bs mine), .int .i64 0] w (RetX (.int .u64 v) w.heap (outw w)) := by
  obtain ⟨Z, md, me, H⟩ := H
  refine (Version_Q Z _ sb md me mine 0 w H.sp (by rw [mine_len]; omega) H.lv).mono ?_
  rintro e w' ⟨x, rfl, hx, ho, c, mv, ok, hu, hq, hH, _⟩
  have : x = v := by
    rcases hH with ⟨_, hm⟩ | ⟨_, _, hm⟩
    · exact uniq_val hu hm hq.2.2.2.1
    · exact absurd rfl (hm _ hq.2.2.2.1)
  subst this
  exact ⟨rfl, hx, ho⟩
theorem V_get (h0 : Heap) (sb : Nat) (q : Int → List (Key × Int) → Prop) (w : World) (H : VI h0 sb q w.heap) :
    Calls Tryz.prog 12 #[.pointer (some ⟨sb, 0, none⟩), .string (bs mine), .int .i64 0] w fun e w' => ∃ a : Addr, e = .returned (.pointer (some a)) ∧ Ext w.heap w'.heap ∧ outw w' = outw w := by
  obtain ⟨Z, md, me, H⟩ := H
  obtain ⟨K, HK⟩ := H.sp.S
  obtain ⟨a, ha⟩ := H.mi
  refine (Get_live Z K sb md me mine 0 w HK (by rw [mine_len]; omega) H.lv).mono ?_
  rintro e w' ⟨p, ok, rfl, hH, hx, ho⟩
  exact ⟨a, by rw [here H.sp.nd.1 ha hH], hx, ho⟩
theorem V_expiry (h0 : Heap) (sb : Nat) (q : Int → List (Key × Int) → Prop) (w : World) (H : VI h0 sb q w.heap) :
    Calls Tryz.prog 13 #[.pointer (some ⟨sb, 0, none⟩), .string (bs mine), .int .i64 0] w fun e w' => ∃ x ok, e = .returned (.tuple #[.int .i64 x, .bool ok]) ∧ Ext w.heap w'.heap ∧ outw w' = outw w := by
  obtain ⟨Z, md, me, H⟩ := H
  obtain ⟨K, HK⟩ := H.sp.S
  obtain ⟨a, ha⟩ := H.mi
  refine (Expiry_S Z K sb md me mine 0 a w HK (by rw [mine_len]; omega) H.lv ha).mono ?_
  rintro e w' ⟨x, ok, rfl, _, hx, ho⟩
  exact ⟨x, ok, rfl, hx, ho⟩
theorem V_scan (h0 : Heap) (sb : Nat) (q : Int → List (Key × Int) → Prop) (x : Int) (w : World) (H : VI h0 sb q w.heap) :
    Calls Tryz.prog 17 #[.pointer (some ⟨sb, 0, none⟩), .int .u64 x, .int .i64 3, .int .i64 0] w fun e w' => (∃ p n c, e = .returned (.tuple #[.slice p n c, .int .u64 0])) ∧ Ext w.heap w'.heap ∧ outw w' = outw w := by
  obtain ⟨Z, md, me, H⟩ := H
  obtain ⟨K, HK⟩ := H.sp.S
  refine (Scan_any Z K sb md me x 0 w HK H.lv (fun y hy => by obtain ⟨b, t, e, _⟩ := H.tv y hy; exact ⟨_, e⟩) H.dl).mono ?_
  rintro e w' ⟨⟨v, rfl, p, n, c, rfl⟩, hx, ho⟩
  exact ⟨⟨p, n, c, rfl⟩, hx, ho⟩
theorem V_cycle (h0 : Heap) (sb : Nat) (q : Int → List (Key × Int) → Prop) (w : World) (H : VI h0 sb q w.heap) :
    Calls Tryz.prog 22 #[.pointer (some ⟨sb, 0, none⟩), .int .i64 5, .int .i64 0] w (fun e w' => (∃ n, e = .returned (.int .i64 n)) ∧ VR h0 sb q w.heap (outw w) e w') := by
  obtain ⟨Z, md, me, H⟩ := H
  refine (Cycle_Q Z q sb md me 0 w H.sp H.lv H.el).mono ?_
  rintro e w' ⟨n, rfl, hf, ho, HS⟩
  exact ⟨⟨n, rfl⟩, H.fr hf, ho, Z, md, me, H.zo, HS, H.tv.keep hf, H.mi, H.kd, H.ke, H.lv, H.xf hf⟩
end Go.Proofs.YtkcjhabbgaaknaaGreat
/- The law SpaceVersions: it answers true. -/
namespace Go.Proofs.YtkcjhabbgaaknaaGreat
open E
set_option maxRecDepth 100000
/-- Calls as they are drawn: what is read of them are numbers. -/
def AskRow (h : Heap) (p : Option Addr) (n : Nat) : Prop := n = 0 ∨ ∃ b o, p = some ⟨b, o, none⟩ ∧ ∀ i, i < n → ∃ x y z, get h b (o + i * 6) = some (.int .i64 x) ∧ get h b (o + i * 6 + 1) = some (.int .i64 y) ∧ get h b (o + i * 6 + 2) = some (.int .i64 z)
theorem get_keep {h h' : Heap} (hx : Ext h h') {b o : Nat} {v : Value} (hg : get h b o = some v) : get h' b o = some v := by rw [get_same (hx.old b (get_lt hg))]; exact hg
theorem VI.xw {h0 h : Heap} {sb : Nat} {q : Int → List (Key × Int) → Prop} (H : VI h0 sb q h) : Ext h0 h := by
  obtain ⟨Z, md, me, H⟩ := H
  exact H.xw
theorem AskRow.at {h h' : Heap} {p : Option Addr} {n : Nat} (H : AskRow h p n) (hx : Ext h h') {i : Nat} (hi : i < n) : ∃ b o x y z, p = some ⟨b, o, none⟩ ∧ get h' b (o + i * 6) = some (.int .i64 x) ∧ get h' b (o + i * 6 + 1) = some (.int .i64 y) ∧ get h' b (o + i * 6 + 2) = some (.int .i64 z) := by
  rcases H with rfl | ⟨b, o, rfl, H⟩
  · omega
  · obtain ⟨x, y, z, h1, h2, h3⟩ := H i hi
    exact ⟨b, o, x, y, z, rfl, get_keep hx h1, get_keep hx h2, get_keep hx h3⟩
set_option maxHeartbeats 4000000 in
theorem SpaceVersions_any (seed l1 l2 : Int) (n : Nat) (p : Option Addr) (cap : Nat) (w : World) (hr : AskRow w.heap p n) (_hln : n ≤ 9223372036854775807) :
    Calls Tryz.prog 5 #[.agg #[.int .u64 seed, .int .i64 l1, .int .i64 l2], .slice p n cap] w (RetX (.bool true) w.heap (outw w)) := by
  refine begins (k5 {}) [.agg [.int .u64 (.v 0), .int .i64 (.v 1), .int .i64 (.v 2)], .slice (.v 0) (.v 0) (.v 1)] [] { i := fun j => if j = 0 then seed else if j = 1 then l1 else l2, n := fun j => if j = 0 then n else cap, p := fun _ => p, h := fun _ => w.heap, o := outw w } 4 1000 rfl rfl rfl trivial (by simp [SV.den, IE.den, NE.den, PE.den]) ?_
  conv => arg 7; reduce
  simp only [VC.den, BE.prop, IE.den, NE.den, SE.den, SV.den, HE.den, PE.den, BE.den, WS.den, WI.den, noneIn, List.map_cons, List.map_nil, Int.cast_ofNat_Int, reduceIte, Nat.reduceEqDiff, Env.setE, Env.setH, Env.setI, Env.setN, Env.setP, Env.setW]
  have hE0 := ext_push w.heap (.cells #[.int .u64 seed, .int .i64 l1, .int .i64 l2] 26)
  have hsz : (w.heap.push (.cells #[.int .u64 seed, .int .i64 l1, .int .i64 l2] 26)).size = w.heap.size + 1 := by simp
  intro w1 hw1 ho1
  refine (SNewQ_any (fun b => b < w.heap.size + 1) seed l1 l2 w1 (fun b h => by rw [hw1]; rw [hsz]; exact h)).mono ?_
  rintro e1 v1 ⟨sb, rfl, hx1, H1, hp1⟩
  rw [hw1] at hx1
  refine ⟨hp1.trans ho1, hx1, _, rfl, fun h => (by cases h), fun _ w2 hw2 ho2 => ?_⟩
  refine (OfText_any (bytesOf [120]) w2).mono ?_
  rintro e2 v2 ⟨vb, rfl, hvb, hT, hx2, hp2⟩
  rw [hw2] at hx2 hvb
  have H2 := H1.more hx2 hvb hT.1
  refine ⟨hp2.trans ho2, hx2, _, rfl, fun w3 hw3 ho3 => ?_⟩
  have x2 := hE0.trans (hx1.trans hx2)
  have hc0 : Chg (fun c mv => c = 0 ∧ mv = []) (qn 1 1) mine := by
    rintro c mv _ ⟨rfl, rfl⟩
    exact ⟨by simp, by decide, by decide, by decide, by decide, fun x hx => by rw [show x = _ from List.mem_singleton.1 hx]; exact List.mem_cons_self⟩
  refine (Put_Q (fun b => b < w.heap.size + 1 ∨ b = vb) _ _ sb vb (bytesOf [120]) [] [] mine 0 w3 (by rw [hw3]; exact H2) hc0 (by rw [mine_len]; omega) (by simp) (by simp) (fun x hx => by cases hx) (by rw [hw3]; exact hT) (Or.inr rfl)).mono ?_
  rintro e3 v3 ⟨rfl, hf3, hp3, H3⟩
  rw [hw3] at hf3
  have hZ : ∀ b, b ≤ w.heap.size → b < w.heap.size + 1 ∨ b = vb := fun b h => .inl (by omega)
  have V3 : VI w.heap sb (qn 1 1) v3.heap := by
    refine ⟨_, _, _, hZ, H3, ?_, ⟨⟨vb, 0, none⟩, List.mem_cons_self⟩, ?_, (fun x hx => by cases hx), (fun x hx => by cases hx), frame_old hf3 x2 fun b hb => hZ b (by omega)⟩
    · intro x hx
      rw [show x = _ from List.mem_singleton.1 hx]
      exact ⟨vb, _, rfl, hT.keep hf3 (.inr rfl), .inr rfl⟩
    · intro x hx
      rw [show x = _ from List.mem_singleton.1 hx]
      exact List.mem_cons_self
  refine ⟨hp3.trans ho3, _, hf3, ⟨fun h => h (.inl (by omega)), trivial⟩, _, rfl, fun h => absurd rfl h, fun _ w4 hw4 ho4 => ?_⟩
  refine (V_version w.heap sb 1 1 w4 (by rw [hw4]; exact V3)).mono ?_
  rintro e4 v4 ⟨rfl, hx4, hp4⟩
  rw [hw4] at hx4
  refine ⟨hp4.trans ho4, _, hx4.frame (fun _ => False), ⟨id, trivial⟩, _, rfl, fun _ => ?_⟩
  refine looping (k5 {}) [.slice (.v 0) (.v 0) (.v 1), .ptr (.at (.v 2) (.c 0)), .int .u64 (.v 0), .int .i64 (.ofN (.v 3))] []
    (fun y : Nat × Int × Heap => { n := fun j => if j = 0 then n else if j = 1 then cap else if j = 2 then sb else y.1, i := fun _ => y.2.1, p := fun _ => p, h := fun _ => y.2.2, o := outw w }) 4 1000
    (fun y => y.1 ≤ n ∧ y.1 ≤ 30 ∧ VI w.heap sb (qn (2 * y.1 + 1) y.2.1) y.2.2) (fun y => n - y.1) (0, 1, v4.heap) ⟨Nat.zero_le _, by simp, V3.ext hx4⟩ rfl (by simp [SV.den, IE.den, NE.den, PE.den]) rfl (fun _ => rfl) (fun _ _ => trivial) ?_
  rintro ⟨i, v, h⟩ ⟨hi, hi30, HV⟩ N hN
  simp only at hi hi30 HV
  simp only [SV.den, PE.den, NE.den, IE.den, List.map_cons, List.map_nil, reduceIte, Nat.reduceEqDiff] at hN
  conv => arg 7; reduce
  simp only [VC.den, BE.prop, IE.den, NE.den, SE.den, SV.den, HE.den, PE.den, BE.den, WS.den, WI.den, noneIn, List.map_cons, List.map_nil, Int.cast_ofNat_Int, reduceIte, Nat.reduceEqDiff, Env.setE, Env.setH, Env.setB, Env.setS, Env.setI, Env.setN, Env.setP, Env.setW, inK_i64]
  refine ⟨fun h1 => ?_, fun h1 => ?_⟩
  · obtain ⟨h1, h30⟩ := h1
    have hlt : i < n := by omega
    have xh := HV.xw
    obtain ⟨b, o, k1, k2, k3, rfl, g1, g2, g3⟩ := hr.at xh hlt
    refine ⟨b, o, rfl, h1, _, g2, fun w5 hw5 ho5 => ?_⟩
    refine (name_any k2 w5).mono ?_
    rintro e5 v5 ⟨nm, hnm, rfl, hx5, hp5⟩
    rw [hw5] at hx5
    have HV5 := HV.ext hx5
    refine ⟨hp5.trans ho5, hx5, _, rfl, h1, _, get_keep hx5 g1, fun _ w6 hw6 ho6 => ?_, fun _ => ⟨fun _ w6 hw6 ho6 => ?_, fun _ => ⟨fun _ w6 hw6 ho6 => ?_, fun _ => ⟨fun _ w6 hw6 ho6 => ?_, fun _ w6 hw6 ho6 => ?_⟩⟩⟩⟩
    · refine (OfText_any (bytesOf [121]) w6).mono ?_
      rintro e6 v6 ⟨yb, rfl, hyb, hTy, hx6, hp6⟩
      rw [hw6] at hx6 hyb
      refine ⟨hp6.trans ho6, hx6, _, rfl, fun w7 hw7 ho7 => ?_⟩
      refine (V_put w.heap v5.heap sb yb (bytesOf [121]) (2 * i + 1) nm v w7 HV5 (by rw [hw7]; exact hx6) hyb (by rw [hw7]; exact hTy) (by omega) hnm).mono ?_
      rintro e7 v7 ⟨rfl, hf7, hp7, HV7⟩
      rw [hw7] at hf7
      refine ⟨hp7.trans ho7, _, hf7, trivial, _, rfl, fun w8 hw8 ho8 => ?_⟩
      refine (V_version w.heap sb (2 * i + 2) v w8 (by rw [hw8]; exact HV7)).mono ?_
      rintro e8 v8 ⟨rfl, hx8, hp8⟩
      rw [hw8] at hx8
      have HA := VI.ext (HV7) hx8
      refine ⟨hp8.trans ho8, _, hx8.frame (fun _ => False), trivial, _, rfl, fun h => absurd rfl h, fun _ => ?_⟩
      obtain ⟨b', o', z1, z2, z3, hbo, q1, q2, q3⟩ := hr.at HA.xw hlt
      injection hbo with hbo
      injection hbo with hb' ho'
      subst hb' ho'
      refine ⟨h1, _, q3, fun _ w9 hw9 ho9 => ?_, fun _ => ⟨by omega, fun _ => ?_⟩⟩
      · refine (V_mine w.heap sb (2 * i + 2) v w9 (by rw [hw9]; exact HA) (by omega)).mono ?_
        rintro e9 v9 ⟨rfl, v', hv', hf9, hp9, HB⟩
        rw [hw9] at hf9
        refine ⟨hp9.trans ho9, _, hf9, trivial, rfl, fun w10 hw10 ho10 => ?_⟩
        refine (V_version w.heap sb (2 * i + 2 + 1) v' w10 (by rw [hw10]; exact HB)).mono ?_
        rintro e10 v10 ⟨rfl, hx10, hp10⟩
        rw [hw10] at hx10
        refine ⟨hp10.trans ho10, _, hx10.frame (fun _ => False), trivial, _, rfl, fun h => absurd h (by omega), fun _ w11 hw11 ho11 => ?_⟩
        refine (V_version w.heap sb (2 * i + 2 + 1) v' w11 (by rw [hw11]; exact HB.ext hx10)).mono ?_
        rintro e11 v11 ⟨rfl, hx11, hp11⟩
        rw [hw11] at hx11
        refine ⟨hp11.trans ho11, _, hx11.frame (fun _ => False), trivial, _, rfl, by omega, fun _ => ?_⟩
        exact hN (i + 1, v', v11.heap) ⟨hlt, by simp only; omega, by rw [show 2 * (i + 1) + 1 = 2 * i + 2 + 1 by omega]; exact (HB.ext hx10).ext hx11⟩ (by simp only; omega)
      · exact hN (i + 1, v, v8.heap) ⟨hlt, by simp only; omega, by rw [show 2 * (i + 1) + 1 = 2 * i + 2 + 1 by omega]; exact HA.mono (qn_mono _ _)⟩ (by simp only; omega)
    · refine (V_delete w.heap sb (2 * i + 1) nm v w6 (by rw [hw6]; exact HV5) (by omega) hnm).mono ?_
      rintro e6 v6 ⟨⟨bb, rfl⟩, hf6, hp6, HV6⟩
      rw [hw6] at hf6
      refine ⟨hp6.trans ho6, _, hf6, trivial, _, rfl, fun w7 hw7 ho7 => ?_⟩
      refine (V_version w.heap sb (2 * i + 2) v w7 (by rw [hw7]; exact HV6)).mono ?_
      rintro e7 v7 ⟨rfl, hx7, hp7⟩
      rw [hw7] at hx7
      have HA := VI.ext (HV6) hx7
      refine ⟨hp7.trans ho7, _, hx7.frame (fun _ => False), trivial, _, rfl, fun h => absurd rfl h, fun _ => ?_⟩
      obtain ⟨b', o', z1, z2, z3, hbo, q1, q2, q3⟩ := hr.at HA.xw hlt
      injection hbo with hbo
      injection hbo with hb' ho'
      subst hb' ho'
      refine ⟨h1, _, q3, fun _ w8 hw8 ho8 => ?_, fun _ => ⟨by omega, fun _ => ?_⟩⟩
      · refine (V_mine w.heap sb (2 * i + 2) v w8 (by rw [hw8]; exact HA) (by omega)).mono ?_
        rintro e8 v8 ⟨rfl, v', hv', hf8, hp8, HB⟩
        rw [hw8] at hf8
        refine ⟨hp8.trans ho8, _, hf8, trivial, rfl, fun w9 hw9 ho9 => ?_⟩
        refine (V_version w.heap sb (2 * i + 2 + 1) v' w9 (by rw [hw9]; exact HB)).mono ?_
        rintro e9 v9 ⟨rfl, hx9, hp9⟩
        rw [hw9] at hx9
        refine ⟨hp9.trans ho9, _, hx9.frame (fun _ => False), trivial, _, rfl, fun h => absurd h (by omega), fun _ w10 hw10 ho10 => ?_⟩
        refine (V_version w.heap sb (2 * i + 2 + 1) v' w10 (by rw [hw10]; exact HB.ext hx9)).mono ?_
        rintro e10 v10 ⟨rfl, hx10, hp10⟩
        rw [hw10] at hx10
        refine ⟨hp10.trans ho10, _, hx10.frame (fun _ => False), trivial, _, rfl, by omega, fun _ => ?_⟩
        exact hN (i + 1, v', v10.heap) ⟨hlt, by simp only; omega, by rw [show 2 * (i + 1) + 1 = 2 * i + 2 + 1 by omega]; exact (HB.ext hx9).ext hx10⟩ (by simp only; omega)
      · exact hN (i + 1, v, v7.heap) ⟨hlt, by simp only; omega, by rw [show 2 * (i + 1) + 1 = 2 * i + 2 + 1 by omega]; exact HA.mono (qn_mono _ _)⟩ (by simp only; omega)
    · refine (V_expire w.heap sb (2 * i + 1) nm v w6 (by rw [hw6]; exact HV5) (by omega) hnm).mono ?_
      rintro e6 v6 ⟨⟨bb, rfl⟩, hf6, hp6, HV6⟩
      rw [hw6] at hf6
      refine ⟨hp6.trans ho6, _, hf6, trivial, _, rfl, fun w7 hw7 ho7 => ?_⟩
      refine (V_version w.heap sb (2 * i + 2) v w7 (by rw [hw7]; exact HV6)).mono ?_
      rintro e7 v7 ⟨rfl, hx7, hp7⟩
      rw [hw7] at hx7
      have HA := VI.ext (HV6) hx7
      refine ⟨hp7.trans ho7, _, hx7.frame (fun _ => False), trivial, _, rfl, fun h => absurd rfl h, fun _ => ?_⟩
      obtain ⟨b', o', z1, z2, z3, hbo, q1, q2, q3⟩ := hr.at HA.xw hlt
      injection hbo with hbo
      injection hbo with hb' ho'
      subst hb' ho'
      refine ⟨h1, _, q3, fun _ w8 hw8 ho8 => ?_, fun _ => ⟨by omega, fun _ => ?_⟩⟩
      · refine (V_mine w.heap sb (2 * i + 2) v w8 (by rw [hw8]; exact HA) (by omega)).mono ?_
        rintro e8 v8 ⟨rfl, v', hv', hf8, hp8, HB⟩
        rw [hw8] at hf8
        refine ⟨hp8.trans ho8, _, hf8, trivial, rfl, fun w9 hw9 ho9 => ?_⟩
        refine (V_version w.heap sb (2 * i + 2 + 1) v' w9 (by rw [hw9]; exact HB)).mono ?_
        rintro e9 v9 ⟨rfl, hx9, hp9⟩
        rw [hw9] at hx9
        refine ⟨hp9.trans ho9, _, hx9.frame (fun _ => False), trivial, _, rfl, fun h => absurd h (by omega), fun _ w10 hw10 ho10 => ?_⟩
        refine (V_version w.heap sb (2 * i + 2 + 1) v' w10 (by rw [hw10]; exact HB.ext hx9)).mono ?_
        rintro e10 v10 ⟨rfl, hx10, hp10⟩
        rw [hw10] at hx10
        refine ⟨hp10.trans ho10, _, hx10.frame (fun _ => False), trivial, _, rfl, by omega, fun _ => ?_⟩
        exact hN (i + 1, v', v10.heap) ⟨hlt, by simp only; omega, by rw [show 2 * (i + 1) + 1 = 2 * i + 2 + 1 by omega]; exact (HB.ext hx9).ext hx10⟩ (by simp only; omega)
      · exact hN (i + 1, v, v7.heap) ⟨hlt, by simp only; omega, by rw [show 2 * (i + 1) + 1 = 2 * i + 2 + 1 by omega]; exact HA.mono (qn_mono _ _)⟩ (by simp only; omega)
    · refine (V_touch w.heap sb (2 * i + 1) nm v w6 (by rw [hw6]; exact HV5) (by omega) hnm).mono ?_
      rintro e6 v6 ⟨rfl, hf6, hp6, HV6⟩
      rw [hw6] at hf6
      refine ⟨hp6.trans ho6, _, hf6, trivial, rfl, fun w7 hw7 ho7 => ?_⟩
      refine (V_version w.heap sb (2 * i + 2) v w7 (by rw [hw7]; exact HV6)).mono ?_
      rintro e7 v7 ⟨rfl, hx7, hp7⟩
      rw [hw7] at hx7
      have HA := VI.ext (HV6) hx7
      refine ⟨hp7.trans ho7, _, hx7.frame (fun _ => False), trivial, _, rfl, fun h => absurd rfl h, fun _ => ?_⟩
      obtain ⟨b', o', z1, z2, z3, hbo, q1, q2, q3⟩ := hr.at HA.xw hlt
      injection hbo with hbo
      injection hbo with hb' ho'
      subst hb' ho'
      refine ⟨h1, _, q3, fun _ w8 hw8 ho8 => ?_, fun _ => ⟨by omega, fun _ => ?_⟩⟩
      · refine (V_mine w.heap sb (2 * i + 2) v w8 (by rw [hw8]; exact HA) (by omega)).mono ?_
        rintro e8 v8 ⟨rfl, v', hv', hf8, hp8, HB⟩
        rw [hw8] at hf8
        refine ⟨hp8.trans ho8, _, hf8, trivial, rfl, fun w9 hw9 ho9 => ?_⟩
        refine (V_version w.heap sb (2 * i + 2 + 1) v' w9 (by rw [hw9]; exact HB)).mono ?_
        rintro e9 v9 ⟨rfl, hx9, hp9⟩
        rw [hw9] at hx9
        refine ⟨hp9.trans ho9, _, hx9.frame (fun _ => False), trivial, _, rfl, fun h => absurd h (by omega), fun _ w10 hw10 ho10 => ?_⟩
        refine (V_version w.heap sb (2 * i + 2 + 1) v' w10 (by rw [hw10]; exact HB.ext hx9)).mono ?_
        rintro e10 v10 ⟨rfl, hx10, hp10⟩
        rw [hw10] at hx10
        refine ⟨hp10.trans ho10, _, hx10.frame (fun _ => False), trivial, _, rfl, by omega, fun _ => ?_⟩
        exact hN (i + 1, v', v10.heap) ⟨hlt, by simp only; omega, by rw [show 2 * (i + 1) + 1 = 2 * i + 2 + 1 by omega]; exact (HB.ext hx9).ext hx10⟩ (by simp only; omega)
      · exact hN (i + 1, v, v7.heap) ⟨hlt, by simp only; omega, by rw [show 2 * (i + 1) + 1 = 2 * i + 2 + 1 by omega]; exact HA.mono (qn_mono _ _)⟩ (by simp only; omega)
    · refine (V_get w.heap sb _ w6 (by rw [hw6]; exact HV5)).mono ?_
      rintro e6 v6 ⟨a6, rfl, hx6, hp6⟩
      rw [hw6] at hx6
      refine ⟨hp6.trans ho6, _, hx6.frame (fun _ => False), trivial, _, rfl, fun w7 hw7 ho7 => ?_⟩
      refine (V_expiry w.heap sb _ w7 (by rw [hw7]; exact HV5.ext hx6)).mono ?_
      rintro e7 v7 ⟨x7, ok7, rfl, hx7, hp7⟩
      rw [hw7] at hx7
      refine ⟨hp7.trans ho7, _, hx7.frame (fun _ => False), trivial, _, _, rfl, ?_⟩
      intro w8 hw8 ho8
      refine (V_scan w.heap sb _ _ w8 (by rw [hw8]; exact (HV5.ext hx6).ext hx7)).mono ?_
      rintro e8 v8 ⟨⟨sp, sn, sc, rfl⟩, hx8, hp8⟩
      rw [hw8] at hx8
      refine ⟨hp8.trans ho8, _, hx8.frame (fun _ => False), trivial, _, _, _, _, rfl, fun w9 hw9 ho9 => ?_⟩
      refine (V_cycle w.heap sb _ w9 (by rw [hw9]; exact ((HV5.ext hx6).ext hx7).ext hx8)).mono ?_
      rintro e9 v9 ⟨⟨cn, rfl⟩, hf9, hp9, HV9⟩
      rw [hw9] at hf9
      refine ⟨hp9.trans ho9, _, hf9, trivial, _, rfl, fun w10 hw10 ho10 => ?_⟩
      refine (V_version w.heap sb (2 * i + 2) v w10 (by rw [hw10]; exact (HV9.mono (qn_mono _ _)))).mono ?_
      rintro e10 v10 ⟨rfl, hx10, hp10⟩
      rw [hw10] at hx10
      have HA := VI.ext ((HV9.mono (qn_mono _ _))) hx10
      refine ⟨hp10.trans ho10, _, hx10.frame (fun _ => False), trivial, _, rfl, fun h => absurd rfl h, fun _ => ?_⟩
      obtain ⟨b', o', z1, z2, z3, hbo, q1, q2, q3⟩ := hr.at HA.xw hlt
      injection hbo with hbo
      injection hbo with hb' ho'
      subst hb' ho'
      refine ⟨h1, _, q3, fun _ w11 hw11 ho11 => ?_, fun _ => ⟨by omega, fun _ => ?_⟩⟩
      · refine (V_mine w.heap sb (2 * i + 2) v w11 (by rw [hw11]; exact HA) (by omega)).mono ?_
        rintro e11 v11 ⟨rfl, v', hv', hf11, hp11, HB⟩
        rw [hw11] at hf11
        refine ⟨hp11.trans ho11, _, hf11, trivial, rfl, fun w12 hw12 ho12 => ?_⟩
        refine (V_version w.heap sb (2 * i + 2 + 1) v' w12 (by rw [hw12]; exact HB)).mono ?_
        rintro e12 v12 ⟨rfl, hx12, hp12⟩
        rw [hw12] at hx12
        refine ⟨hp12.trans ho12, _, hx12.frame (fun _ => False), trivial, _, rfl, fun h => absurd h (by omega), fun _ w13 hw13 ho13 => ?_⟩
        refine (V_version w.heap sb (2 * i + 2 + 1) v' w13 (by rw [hw13]; exact HB.ext hx12)).mono ?_
        rintro e13 v13 ⟨rfl, hx13, hp13⟩
        rw [hw13] at hx13
        refine ⟨hp13.trans ho13, _, hx13.frame (fun _ => False), trivial, _, rfl, by omega, fun _ => ?_⟩
        exact hN (i + 1, v', v13.heap) ⟨hlt, by simp only; omega, by rw [show 2 * (i + 1) + 1 = 2 * i + 2 + 1 by omega]; exact (HB.ext hx12).ext hx13⟩ (by simp only; omega)
      · exact hN (i + 1, v, v10.heap) ⟨hlt, by simp only; omega, by rw [show 2 * (i + 1) + 1 = 2 * i + 2 + 1 by omega]; exact HA.mono (qn_mono _ _)⟩ (by simp only; omega)
  · intro w6 hw6 ho6
    refine (V_get w.heap sb _ w6 (by rw [hw6]; exact HV)).mono ?_
    rintro e6 v6 ⟨a, rfl, hx6, hp6⟩
    rw [hw6] at hx6
    refine ⟨hp6.trans ho6, _, hx6.frame (fun _ => False), trivial, _, rfl, fun _ w7 hw7 ho7 => ?_, fun h => absurd (by simp) h⟩
    refine (known_any w7).mono ?_
    rintro e7 v7 ⟨rfl, hx7, hp7⟩
    rw [hw7] at hx7
    exact ⟨hp7.trans ho7, hx7, _, rfl, fun _ w8 hw8 ho8 => ⟨rfl, by rw [hw8]; exact (HV.xw.trans hx6).trans hx7, ho8⟩⟩
end Go.Proofs.YtkcjhabbgaaknaaGreat
/- SpaceVersions: for every seed, every limits, every list of calls the law returns true; the input reads as it did. No condition. -/
namespace Go.Proofs.YtkcjhabbgaaknaaGreat
open Go Go.ChangeShapes Go.WideShapes Go.ChangeAt Go.RowKit
section
variable {H : Type} {enc : TypeId × Value → H} {W : World}
set_option maxRecDepth 100000 in
theorem ask_open {fuel : Nat} {cs : List Value} {x : DataW H × List MemPlace} (h : DataW.trod enc Tryz.prog W 0 (fun _ => true) true fuel 58 cs = some x) (hl : cs.length = 6) : ∃ a b c c3 c4 c5, cs = [.int .i64 a, .int .i64 b, .int .i64 c, c3, c4, c5] := by
  obtain ⟨xs, n, _, _, _, hlen, hf⟩ := DataW.trod_struct Tryz.underlying58 h
  match cs, hl, xs, hlen with
  | [c0, c1, c2, c3, c4, c5], _, [x0, x1, x2, x3, x4, x5], _ =>
    have h0 : DataW.trod enc Tryz.prog W 0 (fun _ => true) true n 3 (([c0, c1, c2, c3, c4, c5].drop 0).take (Tryz.prog.cellsOf 3)) = some x0 := hf 0 _ rfl
    have h1 : DataW.trod enc Tryz.prog W 0 (fun _ => true) true n 3 (([c0, c1, c2, c3, c4, c5].drop 1).take (Tryz.prog.cellsOf 3)) = some x1 := hf 1 _ rfl
    have h2 : DataW.trod enc Tryz.prog W 0 (fun _ => true) true n 3 (([c0, c1, c2, c3, c4, c5].drop 2).take (Tryz.prog.cellsOf 3)) = some x2 := hf 2 _ rfl
    rw [Tryz.cells3] at h0 h1 h2
    obtain ⟨a, ha⟩ := atom_int Tryz.underlying3 h0
    obtain ⟨b, hb⟩ := atom_int Tryz.underlying3 h1
    obtain ⟨c, hc⟩ := atom_int Tryz.underlying3 h2
    simp at ha hb hc
    exact ⟨a, b, c, c3, c4, c5, by rw [ha, hb, hc]⟩
set_option maxRecDepth 100000 in
theorem asks_open {base : Nat} {v : Value} {d : DataW H} {ps : List MemPlace} (hv : Value.okWide Tryz.prog W .any base 55 v) (h : DataW.Trod enc Tryz.prog W 0 (fun _ => true) true 55 v d ps) :
    ∃ (n : Nat) (q : Option Addr) (qc : Nat), v = .slice q n qc ∧ AskRow W.heap q n ∧ n ≤ 9223372036854775807 := by
  obtain ⟨a0, len0, cap0, rfl⟩ := okWide_slice Tryz.underlying55 hv
  obtain ⟨fuel, hf⟩ := h
  have e58 : Tryz.prog.cellsOf 58 = 6 := by kernel_rfl
  rcases DataW.trod_slice Tryz.underlying55 hf with ⟨hcs, _⟩ | ⟨a, len, cap, elems, rest, n, _, hcs, _, _, hl, hm, hlen, hel, _, _⟩
  · simp [Value.cells] at hcs
    obtain ⟨rfl, rfl, rfl⟩ := hcs
    exact ⟨0, none, 0, rfl, .inl rfl, by simp⟩
  · simp [Value.cells] at hcs
    obtain ⟨rfl, rfl, rfl⟩ := hcs
    rw [e58] at hel
    have hlm : len0 ≤ 9223372036854775807 := by simp only [maxLen] at hm; omega
    refine ⟨len0, some a, cap0, rfl, ?_, hlm⟩
    have each : ∀ i, i < len0 → ∃ x y z, W.cell? (a.add (i * 6)) = some (.int .i64 x) ∧ W.cell? ((a.add (i * 6)).add 1) = some (.int .i64 y) ∧ W.cell? ((a.add (i * 6)).add 2) = some (.int .i64 z) := by
      intro i hi
      have h1 := hel i hi
      rw [List.getElem?_eq_getElem (by omega)] at h1
      obtain ⟨c, hc, ht⟩ := Option.bind_eq_some_iff.1 h1
      unfold World.cells? at hc
      rw [if_pos (Nat.zero_le _)] at hc
      have e : List.range 6 = [0, 1, 2, 3, 4, 5] := rfl
      rw [e] at hc
      simp only [List.mapM_cons, List.mapM_nil, Option.bind_eq_bind, Option.bind_eq_some_iff, Option.pure_def, Option.some.injEq] at hc
      obtain ⟨c0, h0, _, ⟨c1, h2, _, ⟨c2, h3, _, ⟨c3, _, _, ⟨c4, _, _, ⟨c5, _, _, rfl, rfl⟩, rfl⟩, rfl⟩, rfl⟩, rfl⟩, hcs⟩ := hc
      subst hcs
      obtain ⟨x, y, z, _, _, _, hx⟩ := ask_open ht rfl
      injection hx with e0 hx
      injection hx with e1 hx
      injection hx with e2 hx
      subst e0 e1 e2
      exact ⟨x, y, z, h0, h2, h3⟩
    by_cases h0 : len0 = 0
    · exact .inl h0
    obtain ⟨b, o, spot⟩ := a
    have hs : spot = none := by
      obtain ⟨_, _, _, hc, _⟩ := each 0 (by omega)
      cases spot with
      | none => rfl
      | some s =>
        unfold World.cell? at hc
        simp [Addr.add] at hc
        split at hc <;> simp at hc
    subst hs
    refine .inr ⟨b, o, rfl, fun i hi => ?_⟩
    obtain ⟨x, y, z, c0, c1, c2⟩ := each i hi
    rw [E.addr_add, E.cell_get] at c0
    rw [E.addr_add, E.addr_add, E.cell_get] at c1 c2
    exact ⟨x, y, z, c0, c1, c2⟩
end
set_option maxRecDepth 100000 in
theorem spaceVersions_lifted (os : Os) (started : os.Started) (H : Type) (enc : TypeId × Value → H) :
    ReturnsInHanded {} Tryz.checked os 5 .any (Rows.spaceVersionsSpec.pre6 enc Tryz.prog Tryz.f5 Rows.spaceVersionsRow.domain false) (Rows.spaceVersionsSpec.post enc Tryz.prog Tryz.f5 false true false false) := by
  refine returnsInHanded_of_change (C := Tryz.checked) Tryz.own started (by kernel_rfl) Tryz.func5
    (ChangeSpec.witness6 (enc := enc) (C := Tryz.checked) false ⟨#[], #[.agg #[.int .u64 0, .int .i64 0, .int .i64 0], .slice none 0 0], []⟩ 8 (by kernel_rfl) (by kernel_rfl) (by kernel_rfl) (by kernel_rfl)) ?_
  intro W base args ds gs before hval0 hW hcnd _
  have hval : ∀ (j : Nat) t v, Tryz.f5.params[j]? = some t → args[j]? = some v → Value.okWide Tryz.prog W .any base t v := hval0
  have hW' := hW
  obtain ⟨p, q, hA0, hV, rfl, hfz, hnd⟩ := hW
  have hA : DataW.TrodAll enc Tryz.prog W 0 (fun _ => true) true Tryz.f5.params.toList args.toList ds p := hA0
  rw [Tryz.params5] at hA hval
  obtain ⟨v0, v1, d0, d1, p0, p1, rfl, rfl, rfl, h0, h1⟩ := trodAll_two hA
  obtain ⟨rfl, rfl⟩ := trodVars_none hV
  obtain ⟨sa, la, lb, rfl⟩ := config_open (hval 0 26 v0 rfl rfl) h0
  obtain ⟨n, a0, cap, rfl, hrw, hln⟩ := asks_open (hval 1 55 v1 rfl rfl) h1
  clear hA0 hval0
  simp only [List.append_nil] at hW'
  have hlt : ∀ x ∈ p0 ++ p1, x.block < W.heap.size := fun x hx => by simpa using hW'.lt x hx
  have hc := SpaceVersions_any sa la lb n a0 cap W hrw hln
  refine hc.mono fun e W' ⟨he, hx, ho⟩ => ?_
  subst he
  exact ⟨_, rfl, _, _, _, [], _, [], hW', trodAll_mk1 (shut_bool Tryz.underlying4 _), trodAll_mk2 (trod_ext Tryz.laidOut (by kernel_rfl) (of_decide_eq_true (by kernel_rfl)) h0 hx (fun x hx => hlt x (List.mem_append_left _ hx))) (trod_ext Tryz.laidOut (by kernel_rfl) (of_decide_eq_true (by kernel_rfl)) h1 hx (fun x hx => hlt x (List.mem_append_right _ hx))), rfl, kept_of_ext hx ho _, fun h => by cases h⟩
theorem spaceVersions_holds : Rows.SpaceVersionsSaid :=
  OpenClaim.holds_of_wide 5 Tryz.f5 rfl rfl rfl rfl rfl rfl rfl ⟨rfl, rfl, rfl, rfl, rfl⟩ rfl rfl rfl rfl rfl (by kernel_rfl) Tryz.func5 (by kernel_rfl)
    (of_decide_eq_true (by kernel_rfl)) (by unfold Func.isWrapper; first | (rw [if_pos (by decide +kernel)]; kernel_rfl) | (rw [if_neg (by decide +kernel)]; exact ⟨rfl, rfl⟩))
    (fun os started H enc _ => spaceVersions_lifted os started H enc)
#print axioms spaceVersions_holds
end Go.Proofs.YtkcjhabbgaaknaaGreat
