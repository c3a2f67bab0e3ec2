import Derived.Test.YtjffhomcgpigpaaDoorA6
import Derived.Test.YtjffhomcgpigpaaDoorSh
import Derived.Lib.Small
import Derived.Lib.Walk
import Derived.Laws.Cover1
/- slices.SortFunc over commands, by the shelf. -/
namespace Go.Proofs.YtjffhomcgpigpaaDoor
open E Go.Shelf Go.Lib Go.Sort
set_option maxRecDepth 100000
instance : Inhabited Cd := ⟨Cd.none⟩
def cmpX (s t : List UInt8) : Int := if Op.bytesLess s t = true then -1 else if s = t then 0 else 1
theorem isNaN_x (s : ByteArray) (w : World) : Calls Tryd.prog 48 #[.string s] w fun e w' => e = .returned (.bool false) ∧ w' = w := by
  go_enter Tryd.func48, Tryd.ntmps48
  go_wp2
  go_ret
  exact ⟨by simp, rfl⟩
theorem Compare_x (s t : ByteArray) (w : World) : Calls Tryd.prog 40 #[.string s, .string t] w fun e w' => e = .returned (.int .i64 (cmpX s.toList t.toList)) ∧ w' = w := by
  go_enter Tryd.func40, Tryd.ntmps40
  go_wp2_with (go_at_call 48; refine (isNaN_x _ _).mono ?_; rintro e w' ⟨rfl, hw⟩; rw [hw])
  all_goals (go_ret; refine ⟨?_, rfl⟩; unfold cmpX; simp_all)
theorem less_x (a b : Cd) (W : World) : Calls Tryd.prog 39 #[a.a, b.a] W fun e w' => e = .returned (.int .i64 (cmpX a.name b.name)) ∧ ∃ q os', w' = grow (W.drewN q) os' := by
  obtain ⟨s, a1, a2, a4, a3⟩ := a
  obtain ⟨t, b1, b2, b4, b3⟩ := b
  simp only [Cd.a, Cd.v]
  have hcon := fun W' => Compare_x (bs s) (bs t) W'
  rw [bs_toList, bs_toList] at hcon
  generalize cmpX s t = r at hcon ⊢
  go_enter Tryd.func39, Tryd.ntmps39
  go_wp2_with (go_at_call 40; refine (hcon _).mono ?_; rintro e w' ⟨rfl, rfl⟩)
  go_ret
  exact ⟨rfl, 0, _, by rw [alloc_eq_grow, alloc_eq_grow, grow_grow]; rfl⟩
theorem flatK_flatC (l : List Cd) : flatK Cd.v 5 l.toArray = (flatC l).toArray := by
  refine ext_get! (by simp [flatC_length]; omega) fun t ht => ?_
  have ht' : t < l.length * 5 := by simpa using ht
  rw [get_flatK _ _ _ t (by simpa using ht')]
  have h := flatC_get l (t / 5) (t % 5) (by omega) (by omega)
  rw [show 5 * (t / 5) + t % 5 = t by omega] at h
  have hl : t / 5 < l.length := by omega
  simp [h, hl]
theorem ltOf_cmpX (a b : Cd) : ltOf (fun a b : Cd => cmpX a.name b.name) a b = Op.bytesLess a.name b.name := by
  unfold ltOf cmpX
  cases hb : Op.bytesLess a.name b.name
  · by_cases h : a.name = b.name
    · simp [h] at hb ⊢; rw [hb]; simp
    · simp [h, hb]
  · simp [hb]
theorem swo_cmpX : SWO (ltOf fun a b : Cd => cmpX a.name b.name) where
  irrefl x := by rw [ltOf_cmpX]; simp [bytesLess_eq]
  trans x y z h1 h2 := by rw [ltOf_cmpX] at *; simp [bytesLess_eq] at *; exact List.lt_trans h1 h2
  ntrans x y z h1 h2 := by rw [ltOf_cmpX] at *; simp [bytesLess_eq] at *; exact List.le_trans h2 h1
theorem frozen_frz (w : World) (b o : Nat) : w.frozen? ⟨b, o, none⟩ = frz w.heap b o := by
  unfold World.frozen? frz; cases w.heap[b]? with
  | none => rfl
  | some o => cases o <;> rfl
theorem Sort_any (b off cap : Nat) (l : List Cd) (w : World) (hc : CellsAt w.heap b off (flatC l)) (hl : l.length < 4611686018427387904) :
    Calls Tryd.prog 38 #[.slice (some ⟨b, off, none⟩) l.length cap, .func (.func 39) #[] #[]] w fun e w' => e = .returned (.tuple #[]) ∧ outw w' = outw w ∧ E.Frame (fun n => n = b) w.heap w'.heap ∧
      ∃ l' : List Cd, l'.Perm l ∧ l'.Pairwise (fun x y => Op.bytesLess y.name x.name = false) ∧ CellsAt w'.heap b off (flatC l') := by
  have eg : ∀ args w, (callFunc 39 args).run Tryd.prog w = .ok (.enter 39 args) w := enters_of Tryd.func39 (by kernel_rfl) rfl
  have H : HoldsK Cd.v 5 w b off l.toArray := by
    intro j hj
    rw [flatK_flatC] at hj ⊢
    have hj' : j < (flatC l).length := by simpa using hj
    obtain ⟨h1, h2⟩ := hc.2 j (flatC l)[j] (by simp [hj'])
    refine ⟨by rw [get_cell, h1]; simp [hj'], ?_⟩
    rw [frozen_frz, h2]
  have hcon := AnyQ.slices_SortFunc Tryd.sortC 5 (fun _ => rfl) (fun _ => rfl) Cd.v (fun _ => rfl) (fun x v hv => by simp [Cd.v] at hv; rcases hv with rfl | rfl | rfl | rfl | rfl <;> rfl) (fun x y : Cd => cmpX x.name y.name) swo_cmpX 39 #[] b off cap l.toArray w eg (fun _ _ _ _ x y => less_x x y _) H hc.1 hl
  change Calls Tryd.prog 38 _ _ _ at hcon
  refine hcon.mono ?_
  rintro e w' ⟨rfl, d', n, os, hp, hs, rfl⟩
  refine ⟨rfl, rfl, ?_, d'.toList, ?_, ?_, ?_⟩
  · refine ⟨by show w.heap.size ≤ ((w.heap.modify b _) ++ os).size; simp, fun k hk hn => ?_⟩
    show ((w.heap.modify b _) ++ os)[k]? = w.heap[k]?
    rw [Array.getElem?_append_left (by simpa using hk), Array.getElem?_modify, if_neg (fun e => hn e.symm)]
  · have := hp.2.2
    rw [← hp.1, Array.extract_size, hp.1, Array.extract_size] at this
    exact this
  · rw [List.pairwise_iff_getElem]
    intro i j hi hj hij
    have hj' : j < d'.size := by simpa using hj
    have hi' : i < d'.size := by omega
    have := hs i j (Nat.zero_le _) hij (by rw [← hp.1]; exact hj')
    rw [ltOf_cmpX, getElem!_pos d' i hi', getElem!_pos d' j hj'] at this
    exact this
  · have H2 : HoldsK Cd.v 5 (sortWorldK Cd.v 5 w b off n d' os) b off d' :=
      holdsK_grow _ _ _ os b off d' (by show b < (w.heap.modify b _).size; simp; exact hc.1) (holdsK_putRowK _ _ _ b off l.toArray d' (holdsK_ahead _ _ w n b off _ H) hp.1)
    refine ⟨?_, fun j v hj => ?_⟩
    · show b < ((w.heap.modify b _) ++ os).size
      have := hc.1
      simp; omega
    · have hjl : j < (flatC d'.toList).length := (List.getElem?_eq_some_iff.1 hj).1
      obtain ⟨h1, h2⟩ := H2 j (by have := flatK_flatC d'.toList; rw [Array.toArray_toList] at this; rw [this]; simpa using hjl)
      have e := flatK_flatC d'.toList
      rw [Array.toArray_toList] at e
      rw [e, get_cell] at h1
      rw [frozen_frz] at h2
      refine ⟨?_, h2⟩
      rw [h1]
      have := (List.getElem?_eq_some_iff.1 hj).2
      simp [hjl, this]
end Go.Proofs.YtjffhomcgpigpaaDoor
