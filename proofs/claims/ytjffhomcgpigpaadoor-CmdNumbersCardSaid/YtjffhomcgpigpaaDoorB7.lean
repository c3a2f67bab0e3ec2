import Derived.Test.YtjffhomcgpigpaaDoorB6
/- fault.Code, fault.Cmd. -/
namespace Go.Proofs.YtjffhomcgpigpaaDoor
open E Go.RowKit Go.Extern.Stop Go.Stop Go.Extern
set_option maxRecDepth 100000
theorem ext_alloc {h : Heap} {W : World} (H : Ext h W.heap) (o : Obj) : Ext h (W.alloc o).heap := H.trans (ext_push W.heap o)
theorem ext_setCell {h : Heap} {W : World} (H : Ext h W.heap) (a : Addr) (hs : a.spot = none) (ha : h.size ≤ a.block) (v : Value) : Ext h (W.setCell a v).heap := by
  obtain ⟨b, o, s⟩ := a
  simp only at hs ha
  subst hs
  rw [Go.Sort.setCell_eq]
  refine ⟨?_, fun k hk => ?_⟩
  · show h.size ≤ (W.heap.modify b _).size
    simp; exact H.le
  · show (W.heap.modify b _)[k]? = _
    rw [Array.getElem?_modify, if_neg (by omega)]
    exact H.old k hk
theorem cell_of {w : World} {b o : Nat} {v : Value} (h : get w.heap b o = some v) : w.cell? ⟨b, o, none⟩ = some v := by rw [get_cell]; exact h
set_option maxHeartbeats 4000000 in
theorem Code_any (v : Value) (s : List UInt8) (n : Int) (w : World) (hv : IsFault w.heap v s n) (hg : w.cell? ⟨0, 0, none⟩ = some et) :
    Calls Tryd.prog 17 #[v] w (RetX (.int .i64 n) w.heap (outw w)) := by
  obtain ⟨b, rfl, hc⟩ := hv
  have h0 : 0 < w.heap.size := Nat.lt_of_le_of_lt (Nat.zero_le _) hc.1
  have hg' : (w.alloc (.cells #[.int .i64 0] 46)).cell? ⟨0, 0, none⟩ = some et := by rw [World.cell?_alloc_lt _ _ ⟨0, 0, none⟩ h0]; exact hg
  have hb' : (w.alloc (.cells #[.int .i64 0] 46)).cell? ⟨b, 0 + 1, none⟩ = some (.iface 46 (.int .i64 n)) := by rw [World.cell?_alloc_lt _ _ ⟨b, 0 + 1, none⟩ hc.1]; exact cell_of (hc.get (j := 1) rfl)
  have hcon := as_hit46 b .nilIface n ⟨w.heap.size, 0, none⟩ (.int .i64 0) (w.alloc (.cells #[.int .i64 0] 46)) hb' hg' (by simp) (by simp)
  go_enter Tryd.func17, Tryd.ntmps17
  go_wp2_with (go_at_call 33; refine hcon.mono ?_; rintro e w' ⟨rfl, hw'⟩)
  go_ret
  exact ⟨rfl, ext_alloc (ext_alloc (ext_alloc (ext_alloc (ext_push _ _) _) _) _) _, rfl⟩
theorem Code_nil (w : World) : Calls Tryd.prog 17 #[.nilIface] w (RetX (.int .i64 0) w.heap (outw w)) := by
  go_enter Tryd.func17, Tryd.ntmps17
  go_wp2
  go_ret
  exact ⟨rfl, ext_push _ _, rfl⟩
set_option maxHeartbeats 4000000 in
theorem FCmd_any (v : Value) (s : List UInt8) (n : Int) (w : World) (hv : IsFault w.heap v s n) (hg : w.cell? ⟨0, 0, none⟩ = some et) :
    Calls Tryd.prog 18 #[v] w (RetX (.string (bs s)) w.heap (outw w)) := by
  obtain ⟨b, rfl, hc⟩ := hv
  have h0 : 0 < w.heap.size := Nat.lt_of_le_of_lt (Nat.zero_le _) hc.1
  have hg' : (w.alloc (.cells #[.pointer none] 70)).cell? ⟨0, 0, none⟩ = some et := by rw [World.cell?_alloc_lt _ _ ⟨0, 0, none⟩ h0]; exact hg
  have hb' : w.cell? ⟨b, 0, none⟩ = some (.string (bs s)) := cell_of (hc.get (j := 0) rfl)
  have hb3 : (((((w.alloc (.cells #[.pointer (some ⟨b, 0, none⟩)] 70)).alloc (.cells #[.pointer (some ⟨w.heap.size, 0, none⟩)] 71)).alloc (.cells #[ty 71, .pointer (some ⟨w.heap.size + 1, 0, none⟩), .int .u64 150] 88)).alloc (.cells #[ty 71, .pointer (some ⟨w.heap.size + 1, 0, none⟩), .int .u64 150] 88)).alloc (.cells #[.pointer (some ⟨b, 0, none⟩)] 70)).cell? ⟨b, 0, none⟩ = some (.string (bs s)) := by
    have := hc.1
    rw [World.cell?_alloc_lt _ _ ⟨b, 0, none⟩ (by simp; omega), World.cell?_alloc_lt _ _ ⟨b, 0, none⟩ (by simp; omega), World.cell?_alloc_lt _ _ ⟨b, 0, none⟩ (by simp; omega), World.cell?_alloc_lt _ _ ⟨b, 0, none⟩ (by simp; omega), World.cell?_alloc_lt _ _ ⟨b, 0, none⟩ this]
    exact hb'
  have hcon := as_hit70 ⟨b, 0, none⟩ ⟨w.heap.size, 0, none⟩ (.pointer none) (w.alloc (.cells #[.pointer none] 70)) hg' (by simp) (by simp)
  go_enter Tryd.func18, Tryd.ntmps18
  go_wp2_with (go_at_call 33; refine hcon.mono ?_; rintro e w' ⟨rfl, hw'⟩)
  go_ret
  exact ⟨rfl, ext_alloc (ext_alloc (ext_alloc (ext_alloc (ext_push _ _) _) _) _) _, rfl⟩
theorem FCmd_nil (w : World) : Calls Tryd.prog 18 #[.nilIface] w (RetX (.string (bs [])) w.heap (outw w)) := by
  go_enter Tryd.func18, Tryd.ntmps18
  go_wp2_with (go_at_call 33; refine (as_nil _ _).mono ?_; rintro e w' ⟨rfl, rfl⟩)
  go_ret
  exact ⟨rfl, ext_push _ _, rfl⟩
end Go.Proofs.YtjffhomcgpigpaaDoor
