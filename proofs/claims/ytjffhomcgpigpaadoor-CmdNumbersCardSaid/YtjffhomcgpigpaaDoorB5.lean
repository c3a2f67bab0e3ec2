import Derived.Test.YtjffhomcgpigpaaDoorB4
/- errors.As: a *Fault target. -/
namespace Go.Proofs.YtjffhomcgpigpaaDoor
open E Go.RowKit Go.Extern.Stop Go.Stop Go.Extern
set_option maxRecDepth 100000
abbrev et : Value := .iface 101 (.agg #[ty 43])
set_option maxHeartbeats 4000000 in
theorem as_hit70 (e t : Addr) (old : Value) (w : World) (hg : w.cell? ⟨0, 0, none⟩ = some et) (ht0 : w.cell? t = some old) (hf0 : w.frozen? t = false) :
    Calls Tryd.prog 33 #[.iface 70 (.pointer (some e)), .iface 71 (.pointer (some t))] w fun ev w' => ev = .returned (.bool true) ∧ w' = ((((w.alloc (.cells #[.pointer (some t)] 71)).alloc (.cells #[ty 71, .pointer (some ⟨w.heap.size, 0, none⟩), .int .u64 150] 88)).alloc (.cells #[ty 71, .pointer (some ⟨w.heap.size, 0, none⟩), .int .u64 150] 88)).alloc (.cells #[.pointer (some e)] 70)).setCell t (.pointer (some e)) := by
  have h6 := @run_callFunc_extern Tryd.prog 42 _ (fun args => ReflectliteValue.unpack (args.getD 0 (.tuple #[]))) Tryd.func42 (by kernel_rfl) (by kernel_rfl) (by kernel_rfl) (by kernel_rfl)
  have h7 := @run_callFunc_extern Tryd.prog 43 _ (ReflectliteValue.methodAny (ReflectliteValue.valueError "reflectlite.Value.Type" 0) (fun t _ _ _ => ReflectliteType.toType t)) Tryd.func43 (by kernel_rfl) (by kernel_rfl) (by kernel_rfl) (by kernel_rfl)
  have h8 := @run_callFunc_extern Tryd.prog 44 _ (ReflectliteValue.method (ReflectliteValue.valueError "reflectlite.Value.IsNil" 0) ReflectliteValue.isNil) Tryd.func44 (by kernel_rfl) (by kernel_rfl) (by kernel_rfl) (by kernel_rfl)
  have h27 := @run_callFunc_extern Tryd.prog 82 _ (ReflectliteType.abiMethod fun t => do pure (.int .u8 (← Rtype.kind t))) Tryd.func82 (by kernel_rfl) (by kernel_rfl) (by kernel_rfl) (by kernel_rfl)
  have h37 := @run_callFunc_extern Tryd.prog 94 _ (ReflectliteType.method ReflectliteType.elem) Tryd.func94 (by kernel_rfl) (by kernel_rfl) (by kernel_rfl) (by kernel_rfl)
  have h38 := @run_callFunc_extern Tryd.prog 95 _ (ReflectliteType.relation "Implements" ReflectliteType.implements_) Tryd.func95 (by kernel_rfl) (by kernel_rfl) (by kernel_rfl) (by kernel_rfl)
  have h10 := @run_callFunc_extern Tryd.prog 49 _ ReflectliteType.typeOf Tryd.func49 (by kernel_rfl) (by kernel_rfl) (by kernel_rfl) (by kernel_rfl)
  have h35 := @run_callFunc_extern Tryd.prog 92 _ (ReflectliteType.relation "AssignableTo" ReflectliteType.assignableTo) Tryd.func92 (by kernel_rfl) (by kernel_rfl) (by kernel_rfl) (by kernel_rfl)
  have h11 := @run_callFunc_extern Tryd.prog 50 _ (ReflectliteValue.method (ReflectliteValue.valueError "reflectlite.Value.Elem" 0) ReflectliteValue.elem) Tryd.func50 (by kernel_rfl) (by kernel_rfl) (by kernel_rfl) (by kernel_rfl)
  have h12 := @run_callFunc_extern Tryd.prog 51 _ ReflectliteValue.set Tryd.func51 (by kernel_rfl) (by kernel_rfl) (by kernel_rfl) (by kernel_rfl)
  have tO := typeOf70
  have mA := methodAssignableTo
  have a25 := assign70
  have v25 := valueOf70
  have f6 := valueOf71
  have f7 := type71
  have mK := methodKind
  have mE := methodElem
  have mI := methodImplements
  have k27 := kind71
  have k25 := kind70
  have e27 := elem71
  have i25 := implements70
  have n8 := isNil71 ⟨w.heap.size, 0, none⟩ t ((w.alloc (.cells #[.pointer (some t)] 71)).alloc (.cells #[ty 71, .pointer (some ⟨w.heap.size, 0, none⟩), .int .u64 150] 88)) (by simp)
  have hlt : 0 < w.heap.size := by
    rcases Nat.eq_zero_or_pos w.heap.size with h0 | h
    · simp [World.cell?, h0] at hg
    · exact h
  have hg2 : ((w.alloc (.cells #[.pointer (some t)] 71)).alloc (.cells #[ty 71, .pointer (some ⟨w.heap.size, 0, none⟩), .int .u64 150] 88)).cell? ⟨0, 0, none⟩ = some et := by
    rw [World.cell?_alloc_lt _ _ ⟨0, 0, none⟩ (by simp), World.cell?_alloc_lt _ _ ⟨0, 0, none⟩ hlt]; exact hg
  have htl : t.block < w.heap.size := by
    rcases Nat.lt_or_ge t.block w.heap.size with h | h
    · exact h
    · simp [World.cell?, Array.getElem?_eq_none h] at ht0
  have el := elemV71 ⟨w.heap.size, 0, none⟩ t (((w.alloc (.cells #[.pointer (some t)] 71)).alloc (.cells #[ty 71, .pointer (some ⟨w.heap.size, 0, none⟩), .int .u64 150] 88)).alloc (.cells #[ty 71, .pointer (some ⟨w.heap.size, 0, none⟩), .int .u64 150] 88)) (by rw [World.cell?_alloc_lt _ _ ⟨w.heap.size, 0, none⟩ (by simp; omega)]; simp)
  have st := set70 t ⟨w.heap.size + 1 + 1 + 1, 0, none⟩ e old ((((w.alloc (.cells #[.pointer (some t)] 71)).alloc (.cells #[ty 71, .pointer (some ⟨w.heap.size, 0, none⟩), .int .u64 150] 88)).alloc (.cells #[ty 71, .pointer (some ⟨w.heap.size, 0, none⟩), .int .u64 150] 88)).alloc (.cells #[.pointer (some e)] 70))
    (by rw [World.cell?_alloc_at _ _ _ _ (by simp)]; rfl)
    (by rw [World.cell?_alloc_lt _ _ t (by simp; omega), World.cell?_alloc_lt _ _ t (by simp; omega), World.cell?_alloc_lt _ _ t (by simp; omega), World.cell?_alloc_lt _ _ t htl]; exact ht0)
    (by rw [World.frozen?_alloc_old _ _ t (by simp; omega), World.frozen?_alloc_old _ _ t (by simp; omega), World.frozen?_alloc_old _ _ t (by simp; omega), World.frozen?_alloc_old _ _ t (Nat.ne_of_lt htl)]; exact hf0)
  go_enter Tryd.func33, Tryd.ntmps33
  go_wp2
  refine wp_loop_rounds 1 ?_
  rw [rounds_succ]
  go_wp2
  go_ret
  exact ⟨rfl, rfl⟩
end Go.Proofs.YtjffhomcgpigpaaDoor
