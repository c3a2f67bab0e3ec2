import Derived.Test.YtjffhomcgpigpaaDoorT
/- Small words for walks. -/
namespace Go.Proofs.YtjffhomcgpigpaaDoor
namespace E
variable {h h' : Heap} {b j : Nat} {vs : List Value} {v : Value}
theorem CellsAt.at0 (H : CellsAt h b 0 vs) (hj : vs[j]? = some v) : E.get h b j = some v := by have := H.get hj; rwa [Nat.zero_add] at this
theorem CellsAt.wr0 (H : CellsAt h b 0 vs) (hj : j < vs.length) : (E.get h b j).isSome = true ∧ E.frz h b j = false := by have := H.wr hj; rwa [Nat.zero_add] at this
theorem CellsAt.set0 (H : CellsAt h b 0 vs) (j : Nat) (v : Value) : CellsAt (setc h b j v) b 0 (vs.set j v) := by have := H.set j v; rwa [Nat.zero_add] at this
end E
theorem getD_set_same {α : Type} (l : List α) (i : Nat) (d : α) : l.set i (l.getD i d) = l := by
  apply List.ext_getElem (by simp)
  intro n h1 h2
  rw [List.getElem_set]
  split
  · rename_i e; subst e; simp [List.getD, h2]
  · rfl
end Go.Proofs.YtjffhomcgpigpaaDoor
