/- Lines: how long they are. -/
import Derived.Test.YtakgddochbcjbaaDoorLines
namespace Go.Proofs.YtakgddochbcjbaaDoor
open Go.RowKit Go.Deep Go.MapKept

theorem flat_lines (s : ByteArray) : (bl (linesT s)).flatten.length = s.size := by rw [bl_lines, lnL_join]; exact Array.length_toList
theorem gs_flat {l : List ByteArray} {i : Nat} (h : i < l.length) : (gs l i).size ≤ (bl l).flatten.length := by
  have h1 : (gs l i).data.toList ∈ bl l := by
    rw [bl, List.mem_map]
    refine ⟨gs l i, ?_, rfl⟩
    rw [gs_def, List.getD_eq_getElem?_getD, List.getElem?_eq_getElem h]
    exact List.getElem_mem h
  have h2 := (List.sublist_flatten_of_mem h1).length_le
  rwa [show (gs l i).data.toList.length = (gs l i).size from Array.length_toList] at h2
theorem lines_len (s : ByteArray) : (linesT s).length ≤ s.size + 1 := by
  rw [linesT, List.length_map, lnL]
  refine Nat.le_trans (List.Sublist.length_le (l₂ := sp 10 1 s.data.toList) ?_) ?_
  · unfold dropE; split
    · exact List.dropLast_sublist _
    · exact List.Sublist.refl _
  · rw [sp_len]
    have := count_size 10 s
    omega
def nl : ByteArray := { data := #[10] }
theorem lines_app (s t : ByteArray) : linesT (s ++ nl ++ t) = linesT (s ++ nl) ++ linesT t := by
  have h1 : (s ++ nl ++ t).data.toList = s.data.toList ++ 10 :: t.data.toList := by
    rw [ByteArray.data_append, ByteArray.data_append, Array.toList_append, Array.toList_append, List.append_assoc]; rfl
  have h2 : (s ++ nl).data.toList = s.data.toList ++ [10] := by
    rw [ByteArray.data_append, Array.toList_append]; rfl
  rw [linesT, linesT, linesT, h1, h2, lnL_app, List.map_append]

end Go.Proofs.YtakgddochbcjbaaDoor
