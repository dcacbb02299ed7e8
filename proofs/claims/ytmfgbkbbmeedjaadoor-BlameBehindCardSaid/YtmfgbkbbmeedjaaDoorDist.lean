/- How far two lists are apart, and the chapter's first words: package diff's Distance, 'awake'. -/
import Derived.Test.YtmfgbkbbmeedjaaDoorScript
namespace Go.Proofs.YtmfgbkbbmeedjaaDoor
open Go.RowKit Go.Deep Go.MapKept

theorem distN_take {l : List (Int × ByteArray)} {i : Nat} (h : i < l.length) : distN (l.take (i + 1)) = distN (l.take i) + (if gek l i = 1 then 0 else 1) := by
  rw [List.take_succ_eq_append_getElem h, distN_append]
  have e : l[i] = (gek l i, gel l i) := by simp [gek, gel, List.getElem?_eq_getElem h]
  rw [e, distN_cons]
  simp [distN]

end Go.Proofs.YtmfgbkbbmeedjaaDoor
