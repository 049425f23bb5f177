/- Laws: ListWalks. -/
import Derived.Test.YtolplbfonlhbhaaP5
set_option maxRecDepth 20000
set_option maxHeartbeats 4000000
set_option linter.unusedVariables false
set_option linter.unusedSectionVars false
set_option linter.unusedSimpArgs false
namespace Go.Proofs.Ytolplbfonlhbhaa
open Go Go.Eng
variable [Globs]

variable [G23]
abbrev fullV (pre : ByteArray) (b : BucL) : List RowL := rvers pre noSpot b.objs []
abbrev tot (b : BucL) (i : Nat) : Nat := ((b.objs.take i).map fun o => o.vers.length).sum
theorem tot_succ {b : BucL} {i : Nat} (h : i < b.objs.length) : tot b (i + 1) = tot b i + (b.objs.getD i default).vers.length := by
  rw [tot, tot, List.take_succ_eq_append_getElem h, List.map_append, List.sum_append]
  simp [List.getD_eq_getElem?_getD, h]
theorem tot_le {b : BucL} (hg : goodB b) : ∀ i, i ≤ b.objs.length → tot b i ≤ 256 * i
  | 0, _ => by simp [tot]
  | i + 1, h => by
    have h1 := tot_le hg i (by omega)
    have h2 : (b.objs.getD i default).vers.length ≤ 256 := by
      rw [List.getD_eq_getElem?_getD, List.getElem?_eq_getElem (by omega)]
      exact (goodB_mem hg (List.getElem_mem _)).2
    rw [tot_succ (by omega)]
    omega
theorem fullV_page {pre : ByteArray} {b : BucL} (hl : (fullV pre b).length ≤ 100) : pagedT (fullV pre b) 100 = (fullV pre b, false, 0) := by
  have hn : ¬ ((fullV pre b).length : Int) > 100 := by omega
  rw [pagedT, if_neg (by omega), cutM, if_neg hn, decide_eq_false hn]
theorem spot_mk (k : ByteArray) (n : Int) : AV.d (.ag [.raw (.string ⟨#[]⟩), .raw (.string k), .raw (.int .u64 n)]) = .d (dSpot ⟨nil0, k, n⟩) := rfl
theorem next_vers {pre : ByteArray} {b : BucL} (hg : goodB b) {c : Nat} {pl : List RowL} (h0 : 0 < pl.length) (ht : (fullV pre b).take c ++ pl = (fullV pre b).take (c + pl.length)) :
    rvers pre ⟨nil0, (pl.getD (pl.length - 1) default).key, (pl.getD (pl.length - 1) default).ver.id⟩ b.objs [] = (fullV pre b).drop (c + pl.length) := by
  have e1 : fullV pre b = (fullV pre b).take c ++ pl ++ (fullV pre b).drop (c + pl.length) := by rw [ht, List.take_append_drop]
  have e2 : pl = pl.take (pl.length - 1) ++ [pl.getD (pl.length - 1) default] := by
    rw [List.getD_eq_getElem?_getD, List.getElem?_eq_getElem (by omega), Option.getD_some]
    have := List.take_succ_eq_append_getElem (l := pl) (i := pl.length - 1) (by omega)
    rw [show pl.length - 1 + 1 = pl.length by omega, List.take_length] at this
    exact this
  refine vers_next hg (A := (fullV pre b).take c ++ pl.take (pl.length - 1)) ?_
  refine e1.trans ?_
  generalize (fullV pre b).drop (c + pl.length) = E
  have e4 : pl ++ E = pl.take (pl.length - 1) ++ pl.getD (pl.length - 1) default :: E := by
    conv => lhs; rw [e2]
    rw [List.append_assoc]; rfl
  rw [List.append_assoc, e4, List.append_assoc]

end Go.Proofs.Ytolplbfonlhbhaa
