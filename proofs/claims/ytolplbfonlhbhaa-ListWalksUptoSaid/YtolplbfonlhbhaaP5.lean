/- Plain laws, fifth part: pages of any list; how many versions there are. -/
import Derived.Test.YtolplbfonlhbhaaP4
import Derived.Test.YtolplbfonlhbhaaC22
set_option linter.unusedVariables false
set_option linter.unusedSectionVars false
set_option linter.unusedSimpArgs false
namespace Go.Proofs.Ytolplbfonlhbhaa
open Go Go.Eng

theorem rvIn_len (frm : SpotL) (key : ByteArray) (vs : List VerL) : ∀ (n : Nat) (rows : List RowL), (rversIn frm key vs n rows).length ≤ rows.length + n
  | 0, rows => by rw [rversIn]; omega
  | n + 1, rows => by
    rw [rversIn]
    split
    · have := rvIn_len frm key vs n (rows ++ [⟨key, false, vs.getD n default, ((n : Int) == (vs.length : Int) - 1)⟩])
      rw [List.length_append, List.length_singleton] at this
      omega
    · have := rvIn_len frm key vs n rows
      omega
theorem rv_len (pre : ByteArray) (frm : SpotL) : ∀ (os : List ObjL) (rows : List RowL), (rvers pre frm os rows).length ≤ rows.length + (os.map fun o => o.vers.length).sum
  | [], rows => by rw [rvers]; simp
  | o :: os, rows => by
    rw [rvers, List.map_cons, List.sum_cons]
    split
    · have := rv_len pre frm os rows; omega
    · have h1 := rv_len pre frm os (rversIn frm o.key o.vers o.vers.length rows)
      have h2 := rvIn_len frm o.key o.vers o.vers.length rows
      omega
theorem page_any {R F : List RowL} {c : Nat} {k : Int} (h1 : 1 ≤ k) (h7 : k ≤ 7) (hc : c ≤ F.length) (h : R = F.drop c) :
    ∃ pl pm, pagedT R k = (pl, pm, 0) ∧ (pl.length : Int) ≤ k ∧ (pm = true → (pl.length : Int) = k) ∧ F.take c ++ pl = F.take (c + pl.length) ∧ c + pl.length ≤ F.length ∧ (pm = false → c + pl.length = F.length) := by
  rw [h, pagedT, if_neg (by omega), cutM]
  by_cases hm : ((F.drop c).length : Int) > k
  · rw [if_pos hm, decide_eq_true hm]
    have hl : ((F.drop c).take k.toNat).length = k.toNat := by rw [List.length_take]; omega
    refine ⟨_, _, rfl, by rw [hl]; omega, fun _ => by rw [hl]; omega, ?_, ?_, fun h => by cases h⟩
    · rw [hl, List.take_add]
    · rw [hl]; rw [List.length_drop] at hm; omega
  · rw [if_neg hm, decide_eq_false hm]
    refine ⟨F.drop c, false, rfl, by omega, (fun h => by cases h), ?_, ?_, fun _ => ?_⟩
    · rw [List.length_drop, show c + (F.length - c) = F.length by omega, List.take_append_drop, List.take_length]
    · rw [List.length_drop]; omega
    · rw [List.length_drop]; omega
end Go.Proofs.Ytolplbfonlhbhaa
