/- Contracts, fourth part: pages. -/
import Derived.Test.YtolplbfonlhbhaaC3
set_option maxRecDepth 20000
set_option linter.unusedVariables false
set_option linter.unusedSectionVars false
set_option linter.unusedSimpArgs false
namespace Go.Proofs.Ytolplbfonlhbhaa
open Go Go.Eng
variable [Globs]

theorem dRow_size (r : RowL) : (dRow r).size = 44 := rfl
theorem dRow_isAg (r : RowL) : (dRow r).isAg = true := rfl
theorem BelL_set {n : Nat} {l : List Res} {j : Nat} {r : Res} (h : BelL n l) (hr : r.bel n) : BelL n (l.set j r) := by
  rw [BelL_mem] at h ⊢
  intro x hx
  rcases List.mem_or_eq_of_mem_set hx with hx | rfl
  · exact h x hx
  · exact hr
/-- a page: its rows, and how they are owned -/
abbrev pageV (i : Nat) (rows : List RowL) (most : Int) (more : Bool) : AV := .ag [.own i 44 (rows.map dRow), .d (.raw (.int .i64 most)), .d (.raw (.bool more))]

-- list.page).add
theorem f22_ok (L : List Res) (j i : Nat) (rows : List RowL) (most : Int) (more : Bool) (r : RowL) (hj : L[j]? = some (.box (pageV i rows most more))) (hi : L[i]? = some (.tok 55 44 rows.length)) (hlen : rows.length ≤ 1048576) : Ok Try.prog 22 [.ptr j 0 [], .d (dRow r)] L fun r' L' => if (rows.length : Int) = most then r' = B false ∧ L' = L.set j (.box (pageV i rows most true)) else r' = B true ∧ L' = (L.set i (.tok 55 44 (rows.length + 1))).set j (.box (pageV i (rows ++ [r]) most more)) := by
  have hil : i < L.length := (List.getElem?_eq_some_iff.1 hi).1
  have hne : i ≠ j := by
      rintro rfl
      rw [hj] at hi
      simp at hi
  have hj2 : ∀ y, (L.set i y)[j]? = some (.box (pageV i rows most more)) := fun y => by rw [List.getElem?_set_ne hne]; exact hj
  refine Ok_of (fn := Try.f22) (rs := [.tmp 4]) (n := 28) (hf := Try.func22) (hn := by kernel_rfl) (hb := rfl) (hr := rfl) (hN := rfl) (hargs := by simp) (h := fun Z0 γ0 w0 hγ hbel => ?_)
  simp only [enumA, Nat.zero_add]
  refine Wps_seq ?_
  refine Wps_reg (T := []) trivial [0, 3] rfl (by simp) fun K hK => ?_
  repeat
    (first | refine X0 rfl fun K1 hK1 => ?_ | refine X1 rfl rfl fun K1 hK1 => ?_)
    simp only [↓EP, EQ, implies_true, forall_const, tys, zoks, zeros, Nat.reduceEqDiff, Nat.reduceAdd, Nat.reduceLT, Nat.reduceLeDiff, reduceIte, reduceCtorEq, getL0, List.replicate_one, Nat.reduceMul, fun y => getLlt (hj2 y), fun y => setLlt (hj2 y), getLlt hj, getLlt hi, setLlt hj, setLlt hi, List.append_assoc, List.length_map, ↓dRow_size, ↓dRow_isAg]
    try simp (disch := omega) only [wrap64, wrapU64]
    repeat (first | refine And.intro cl ?_ | intro e)
    refine hK1 _ ?_
    clear hK1 K1
  refine XE ?_
  refine hK _ _ (by simp only [St.keep, keepL, at_cons, at_nil, Nat.reduceEqDiff, reduceIte, eq_self]; rfl) ?_
  clear hK K
  refine Wps_seq ?_
  refine Wps_seq ?_
  refine Wps_drw (T := []) trivial (by kernel_rfl) [(0, true), (1, true), (2, true), (3, true), (4, true), (5, true), (6, true), (7, true), (8, true), (9, true)] (by kernel_rfl) [0, 3, 14] rfl (by simp) fun K hK => ?_
  repeat
    (first | refine R0 rfl rfl fun K1 hK1 => ?_ | refine R1 rfl rfl rfl fun K1 hK1 => ?_ | refine Q0 rfl rfl fun K1 hK1 => ?_ | refine Q1 rfl rfl rfl fun K1 hK1 => ?_)
    simp only [↓EP, EQ, implies_true, forall_const, tys, zoks, zeros, Nat.reduceEqDiff, Nat.reduceAdd, Nat.reduceLT, Nat.reduceLeDiff, reduceIte, reduceCtorEq, getL0, List.replicate_one, Nat.reduceMul, fun y => getLlt (hj2 y), fun y => setLlt (hj2 y), getLlt hj, getLlt hi, setLlt hj, setLlt hi, List.append_assoc, List.length_map, ↓dRow_size, ↓dRow_isAg]
    try simp (disch := omega) only [wrap64, wrapU64]
    repeat (first | refine And.intro cl ?_ | intro e)
    refine hK1 _ ?_
    clear hK1 K1
  refine OE ?_
  refine hK _ _ (by simp only [St.keep, keepL, at_cons, at_nil, Nat.reduceEqDiff, reduceIte, eq_self]; rfl) ?_
  clear hK K
  refine Wps_cond rfl (fun hc1 => ?_) (fun hc1 => ?_)
  · try simp only [decide_eq_true_eq, decide_eq_false_iff_not, Bool.not_eq_true', Bool.not_eq_false', Int.not_lt, Int.not_le, ge_iff_le, gt_iff_lt, Bool.or_eq_false_iff, Bool.or_eq_true, Bool.and_eq_true, Bool.and_eq_false_imp, beq_iff_eq, beq_eq_false_iff_ne, ne_eq, bne_iff_ne, bne_eq_false_iff_eq] at hc1
    refine Wps_seq ?_
    refine Wps_reg (T := []) trivial [] rfl (by simp) fun K hK => ?_
    repeat
      (first | refine X0 rfl fun K1 hK1 => ?_ | refine X1 rfl rfl fun K1 hK1 => ?_)
      simp only [↓EP, EQ, implies_true, forall_const, tys, zoks, zeros, Nat.reduceEqDiff, Nat.reduceAdd, Nat.reduceLT, Nat.reduceLeDiff, reduceIte, reduceCtorEq, getL0, List.replicate_one, Nat.reduceMul, fun y => getLlt (hj2 y), fun y => setLlt (hj2 y), getLlt hj, getLlt hi, setLlt hj, setLlt hi, List.append_assoc, List.length_map, ↓dRow_size, ↓dRow_isAg]
      try simp (disch := omega) only [wrap64, wrapU64]
      repeat (first | refine And.intro cl ?_ | intro e)
      refine hK1 _ ?_
      clear hK1 K1
    refine XE ?_
    refine hK _ _ (by simp only [St.keep, keepL, at_cons, at_nil, Nat.reduceEqDiff, reduceIte, eq_self]; rfl) ?_
    clear hK K
    refine Wps_seq ?_
    refine Wps_reg (T := []) trivial [4] rfl (by simp) fun K hK => ?_
    repeat
      (first | refine X0 rfl fun K1 hK1 => ?_ | refine X1 rfl rfl fun K1 hK1 => ?_)
      simp only [↓EP, EQ, implies_true, forall_const, tys, zoks, zeros, Nat.reduceEqDiff, Nat.reduceAdd, Nat.reduceLT, Nat.reduceLeDiff, reduceIte, reduceCtorEq, getL0, List.replicate_one, Nat.reduceMul, fun y => getLlt (hj2 y), fun y => setLlt (hj2 y), getLlt hj, getLlt hi, setLlt hj, setLlt hi, List.append_assoc, List.length_map, ↓dRow_size, ↓dRow_isAg]
      try simp (disch := omega) only [wrap64, wrapU64]
      repeat (first | refine And.intro cl ?_ | intro e)
      refine hK1 _ ?_
      clear hK1 K1
    refine XE ?_
    refine hK _ _ (by simp only [St.keep, keepL, at_cons, at_nil, Nat.reduceEqDiff, reduceIte, eq_self]; rfl) ?_
    clear hK K
    refine Wps_ret ?_
    try simp only [Wps_nil, thenQ_normal, thenQ_exit, thenQ_ret, blkQ_normal, blkQ_ret, blkQ_if, blkQ_same, scQ_normal, scQ_ret, scQ_exit, Nat.reduceEqDiff, reduceIte, eq_self, reduceCtorEq, if_true, if_false]
    try simp only [retQ_ret, retQ_normal]
    simp only [retP, at_cons, at_nil, Nat.reduceEqDiff, reduceIte, eq_self, AV.use, retV, true_and, and_true]
    have hc : (rows.length : Int) = most := by simpa using hc1
    refine ⟨_, _, rfl, trivial, ?_, by simp, ?_⟩
    · rw [List.length_set]; exact BelL_set hbel ⟨hil, trivial, trivial, trivial⟩
    · rw [if_pos hc]
  · try simp only [decide_eq_true_eq, decide_eq_false_iff_not, Bool.not_eq_true', Bool.not_eq_false', Int.not_lt, Int.not_le, ge_iff_le, gt_iff_lt, Bool.or_eq_false_iff, Bool.or_eq_true, Bool.and_eq_true, Bool.and_eq_false_imp, beq_iff_eq, beq_eq_false_iff_ne, ne_eq, bne_iff_ne, bne_eq_false_iff_eq] at hc1
    refine Wps_skip ?_
    refine Wps_seq ?_
    refine Wps_drw (T := []) trivial (by kernel_rfl) [(0, true), (1, true), (2, true), (3, true), (4, true), (5, true), (6, false), (7, false), (8, true), (9, true), (10, false)] (by kernel_rfl) [] rfl (by simp) fun K hK => ?_
    repeat
      (first | refine R0 rfl rfl fun K1 hK1 => ?_ | refine R1 rfl rfl rfl fun K1 hK1 => ?_ | refine Q0 rfl rfl fun K1 hK1 => ?_ | refine Q1 rfl rfl rfl fun K1 hK1 => ?_)
      simp only [↓EP, EQ, implies_true, forall_const, tys, zoks, zeros, Nat.reduceEqDiff, Nat.reduceAdd, Nat.reduceLT, Nat.reduceLeDiff, reduceIte, reduceCtorEq, getL0, List.replicate_one, Nat.reduceMul, fun y => getLlt (hj2 y), fun y => setLlt (hj2 y), getLlt hj, getLlt hi, setLlt hj, setLlt hi, List.append_assoc, List.length_map, ↓dRow_size, ↓dRow_isAg]
      try simp (disch := omega) only [wrap64, wrapU64]
      repeat (first | refine And.intro cl ?_ | intro e)
      refine hK1 _ ?_
      clear hK1 K1
    refine OE ?_
    refine hK _ _ (by simp only [St.keep, keepL, at_cons, at_nil, Nat.reduceEqDiff, reduceIte, eq_self]; rfl) ?_
    clear hK K
    refine Wps_seq ?_
    refine Wps_reg (T := []) trivial [4] rfl (by simp) fun K hK => ?_
    repeat
      (first | refine X0 rfl fun K1 hK1 => ?_ | refine X1 rfl rfl fun K1 hK1 => ?_)
      simp only [↓EP, EQ, implies_true, forall_const, tys, zoks, zeros, Nat.reduceEqDiff, Nat.reduceAdd, Nat.reduceLT, Nat.reduceLeDiff, reduceIte, reduceCtorEq, getL0, List.replicate_one, Nat.reduceMul, fun y => getLlt (hj2 y), fun y => setLlt (hj2 y), getLlt hj, getLlt hi, setLlt hj, setLlt hi, List.append_assoc, List.length_map, ↓dRow_size, ↓dRow_isAg]
      try simp (disch := omega) only [wrap64, wrapU64]
      repeat (first | refine And.intro cl ?_ | intro e)
      refine hK1 _ ?_
      clear hK1 K1
    refine XE ?_
    refine hK _ _ (by simp only [St.keep, keepL, at_cons, at_nil, Nat.reduceEqDiff, reduceIte, eq_self]; rfl) ?_
    clear hK K
    refine Wps_ret ?_
    try simp only [Wps_nil, thenQ_normal, thenQ_exit, thenQ_ret, blkQ_normal, blkQ_ret, blkQ_if, blkQ_same, scQ_normal, scQ_ret, scQ_exit, Nat.reduceEqDiff, reduceIte, eq_self, reduceCtorEq, if_true, if_false]
    try simp only [retQ_ret, retQ_normal]
    simp only [retP, at_cons, at_nil, Nat.reduceEqDiff, reduceIte, eq_self, AV.use, retV, true_and, and_true]
    have hc : ¬ (rows.length : Int) = most := by simpa using hc1
    refine ⟨_, _, rfl, trivial, ?_, by simp, ?_⟩
    · rw [List.length_set, List.length_set]; exact BelL_set (BelL_set hbel trivial) ⟨hil, trivial, trivial, trivial⟩
    · rw [if_neg hc]; simp only [pageV, List.map_append, List.map_cons, List.map_nil]

end Go.Proofs.Ytolplbfonlhbhaa
