/- Contracts, third part: copies. -/
import Derived.Test.YtolplbfonlhbhaaC2
set_option maxRecDepth 20000
set_option linter.unusedVariables false
set_option linter.unusedSectionVars false
set_option linter.unusedSimpArgs false
namespace Go.Proofs.Ytolplbfonlhbhaa
open Go Go.Eng
variable [Globs]

-- api.Tag]
theorem f57_ok (l : List TagL) (hl : l.length ≤ 1048576) : PureOk Try.prog 57 [.d (dTags l)] fun r => r = .d (dTags l) := by
  refine PureOk_of (fn := Try.f57) (rs := [.tmp 2]) (n := 9) (hf := Try.func57) (hn := by kernel_rfl) (hb := rfl) (hr := rfl) (hN := rfl) (hargs := by simp) (ha := by simp [AV.bels, AV.bel]) (hrb := by rintro _ rfl; simp [AV.bel, AV.bels]) (h := fun Z0 w0 => ?_)
  simp only [enumA, Nat.zero_add]
  refine Wps_seq ?_
  refine Wps_reg (T := []) trivial [0] rfl (by simp) fun K hK => ?_
  repeat
    (first | refine X0 rfl fun K1 hK1 => ?_ | refine X1 rfl rfl fun K1 hK1 => ?_)
    simp only [↓EP, EQ, implies_true, forall_const, tys, zoks, zeros, Nat.reduceEqDiff, Nat.reduceAdd, Nat.reduceLT, Nat.reduceLeDiff, reduceIte, reduceCtorEq, List.length_map]
    try simp (disch := omega) only [wrap64, wrapU64]
    repeat (first | refine And.intro cl ?_ | intro e)
    refine hK1 _ ?_
    clear hK1 K1
  refine XE ?_
  refine hK _ _ (by simp only [St.keep, keepL, at_cons, at_nil, Nat.reduceEqDiff, reduceIte, eq_self]; rfl) ?_
  clear hK K
  refine Wps_seq ?_
  refine Wps_reg (T := []) trivial [2] rfl (by simp) fun K hK => ?_
  repeat
    (first | refine X0 rfl fun K1 hK1 => ?_ | refine X1 rfl rfl fun K1 hK1 => ?_)
    simp only [↓EP, EQ, implies_true, forall_const, tys, zoks, zeros, Nat.reduceEqDiff, Nat.reduceAdd, Nat.reduceLT, Nat.reduceLeDiff, reduceIte, reduceCtorEq, List.length_map]
    try simp (disch := omega) only [wrap64, wrapU64]
    repeat (first | refine And.intro cl ?_ | intro e)
    refine hK1 _ ?_
    clear hK1 K1
  refine XE ?_
  refine hK _ _ (by simp only [St.keep, keepL, at_cons, at_nil, Nat.reduceEqDiff, reduceIte, eq_self]; rfl) ?_
  clear hK K
  refine Wps_ret ?_
  try simp only [Wps_nil, thenQ_normal, thenQ_exit, thenQ_ret, blkQ_normal, blkQ_ret, blkQ_if, blkQ_same, scQ_normal, scQ_ret, scQ_exit, Nat.reduceEqDiff, reduceIte, eq_self, reduceCtorEq, if_true, if_false]
  first | refine ret_pureQ rfl ?_ | refine ret_pureN rfl ?_
  simp only [retP, at_cons, at_nil, Nat.reduceEqDiff, reduceIte, eq_self, AV.use, retV, AV.bel, AV.bels, true_and, and_true]
  simp [dTags, List.take_of_length_le]

-- api.Tag]
theorem f58_ok (l : List TagL) (hl : l.length ≤ 1048576) : PureOk Try.prog 58 [.d (dTags l)] fun r => r = .d (dTags l) := by
  refine PureOk_of (fn := Try.f58) (rs := [.tmp 2]) (n := 8) (hf := Try.func58) (hn := by kernel_rfl) (hb := rfl) (hr := rfl) (hN := rfl) (hargs := by simp) (ha := by simp [AV.bels, AV.bel]) (hrb := by rintro _ rfl; simp [AV.bel, AV.bels]) (h := fun Z0 w0 => ?_)
  simp only [enumA, Nat.zero_add]
  refine Wps_seq ?_
  refine Wps_reg (T := []) trivial [0] rfl (by simp) fun K hK => ?_
  repeat
    (first | refine X0 rfl fun K1 hK1 => ?_ | refine X1 rfl rfl fun K1 hK1 => ?_)
    simp only [↓EP, EQ, implies_true, forall_const, tys, zoks, zeros, Nat.reduceEqDiff, Nat.reduceAdd, Nat.reduceLT, Nat.reduceLeDiff, reduceIte, reduceCtorEq, List.length_map]
    try simp (disch := omega) only [wrap64, wrapU64]
    repeat (first | refine And.intro cl ?_ | intro e)
    refine hK1 _ ?_
    clear hK1 K1
  refine XE ?_
  refine hK _ _ (by simp only [St.keep, keepL, at_cons, at_nil, Nat.reduceEqDiff, reduceIte, eq_self]; rfl) ?_
  clear hK K
  refine Wps_seq ?_
  refine Wps_seq ?_
  refine Wps_reg (T := []) trivial [0, 4] rfl (by simp) fun K hK => ?_
  repeat
    (first | refine X0 rfl fun K1 hK1 => ?_ | refine X1 rfl rfl fun K1 hK1 => ?_)
    simp only [↓EP, EQ, implies_true, forall_const, tys, zoks, zeros, Nat.reduceEqDiff, Nat.reduceAdd, Nat.reduceLT, Nat.reduceLeDiff, reduceIte, reduceCtorEq, List.length_map]
    try simp (disch := omega) only [wrap64, wrapU64]
    try (intro e he)
    repeat (first | refine And.intro cl ?_ | intro e)
    refine hK1 _ ?_
    clear hK1 K1
  refine XE ?_
  refine hK _ _ (by simp only [St.keep, keepL, at_cons, at_nil, Nat.reduceEqDiff, reduceIte, eq_self]; rfl) ?_
  clear hK K
  refine Wps_cond rfl (fun hc1 => ?_) (fun hc1 => ?_)
  · try simp only [decide_eq_true_eq, decide_eq_false_iff_not, Bool.not_eq_true', Bool.not_eq_false', Int.not_lt, Int.not_le, ge_iff_le, gt_iff_lt, Bool.or_eq_false_iff, Bool.or_eq_true, Bool.and_eq_true, Bool.and_eq_false_imp, beq_iff_eq, beq_eq_false_iff_ne, ne_eq, bne_iff_ne, bne_eq_false_iff_eq] at hc1
    refine Wps_seq ?_
    refine Wps_reg (T := []) trivial [2] rfl (by simp) fun K hK => ?_
    repeat
      (first | refine X0 rfl fun K1 hK1 => ?_ | refine X1 rfl rfl fun K1 hK1 => ?_)
      simp only [↓EP, EQ, implies_true, forall_const, tys, zoks, zeros, Nat.reduceEqDiff, Nat.reduceAdd, Nat.reduceLT, Nat.reduceLeDiff, reduceIte, reduceCtorEq, List.length_map]
      try simp (disch := omega) only [wrap64, wrapU64]
      repeat (first | refine And.intro cl ?_ | intro e)
      refine hK1 _ ?_
      clear hK1 K1
    refine XE ?_
    refine hK _ _ (by simp only [St.keep, keepL, at_cons, at_nil, Nat.reduceEqDiff, reduceIte, eq_self]; rfl) ?_
    clear hK K
    have hl0 : l = [] := by simpa using he hc1
    subst hl0
    refine Wps_weak (Wk_slots (l' := [(2, .d (.sl 2 []))]) ⟨Imp.nil _, trivial⟩) ?_ (by simp)
    refine Wps_ret ?_
    try simp only [Wps_nil, thenQ_normal, thenQ_exit, thenQ_ret, blkQ_normal, blkQ_ret, blkQ_if, blkQ_same, scQ_normal, scQ_ret, scQ_exit, Nat.reduceEqDiff, reduceIte, eq_self, reduceCtorEq, if_true, if_false]
    first | refine ret_pureQ rfl ?_ | refine ret_pureN rfl ?_
    simp only [retP, at_cons, at_nil, Nat.reduceEqDiff, reduceIte, eq_self, AV.use, retV, AV.bel, AV.bels, true_and, and_true]
    all_goals rfl
  · try simp only [decide_eq_true_eq, decide_eq_false_iff_not, Bool.not_eq_true', Bool.not_eq_false', Int.not_lt, Int.not_le, ge_iff_le, gt_iff_lt, Bool.or_eq_false_iff, Bool.or_eq_true, Bool.and_eq_true, Bool.and_eq_false_imp, beq_iff_eq, beq_eq_false_iff_ne, ne_eq, bne_iff_ne, bne_eq_false_iff_eq] at hc1
    refine Wps_skip ?_
    refine Wps_seq ?_
    refine Wps_reg (T := []) trivial [2] rfl (by simp) fun K hK => ?_
    repeat
      (first | refine X0 rfl fun K1 hK1 => ?_ | refine X1 rfl rfl fun K1 hK1 => ?_)
      simp only [↓EP, EQ, implies_true, forall_const, tys, zoks, zeros, Nat.reduceEqDiff, Nat.reduceAdd, Nat.reduceLT, Nat.reduceLeDiff, reduceIte, reduceCtorEq, List.length_map]
      try simp (disch := omega) only [wrap64, wrapU64]
      repeat (first | refine And.intro cl ?_ | intro e)
      refine hK1 _ ?_
      clear hK1 K1
    refine XE ?_
    refine hK _ _ (by simp only [St.keep, keepL, at_cons, at_nil, Nat.reduceEqDiff, reduceIte, eq_self]; rfl) ?_
    clear hK K
    refine Wps_weak (Wk_slots (l' := [(2, .d (dTags l))]) ⟨Imp.own _ _ _, trivial⟩) ?_ (by simp)
    refine Wps_ret ?_
    try simp only [Wps_nil, thenQ_normal, thenQ_exit, thenQ_ret, blkQ_normal, blkQ_ret, blkQ_if, blkQ_same, scQ_normal, scQ_ret, scQ_exit, Nat.reduceEqDiff, reduceIte, eq_self, reduceCtorEq, if_true, if_false]
    first | refine ret_pureQ rfl ?_ | refine ret_pureN rfl ?_
    simp only [retP, at_cons, at_nil, Nat.reduceEqDiff, reduceIte, eq_self, AV.use, retV, AV.bel, AV.bels, true_and, and_true]
    all_goals rfl

noncomputable def eClone : Ent
  | [.d (.sl 2 a)] => match tagsOf a with
    | some x => some (x.length ≤ 1048576, fun r => r = .d (dTags x))
    | none => none
  | _ => none
theorem eClone_ok {f : Nat} (hf : ∀ (l : List TagL), l.length ≤ 1048576 → PureOk Try.prog f [.d (dTags l)] fun r => r = .d (dTags l)) : EntOk Try.prog f eClone := by
  intro args q post h
  unfold eClone at h
  split at h
  · split at h
    · rename_i x hx
      simp only [Option.some.injEq, Prod.mk.injEq] at h
      obtain ⟨rfl, rfl⟩ := h
      rw [tagsOf_some hx]
      exact ⟨⟨_, rfl⟩, fun h => hf _ h⟩
    · simp at h
  · simp at h

-- tags.Clone
theorem f51_ok (l : List TagL) (hl : l.length ≤ 1048576) : PureOk Try.prog 51 [.d (dTags l)] fun r => r = .d (dTags l) := by
  refine PureOk_of (fn := Try.f51) (rs := [.tmp 2]) (n := 6) (hf := Try.func51) (hn := by kernel_rfl) (hb := rfl) (hr := rfl) (hN := rfl) (hargs := by simp) (ha := by simp [AV.bels, AV.bel]) (hrb := by rintro _ rfl; simp [AV.bel, AV.bels]) (h := fun Z0 w0 => ?_)
  simp only [enumA, Nat.zero_add]
  refine Wps_seq ?_
  refine Wps_reg (T := [(58, eClone), (57, eClone)]) ⟨eClone_ok f58_ok, eClone_ok f57_ok, trivial⟩ [0] rfl (by simp) fun K hK => ?_
  repeat
    (first | refine X0 rfl fun K1 hK1 => ?_ | refine X1 rfl rfl fun K1 hK1 => ?_)
    simp only [↓EP, EQ, implies_true, forall_const, tys, zoks, zeros, Nat.reduceEqDiff, Nat.reduceAdd, Nat.reduceLT, Nat.reduceLeDiff, reduceIte, reduceCtorEq, eClone, tagsOf_map]
    try simp (disch := omega) only [wrap64, wrapU64]
    repeat (first | refine And.intro cl ?_ | intro e)
    refine hK1 _ ?_
    clear hK1 K1
  refine XE ?_
  refine hK _ _ (by simp only [St.keep, keepL, at_cons, at_nil, Nat.reduceEqDiff, reduceIte, eq_self]; rfl) ?_
  clear hK K
  refine Wps_seq ?_
  refine Wps_reg (T := [(58, eClone), (57, eClone)]) ⟨eClone_ok f58_ok, eClone_ok f57_ok, trivial⟩ [2] rfl (by simp) fun K hK => ?_
  repeat
    (first | refine X0 rfl fun K1 hK1 => ?_ | refine X1 rfl rfl fun K1 hK1 => ?_)
    simp only [↓EP, EQ, implies_true, forall_const, tys, zoks, zeros, Nat.reduceEqDiff, Nat.reduceAdd, Nat.reduceLT, Nat.reduceLeDiff, reduceIte, reduceCtorEq, eClone, tagsOf_map]
    try simp (disch := omega) only [wrap64, wrapU64]
    repeat (first | refine And.intro cl ?_ | intro e)
    refine hK1 _ ?_
    clear hK1 K1
  refine XE ?_
  refine hK _ _ (by simp only [St.keep, keepL, at_cons, at_nil, Nat.reduceEqDiff, reduceIte, eq_self]; rfl) ?_
  clear hK K
  refine Wps_ret ?_
  try simp only [Wps_nil, thenQ_normal, thenQ_exit, thenQ_ret, blkQ_normal, blkQ_ret, blkQ_if, blkQ_same, scQ_normal, scQ_ret, scQ_exit, Nat.reduceEqDiff, reduceIte, eq_self, reduceCtorEq, if_true, if_false]
  first | refine ret_pureQ rfl ?_ | refine ret_pureN rfl ?_
  simp only [retP, at_cons, at_nil, Nat.reduceEqDiff, reduceIte, eq_self, AV.use, retV, AV.bel, AV.bels, true_and, and_true]
  all_goals rfl

-- object.CloneVersion
theorem f38_ok (v : VerL) (hl : v.tags.length ≤ 1048576) : PureOk Try.prog 38 [.d (dVer v)] fun r => r = .d (dVer v) := by
  refine PureOk_of (fn := Try.f38) (rs := [.cell 2 53]) (n := 8) (hf := Try.func38) (hn := by kernel_rfl) (hb := rfl) (hr := rfl) (hN := rfl) (hargs := by simp) (ha := by simp [AV.bels, AV.bel]) (hrb := by rintro _ rfl; simp [AV.bel, AV.bels]) (h := fun Z0 w0 => ?_)
  simp only [enumA, Nat.zero_add]
  refine Wps_seq ?_
  refine Wps_reg (T := [(51, eClone)]) ⟨eClone_ok f51_ok, trivial⟩ [1, 2] rfl (by simp) fun K hK => ?_
  repeat
    (first | refine X0 rfl fun K1 hK1 => ?_ | refine X1 rfl rfl fun K1 hK1 => ?_)
    simp only [↓EP, EQ, implies_true, forall_const, tys, zoks, zeros, Nat.reduceEqDiff, Nat.reduceAdd, Nat.reduceLT, Nat.reduceLeDiff, reduceIte, reduceCtorEq, dVer, dLock, eClone, tagsOf_map]
    try simp (disch := omega) only [wrap64, wrapU64]
    repeat (first | refine And.intro cl ?_ | intro e)
    refine hK1 _ ?_
    clear hK1 K1
  refine XE ?_
  refine hK _ _ (by simp only [St.keep, keepL, at_cons, at_nil, Nat.reduceEqDiff, reduceIte, eq_self]; rfl) ?_
  clear hK K
  refine Wps_seq ?_
  refine Wps_reg (T := [(51, eClone)]) ⟨eClone_ok f51_ok, trivial⟩ [1, 2] rfl (by simp) fun K hK => ?_
  repeat
    (first | refine X0 rfl fun K1 hK1 => ?_ | refine X1 rfl rfl fun K1 hK1 => ?_)
    simp only [↓EP, EQ, implies_true, forall_const, tys, zoks, zeros, Nat.reduceEqDiff, Nat.reduceAdd, Nat.reduceLT, Nat.reduceLeDiff, reduceIte, reduceCtorEq, dVer, dLock, eClone, tagsOf_map]
    try simp (disch := omega) only [wrap64, wrapU64]
    repeat (first | refine And.intro cl ?_ | intro e)
    refine hK1 _ ?_
    clear hK1 K1
  refine XE ?_
  refine hK _ _ (by simp only [St.keep, keepL, at_cons, at_nil, Nat.reduceEqDiff, reduceIte, eq_self]; rfl) ?_
  clear hK K
  refine Wps_seq ?_
  refine Wps_reg (T := [(51, eClone)]) ⟨eClone_ok f51_ok, trivial⟩ [2] rfl (by simp) fun K hK => ?_
  repeat
    (first | refine X0 rfl fun K1 hK1 => ?_ | refine X1 rfl rfl fun K1 hK1 => ?_)
    simp only [↓EP, EQ, implies_true, forall_const, tys, zoks, zeros, Nat.reduceEqDiff, Nat.reduceAdd, Nat.reduceLT, Nat.reduceLeDiff, reduceIte, reduceCtorEq, dVer, dLock, eClone, tagsOf_map]
    try simp (disch := omega) only [wrap64, wrapU64]
    repeat (first | refine And.intro cl ?_ | intro e)
    refine hK1 _ ?_
    clear hK1 K1
  refine XE ?_
  refine hK _ _ (by simp only [St.keep, keepL, at_cons, at_nil, Nat.reduceEqDiff, reduceIte, eq_self]; rfl) ?_
  clear hK K
  refine Wps_ret ?_
  try simp only [Wps_nil, thenQ_normal, thenQ_exit, thenQ_ret, blkQ_normal, blkQ_ret, blkQ_if, blkQ_same, scQ_normal, scQ_ret, scQ_exit, Nat.reduceEqDiff, reduceIte, eq_self, reduceCtorEq, if_true, if_false]
  first | refine ret_pureQ rfl ?_ | refine ret_pureN rfl ?_
  simp only [retP, at_cons, at_nil, Nat.reduceEqDiff, reduceIte, eq_self, AV.use, retV, AV.bel, AV.bels, true_and, and_true, pvLoad, AV.nav, D.nav, AV.size, AV.sizes, D.size, D.sizes, AV.isAg, D.isAg, List.getElem?_cons_zero, List.getElem?_cons_succ, tys, allD, AV.toD, mkAg, D.putAt, eq_self, Option.some.injEq, dVer, dLock, eClone, tagsOf_map]
  all_goals rfl

theorem dVer_size (v : VerL) : (dVer v).size = 41 := rfl
theorem dVer_isAg (v : VerL) : (dVer v).isAg = true := rfl
theorem dByte_inj : ∀ {a b : UInt8}, dByte a = dByte b → a = b := by
  intro a b h
  simp only [dByte, D.raw.injEq, Value.int.injEq, true_and] at h
  exact UInt8.toNat_inj.1 (by omega)
theorem dVer_inj : ∀ {a b : VerL}, dVer a = dVer b → a = b := by
  intro a b h
  obtain ⟨i, m, s, bl, dg, c, ⟨l1, l2, l3⟩, t⟩ := a
  obtain ⟨i', m', s', bl', dg', c', ⟨l1', l2', l3'⟩, t'⟩ := b
  simp only [dVer, dLock, dTags, D.ag.injEq, List.cons.injEq, D.raw.injEq, Value.int.injEq, Value.bool.injEq, D.arr.injEq, D.sl.injEq, true_and, and_true] at h
  obtain ⟨h1, h2, h3, h4, h5, h6, ⟨h7, h8, h9⟩, h10⟩ := h
  have e1 := map_inj dByte_inj h5
  have e2 := map_inj dTag_inj h10
  subst h1 h2 h3 h4 e1 h6 h7 h8 h9 e2
  rfl
noncomputable def verOf (d : D) : Option VerL := open Classical in if h : ∃ v : VerL, d = dVer v then some h.choose else none
theorem verOf_map (v : VerL) : verOf (dVer v) = some v := by
  unfold verOf
  rw [dif_pos ⟨v, rfl⟩]
  have : ∃ v' : VerL, dVer v = dVer v' := ⟨v, rfl⟩
  exact congrArg some (dVer_inj this.choose_spec).symm
theorem verOf_some {d : D} {v : VerL} (h : verOf d = some v) : d = dVer v := by
  unfold verOf at h
  split at h
  · rename_i hh
    simp only [Option.some.injEq] at h
    rw [← h]; exact hh.choose_spec
  · simp at h
noncomputable def eCloneV : Ent
  | [.d x] => match verOf x with
    | some v => some (v.tags.length ≤ 1048576, fun r => r = .d (dVer v))
    | none => none
  | _ => none
theorem eCloneV_ok : EntOk Try.prog 38 eCloneV := by
  intro args q post h
  unfold eCloneV at h
  split at h
  · split at h
    · rename_i v hv
      simp only [Option.some.injEq, Prod.mk.injEq] at h
      obtain ⟨rfl, rfl⟩ := h
      rw [verOf_some hv]
      exact ⟨⟨_, rfl⟩, fun h => f38_ok _ h⟩
    · simp at h
  · simp at h

-- list.row
theorem f20_ok (k : ByteArray) (v : VerL) (b : Bool) (hl : v.tags.length ≤ 1048576) : PureOk Try.prog 20 [S k, .d (dVer v), B b] fun r => r = .d (dRow ⟨k, false, v, b⟩) := by
  refine PureOk_of (fn := Try.f20) (rs := [.cell 6 55]) (n := 12) (hf := Try.func20) (hn := by kernel_rfl) (hb := rfl) (hr := rfl) (hN := rfl) (hargs := by simp) (ha := by simp [AV.bels, AV.bel]) (hrb := by rintro _ rfl; simp [AV.bel, AV.bels]) (h := fun Z0 w0 => ?_)
  simp only [enumA, Nat.zero_add]
  refine Wps_seq ?_
  refine Wps_reg (T := [(38, eCloneV)]) ⟨eCloneV_ok, trivial⟩ [0, 2, 4, 6] rfl (by simp) fun K hK => ?_
  repeat
    (first | refine X0 rfl fun K1 hK1 => ?_ | refine X1 rfl rfl fun K1 hK1 => ?_)
    simp only [↓EP, EQ, implies_true, forall_const, tys, zoks, zeros, Nat.reduceEqDiff, Nat.reduceAdd, Nat.reduceLT, Nat.reduceLeDiff, reduceIte, reduceCtorEq, ↓dVer_size, ↓dVer_isAg, eCloneV, verOf_map]
    try simp (disch := omega) only [wrap64, wrapU64]
    repeat (first | refine And.intro cl ?_ | intro e)
    refine hK1 _ ?_
    clear hK1 K1
  refine XE ?_
  refine hK _ _ (by simp only [St.keep, keepL, at_cons, at_nil, Nat.reduceEqDiff, reduceIte, eq_self]; rfl) ?_
  clear hK K
  refine Wps_seq ?_
  refine Wps_reg (T := [(38, eCloneV)]) ⟨eCloneV_ok, trivial⟩ [6] rfl (by simp) fun K hK => ?_
  repeat
    (first | refine X0 rfl fun K1 hK1 => ?_ | refine X1 rfl rfl fun K1 hK1 => ?_)
    simp only [↓EP, EQ, implies_true, forall_const, tys, zoks, zeros, Nat.reduceEqDiff, Nat.reduceAdd, Nat.reduceLT, Nat.reduceLeDiff, reduceIte, reduceCtorEq, ↓dVer_size, ↓dVer_isAg, eCloneV, verOf_map]
    try simp (disch := omega) only [wrap64, wrapU64]
    repeat (first | refine And.intro cl ?_ | intro e)
    refine hK1 _ ?_
    clear hK1 K1
  refine XE ?_
  refine hK _ _ (by simp only [St.keep, keepL, at_cons, at_nil, Nat.reduceEqDiff, reduceIte, eq_self]; rfl) ?_
  clear hK K
  refine Wps_ret ?_
  try simp only [Wps_nil, thenQ_normal, thenQ_exit, thenQ_ret, blkQ_normal, blkQ_ret, blkQ_if, blkQ_same, scQ_normal, scQ_ret, scQ_exit, Nat.reduceEqDiff, reduceIte, eq_self, reduceCtorEq, if_true, if_false]
  first | refine ret_pureQ rfl ?_ | refine ret_pureN rfl ?_
  simp only [retP, at_cons, at_nil, Nat.reduceEqDiff, reduceIte, eq_self, AV.use, retV, AV.bel, AV.bels, true_and, and_true, pvLoad, AV.nav, D.nav, AV.size, AV.sizes, D.size, D.sizes, AV.isAg, D.isAg, List.getElem?_cons_zero, List.getElem?_cons_succ, tys, allD, AV.toD, mkAg, D.putAt, eq_self, Option.some.injEq, ↓dVer_size, ↓dVer_isAg, eCloneV, verOf_map]
  all_goals rfl

end Go.Proofs.Ytolplbfonlhbhaa
