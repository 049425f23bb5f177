/- Contracts, twelfth part: the keys of a bucket. -/
import Derived.Test.YtolplbfonlhbhaaC11
set_option maxRecDepth 20000
set_option maxHeartbeats 4000000
set_option linter.unusedVariables false
set_option linter.unusedSectionVars false
set_option linter.unusedSimpArgs false
namespace Go.Proofs.Ytolplbfonlhbhaa
open Go Go.Eng
variable [Globs]

variable [G23]
def zeroV : VerL := ⟨0, false, 0, 0, List.replicate 32 0, 0, ⟨0, 0, false⟩, []⟩
def grpRow (g : ByteArray) : RowL := ⟨g, true, zeroV, false⟩
abbrev lastV (o : ObjL) : VerL := o.vers.getD (o.vers.length - 1) default
def keyRow (o : ObjL) : RowL := ⟨o.key, false, lastV o, true⟩
theorem dimp_grp (g : ByteArray) : DImp (.ag [.raw (.string g), .raw (.bool true), .ag [.raw (.int .u64 0), .raw (.bool false), .raw (.int .i64 0), .raw (.int .u64 0), .arr 32 1 (List.replicate 32 (.raw (.int .u8 0))), .raw (.int .i64 0), .ag [.raw (.int .i64 0), .raw (.int .i64 0), .raw (.bool false)], .raw (.slice none 0 0)], .raw (.bool false)]) (dRow (grpRow g)) :=
  DImp_ag ⟨DImp.refl _, DImp.refl _, DImp_ag ⟨DImp.refl _, DImp.refl _, DImp.refl _, DImp.refl _, DImp.refl _, DImp.refl _, DImp.refl _, DImp_nil 2, trivial⟩, DImp.refl _, trivial⟩
noncomputable def e20 : Ent
  | [.d (.raw (.string k)), .d x, .d (.raw (.bool b))] => match verOf x with
    | some v => some (v.tags.length ≤ 1048576, fun r => r = .d (dRow ⟨k, false, v, b⟩))
    | none => none
  | _ => none
theorem e20_ok : EntOk Try.prog 20 e20 := by
  intro args q post h
  unfold e20 at h
  split at h
  · split at h
    · rename_i v hv
      simp only [Option.some.injEq, Prod.mk.injEq] at h
      obtain ⟨rfl, rfl⟩ := h
      rw [verOf_some hv]
      exact ⟨⟨_, rfl⟩, fun h => f20_ok _ _ _ h⟩
    · simp at h
  · simp at h
def e21 : Ent
  | [.d (.raw (.string key)), .d (.raw (.string pre)), .d (.raw (.string mark))] => some (key.size ≤ 1048576 ∧ pre.size ≤ 1048576 ∧ mark.size ≤ 1048576, fun r => r = .tup [S (progGroup key pre mark).1, B (progGroup key pre mark).2])
  | _ => none
theorem e21_ok : EntOk Try.prog 21 e21 := by
  intro args q post h
  unfold e21 at h
  split at h
  · simp only [Option.some.injEq, Prod.mk.injEq] at h
    obtain ⟨rfl, rfl⟩ := h
    exact ⟨⟨_, rfl⟩, fun h => f21_ok _ _ _ h.1 h.2.1 h.2.2⟩
  · simp at h
/-- what the program lists: of the objects to come, with the last group, behind some rows -/
def pkeys (pre mark after : ByteArray) (most : Int) : List ObjL → ByteArray → List RowL → List RowL × Bool
  | [], _, rows => (rows, false)
  | o :: os, last, rows =>
    if (!hasPre o.key pre || (strLt o.key after || strEq o.key after) || ((o.vers.length : Int) == 0)) = true then pkeys pre mark after most os last rows
    else if (lastV o).marker = true then pkeys pre mark after most os last rows
    else if (progGroup o.key pre mark).2 = true then
      if (strEq (progGroup o.key pre mark).1 last || (strLt (progGroup o.key pre mark).1 after || strEq (progGroup o.key pre mark).1 after)) = true then pkeys pre mark after most os last rows
      else if (rows.length : Int) = most then (rows, true) else pkeys pre mark after most os (progGroup o.key pre mark).1 (rows ++ [grpRow (progGroup o.key pre mark).1])
    else if (rows.length : Int) = most then (rows, true) else pkeys pre mark after most os last (rows ++ [keyRow o])
theorem f22_ok' (L : List Res) (j i : Nat) (rows : List RowL) (most : Int) (more : Bool) (r : RowL) (hj : L[j]? = some (.box (pageV i rows most more))) (hi : L[i]? = some (.tok 55 44 rows.length)) (hlen : rows.length ≤ 1048576) :
    Ok Try.prog 22 [.ptr j 0 [], .d (dRow r)] L fun r' L' => r' = B (!decide ((rows.length : Int) = most)) ∧ L' = if (rows.length : Int) = most then L.set j (.box (pageV i rows most true)) else (L.set i (.tok 55 44 (rows.length + 1))).set j (.box (pageV i (rows ++ [r]) most more)) := by
  refine (f22_ok L j i rows most more r hj hi hlen).mono fun r' L' h => ?_
  split at h
  · rename_i e; rw [if_pos e, decide_eq_true e]; exact h
  · rename_i e; rw [if_neg e, decide_eq_false e]; exact h
def keysR (b : BucL) (pre mark after : ByteArray) (most : Int) : AV :=
  if most < 1 ∨ most > 100 then .tup [.d (dRows []), B false, I 1] else .tup [.d (dRows (pkeys pre mark after most b.objs nil0 []).1), B (pkeys pre mark after most b.objs nil0 []).2, I 0]

-- list.Keys
theorem f10_ok (b : BucL) (pre mark after : ByteArray) (most : Int) (hb : okBuc b) (hp : pre.size ≤ 1048576) (hm : mark.size ≤ 1048576) : PureOk Try.prog 10 [.d (dBuc b), S pre, S mark, S after, I most] fun r => r = keysR b pre mark after most := by
  refine PureOk_of (fn := Try.f10) (rs := [.tmp 10, .tmp 11, .tmp 12]) (n := 101) (hf := Try.func10) (hn := by kernel_rfl) (hb := rfl) (hr := rfl) (hN := rfl) (hargs := by simp) (ha := by simp [AV.bels, AV.bel]) (hrb := by rintro _ rfl; unfold keysR; split <;> simp [AV.bel, AV.bels]) (h := fun Z0 w0 => ?_)
  simp only [enumA, Nat.zero_add]
  refine Wps_seq ?_
  refine Wps_reg (T := [(19, e19), (20, e20), (21, e21)]) ⟨e19_ok, e20_ok, e21_ok, trivial⟩ [1, 2, 3, 4, 5] rfl (by simp) fun K hK => ?_
  repeat
    (first | refine X0 rfl fun K1 hK1 => ?_ | refine X1 rfl rfl fun K1 hK1 => ?_)
    simp only [↓EP, EQ, implies_true, forall_const, tys, zoks, zeros, Nat.reduceEqDiff, Nat.reduceAdd, Nat.reduceLT, Nat.reduceLeDiff, reduceIte, reduceCtorEq, e19, e20, e21, List.length_map, verOf_map, Int.toNat_natCast, toNat_pred, ↓dBuc_size, ↓dBuc_isAg, ↓dBuc_nav, ↓dBuc_vp, dBuc_fold, ↓dObj_size, ↓dObj_isAg, ↓dObj_nav, ↓dObj_vp, dObj_fold, ↓dVer_size, ↓dVer_isAg, ↓dVer_nav, ↓dVer_vp, dVer_fold, ↓dLock_size, ↓dLock_isAg, ↓dLock_nav, ↓dLock_vp, dLock_fold, ↓dRow_size, ↓dRow_isAg, ↓dRow_nav, ↓dRow_vp, dRow_fold]
    try simp (disch := omega) only [wrap64, wrapU64]
    repeat (first | refine And.intro cl ?_ | intro e)
    refine hK1 _ ?_
    clear hK1 K1
  refine XE ?_
  refine hK _ _ (by simp only [St.keep, keepL, at_cons, at_nil, Nat.reduceEqDiff, reduceIte, eq_self]; rfl) ?_
  clear hK K
  refine Wps_seq ?_
  refine Wps_seq ?_
  refine Wps_reg (T := [(19, e19), (20, e20), (21, e21)]) ⟨e19_ok, e20_ok, e21_ok, trivial⟩ [1, 2, 3, 4, 5, 26] rfl (by simp) fun K hK => ?_
  repeat
    (first | refine X0 rfl fun K1 hK1 => ?_ | refine X1 rfl rfl fun K1 hK1 => ?_)
    simp only [↓EP, EQ, implies_true, forall_const, tys, zoks, zeros, Nat.reduceEqDiff, Nat.reduceAdd, Nat.reduceLT, Nat.reduceLeDiff, reduceIte, reduceCtorEq, e19, e20, e21, List.length_map, verOf_map, Int.toNat_natCast, toNat_pred, ↓dBuc_size, ↓dBuc_isAg, ↓dBuc_nav, ↓dBuc_vp, dBuc_fold, ↓dObj_size, ↓dObj_isAg, ↓dObj_nav, ↓dObj_vp, dObj_fold, ↓dVer_size, ↓dVer_isAg, ↓dVer_nav, ↓dVer_vp, dVer_fold, ↓dLock_size, ↓dLock_isAg, ↓dLock_nav, ↓dLock_vp, dLock_fold, ↓dRow_size, ↓dRow_isAg, ↓dRow_nav, ↓dRow_vp, dRow_fold]
    try simp (disch := omega) only [wrap64, wrapU64]
    repeat (first | refine And.intro cl ?_ | intro e)
    refine hK1 _ ?_
    clear hK1 K1
  refine XE ?_
  refine hK _ _ (by simp only [St.keep, keepL, at_cons, at_nil, Nat.reduceEqDiff, reduceIte, eq_self]; rfl) ?_
  clear hK K
  refine Wps_cond rfl (fun hc1 => ?_) (fun hc1 => ?_)
  · have hr1 := hc1
    try simp only [decide_eq_true_eq, decide_eq_false_iff_not, Bool.not_eq_true', Bool.not_eq_false', Int.not_lt, Int.not_le, ge_iff_le, gt_iff_lt, Bool.or_eq_false_iff, Bool.or_eq_true, Bool.and_eq_true, Bool.and_eq_false_imp, beq_iff_eq, beq_eq_false_iff_ne, ne_eq, bne_iff_ne, bne_eq_false_iff_eq] at hc1
    refine Wps_seq ?_
    refine Wps_reg (T := [(19, e19), (20, e20), (21, e21)]) ⟨e19_ok, e20_ok, e21_ok, trivial⟩ [10, 11, 12] rfl (by simp) fun K hK => ?_
    repeat
      (first | refine X0 rfl fun K1 hK1 => ?_ | refine X1 rfl rfl fun K1 hK1 => ?_)
      simp only [↓EP, EQ, implies_true, forall_const, tys, zoks, zeros, Nat.reduceEqDiff, Nat.reduceAdd, Nat.reduceLT, Nat.reduceLeDiff, reduceIte, reduceCtorEq, e19, e20, e21, List.length_map, verOf_map, Int.toNat_natCast, toNat_pred, ↓dBuc_size, ↓dBuc_isAg, ↓dBuc_nav, ↓dBuc_vp, dBuc_fold, ↓dObj_size, ↓dObj_isAg, ↓dObj_nav, ↓dObj_vp, dObj_fold, ↓dVer_size, ↓dVer_isAg, ↓dVer_nav, ↓dVer_vp, dVer_fold, ↓dLock_size, ↓dLock_isAg, ↓dLock_nav, ↓dLock_vp, dLock_fold, ↓dRow_size, ↓dRow_isAg, ↓dRow_nav, ↓dRow_vp, dRow_fold]
      try simp (disch := omega) only [wrap64, wrapU64]
      repeat (first | refine And.intro cl ?_ | intro e)
      refine hK1 _ ?_
      clear hK1 K1
    refine XE ?_
    refine hK _ _ (by simp only [St.keep, keepL, at_cons, at_nil, Nat.reduceEqDiff, reduceIte, eq_self]; rfl) ?_
    clear hK K
    refine Wps_weak (Wk_slots (l' := [(10, .d (dRows [])), (11, B false), (12, I 1)]) ⟨Imp.nil _, Imp.refl _, Imp.refl _, trivial⟩) ?_ (by simp)
    refine Wps_ret ?_
    try simp only [Wps_nil, thenQ_normal, thenQ_exit, thenQ_ret, blkQ_normal, blkQ_ret, blkQ_if, blkQ_same, scQ_normal, scQ_ret, scQ_exit, Nat.reduceEqDiff, reduceIte, eq_self, reduceCtorEq, if_true, if_false]
    first | refine ret_pureQ rfl ?_ | refine ret_pureN rfl ?_
    simp only [retP, at_cons, at_nil, Nat.reduceEqDiff, reduceIte, eq_self, AV.use, retV, AV.bel, AV.bels, true_and, and_true]
    rw [keysR, if_pos (by omega)]
  · have hr1 := hc1
    try simp only [decide_eq_true_eq, decide_eq_false_iff_not, Bool.not_eq_true', Bool.not_eq_false', Int.not_lt, Int.not_le, ge_iff_le, gt_iff_lt, Bool.or_eq_false_iff, Bool.or_eq_true, Bool.and_eq_true, Bool.and_eq_false_imp, beq_iff_eq, beq_eq_false_iff_ne, ne_eq, bne_iff_ne, bne_eq_false_iff_eq] at hc1
    refine Wps_skip ?_
    refine Wps_seq ?_
    refine Wps_reg (T := [(19, e19), (20, e20), (21, e21)]) ⟨e19_ok, e20_ok, e21_ok, trivial⟩ [1, 2, 3, 5, 13] rfl (by simp) fun K hK => ?_
    repeat
      (first | refine X0 rfl fun K1 hK1 => ?_ | refine X1 rfl rfl fun K1 hK1 => ?_)
      simp only [↓EP, EQ, implies_true, forall_const, tys, zoks, zeros, Nat.reduceEqDiff, Nat.reduceAdd, Nat.reduceLT, Nat.reduceLeDiff, reduceIte, reduceCtorEq, e19, e20, e21, List.length_map, verOf_map, Int.toNat_natCast, toNat_pred, ↓dBuc_size, ↓dBuc_isAg, ↓dBuc_nav, ↓dBuc_vp, dBuc_fold, ↓dObj_size, ↓dObj_isAg, ↓dObj_nav, ↓dObj_vp, dObj_fold, ↓dVer_size, ↓dVer_isAg, ↓dVer_nav, ↓dVer_vp, dVer_fold, ↓dLock_size, ↓dLock_isAg, ↓dLock_nav, ↓dLock_vp, dLock_fold, ↓dRow_size, ↓dRow_isAg, ↓dRow_nav, ↓dRow_vp, dRow_fold]
      try simp (disch := omega) only [wrap64, wrapU64]
      repeat (first | refine And.intro cl ?_ | intro e)
      refine hK1 _ ?_
      clear hK1 K1
    refine XE ?_
    refine hK _ _ (by simp only [St.keep, keepL, at_cons, at_nil, Nat.reduceEqDiff, reduceIte, eq_self]; rfl) ?_
    clear hK K
    refine Wps_weak (Wk_nilbox (j := 1) rfl 55 44) ?_ (by simp)
    simp only [List.length_cons, List.length_nil, List.set_cons_succ, List.set_cons_zero, List.cons_append, List.nil_append, List.map_cons, List.map_nil]
    refine Wps_seq ?_
    refine Wps_reg (T := [(19, e19), (20, e20), (21, e21)]) ⟨e19_ok, e20_ok, e21_ok, trivial⟩ [1, 2, 3, 5, 13, 14] rfl (by simp) fun K hK => ?_
    repeat
      (first | refine X0 rfl fun K1 hK1 => ?_ | refine X1 rfl rfl fun K1 hK1 => ?_)
      simp only [↓EP, EQ, implies_true, forall_const, tys, zoks, zeros, Nat.reduceEqDiff, Nat.reduceAdd, Nat.reduceLT, Nat.reduceLeDiff, reduceIte, reduceCtorEq, e19, e20, e21, List.length_map, verOf_map, Int.toNat_natCast, toNat_pred, ↓dBuc_size, ↓dBuc_isAg, ↓dBuc_nav, ↓dBuc_vp, dBuc_fold, ↓dObj_size, ↓dObj_isAg, ↓dObj_nav, ↓dObj_vp, dObj_fold, ↓dVer_size, ↓dVer_isAg, ↓dVer_nav, ↓dVer_vp, dVer_fold, ↓dLock_size, ↓dLock_isAg, ↓dLock_nav, ↓dLock_vp, dLock_fold, ↓dRow_size, ↓dRow_isAg, ↓dRow_nav, ↓dRow_vp, dRow_fold]
      try simp (disch := omega) only [wrap64, wrapU64]
      repeat (first | refine And.intro cl ?_ | intro e)
      refine hK1 _ ?_
      clear hK1 K1
    refine XE ?_
    refine hK _ _ (by simp only [St.keep, keepL, at_cons, at_nil, Nat.reduceEqDiff, reduceIte, eq_self]; rfl) ?_
    clear hK K
    refine Wps_seq ?_
    refine Wps_seq ?_
    refine Wps_reg (T := [(19, e19), (20, e20), (21, e21)]) ⟨e19_ok, e20_ok, e21_ok, trivial⟩ [1, 2, 3, 13, 14, 31, 32, 33] rfl (by simp) fun K hK => ?_
    repeat
      (first | refine X0 rfl fun K1 hK1 => ?_ | refine X1 rfl rfl fun K1 hK1 => ?_)
      simp only [↓EP, EQ, implies_true, forall_const, tys, zoks, zeros, Nat.reduceEqDiff, Nat.reduceAdd, Nat.reduceLT, Nat.reduceLeDiff, reduceIte, reduceCtorEq, e19, e20, e21, List.length_map, verOf_map, Int.toNat_natCast, toNat_pred, ↓dBuc_size, ↓dBuc_isAg, ↓dBuc_nav, ↓dBuc_vp, dBuc_fold, ↓dObj_size, ↓dObj_isAg, ↓dObj_nav, ↓dObj_vp, dObj_fold, ↓dVer_size, ↓dVer_isAg, ↓dVer_nav, ↓dVer_vp, dVer_fold, ↓dLock_size, ↓dLock_isAg, ↓dLock_nav, ↓dLock_vp, dLock_fold, ↓dRow_size, ↓dRow_isAg, ↓dRow_nav, ↓dRow_vp, dRow_fold]
      try simp (disch := omega) only [wrap64, wrapU64]
      repeat (first | refine And.intro cl ?_ | intro e)
      refine hK1 _ ?_
      clear hK1 K1
    refine XE ?_
    refine hK _ _ (by simp only [St.keep, keepL, at_cons, at_nil, Nat.reduceEqDiff, reduceIte, eq_self]; rfl) ?_
    clear hK K
    refine Wps_block ?_
    -- live at the head: [1, 2, 3, 13, 14, 31, 32, 33]
    refine Wps_loop (fun n_ st_ => ∃ (i : Nat), ∃ (last : ByteArray), ∃ (rows : List RowL), n_ = b.objs.length - i ∧ (i ≤ b.objs.length) ∧ ((rows.length : Int) ≤ most) ∧ (pkeys pre mark after most b.objs nil0 [] = pkeys pre mark after most (b.objs.drop i) last rows) ∧ st_ = ⟨[(1, S pre), (2, S mark), (3, S after), (13, .ptr 1 0 []), (14, S last), (31, .d (.sl 2 (b.objs.map dObj))), (32, I (b.objs.length : Int)), (33, I i)], [.box (.d (dBuc b)), .box (pageV 2 rows most false), .tok 55 44 rows.length]⟩) _ ⟨0, nil0, [], rfl, (by simp), (by simp; omega), rfl, rfl⟩ (Wk.refl _) fun n_ st_ hI => ?_
    obtain ⟨i, last, rows, rfl, hi0, hi1, hi2, rfl⟩ := hI
    refine Wps_seq ?_
    refine Wps_reg (T := [(19, e19), (20, e20), (21, e21)]) ⟨e19_ok, e20_ok, e21_ok, trivial⟩ [1, 2, 3, 13, 14, 31, 32, 33, 34] rfl (by simp) fun K hK => ?_
    repeat
      (first | refine X0 rfl fun K1 hK1 => ?_ | refine X1 rfl rfl fun K1 hK1 => ?_)
      simp only [↓EP, EQ, implies_true, forall_const, tys, zoks, zeros, Nat.reduceEqDiff, Nat.reduceAdd, Nat.reduceLT, Nat.reduceLeDiff, reduceIte, reduceCtorEq, e19, e20, e21, List.length_map, verOf_map, Int.toNat_natCast, toNat_pred, ↓dBuc_size, ↓dBuc_isAg, ↓dBuc_nav, ↓dBuc_vp, dBuc_fold, ↓dObj_size, ↓dObj_isAg, ↓dObj_nav, ↓dObj_vp, dObj_fold, ↓dVer_size, ↓dVer_isAg, ↓dVer_nav, ↓dVer_vp, dVer_fold, ↓dLock_size, ↓dLock_isAg, ↓dLock_nav, ↓dLock_vp, dLock_fold, ↓dRow_size, ↓dRow_isAg, ↓dRow_nav, ↓dRow_vp, dRow_fold]
      try simp (disch := omega) only [wrap64, wrapU64]
      repeat (first | refine And.intro cl ?_ | intro e)
      refine hK1 _ ?_
      clear hK1 K1
    refine XE ?_
    refine hK _ _ (by simp only [St.keep, keepL, at_cons, at_nil, Nat.reduceEqDiff, reduceIte, eq_self]; rfl) ?_
    clear hK K
    refine Wps_seq ?_
    refine Wps_cond rfl (fun hc2 => ?_) (fun hc2 => ?_)
    · have hr2 := hc2
      try simp only [decide_eq_true_eq, decide_eq_false_iff_not, Bool.not_eq_true', Bool.not_eq_false', Int.not_lt, Int.not_le, ge_iff_le, gt_iff_lt, Bool.or_eq_false_iff, Bool.or_eq_true, Bool.and_eq_true, Bool.and_eq_false_imp, beq_iff_eq, beq_eq_false_iff_ne, ne_eq, bne_iff_ne, bne_eq_false_iff_eq] at hc2
      refine Wps_skip ?_
      refine Wps_seq ?_
      refine Wps_block ?_
      refine Wps_seq ?_
      have hi : i < b.objs.length := by omega
      have ho := okL_get hb.2.2.2.1 hi
      refine Wps_reg (T := [(19, e19), (20, e20), (21, e21)]) ⟨e19_ok, e20_ok, e21_ok, trivial⟩ [1, 2, 3, 13, 14, 16, 31, 32, 33] rfl (by simp) fun K hK => ?_
      repeat
        (first | refine X0 rfl fun K1 hK1 => ?_ | refine X1 rfl rfl fun K1 hK1 => ?_)
        simp only [↓EP, EQ, implies_true, forall_const, tys, zoks, zeros, Nat.reduceEqDiff, Nat.reduceAdd, Nat.reduceLT, Nat.reduceLeDiff, reduceIte, reduceCtorEq, e19, e20, e21, List.length_map, verOf_map, Int.toNat_natCast, toNat_pred, ↓dBuc_size, ↓dBuc_isAg, ↓dBuc_nav, ↓dBuc_vp, dBuc_fold, ↓dObj_size, ↓dObj_isAg, ↓dObj_nav, ↓dObj_vp, dObj_fold, ↓dVer_size, ↓dVer_isAg, ↓dVer_nav, ↓dVer_vp, dVer_fold, ↓dLock_size, ↓dLock_isAg, ↓dLock_nav, ↓dLock_vp, dLock_fold, ↓dRow_size, ↓dRow_isAg, ↓dRow_nav, ↓dRow_vp, dRow_fold, getD_map_lt hi]
        try simp (disch := omega) only [wrap64, wrapU64]
        repeat (first | refine And.intro cl ?_ | intro e)
        refine hK1 _ ?_
        clear hK1 K1
      refine XE ?_
      refine hK _ _ (by simp only [St.keep, keepL, at_cons, at_nil, Nat.reduceEqDiff, reduceIte, eq_self]; rfl) ?_
      clear hK K
      refine Wps_seq ?_
      refine Wps_seq ?_
      refine Wps_reg (T := [(19, e19), (20, e20), (21, e21)]) ⟨e19_ok, e20_ok, e21_ok, trivial⟩ [1, 2, 3, 13, 14, 16, 31, 32, 33, 53] rfl (by simp) fun K hK => ?_
      repeat
        (first | refine X0 rfl fun K1 hK1 => ?_ | refine X1 rfl rfl fun K1 hK1 => ?_)
        simp only [↓EP, EQ, implies_true, forall_const, tys, zoks, zeros, Nat.reduceEqDiff, Nat.reduceAdd, Nat.reduceLT, Nat.reduceLeDiff, reduceIte, reduceCtorEq, e19, e20, e21, List.length_map, verOf_map, Int.toNat_natCast, toNat_pred, ↓dBuc_size, ↓dBuc_isAg, ↓dBuc_nav, ↓dBuc_vp, dBuc_fold, ↓dObj_size, ↓dObj_isAg, ↓dObj_nav, ↓dObj_vp, dObj_fold, ↓dVer_size, ↓dVer_isAg, ↓dVer_nav, ↓dVer_vp, dVer_fold, ↓dLock_size, ↓dLock_isAg, ↓dLock_nav, ↓dLock_vp, dLock_fold, ↓dRow_size, ↓dRow_isAg, ↓dRow_nav, ↓dRow_vp, dRow_fold]
        try simp (disch := omega) only [wrap64, wrapU64]
        repeat (first | refine And.intro cl ?_ | intro e)
        refine hK1 _ ?_
        clear hK1 K1
      refine XE ?_
      refine hK _ _ (by simp only [St.keep, keepL, at_cons, at_nil, Nat.reduceEqDiff, reduceIte, eq_self]; rfl) ?_
      clear hK K
      refine Wps_cond rfl (fun hc3 => ?_) (fun hc3 => ?_)
      · have hr3 := hc3
        try simp only [decide_eq_true_eq, decide_eq_false_iff_not, Bool.not_eq_true', Bool.not_eq_false', Int.not_lt, Int.not_le, ge_iff_le, gt_iff_lt, Bool.or_eq_false_iff, Bool.or_eq_true, Bool.and_eq_true, Bool.and_eq_false_imp, beq_iff_eq, beq_eq_false_iff_ne, ne_eq, bne_iff_ne, bne_eq_false_iff_eq] at hc3
        refine Wps_exit ?_
        simp only [Wps_nil, thenQ_normal, thenQ_exit, thenQ_ret, blkQ_normal, blkQ_ret, blkQ_if, blkQ_same, scQ_normal, scQ_ret, scQ_exit, Nat.reduceEqDiff, reduceIte, eq_self, reduceCtorEq, if_true, if_false]
        refine Wps_regionX' (T := [(19, e19), (20, e20), (21, e21)]) ⟨e19_ok, e20_ok, e21_ok, trivial⟩ rfl fun K hK => ?_
        repeat
          (first | refine X0 rfl fun K1 hK1 => ?_ | refine X1 rfl rfl fun K1 hK1 => ?_)
          simp only [↓EP, EQ, implies_true, forall_const, tys, zoks, zeros, Nat.reduceEqDiff, Nat.reduceAdd, Nat.reduceLT, Nat.reduceLeDiff, reduceIte, reduceCtorEq, e19, e20, e21, List.length_map, verOf_map, Int.toNat_natCast, toNat_pred, ↓dBuc_size, ↓dBuc_isAg, ↓dBuc_nav, ↓dBuc_vp, dBuc_fold, ↓dObj_size, ↓dObj_isAg, ↓dObj_nav, ↓dObj_vp, dObj_fold, ↓dVer_size, ↓dVer_isAg, ↓dVer_nav, ↓dVer_vp, dVer_fold, ↓dLock_size, ↓dLock_isAg, ↓dLock_nav, ↓dLock_vp, dLock_fold, ↓dRow_size, ↓dRow_isAg, ↓dRow_nav, ↓dRow_vp, dRow_fold]
          try simp (disch := omega) only [wrap64, wrapU64]
          repeat (first | refine And.intro cl ?_ | intro e)
          refine hK1 _ ?_
          clear hK1 K1
        refine XE ?_
        refine hK _ ?_
        clear hK K
        simp only [Wps_nil, thenQ_normal, thenQ_exit, thenQ_ret, blkQ_normal, blkQ_ret, blkQ_if, blkQ_same, scQ_normal, scQ_ret, scQ_exit, Nat.reduceEqDiff, reduceIte, eq_self, reduceCtorEq, if_true, if_false]
        refine ⟨_, _, ?h1, ⟨i + 1, last, rows, rfl, (by omega), hi1, (by rw [hi2, drop_getD hi, pkeys, if_pos hr3]), ?h2⟩, Wk_cut (L' := [.box (.d (dBuc b)), .box (pageV 2 rows most false), .tok 55 44 rows.length]) rfl [1, 2, 3, 13, 14, 31, 32, 33] rfl (by simp [belS, keepL, at_cons, at_nil, AV.bel, AV.bels]) (by simp [BelL, Res.bel, AV.bel, AV.bels]) (by simp) rfl⟩
        case h2 =>
          simp only [St.keep, keepL, at_cons, at_nil, Nat.reduceEqDiff, reduceIte, eq_self]
          first | rfl | (apply St_eq <;> first | rfl | (simp; done)) | (rw [wrapS (i := i) (by omega)]; first | rfl | (apply St_eq <;> first | rfl | (simp; done)))
        case h1 => omega
      · have hr3 := hc3
        try simp only [decide_eq_true_eq, decide_eq_false_iff_not, Bool.not_eq_true', Bool.not_eq_false', Int.not_lt, Int.not_le, ge_iff_le, gt_iff_lt, Bool.or_eq_false_iff, Bool.or_eq_true, Bool.and_eq_true, Bool.and_eq_false_imp, beq_iff_eq, beq_eq_false_iff_ne, ne_eq, bne_iff_ne, bne_eq_false_iff_eq] at hc3
        refine Wps_skip ?_
        refine Wps_seq ?_
        have hv : (b.objs.getD i default).vers.length - 1 < (b.objs.getD i default).vers.length := by omega
        have hw := okL_get ho.2 hv
        refine Wps_reg (T := [(19, e19), (20, e20), (21, e21)]) ⟨e19_ok, e20_ok, e21_ok, trivial⟩ [1, 2, 3, 13, 14, 16, 17, 31, 32, 33] rfl (by simp) fun K hK => ?_
        repeat
          (first | refine X0 rfl fun K1 hK1 => ?_ | refine X1 rfl rfl fun K1 hK1 => ?_)
          simp only [↓EP, EQ, implies_true, forall_const, tys, zoks, zeros, Nat.reduceEqDiff, Nat.reduceAdd, Nat.reduceLT, Nat.reduceLeDiff, reduceIte, reduceCtorEq, e19, e20, e21, List.length_map, verOf_map, Int.toNat_natCast, toNat_pred, ↓dBuc_size, ↓dBuc_isAg, ↓dBuc_nav, ↓dBuc_vp, dBuc_fold, ↓dObj_size, ↓dObj_isAg, ↓dObj_nav, ↓dObj_vp, dObj_fold, ↓dVer_size, ↓dVer_isAg, ↓dVer_nav, ↓dVer_vp, dVer_fold, ↓dLock_size, ↓dLock_isAg, ↓dLock_nav, ↓dLock_vp, dLock_fold, ↓dRow_size, ↓dRow_isAg, ↓dRow_nav, ↓dRow_vp, dRow_fold, getD_map_lt hv]
          try simp (disch := omega) only [wrap64, wrapU64]
          repeat (first | refine And.intro cl ?_ | intro e)
          refine hK1 _ ?_
          clear hK1 K1
        refine XE ?_
        refine hK _ _ (by simp only [St.keep, keepL, at_cons, at_nil, Nat.reduceEqDiff, reduceIte, eq_self]; rfl) ?_
        clear hK K
        refine Wps_seq ?_
        refine Wps_seq ?_
        refine Wps_reg (T := [(19, e19), (20, e20), (21, e21)]) ⟨e19_ok, e20_ok, e21_ok, trivial⟩ [1, 2, 3, 13, 14, 16, 17, 31, 32, 33, 63] rfl (by simp) fun K hK => ?_
        repeat
          (first | refine X0 rfl fun K1 hK1 => ?_ | refine X1 rfl rfl fun K1 hK1 => ?_)
          simp only [↓EP, EQ, implies_true, forall_const, tys, zoks, zeros, Nat.reduceEqDiff, Nat.reduceAdd, Nat.reduceLT, Nat.reduceLeDiff, reduceIte, reduceCtorEq, e19, e20, e21, List.length_map, verOf_map, Int.toNat_natCast, toNat_pred, ↓dBuc_size, ↓dBuc_isAg, ↓dBuc_nav, ↓dBuc_vp, dBuc_fold, ↓dObj_size, ↓dObj_isAg, ↓dObj_nav, ↓dObj_vp, dObj_fold, ↓dVer_size, ↓dVer_isAg, ↓dVer_nav, ↓dVer_vp, dVer_fold, ↓dLock_size, ↓dLock_isAg, ↓dLock_nav, ↓dLock_vp, dLock_fold, ↓dRow_size, ↓dRow_isAg, ↓dRow_nav, ↓dRow_vp, dRow_fold]
          try simp (disch := omega) only [wrap64, wrapU64]
          repeat (first | refine And.intro cl ?_ | intro e)
          refine hK1 _ ?_
          clear hK1 K1
        refine XE ?_
        refine hK _ _ (by simp only [St.keep, keepL, at_cons, at_nil, Nat.reduceEqDiff, reduceIte, eq_self]; rfl) ?_
        clear hK K
        refine Wps_cond rfl (fun hc4 => ?_) (fun hc4 => ?_)
        · have hr4 := hc4
          try simp only [decide_eq_true_eq, decide_eq_false_iff_not, Bool.not_eq_true', Bool.not_eq_false', Int.not_lt, Int.not_le, ge_iff_le, gt_iff_lt, Bool.or_eq_false_iff, Bool.or_eq_true, Bool.and_eq_true, Bool.and_eq_false_imp, beq_iff_eq, beq_eq_false_iff_ne, ne_eq, bne_iff_ne, bne_eq_false_iff_eq] at hc4
          refine Wps_exit ?_
          simp only [Wps_nil, thenQ_normal, thenQ_exit, thenQ_ret, blkQ_normal, blkQ_ret, blkQ_if, blkQ_same, scQ_normal, scQ_ret, scQ_exit, Nat.reduceEqDiff, reduceIte, eq_self, reduceCtorEq, if_true, if_false]
          refine Wps_regionX' (T := [(19, e19), (20, e20), (21, e21)]) ⟨e19_ok, e20_ok, e21_ok, trivial⟩ rfl fun K hK => ?_
          repeat
            (first | refine X0 rfl fun K1 hK1 => ?_ | refine X1 rfl rfl fun K1 hK1 => ?_)
            simp only [↓EP, EQ, implies_true, forall_const, tys, zoks, zeros, Nat.reduceEqDiff, Nat.reduceAdd, Nat.reduceLT, Nat.reduceLeDiff, reduceIte, reduceCtorEq, e19, e20, e21, List.length_map, verOf_map, Int.toNat_natCast, toNat_pred, ↓dBuc_size, ↓dBuc_isAg, ↓dBuc_nav, ↓dBuc_vp, dBuc_fold, ↓dObj_size, ↓dObj_isAg, ↓dObj_nav, ↓dObj_vp, dObj_fold, ↓dVer_size, ↓dVer_isAg, ↓dVer_nav, ↓dVer_vp, dVer_fold, ↓dLock_size, ↓dLock_isAg, ↓dLock_nav, ↓dLock_vp, dLock_fold, ↓dRow_size, ↓dRow_isAg, ↓dRow_nav, ↓dRow_vp, dRow_fold]
            try simp (disch := omega) only [wrap64, wrapU64]
            repeat (first | refine And.intro cl ?_ | intro e)
            refine hK1 _ ?_
            clear hK1 K1
          refine XE ?_
          refine hK _ ?_
          clear hK K
          simp only [Wps_nil, thenQ_normal, thenQ_exit, thenQ_ret, blkQ_normal, blkQ_ret, blkQ_if, blkQ_same, scQ_normal, scQ_ret, scQ_exit, Nat.reduceEqDiff, reduceIte, eq_self, reduceCtorEq, if_true, if_false]
          refine ⟨_, _, ?h1, ⟨i + 1, last, rows, rfl, (by omega), hi1, (by rw [hi2, drop_getD hi, pkeys, if_neg (Bool.eq_false_iff.1 hr3), if_pos hr4]), ?h2⟩, Wk_cut (L' := [.box (.d (dBuc b)), .box (pageV 2 rows most false), .tok 55 44 rows.length]) rfl [1, 2, 3, 13, 14, 31, 32, 33] rfl (by simp [belS, keepL, at_cons, at_nil, AV.bel, AV.bels]) (by simp [BelL, Res.bel, AV.bel, AV.bels]) (by simp) rfl⟩
          case h2 =>
            simp only [St.keep, keepL, at_cons, at_nil, Nat.reduceEqDiff, reduceIte, eq_self]
            first | rfl | (apply St_eq <;> first | rfl | (simp; done)) | (rw [wrapS (i := i) (by omega)]; first | rfl | (apply St_eq <;> first | rfl | (simp; done)))
          case h1 => omega
        · have hr4 := hc4
          try simp only [decide_eq_true_eq, decide_eq_false_iff_not, Bool.not_eq_true', Bool.not_eq_false', Int.not_lt, Int.not_le, ge_iff_le, gt_iff_lt, Bool.or_eq_false_iff, Bool.or_eq_true, Bool.and_eq_true, Bool.and_eq_false_imp, beq_iff_eq, beq_eq_false_iff_ne, ne_eq, bne_iff_ne, bne_eq_false_iff_eq] at hc4
          refine Wps_skip ?_
          refine Wps_seq ?_
          refine Wps_reg (T := [(19, e19), (20, e20), (21, e21)]) ⟨e19_ok, e20_ok, e21_ok, trivial⟩ [1, 2, 3, 13, 14, 16, 18, 31, 32, 33] rfl (by simp) fun K hK => ?_
          repeat
            (first | refine X0 rfl fun K1 hK1 => ?_ | refine X1 rfl rfl fun K1 hK1 => ?_)
            simp only [↓EP, EQ, implies_true, forall_const, tys, zoks, zeros, Nat.reduceEqDiff, Nat.reduceAdd, Nat.reduceLT, Nat.reduceLeDiff, reduceIte, reduceCtorEq, e19, e20, e21, List.length_map, verOf_map, Int.toNat_natCast, toNat_pred, ↓dBuc_size, ↓dBuc_isAg, ↓dBuc_nav, ↓dBuc_vp, dBuc_fold, ↓dObj_size, ↓dObj_isAg, ↓dObj_nav, ↓dObj_vp, dObj_fold, ↓dVer_size, ↓dVer_isAg, ↓dVer_nav, ↓dVer_vp, dVer_fold, ↓dLock_size, ↓dLock_isAg, ↓dLock_nav, ↓dLock_vp, dLock_fold, ↓dRow_size, ↓dRow_isAg, ↓dRow_nav, ↓dRow_vp, dRow_fold]
            try simp (disch := omega) only [wrap64, wrapU64]
            repeat (first | refine And.intro cl ?_ | intro e)
            refine hK1 _ ?_
            clear hK1 K1
          refine XE ?_
          refine hK _ _ (by simp only [St.keep, keepL, at_cons, at_nil, Nat.reduceEqDiff, reduceIte, eq_self]; rfl) ?_
          clear hK K
          refine Wps_seq ?_
          refine Wps_seq ?_
          refine Wps_reg (T := [(19, e19), (20, e20), (21, e21)]) ⟨e19_ok, e20_ok, e21_ok, trivial⟩ [1, 2, 3, 13, 14, 18, 19, 20, 31, 32, 33] rfl (by simp) fun K hK => ?_
          repeat
            (first | refine X0 rfl fun K1 hK1 => ?_ | refine X1 rfl rfl fun K1 hK1 => ?_)
            simp only [↓EP, EQ, implies_true, forall_const, tys, zoks, zeros, Nat.reduceEqDiff, Nat.reduceAdd, Nat.reduceLT, Nat.reduceLeDiff, reduceIte, reduceCtorEq, e19, e20, e21, List.length_map, verOf_map, Int.toNat_natCast, toNat_pred, ↓dBuc_size, ↓dBuc_isAg, ↓dBuc_nav, ↓dBuc_vp, dBuc_fold, ↓dObj_size, ↓dObj_isAg, ↓dObj_nav, ↓dObj_vp, dObj_fold, ↓dVer_size, ↓dVer_isAg, ↓dVer_nav, ↓dVer_vp, dVer_fold, ↓dLock_size, ↓dLock_isAg, ↓dLock_nav, ↓dLock_vp, dLock_fold, ↓dRow_size, ↓dRow_isAg, ↓dRow_nav, ↓dRow_vp, dRow_fold]
            try simp (disch := omega) only [wrap64, wrapU64]
            repeat (first | refine And.intro cl ?_ | intro e)
            refine hK1 _ ?_
            clear hK1 K1
          refine XE ?_
          refine hK _ _ (by simp only [St.keep, keepL, at_cons, at_nil, Nat.reduceEqDiff, reduceIte, eq_self]; rfl) ?_
          clear hK K
          refine Wps_seq ?_
          refine Wps_reg (T := [(19, e19), (20, e20), (21, e21)]) ⟨e19_ok, e20_ok, e21_ok, trivial⟩ [1, 2, 3, 13, 14, 18, 19, 31, 32, 33, 76] rfl (by simp) fun K hK => ?_
          repeat
            (first | refine X0 rfl fun K1 hK1 => ?_ | refine X1 rfl rfl fun K1 hK1 => ?_)
            simp only [↓EP, EQ, implies_true, forall_const, tys, zoks, zeros, Nat.reduceEqDiff, Nat.reduceAdd, Nat.reduceLT, Nat.reduceLeDiff, reduceIte, reduceCtorEq, e19, e20, e21, List.length_map, verOf_map, Int.toNat_natCast, toNat_pred, ↓dBuc_size, ↓dBuc_isAg, ↓dBuc_nav, ↓dBuc_vp, dBuc_fold, ↓dObj_size, ↓dObj_isAg, ↓dObj_nav, ↓dObj_vp, dObj_fold, ↓dVer_size, ↓dVer_isAg, ↓dVer_nav, ↓dVer_vp, dVer_fold, ↓dLock_size, ↓dLock_isAg, ↓dLock_nav, ↓dLock_vp, dLock_fold, ↓dRow_size, ↓dRow_isAg, ↓dRow_nav, ↓dRow_vp, dRow_fold]
            try simp (disch := omega) only [wrap64, wrapU64]
            repeat (first | refine And.intro cl ?_ | intro e)
            refine hK1 _ ?_
            clear hK1 K1
          refine XE ?_
          refine hK _ _ (by simp only [St.keep, keepL, at_cons, at_nil, Nat.reduceEqDiff, reduceIte, eq_self]; rfl) ?_
          clear hK K
          refine Wps_cond rfl (fun hc5 => ?_) (fun hc5 => ?_)
          · have hr5 := hc5
            try simp only [decide_eq_true_eq, decide_eq_false_iff_not, Bool.not_eq_true', Bool.not_eq_false', Int.not_lt, Int.not_le, ge_iff_le, gt_iff_lt, Bool.or_eq_false_iff, Bool.or_eq_true, Bool.and_eq_true, Bool.and_eq_false_imp, beq_iff_eq, beq_eq_false_iff_ne, ne_eq, bne_iff_ne, bne_eq_false_iff_eq] at hc5
            refine Wps_seq ?_
            refine Wps_seq ?_
            refine Wps_reg (T := [(19, e19), (20, e20), (21, e21)]) ⟨e19_ok, e20_ok, e21_ok, trivial⟩ [1, 2, 3, 13, 14, 18, 19, 31, 32, 33, 84] rfl (by simp) fun K hK => ?_
            repeat
              (first | refine X0 rfl fun K1 hK1 => ?_ | refine X1 rfl rfl fun K1 hK1 => ?_)
              simp only [↓EP, EQ, implies_true, forall_const, tys, zoks, zeros, Nat.reduceEqDiff, Nat.reduceAdd, Nat.reduceLT, Nat.reduceLeDiff, reduceIte, reduceCtorEq, e19, e20, e21, List.length_map, verOf_map, Int.toNat_natCast, toNat_pred, ↓dBuc_size, ↓dBuc_isAg, ↓dBuc_nav, ↓dBuc_vp, dBuc_fold, ↓dObj_size, ↓dObj_isAg, ↓dObj_nav, ↓dObj_vp, dObj_fold, ↓dVer_size, ↓dVer_isAg, ↓dVer_nav, ↓dVer_vp, dVer_fold, ↓dLock_size, ↓dLock_isAg, ↓dLock_nav, ↓dLock_vp, dLock_fold, ↓dRow_size, ↓dRow_isAg, ↓dRow_nav, ↓dRow_vp, dRow_fold]
              try simp (disch := omega) only [wrap64, wrapU64]
              repeat (first | refine And.intro cl ?_ | intro e)
              refine hK1 _ ?_
              clear hK1 K1
            refine XE ?_
            refine hK _ _ (by simp only [St.keep, keepL, at_cons, at_nil, Nat.reduceEqDiff, reduceIte, eq_self]; rfl) ?_
            clear hK K
            refine Wps_cond rfl (fun hc6 => ?_) (fun hc6 => ?_)
            · have hr6 := hc6
              try simp only [decide_eq_true_eq, decide_eq_false_iff_not, Bool.not_eq_true', Bool.not_eq_false', Int.not_lt, Int.not_le, ge_iff_le, gt_iff_lt, Bool.or_eq_false_iff, Bool.or_eq_true, Bool.and_eq_true, Bool.and_eq_false_imp, beq_iff_eq, beq_eq_false_iff_ne, ne_eq, bne_iff_ne, bne_eq_false_iff_eq] at hc6
              refine Wps_exit ?_
              simp only [Wps_nil, thenQ_normal, thenQ_exit, thenQ_ret, blkQ_normal, blkQ_ret, blkQ_if, blkQ_same, scQ_normal, scQ_ret, scQ_exit, Nat.reduceEqDiff, reduceIte, eq_self, reduceCtorEq, if_true, if_false]
              refine Wps_regionX' (T := [(19, e19), (20, e20), (21, e21)]) ⟨e19_ok, e20_ok, e21_ok, trivial⟩ rfl fun K hK => ?_
              repeat
                (first | refine X0 rfl fun K1 hK1 => ?_ | refine X1 rfl rfl fun K1 hK1 => ?_)
                simp only [↓EP, EQ, implies_true, forall_const, tys, zoks, zeros, Nat.reduceEqDiff, Nat.reduceAdd, Nat.reduceLT, Nat.reduceLeDiff, reduceIte, reduceCtorEq, e19, e20, e21, List.length_map, verOf_map, Int.toNat_natCast, toNat_pred, ↓dBuc_size, ↓dBuc_isAg, ↓dBuc_nav, ↓dBuc_vp, dBuc_fold, ↓dObj_size, ↓dObj_isAg, ↓dObj_nav, ↓dObj_vp, dObj_fold, ↓dVer_size, ↓dVer_isAg, ↓dVer_nav, ↓dVer_vp, dVer_fold, ↓dLock_size, ↓dLock_isAg, ↓dLock_nav, ↓dLock_vp, dLock_fold, ↓dRow_size, ↓dRow_isAg, ↓dRow_nav, ↓dRow_vp, dRow_fold]
                try simp (disch := omega) only [wrap64, wrapU64]
                repeat (first | refine And.intro cl ?_ | intro e)
                refine hK1 _ ?_
                clear hK1 K1
              refine XE ?_
              refine hK _ ?_
              clear hK K
              simp only [Wps_nil, thenQ_normal, thenQ_exit, thenQ_ret, blkQ_normal, blkQ_ret, blkQ_if, blkQ_same, scQ_normal, scQ_ret, scQ_exit, Nat.reduceEqDiff, reduceIte, eq_self, reduceCtorEq, if_true, if_false]
              refine ⟨_, _, ?h1, ⟨i + 1, last, rows, rfl, (by omega), hi1, (by rw [hi2, drop_getD hi, pkeys, if_neg (Bool.eq_false_iff.1 hr3), if_neg (Bool.eq_false_iff.1 hr4), if_pos hr5, if_pos hr6]), ?h2⟩, Wk_cut (L' := [.box (.d (dBuc b)), .box (pageV 2 rows most false), .tok 55 44 rows.length]) rfl [1, 2, 3, 13, 14, 31, 32, 33] rfl (by simp [belS, keepL, at_cons, at_nil, AV.bel, AV.bels]) (by simp [BelL, Res.bel, AV.bel, AV.bels]) (by simp) rfl⟩
              case h2 =>
                simp only [St.keep, keepL, at_cons, at_nil, Nat.reduceEqDiff, reduceIte, eq_self]
                first | rfl | (apply St_eq <;> first | rfl | (simp; done)) | (rw [wrapS (i := i) (by omega)]; first | rfl | (apply St_eq <;> first | rfl | (simp; done)))
              case h1 => omega
            · have hr6 := hc6
              try simp only [decide_eq_true_eq, decide_eq_false_iff_not, Bool.not_eq_true', Bool.not_eq_false', Int.not_lt, Int.not_le, ge_iff_le, gt_iff_lt, Bool.or_eq_false_iff, Bool.or_eq_true, Bool.and_eq_true, Bool.and_eq_false_imp, beq_iff_eq, beq_eq_false_iff_ne, ne_eq, bne_iff_ne, bne_eq_false_iff_eq] at hc6
              refine Wps_skip ?_
              refine Wps_seq ?_
              refine Wps_reg (T := [(19, e19), (20, e20), (21, e21)]) ⟨e19_ok, e20_ok, e21_ok, trivial⟩ [1, 2, 3, 13, 14, 18, 19, 31, 32, 33] rfl (by simp) fun K hK => ?_
              repeat
                (first | refine X0 rfl fun K1 hK1 => ?_ | refine X1 rfl rfl fun K1 hK1 => ?_)
                simp only [↓EP, EQ, implies_true, forall_const, tys, zoks, zeros, Nat.reduceEqDiff, Nat.reduceAdd, Nat.reduceLT, Nat.reduceLeDiff, reduceIte, reduceCtorEq, e19, e20, e21, List.length_map, verOf_map, Int.toNat_natCast, toNat_pred, ↓dBuc_size, ↓dBuc_isAg, ↓dBuc_nav, ↓dBuc_vp, dBuc_fold, ↓dObj_size, ↓dObj_isAg, ↓dObj_nav, ↓dObj_vp, dObj_fold, ↓dVer_size, ↓dVer_isAg, ↓dVer_nav, ↓dVer_vp, dVer_fold, ↓dLock_size, ↓dLock_isAg, ↓dLock_nav, ↓dLock_vp, dLock_fold, ↓dRow_size, ↓dRow_isAg, ↓dRow_nav, ↓dRow_vp, dRow_fold]
                try simp (disch := omega) only [wrap64, wrapU64]
                repeat (first | refine And.intro cl ?_ | intro e)
                refine hK1 _ ?_
                clear hK1 K1
              refine XE ?_
              refine hK _ _ (by simp only [St.keep, keepL, at_cons, at_nil, Nat.reduceEqDiff, reduceIte, eq_self]; rfl) ?_
              clear hK K
              refine Wps_reg (T := [(19, e19), (20, e20), (21, e21)]) ⟨e19_ok, e20_ok, e21_ok, trivial⟩ [1, 2, 3, 13, 14, 18, 31, 32, 33] rfl (by simp) fun K hK => ?_
              repeat
                (first | refine X0 rfl fun K1 hK1 => ?_ | refine X1 rfl rfl fun K1 hK1 => ?_)
                simp only [↓EP, EQ, implies_true, forall_const, tys, zoks, zeros, Nat.reduceEqDiff, Nat.reduceAdd, Nat.reduceLT, Nat.reduceLeDiff, reduceIte, reduceCtorEq, e19, e20, e21, List.length_map, verOf_map, Int.toNat_natCast, toNat_pred, ↓dBuc_size, ↓dBuc_isAg, ↓dBuc_nav, ↓dBuc_vp, dBuc_fold, ↓dObj_size, ↓dObj_isAg, ↓dObj_nav, ↓dObj_vp, dObj_fold, ↓dVer_size, ↓dVer_isAg, ↓dVer_nav, ↓dVer_vp, dVer_fold, ↓dLock_size, ↓dLock_isAg, ↓dLock_nav, ↓dLock_vp, dLock_fold, ↓dRow_size, ↓dRow_isAg, ↓dRow_nav, ↓dRow_vp, dRow_fold]
                try simp (disch := omega) only [wrap64, wrapU64]
                repeat (first | refine And.intro cl ?_ | intro e)
                refine hK1 _ ?_
                clear hK1 K1
              refine XE ?_
              refine hK _ _ (by simp only [St.keep, keepL, at_cons, at_nil, Nat.reduceEqDiff, reduceIte, eq_self]; rfl) ?_
              clear hK K
              refine Wps_weak (Wk_rebox (j := 5) rfl (y := dRow (grpRow (progGroup (b.objs.getD i default).key pre mark).1)) (dimp_grp _)) ?_ (by simp)
              simp only [List.set_cons_succ, List.set_cons_zero]
              refine Wps_seq ?_
              refine Wps_reg (T := [(19, e19), (20, e20), (21, e21)]) ⟨e19_ok, e20_ok, e21_ok, trivial⟩ [1, 2, 3, 13, 14, 31, 32, 33, 91] rfl (by simp) fun K hK => ?_
              repeat
                (first | refine X0 rfl fun K1 hK1 => ?_ | refine X1 rfl rfl fun K1 hK1 => ?_)
                simp only [↓EP, EQ, implies_true, forall_const, tys, zoks, zeros, Nat.reduceEqDiff, Nat.reduceAdd, Nat.reduceLT, Nat.reduceLeDiff, reduceIte, reduceCtorEq, e19, e20, e21, List.length_map, verOf_map, Int.toNat_natCast, toNat_pred, ↓dBuc_size, ↓dBuc_isAg, ↓dBuc_nav, ↓dBuc_vp, dBuc_fold, ↓dObj_size, ↓dObj_isAg, ↓dObj_nav, ↓dObj_vp, dObj_fold, ↓dVer_size, ↓dVer_isAg, ↓dVer_nav, ↓dVer_vp, dVer_fold, ↓dLock_size, ↓dLock_isAg, ↓dLock_nav, ↓dLock_vp, dLock_fold, ↓dRow_size, ↓dRow_isAg, ↓dRow_nav, ↓dRow_vp, dRow_fold]
                try simp (disch := omega) only [wrap64, wrapU64]
                try (refine (f22_ok' _ 1 2 rows most false _ rfl rfl (by omega)).mono ?_; rintro r' L' ⟨rfl, rfl⟩)
                repeat (first | refine And.intro cl ?_ | intro e)
                refine hK1 _ ?_
                clear hK1 K1
              refine XE ?_
              refine hK _ _ (by simp only [St.keep, keepL, at_cons, at_nil, Nat.reduceEqDiff, reduceIte, eq_self]; rfl) ?_
              clear hK K
              refine Wps_cond rfl (fun hc7 => ?_) (fun hc7 => ?_)
              · have hr7 := hc7
                try simp only [decide_eq_true_eq, decide_eq_false_iff_not, Bool.not_eq_true', Bool.not_eq_false', Int.not_lt, Int.not_le, ge_iff_le, gt_iff_lt, Bool.or_eq_false_iff, Bool.or_eq_true, Bool.and_eq_true, Bool.and_eq_false_imp, beq_iff_eq, beq_eq_false_iff_ne, ne_eq, bne_iff_ne, bne_eq_false_iff_eq] at hc7
                have he : (rows.length : Int) = most := by simpa using hr7
                rw [if_pos he]
                refine Wps_exit ?_
                simp only [Wps_nil, thenQ_normal, thenQ_exit, thenQ_ret, blkQ_normal, blkQ_ret, blkQ_if, blkQ_same, scQ_normal, scQ_ret, scQ_exit, Nat.reduceEqDiff, reduceIte, eq_self, reduceCtorEq, if_true, if_false]
                refine Wps_seq ?_
                refine Wps_drw (T := [(19, e19), (20, e20), (21, e21)]) ⟨e19_ok, e20_ok, e21_ok, trivial⟩ (by kernel_rfl) [(0, true), (1, true), (2, true), (3, true), (4, true), (5, true), (6, true), (7, true), (8, true), (9, true), (10, true)] (by kernel_rfl) [10, 11, 12] rfl (by simp) fun K hK => ?_
                repeat
                  (first | refine R0 rfl rfl fun K1 hK1 => ?_ | refine R1 rfl rfl rfl fun K1 hK1 => ?_ | refine Q0 rfl rfl fun K1 hK1 => ?_ | refine Q1 rfl rfl rfl fun K1 hK1 => ?_)
                  simp only [↓EP, EQ, implies_true, forall_const, tys, zoks, zeros, Nat.reduceEqDiff, Nat.reduceAdd, Nat.reduceLT, Nat.reduceLeDiff, reduceIte, reduceCtorEq, e19, e20, e21, List.length_map, verOf_map, Int.toNat_natCast, toNat_pred, ↓dBuc_size, ↓dBuc_isAg, ↓dBuc_nav, ↓dBuc_vp, dBuc_fold, ↓dObj_size, ↓dObj_isAg, ↓dObj_nav, ↓dObj_vp, dObj_fold, ↓dVer_size, ↓dVer_isAg, ↓dVer_nav, ↓dVer_vp, dVer_fold, ↓dLock_size, ↓dLock_isAg, ↓dLock_nav, ↓dLock_vp, dLock_fold, ↓dRow_size, ↓dRow_isAg, ↓dRow_nav, ↓dRow_vp, dRow_fold]
                  try simp (disch := omega) only [wrap64, wrapU64]
                  repeat (first | refine And.intro cl ?_ | intro e)
                  refine hK1 _ ?_
                  clear hK1 K1
                refine OE ?_
                refine hK _ _ (by simp only [St.keep, keepL, at_cons, at_nil, Nat.reduceEqDiff, reduceIte, eq_self]; rfl) ?_
                clear hK K
                refine Wps_weak (Wk_slots (l' := [(10, .d (dRows rows)), (11, _), (12, _)]) ⟨Imp.own _ _ _, Imp.refl _, Imp.refl _, trivial⟩) ?_ (by simp)
                refine Wps_ret ?_
                try simp only [Wps_nil, thenQ_normal, thenQ_exit, thenQ_ret, blkQ_normal, blkQ_ret, blkQ_if, blkQ_same, scQ_normal, scQ_ret, scQ_exit, Nat.reduceEqDiff, reduceIte, eq_self, reduceCtorEq, if_true, if_false]
                first | refine ret_pureQ rfl ?_ | refine ret_pureN rfl ?_
                simp only [retP, at_cons, at_nil, Nat.reduceEqDiff, reduceIte, eq_self, AV.use, retV, AV.bel, AV.bels, true_and, and_true]
                rw [keysR, if_neg (by omega), hi2, drop_getD hi, pkeys, if_neg (Bool.eq_false_iff.1 hr3), if_neg (Bool.eq_false_iff.1 hr4), if_pos hr5, if_neg (Bool.eq_false_iff.1 hr6), if_pos he]
              · have hr7 := hc7
                try simp only [decide_eq_true_eq, decide_eq_false_iff_not, Bool.not_eq_true', Bool.not_eq_false', Int.not_lt, Int.not_le, ge_iff_le, gt_iff_lt, Bool.or_eq_false_iff, Bool.or_eq_true, Bool.and_eq_true, Bool.and_eq_false_imp, beq_iff_eq, beq_eq_false_iff_ne, ne_eq, bne_iff_ne, bne_eq_false_iff_eq] at hc7
                have hne : ¬ (rows.length : Int) = most := by simpa using hr7
                rw [if_neg hne]
                refine Wps_skip ?_
                simp only [Wps_nil, thenQ_normal, thenQ_exit, thenQ_ret, blkQ_normal, blkQ_ret, blkQ_if, blkQ_same, scQ_normal, scQ_ret, scQ_exit, Nat.reduceEqDiff, reduceIte, eq_self, reduceCtorEq, if_true, if_false]
                refine Wps_regionX' (T := [(19, e19), (20, e20), (21, e21)]) ⟨e19_ok, e20_ok, e21_ok, trivial⟩ rfl fun K hK => ?_
                repeat
                  (first | refine X0 rfl fun K1 hK1 => ?_ | refine X1 rfl rfl fun K1 hK1 => ?_)
                  simp only [↓EP, EQ, implies_true, forall_const, tys, zoks, zeros, Nat.reduceEqDiff, Nat.reduceAdd, Nat.reduceLT, Nat.reduceLeDiff, reduceIte, reduceCtorEq, e19, e20, e21, List.length_map, verOf_map, Int.toNat_natCast, toNat_pred, ↓dBuc_size, ↓dBuc_isAg, ↓dBuc_nav, ↓dBuc_vp, dBuc_fold, ↓dObj_size, ↓dObj_isAg, ↓dObj_nav, ↓dObj_vp, dObj_fold, ↓dVer_size, ↓dVer_isAg, ↓dVer_nav, ↓dVer_vp, dVer_fold, ↓dLock_size, ↓dLock_isAg, ↓dLock_nav, ↓dLock_vp, dLock_fold, ↓dRow_size, ↓dRow_isAg, ↓dRow_nav, ↓dRow_vp, dRow_fold]
                  try simp (disch := omega) only [wrap64, wrapU64]
                  repeat (first | refine And.intro cl ?_ | intro e)
                  refine hK1 _ ?_
                  clear hK1 K1
                refine XE ?_
                refine hK _ ?_
                clear hK K
                simp only [Wps_nil, thenQ_normal, thenQ_exit, thenQ_ret, blkQ_normal, blkQ_ret, blkQ_if, blkQ_same, scQ_normal, scQ_ret, scQ_exit, Nat.reduceEqDiff, reduceIte, eq_self, reduceCtorEq, if_true, if_false]
                refine ⟨_, _, ?h1, ⟨i + 1, (progGroup (b.objs.getD i default).key pre mark).1, rows ++ [grpRow (progGroup (b.objs.getD i default).key pre mark).1], rfl, (by omega), (by simp; omega), (by rw [hi2, drop_getD hi, pkeys, if_neg (Bool.eq_false_iff.1 hr3), if_neg (Bool.eq_false_iff.1 hr4), if_pos hr5, if_neg (Bool.eq_false_iff.1 hr6), if_neg hne]), ?h2⟩, Wk_cut (L' := [.box (.d (dBuc b)), .box (pageV 2 (rows ++ [grpRow (progGroup (b.objs.getD i default).key pre mark).1]) most false), .tok 55 44 (rows.length + 1)]) rfl [1, 2, 3, 13, 14, 31, 32, 33] rfl (by simp [belS, keepL, at_cons, at_nil, AV.bel, AV.bels]) (by simp [BelL, Res.bel, AV.bel, AV.bels]) (by simp) rfl⟩
                case h2 =>
                  simp only [St.keep, keepL, at_cons, at_nil, Nat.reduceEqDiff, reduceIte, eq_self]
                  first | rfl | (apply St_eq <;> first | rfl | (simp; done)) | (rw [wrapS (i := i) (by omega)]; first | rfl | (apply St_eq <;> first | rfl | (simp; done)))
                case h1 => omega
          · have hr5 := hc5
            try simp only [decide_eq_true_eq, decide_eq_false_iff_not, Bool.not_eq_true', Bool.not_eq_false', Int.not_lt, Int.not_le, ge_iff_le, gt_iff_lt, Bool.or_eq_false_iff, Bool.or_eq_true, Bool.and_eq_true, Bool.and_eq_false_imp, beq_iff_eq, beq_eq_false_iff_ne, ne_eq, bne_iff_ne, bne_eq_false_iff_eq] at hc5
            refine Wps_skip ?_
            refine Wps_seq ?_
            refine Wps_reg (T := [(19, e19), (20, e20), (21, e21)]) ⟨e19_ok, e20_ok, e21_ok, trivial⟩ [1, 2, 3, 13, 14, 31, 32, 33, 91] rfl (by simp) fun K hK => ?_
            repeat
              (first | refine X0 rfl fun K1 hK1 => ?_ | refine X1 rfl rfl fun K1 hK1 => ?_)
              simp only [↓EP, EQ, implies_true, forall_const, tys, zoks, zeros, Nat.reduceEqDiff, Nat.reduceAdd, Nat.reduceLT, Nat.reduceLeDiff, reduceIte, reduceCtorEq, e19, e20, e21, List.length_map, verOf_map, Int.toNat_natCast, toNat_pred, ↓dBuc_size, ↓dBuc_isAg, ↓dBuc_nav, ↓dBuc_vp, dBuc_fold, ↓dObj_size, ↓dObj_isAg, ↓dObj_nav, ↓dObj_vp, dObj_fold, ↓dVer_size, ↓dVer_isAg, ↓dVer_nav, ↓dVer_vp, dVer_fold, ↓dLock_size, ↓dLock_isAg, ↓dLock_nav, ↓dLock_vp, dLock_fold, ↓dRow_size, ↓dRow_isAg, ↓dRow_nav, ↓dRow_vp, dRow_fold]
              try simp (disch := omega) only [wrap64, wrapU64]
              try (refine (f22_ok' _ 1 2 rows most false _ rfl rfl (by omega)).mono ?_; rintro r' L' ⟨rfl, rfl⟩)
              repeat (first | refine And.intro cl ?_ | intro e)
              refine hK1 _ ?_
              clear hK1 K1
            refine XE ?_
            refine hK _ _ (by simp only [St.keep, keepL, at_cons, at_nil, Nat.reduceEqDiff, reduceIte, eq_self]; rfl) ?_
            clear hK K
            refine Wps_cond rfl (fun hc8 => ?_) (fun hc8 => ?_)
            · have hr8 := hc8
              try simp only [decide_eq_true_eq, decide_eq_false_iff_not, Bool.not_eq_true', Bool.not_eq_false', Int.not_lt, Int.not_le, ge_iff_le, gt_iff_lt, Bool.or_eq_false_iff, Bool.or_eq_true, Bool.and_eq_true, Bool.and_eq_false_imp, beq_iff_eq, beq_eq_false_iff_ne, ne_eq, bne_iff_ne, bne_eq_false_iff_eq] at hc8
              have he : (rows.length : Int) = most := by simpa using hr8
              rw [if_pos he]
              refine Wps_exit ?_
              simp only [Wps_nil, thenQ_normal, thenQ_exit, thenQ_ret, blkQ_normal, blkQ_ret, blkQ_if, blkQ_same, scQ_normal, scQ_ret, scQ_exit, Nat.reduceEqDiff, reduceIte, eq_self, reduceCtorEq, if_true, if_false]
              refine Wps_seq ?_
              refine Wps_drw (T := [(19, e19), (20, e20), (21, e21)]) ⟨e19_ok, e20_ok, e21_ok, trivial⟩ (by kernel_rfl) [(0, true), (1, true), (2, true), (3, true), (4, true), (5, true), (6, true), (7, true), (8, true), (9, true), (10, true)] (by kernel_rfl) [10, 11, 12] rfl (by simp) fun K hK => ?_
              repeat
                (first | refine R0 rfl rfl fun K1 hK1 => ?_ | refine R1 rfl rfl rfl fun K1 hK1 => ?_ | refine Q0 rfl rfl fun K1 hK1 => ?_ | refine Q1 rfl rfl rfl fun K1 hK1 => ?_)
                simp only [↓EP, EQ, implies_true, forall_const, tys, zoks, zeros, Nat.reduceEqDiff, Nat.reduceAdd, Nat.reduceLT, Nat.reduceLeDiff, reduceIte, reduceCtorEq, e19, e20, e21, List.length_map, verOf_map, Int.toNat_natCast, toNat_pred, ↓dBuc_size, ↓dBuc_isAg, ↓dBuc_nav, ↓dBuc_vp, dBuc_fold, ↓dObj_size, ↓dObj_isAg, ↓dObj_nav, ↓dObj_vp, dObj_fold, ↓dVer_size, ↓dVer_isAg, ↓dVer_nav, ↓dVer_vp, dVer_fold, ↓dLock_size, ↓dLock_isAg, ↓dLock_nav, ↓dLock_vp, dLock_fold, ↓dRow_size, ↓dRow_isAg, ↓dRow_nav, ↓dRow_vp, dRow_fold]
                try simp (disch := omega) only [wrap64, wrapU64]
                repeat (first | refine And.intro cl ?_ | intro e)
                refine hK1 _ ?_
                clear hK1 K1
              refine OE ?_
              refine hK _ _ (by simp only [St.keep, keepL, at_cons, at_nil, Nat.reduceEqDiff, reduceIte, eq_self]; rfl) ?_
              clear hK K
              refine Wps_weak (Wk_slots (l' := [(10, .d (dRows rows)), (11, _), (12, _)]) ⟨Imp.own _ _ _, Imp.refl _, Imp.refl _, trivial⟩) ?_ (by simp)
              refine Wps_ret ?_
              try simp only [Wps_nil, thenQ_normal, thenQ_exit, thenQ_ret, blkQ_normal, blkQ_ret, blkQ_if, blkQ_same, scQ_normal, scQ_ret, scQ_exit, Nat.reduceEqDiff, reduceIte, eq_self, reduceCtorEq, if_true, if_false]
              first | refine ret_pureQ rfl ?_ | refine ret_pureN rfl ?_
              simp only [retP, at_cons, at_nil, Nat.reduceEqDiff, reduceIte, eq_self, AV.use, retV, AV.bel, AV.bels, true_and, and_true]
              rw [keysR, if_neg (by omega), hi2, drop_getD hi, pkeys, if_neg (Bool.eq_false_iff.1 hr3), if_neg (Bool.eq_false_iff.1 hr4), if_neg (Bool.eq_false_iff.1 hr5), if_pos he]
            · have hr8 := hc8
              try simp only [decide_eq_true_eq, decide_eq_false_iff_not, Bool.not_eq_true', Bool.not_eq_false', Int.not_lt, Int.not_le, ge_iff_le, gt_iff_lt, Bool.or_eq_false_iff, Bool.or_eq_true, Bool.and_eq_true, Bool.and_eq_false_imp, beq_iff_eq, beq_eq_false_iff_ne, ne_eq, bne_iff_ne, bne_eq_false_iff_eq] at hc8
              have hne : ¬ (rows.length : Int) = most := by simpa using hr8
              rw [if_neg hne]
              refine Wps_skip ?_
              simp only [Wps_nil, thenQ_normal, thenQ_exit, thenQ_ret, blkQ_normal, blkQ_ret, blkQ_if, blkQ_same, scQ_normal, scQ_ret, scQ_exit, Nat.reduceEqDiff, reduceIte, eq_self, reduceCtorEq, if_true, if_false]
              refine Wps_regionX' (T := [(19, e19), (20, e20), (21, e21)]) ⟨e19_ok, e20_ok, e21_ok, trivial⟩ rfl fun K hK => ?_
              repeat
                (first | refine X0 rfl fun K1 hK1 => ?_ | refine X1 rfl rfl fun K1 hK1 => ?_)
                simp only [↓EP, EQ, implies_true, forall_const, tys, zoks, zeros, Nat.reduceEqDiff, Nat.reduceAdd, Nat.reduceLT, Nat.reduceLeDiff, reduceIte, reduceCtorEq, e19, e20, e21, List.length_map, verOf_map, Int.toNat_natCast, toNat_pred, ↓dBuc_size, ↓dBuc_isAg, ↓dBuc_nav, ↓dBuc_vp, dBuc_fold, ↓dObj_size, ↓dObj_isAg, ↓dObj_nav, ↓dObj_vp, dObj_fold, ↓dVer_size, ↓dVer_isAg, ↓dVer_nav, ↓dVer_vp, dVer_fold, ↓dLock_size, ↓dLock_isAg, ↓dLock_nav, ↓dLock_vp, dLock_fold, ↓dRow_size, ↓dRow_isAg, ↓dRow_nav, ↓dRow_vp, dRow_fold]
                try simp (disch := omega) only [wrap64, wrapU64]
                repeat (first | refine And.intro cl ?_ | intro e)
                refine hK1 _ ?_
                clear hK1 K1
              refine XE ?_
              refine hK _ ?_
              clear hK K
              simp only [Wps_nil, thenQ_normal, thenQ_exit, thenQ_ret, blkQ_normal, blkQ_ret, blkQ_if, blkQ_same, scQ_normal, scQ_ret, scQ_exit, Nat.reduceEqDiff, reduceIte, eq_self, reduceCtorEq, if_true, if_false]
              refine ⟨_, _, ?h1, ⟨i + 1, last, rows ++ [keyRow (b.objs.getD i default)], rfl, (by omega), (by simp; omega), (by rw [hi2, drop_getD hi, pkeys, if_neg (Bool.eq_false_iff.1 hr3), if_neg (Bool.eq_false_iff.1 hr4), if_neg (Bool.eq_false_iff.1 hr5), if_neg hne]), ?h2⟩, Wk_cut (L' := [.box (.d (dBuc b)), .box (pageV 2 (rows ++ [keyRow (b.objs.getD i default)]) most false), .tok 55 44 (rows.length + 1)]) rfl [1, 2, 3, 13, 14, 31, 32, 33] rfl (by simp [belS, keepL, at_cons, at_nil, AV.bel, AV.bels]) (by simp [BelL, Res.bel, AV.bel, AV.bels]) (by simp) rfl⟩
              case h2 =>
                simp only [St.keep, keepL, at_cons, at_nil, Nat.reduceEqDiff, reduceIte, eq_self]
                first | rfl | (apply St_eq <;> first | rfl | (simp; done)) | (rw [wrapS (i := i) (by omega)]; first | rfl | (apply St_eq <;> first | rfl | (simp; done)))
              case h1 => omega
    · have hr2 := hc2
      try simp only [decide_eq_true_eq, decide_eq_false_iff_not, Bool.not_eq_true', Bool.not_eq_false', Int.not_lt, Int.not_le, ge_iff_le, gt_iff_lt, Bool.or_eq_false_iff, Bool.or_eq_true, Bool.and_eq_true, Bool.and_eq_false_imp, beq_iff_eq, beq_eq_false_iff_ne, ne_eq, bne_iff_ne, bne_eq_false_iff_eq] at hc2
      refine Wps_exit ?_
      simp only [Wps_nil, thenQ_normal, thenQ_exit, thenQ_ret, blkQ_normal, blkQ_ret, blkQ_if, blkQ_same, scQ_normal, scQ_ret, scQ_exit, Nat.reduceEqDiff, reduceIte, eq_self, reduceCtorEq, if_true, if_false]
      refine Wps_seq ?_
      refine Wps_drw (T := [(19, e19), (20, e20), (21, e21)]) ⟨e19_ok, e20_ok, e21_ok, trivial⟩ (by kernel_rfl) [(0, true), (1, true), (2, true), (3, true), (4, true), (5, true), (6, true), (7, true), (8, true), (9, true), (10, true)] (by kernel_rfl) [10, 11, 12] rfl (by simp) fun K hK => ?_
      repeat
        (first | refine R0 rfl rfl fun K1 hK1 => ?_ | refine R1 rfl rfl rfl fun K1 hK1 => ?_ | refine Q0 rfl rfl fun K1 hK1 => ?_ | refine Q1 rfl rfl rfl fun K1 hK1 => ?_)
        simp only [↓EP, EQ, implies_true, forall_const, tys, zoks, zeros, Nat.reduceEqDiff, Nat.reduceAdd, Nat.reduceLT, Nat.reduceLeDiff, reduceIte, reduceCtorEq, e19, e20, e21, List.length_map, verOf_map, Int.toNat_natCast, toNat_pred, ↓dBuc_size, ↓dBuc_isAg, ↓dBuc_nav, ↓dBuc_vp, dBuc_fold, ↓dObj_size, ↓dObj_isAg, ↓dObj_nav, ↓dObj_vp, dObj_fold, ↓dVer_size, ↓dVer_isAg, ↓dVer_nav, ↓dVer_vp, dVer_fold, ↓dLock_size, ↓dLock_isAg, ↓dLock_nav, ↓dLock_vp, dLock_fold, ↓dRow_size, ↓dRow_isAg, ↓dRow_nav, ↓dRow_vp, dRow_fold]
        try simp (disch := omega) only [wrap64, wrapU64]
        repeat (first | refine And.intro cl ?_ | intro e)
        refine hK1 _ ?_
        clear hK1 K1
      refine OE ?_
      refine hK _ _ (by simp only [St.keep, keepL, at_cons, at_nil, Nat.reduceEqDiff, reduceIte, eq_self]; rfl) ?_
      clear hK K
      refine Wps_weak (Wk_slots (l' := [(10, .d (dRows rows)), (11, _), (12, _)]) ⟨Imp.own _ _ _, Imp.refl _, Imp.refl _, trivial⟩) ?_ (by simp)
      refine Wps_ret ?_
      try simp only [Wps_nil, thenQ_normal, thenQ_exit, thenQ_ret, blkQ_normal, blkQ_ret, blkQ_if, blkQ_same, scQ_normal, scQ_ret, scQ_exit, Nat.reduceEqDiff, reduceIte, eq_self, reduceCtorEq, if_true, if_false]
      first | refine ret_pureQ rfl ?_ | refine ret_pureN rfl ?_
      simp only [retP, at_cons, at_nil, Nat.reduceEqDiff, reduceIte, eq_self, AV.use, retV, AV.bel, AV.bels, true_and, and_true]
      rw [keysR, if_neg (by omega), hi2, List.drop_of_length_le (by omega), pkeys]

end Go.Proofs.Ytolplbfonlhbhaa
