/- Contracts, fourteenth part: the document's rows. -/
import Derived.Test.YtolplbfonlhbhaaC13
set_option maxRecDepth 20000
set_option maxHeartbeats 4000000
set_option linter.unusedVariables false
set_option linter.unusedSectionVars false
set_option linter.unusedSimpArgs false
namespace Go.Proofs.Ytolplbfonlhbhaa
open Go Go.Eng
variable [Globs]

variable [G23]
theorem dRow_inj : ∀ {a b : RowL}, dRow a = dRow b → a = b := by
  rintro ⟨a, b, c, d⟩ ⟨a', b', c', d'⟩ h
  simp only [dRow, D.ag.injEq, List.cons.injEq, D.raw.injEq, Value.string.injEq, Value.bool.injEq, and_true] at h
  obtain ⟨rfl, rfl, h1, rfl⟩ := h
  rw [dVer_inj h1]
def e24 : Ent
  | [.d (.raw (.string key)), .d (.raw (.string pre)), .d (.raw (.string mark))] => some (key.size ≤ 1048576 ∧ mark.size ≤ 1048576, fun r => r = .tup [S (refGroup key pre mark).1, B (refGroup key pre mark).2])
  | _ => none
theorem e24_ok : EntOk Try.prog 24 e24 := by
  intro args q post h
  unfold e24 at h
  split at h
  · simp only [Option.some.injEq, Prod.mk.injEq] at h
    obtain ⟨rfl, rfl⟩ := h
    exact ⟨⟨_, rfl⟩, fun h => f24_ok _ _ _ h.1 h.2⟩
  · simp at h
def paged (l : List RowL) (most : Int) : AV := .tup [.d (dRows (if (l.length : Int) > most then l.take most.toNat else l)), B (decide ((l.length : Int) > most))]

noncomputable def e25 : Ent := ent1 (fun p : List RowL × Int => [.d (dRows p.1), I p.2]) (fun p => p.1.length ≤ 1073741824 ∧ 0 ≤ p.2) (fun p => fun r => r = paged p.1 p.2)
theorem e1025_ap (p : List RowL × Int) : e25 [.d (dRows p.1), I p.2] = some (p.1.length ≤ 1073741824 ∧ 0 ≤ p.2, fun r => r = paged p.1 p.2) := ent1_ap (f := fun p : List RowL × Int => [.d (dRows p.1), I p.2]) (fun x y h => by simp only [List.cons.injEq, AV.d.injEq, D.sl.injEq, D.raw.injEq, Value.int.injEq, true_and, and_true] at h; exact Prod.ext (map_inj dRow_inj h.1) h.2) p
theorem e25_ok : EntOk Try.prog 25 e25 := ent1_ok (fun p => ⟨_, rfl⟩) fun p h => f25_ok p.1 p.2 h.1 h.2

theorem e25_ap (x : List RowL) (y : Int) : e25 [.d (dRows x), I y] = some (x.length ≤ 1073741824 ∧ 0 ≤ y, fun r => r = paged x y) := e1025_ap (x, y)
theorem any_take_succ {α : Type} [Inhabited α] {l : List α} {k : Nat} (h : k < l.length) (f : α → Bool) : (l.take (k + 1)).any f = ((l.take k).any f || f (l.getD k default)) := by
  rw [List.take_succ_eq_append_getElem h, List.any_append]
  simp [List.getD_eq_getElem?_getD, h]
def told (g after : ByteArray) (rows : List RowL) : Bool := (strLt g after || strEq g after) || rows.any fun r => r.group && strEq r.key g
def rkeys (pre mark after : ByteArray) : List ObjL → List RowL → List RowL
  | [], rows => rows
  | o :: os, rows =>
    if (!hasPre o.key pre || (strLt o.key after || strEq o.key after) || (lastV o).marker) = true then rkeys pre mark after os rows
    else if (refGroup o.key pre mark).2 = false then rkeys pre mark after os (rows ++ [keyRow o])
    else if told (refGroup o.key pre mark).1 after rows = true then rkeys pre mark after os rows else rkeys pre mark after os (rows ++ [grpRow (refGroup o.key pre mark).1])
def pagedR (l : List RowL) (most : Int) : AV :=
  if most < 1 ∨ most > 100 then .tup [.d (dRows []), B false, I 1] else .tup [.d (dRows (if (l.length : Int) > most then l.take most.toNat else l)), B (decide ((l.length : Int) > most)), I 0]

-- chartularyref23.Keys
theorem f11_ok (b : BucL) (pre mark after : ByteArray) (most : Int) (hb : okBuc b) (hg : ∀ k, k < b.objs.length → 1 ≤ (b.objs.getD k default).vers.length) (hm : mark.size ≤ 1048576) : PureOk Try.prog 11 [.d (dBuc b), S pre, S mark, S after, I most] fun r => r = pagedR (rkeys pre mark after b.objs []) most := by
  refine PureOk_of (fn := Try.f11) (rs := [.tmp 10, .tmp 11, .tmp 12]) (n := 123) (hf := Try.func11) (hn := by kernel_rfl) (hb := rfl) (hr := rfl) (hN := rfl) (hargs := by simp) (ha := by simp [AV.bels, AV.bel]) (hrb := by rintro _ rfl; unfold pagedR; split <;> simp [AV.bel, AV.bels]) (h := fun Z0 w0 => ?_)
  simp only [enumA, Nat.zero_add]
  refine Wps_seq ?_
  refine Wps_reg (T := [(23, e23), (24, e24), (25, e25)]) ⟨e23_ok, e24_ok, e25_ok, trivial⟩ [1, 2, 3, 4, 5] rfl (by simp) fun K hK => ?_
  repeat
    (first | refine X0 rfl fun K1 hK1 => ?_ | refine X1 rfl rfl fun K1 hK1 => ?_)
    simp only [↓EP, EQ, implies_true, forall_const, tys, zoks, zeros, Nat.reduceEqDiff, Nat.reduceAdd, Nat.reduceLT, Nat.reduceLeDiff, reduceIte, reduceCtorEq, e23, e24, e25_ap, List.length_map, Int.toNat_natCast, toNat_pred, paged, ↓dBuc_size, ↓dBuc_isAg, ↓dBuc_nav, ↓dBuc_vp, dBuc_fold, ↓dObj_size, ↓dObj_isAg, ↓dObj_nav, ↓dObj_vp, dObj_fold, ↓dVer_size, ↓dVer_isAg, ↓dVer_nav, ↓dVer_vp, dVer_fold, ↓dLock_size, ↓dLock_isAg, ↓dLock_nav, ↓dLock_vp, dLock_fold, ↓dRow_size, ↓dRow_isAg, ↓dRow_nav, ↓dRow_vp, dRow_fold]
    try simp (disch := omega) only [wrap64, wrapU64]
    repeat (first | refine And.intro cl ?_ | intro e)
    refine hK1 _ ?_
    clear hK1 K1
  refine XE ?_
  refine hK _ _ (by simp only [St.keep, keepL, at_cons, at_nil, Nat.reduceEqDiff, reduceIte, eq_self]; rfl) ?_
  clear hK K
  refine Wps_seq ?_
  refine Wps_seq ?_
  refine Wps_reg (T := [(23, e23), (24, e24), (25, e25)]) ⟨e23_ok, e24_ok, e25_ok, trivial⟩ [1, 2, 3, 4, 5, 28] rfl (by simp) fun K hK => ?_
  repeat
    (first | refine X0 rfl fun K1 hK1 => ?_ | refine X1 rfl rfl fun K1 hK1 => ?_)
    simp only [↓EP, EQ, implies_true, forall_const, tys, zoks, zeros, Nat.reduceEqDiff, Nat.reduceAdd, Nat.reduceLT, Nat.reduceLeDiff, reduceIte, reduceCtorEq, e23, e24, e25_ap, List.length_map, Int.toNat_natCast, toNat_pred, paged, ↓dBuc_size, ↓dBuc_isAg, ↓dBuc_nav, ↓dBuc_vp, dBuc_fold, ↓dObj_size, ↓dObj_isAg, ↓dObj_nav, ↓dObj_vp, dObj_fold, ↓dVer_size, ↓dVer_isAg, ↓dVer_nav, ↓dVer_vp, dVer_fold, ↓dLock_size, ↓dLock_isAg, ↓dLock_nav, ↓dLock_vp, dLock_fold, ↓dRow_size, ↓dRow_isAg, ↓dRow_nav, ↓dRow_vp, dRow_fold]
    try simp (disch := omega) only [wrap64, wrapU64]
    repeat (first | refine And.intro cl ?_ | intro e)
    refine hK1 _ ?_
    clear hK1 K1
  refine XE ?_
  refine hK _ _ (by simp only [St.keep, keepL, at_cons, at_nil, Nat.reduceEqDiff, reduceIte, eq_self]; rfl) ?_
  clear hK K
  refine Wps_cond rfl (fun hc1 => ?_) (fun hc1 => ?_)
  · have hr1 := hc1
    try simp only [decide_eq_true_eq, decide_eq_false_iff_not, Bool.not_eq_true', Bool.not_eq_false', Int.not_lt, Int.not_le, ge_iff_le, gt_iff_lt, Bool.or_eq_false_iff, Bool.or_eq_true, Bool.and_eq_true, Bool.and_eq_false_imp, beq_iff_eq, beq_eq_false_iff_ne, ne_eq, bne_iff_ne, bne_eq_false_iff_eq] at hc1
    refine Wps_seq ?_
    refine Wps_reg (T := [(23, e23), (24, e24), (25, e25)]) ⟨e23_ok, e24_ok, e25_ok, trivial⟩ [10, 11, 12] rfl (by simp) fun K hK => ?_
    repeat
      (first | refine X0 rfl fun K1 hK1 => ?_ | refine X1 rfl rfl fun K1 hK1 => ?_)
      simp only [↓EP, EQ, implies_true, forall_const, tys, zoks, zeros, Nat.reduceEqDiff, Nat.reduceAdd, Nat.reduceLT, Nat.reduceLeDiff, reduceIte, reduceCtorEq, e23, e24, e25_ap, List.length_map, Int.toNat_natCast, toNat_pred, paged, ↓dBuc_size, ↓dBuc_isAg, ↓dBuc_nav, ↓dBuc_vp, dBuc_fold, ↓dObj_size, ↓dObj_isAg, ↓dObj_nav, ↓dObj_vp, dObj_fold, ↓dVer_size, ↓dVer_isAg, ↓dVer_nav, ↓dVer_vp, dVer_fold, ↓dLock_size, ↓dLock_isAg, ↓dLock_nav, ↓dLock_vp, dLock_fold, ↓dRow_size, ↓dRow_isAg, ↓dRow_nav, ↓dRow_vp, dRow_fold]
      try simp (disch := omega) only [wrap64, wrapU64]
      repeat (first | refine And.intro cl ?_ | intro e)
      refine hK1 _ ?_
      clear hK1 K1
    refine XE ?_
    refine hK _ _ (by simp only [St.keep, keepL, at_cons, at_nil, Nat.reduceEqDiff, reduceIte, eq_self]; rfl) ?_
    clear hK K
    refine Wps_weak (Wk_slots (l' := [(10, .d (dRows [])), (11, B false), (12, I 1)]) ⟨Imp.nil _, Imp.refl _, Imp.refl _, trivial⟩) ?_ (by simp)
    refine Wps_ret ?_
    try simp only [Wps_nil, thenQ_normal, thenQ_exit, thenQ_ret, blkQ_normal, blkQ_ret, blkQ_if, blkQ_same, scQ_normal, scQ_ret, scQ_exit, Nat.reduceEqDiff, reduceIte, eq_self, reduceCtorEq, if_true, if_false]
    first | refine ret_pureQ rfl ?_ | refine ret_pureN rfl ?_
    simp only [retP, at_cons, at_nil, Nat.reduceEqDiff, reduceIte, eq_self, AV.use, retV, AV.bel, AV.bels, true_and, and_true]
    rw [pagedR, if_pos (by omega)]
  · have hr1 := hc1
    try simp only [decide_eq_true_eq, decide_eq_false_iff_not, Bool.not_eq_true', Bool.not_eq_false', Int.not_lt, Int.not_le, ge_iff_le, gt_iff_lt, Bool.or_eq_false_iff, Bool.or_eq_true, Bool.and_eq_true, Bool.and_eq_false_imp, beq_iff_eq, beq_eq_false_iff_ne, ne_eq, bne_iff_ne, bne_eq_false_iff_eq] at hc1
    refine Wps_skip ?_
    refine Wps_seq ?_
    refine Wps_reg (T := [(23, e23), (24, e24), (25, e25)]) ⟨e23_ok, e24_ok, e25_ok, trivial⟩ [1, 2, 3, 4, 5, 13] rfl (by simp) fun K hK => ?_
    repeat
      (first | refine X0 rfl fun K1 hK1 => ?_ | refine X1 rfl rfl fun K1 hK1 => ?_)
      simp only [↓EP, EQ, implies_true, forall_const, tys, zoks, zeros, Nat.reduceEqDiff, Nat.reduceAdd, Nat.reduceLT, Nat.reduceLeDiff, reduceIte, reduceCtorEq, e23, e24, e25_ap, List.length_map, Int.toNat_natCast, toNat_pred, paged, ↓dBuc_size, ↓dBuc_isAg, ↓dBuc_nav, ↓dBuc_vp, dBuc_fold, ↓dObj_size, ↓dObj_isAg, ↓dObj_nav, ↓dObj_vp, dObj_fold, ↓dVer_size, ↓dVer_isAg, ↓dVer_nav, ↓dVer_vp, dVer_fold, ↓dLock_size, ↓dLock_isAg, ↓dLock_nav, ↓dLock_vp, dLock_fold, ↓dRow_size, ↓dRow_isAg, ↓dRow_nav, ↓dRow_vp, dRow_fold]
      try simp (disch := omega) only [wrap64, wrapU64]
      repeat (first | refine And.intro cl ?_ | intro e)
      refine hK1 _ ?_
      clear hK1 K1
    refine XE ?_
    refine hK _ _ (by simp only [St.keep, keepL, at_cons, at_nil, Nat.reduceEqDiff, reduceIte, eq_self]; rfl) ?_
    clear hK K
    refine Wps_seq ?_
    refine Wps_seq ?_
    refine Wps_reg (T := [(23, e23), (24, e24), (25, e25)]) ⟨e23_ok, e24_ok, e25_ok, trivial⟩ [1, 2, 3, 4, 5, 13, 14] rfl (by simp) fun K hK => ?_
    repeat
      (first | refine X0 rfl fun K1 hK1 => ?_ | refine X1 rfl rfl fun K1 hK1 => ?_)
      simp only [↓EP, EQ, implies_true, forall_const, tys, zoks, zeros, Nat.reduceEqDiff, Nat.reduceAdd, Nat.reduceLT, Nat.reduceLeDiff, reduceIte, reduceCtorEq, e23, e24, e25_ap, List.length_map, Int.toNat_natCast, toNat_pred, paged, ↓dBuc_size, ↓dBuc_isAg, ↓dBuc_nav, ↓dBuc_vp, dBuc_fold, ↓dObj_size, ↓dObj_isAg, ↓dObj_nav, ↓dObj_vp, dObj_fold, ↓dVer_size, ↓dVer_isAg, ↓dVer_nav, ↓dVer_vp, dVer_fold, ↓dLock_size, ↓dLock_isAg, ↓dLock_nav, ↓dLock_vp, dLock_fold, ↓dRow_size, ↓dRow_isAg, ↓dRow_nav, ↓dRow_vp, dRow_fold]
      try simp (disch := omega) only [wrap64, wrapU64]
      repeat (first | refine And.intro cl ?_ | intro e)
      refine hK1 _ ?_
      clear hK1 K1
    refine XE ?_
    refine hK _ _ (by simp only [St.keep, keepL, at_cons, at_nil, Nat.reduceEqDiff, reduceIte, eq_self]; rfl) ?_
    clear hK K
    refine Wps_block ?_
    -- live at the head: [1, 2, 3, 4, 5, 13, 14]
    refine Wps_loop (fun n_ st_ => ∃ (i : Nat), ∃ (rows : List RowL), n_ = b.objs.length - i ∧ (i ≤ b.objs.length) ∧ (rows.length ≤ i) ∧ (rkeys pre mark after b.objs [] = rkeys pre mark after (b.objs.drop i) rows) ∧ st_ = ⟨[(1, S pre), (2, S mark), (3, S after), (4, I most), (5, .ptr 0 0 []), (13, .own 1 44 (rows.map dRow)), (14, I i)], [.box (.d (dBuc b)), .tok 55 44 rows.length]⟩) _ ⟨0, [], rfl, (by simp), (by simp), rfl, rfl⟩ (Wk.refl _) fun n_ st_ hI => ?_
    obtain ⟨i, rows, rfl, hi0, hi1, hi2, rfl⟩ := hI
    refine Wps_seq ?_
    refine Wps_seq ?_
    refine Wps_reg (T := [(23, e23), (24, e24), (25, e25)]) ⟨e23_ok, e24_ok, e25_ok, trivial⟩ [1, 2, 3, 4, 5, 13, 14, 34] rfl (by simp) fun K hK => ?_
    repeat
      (first | refine X0 rfl fun K1 hK1 => ?_ | refine X1 rfl rfl fun K1 hK1 => ?_)
      simp only [↓EP, EQ, implies_true, forall_const, tys, zoks, zeros, Nat.reduceEqDiff, Nat.reduceAdd, Nat.reduceLT, Nat.reduceLeDiff, reduceIte, reduceCtorEq, e23, e24, e25_ap, List.length_map, Int.toNat_natCast, toNat_pred, paged, ↓dBuc_size, ↓dBuc_isAg, ↓dBuc_nav, ↓dBuc_vp, dBuc_fold, ↓dObj_size, ↓dObj_isAg, ↓dObj_nav, ↓dObj_vp, dObj_fold, ↓dVer_size, ↓dVer_isAg, ↓dVer_nav, ↓dVer_vp, dVer_fold, ↓dLock_size, ↓dLock_isAg, ↓dLock_nav, ↓dLock_vp, dLock_fold, ↓dRow_size, ↓dRow_isAg, ↓dRow_nav, ↓dRow_vp, dRow_fold]
      try simp (disch := omega) only [wrap64, wrapU64]
      repeat (first | refine And.intro cl ?_ | intro e)
      refine hK1 _ ?_
      clear hK1 K1
    refine XE ?_
    refine hK _ _ (by simp only [St.keep, keepL, at_cons, at_nil, Nat.reduceEqDiff, reduceIte, eq_self]; rfl) ?_
    clear hK K
    refine Wps_cond rfl (fun hc2 => ?_) (fun hc2 => ?_)
    · have hr2 := hc2
      try simp only [decide_eq_true_eq, decide_eq_false_iff_not, Bool.not_eq_true', Bool.not_eq_false', Int.not_lt, Int.not_le, ge_iff_le, gt_iff_lt, Bool.or_eq_false_iff, Bool.or_eq_true, Bool.and_eq_true, Bool.and_eq_false_imp, beq_iff_eq, beq_eq_false_iff_ne, ne_eq, bne_iff_ne, bne_eq_false_iff_eq] at hc2
      refine Wps_skip ?_
      refine Wps_seq ?_
      refine Wps_block ?_
      refine Wps_seq ?_
      have hi : i < b.objs.length := by omega
      have ho := okL_get hb.2.2.2.1 hi
      refine Wps_reg (T := [(23, e23), (24, e24), (25, e25)]) ⟨e23_ok, e24_ok, e25_ok, trivial⟩ [1, 2, 3, 4, 5, 13, 14, 15] rfl (by simp) fun K hK => ?_
      repeat
        (first | refine X0 rfl fun K1 hK1 => ?_ | refine X1 rfl rfl fun K1 hK1 => ?_)
        simp only [↓EP, EQ, implies_true, forall_const, tys, zoks, zeros, Nat.reduceEqDiff, Nat.reduceAdd, Nat.reduceLT, Nat.reduceLeDiff, reduceIte, reduceCtorEq, e23, e24, e25_ap, List.length_map, Int.toNat_natCast, toNat_pred, paged, ↓dBuc_size, ↓dBuc_isAg, ↓dBuc_nav, ↓dBuc_vp, dBuc_fold, ↓dObj_size, ↓dObj_isAg, ↓dObj_nav, ↓dObj_vp, dObj_fold, ↓dVer_size, ↓dVer_isAg, ↓dVer_nav, ↓dVer_vp, dVer_fold, ↓dLock_size, ↓dLock_isAg, ↓dLock_nav, ↓dLock_vp, dLock_fold, ↓dRow_size, ↓dRow_isAg, ↓dRow_nav, ↓dRow_vp, dRow_fold, getD_map_lt hi]
        try simp (disch := omega) only [wrap64, wrapU64]
        repeat (first | refine And.intro cl ?_ | intro e)
        refine hK1 _ ?_
        clear hK1 K1
      refine XE ?_
      refine hK _ _ (by simp only [St.keep, keepL, at_cons, at_nil, Nat.reduceEqDiff, reduceIte, eq_self]; rfl) ?_
      clear hK K
      refine Wps_seq ?_
      have hv : (b.objs.getD i default).vers.length - 1 < (b.objs.getD i default).vers.length := by have := hg i hi; omega
      have hw := okL_get ho.2 hv
      refine Wps_reg (T := [(23, e23), (24, e24), (25, e25)]) ⟨e23_ok, e24_ok, e25_ok, trivial⟩ [1, 2, 3, 4, 5, 13, 14, 15, 16] rfl (by simp) fun K hK => ?_
      repeat
        (first | refine X0 rfl fun K1 hK1 => ?_ | refine X1 rfl rfl fun K1 hK1 => ?_)
        simp only [↓EP, EQ, implies_true, forall_const, tys, zoks, zeros, Nat.reduceEqDiff, Nat.reduceAdd, Nat.reduceLT, Nat.reduceLeDiff, reduceIte, reduceCtorEq, e23, e24, e25_ap, List.length_map, Int.toNat_natCast, toNat_pred, paged, ↓dBuc_size, ↓dBuc_isAg, ↓dBuc_nav, ↓dBuc_vp, dBuc_fold, ↓dObj_size, ↓dObj_isAg, ↓dObj_nav, ↓dObj_vp, dObj_fold, ↓dVer_size, ↓dVer_isAg, ↓dVer_nav, ↓dVer_vp, dVer_fold, ↓dLock_size, ↓dLock_isAg, ↓dLock_nav, ↓dLock_vp, dLock_fold, ↓dRow_size, ↓dRow_isAg, ↓dRow_nav, ↓dRow_vp, dRow_fold, getD_map_lt hv]
        try simp (disch := omega) only [wrap64, wrapU64]
        repeat (first | refine And.intro cl ?_ | intro e)
        refine hK1 _ ?_
        clear hK1 K1
      refine XE ?_
      refine hK _ _ (by simp only [St.keep, keepL, at_cons, at_nil, Nat.reduceEqDiff, reduceIte, eq_self]; rfl) ?_
      clear hK K
      refine Wps_seq ?_
      refine Wps_seq ?_
      refine Wps_reg (T := [(23, e23), (24, e24), (25, e25)]) ⟨e23_ok, e24_ok, e25_ok, trivial⟩ [1, 2, 3, 4, 5, 13, 14, 15, 16, 64] rfl (by simp) fun K hK => ?_
      repeat
        (first | refine X0 rfl fun K1 hK1 => ?_ | refine X1 rfl rfl fun K1 hK1 => ?_)
        simp only [↓EP, EQ, implies_true, forall_const, tys, zoks, zeros, Nat.reduceEqDiff, Nat.reduceAdd, Nat.reduceLT, Nat.reduceLeDiff, reduceIte, reduceCtorEq, e23, e24, e25_ap, List.length_map, Int.toNat_natCast, toNat_pred, paged, ↓dBuc_size, ↓dBuc_isAg, ↓dBuc_nav, ↓dBuc_vp, dBuc_fold, ↓dObj_size, ↓dObj_isAg, ↓dObj_nav, ↓dObj_vp, dObj_fold, ↓dVer_size, ↓dVer_isAg, ↓dVer_nav, ↓dVer_vp, dVer_fold, ↓dLock_size, ↓dLock_isAg, ↓dLock_nav, ↓dLock_vp, dLock_fold, ↓dRow_size, ↓dRow_isAg, ↓dRow_nav, ↓dRow_vp, dRow_fold]
        try simp (disch := omega) only [wrap64, wrapU64]
        repeat (first | refine And.intro cl ?_ | intro e)
        refine hK1 _ ?_
        clear hK1 K1
      refine XE ?_
      refine hK _ _ (by simp only [St.keep, keepL, at_cons, at_nil, Nat.reduceEqDiff, reduceIte, eq_self]; rfl) ?_
      clear hK K
      refine Wps_cond rfl (fun hc3 => ?_) (fun hc3 => ?_)
      · have hr3 := hc3
        try simp only [decide_eq_true_eq, decide_eq_false_iff_not, Bool.not_eq_true', Bool.not_eq_false', Int.not_lt, Int.not_le, ge_iff_le, gt_iff_lt, Bool.or_eq_false_iff, Bool.or_eq_true, Bool.and_eq_true, Bool.and_eq_false_imp, beq_iff_eq, beq_eq_false_iff_ne, ne_eq, bne_iff_ne, bne_eq_false_iff_eq] at hc3
        refine Wps_exit ?_
        simp only [Wps_nil, thenQ_normal, thenQ_exit, thenQ_ret, blkQ_normal, blkQ_ret, blkQ_if, blkQ_same, scQ_normal, scQ_ret, scQ_exit, Nat.reduceEqDiff, reduceIte, eq_self, reduceCtorEq, if_true, if_false]
        refine Wps_regionX' (T := [(23, e23), (24, e24), (25, e25)]) ⟨e23_ok, e24_ok, e25_ok, trivial⟩ rfl fun K hK => ?_
        repeat
          (first | refine X0 rfl fun K1 hK1 => ?_ | refine X1 rfl rfl fun K1 hK1 => ?_)
          simp only [↓EP, EQ, implies_true, forall_const, tys, zoks, zeros, Nat.reduceEqDiff, Nat.reduceAdd, Nat.reduceLT, Nat.reduceLeDiff, reduceIte, reduceCtorEq, e23, e24, e25_ap, List.length_map, Int.toNat_natCast, toNat_pred, paged, ↓dBuc_size, ↓dBuc_isAg, ↓dBuc_nav, ↓dBuc_vp, dBuc_fold, ↓dObj_size, ↓dObj_isAg, ↓dObj_nav, ↓dObj_vp, dObj_fold, ↓dVer_size, ↓dVer_isAg, ↓dVer_nav, ↓dVer_vp, dVer_fold, ↓dLock_size, ↓dLock_isAg, ↓dLock_nav, ↓dLock_vp, dLock_fold, ↓dRow_size, ↓dRow_isAg, ↓dRow_nav, ↓dRow_vp, dRow_fold]
          try simp (disch := omega) only [wrap64, wrapU64]
          repeat (first | refine And.intro cl ?_ | intro e)
          refine hK1 _ ?_
          clear hK1 K1
        refine XE ?_
        refine hK _ ?_
        clear hK K
        simp only [Wps_nil, thenQ_normal, thenQ_exit, thenQ_ret, blkQ_normal, blkQ_ret, blkQ_if, blkQ_same, scQ_normal, scQ_ret, scQ_exit, Nat.reduceEqDiff, reduceIte, eq_self, reduceCtorEq, if_true, if_false]
        refine ⟨_, _, ?h1, ⟨i + 1, rows, rfl, (by omega), (by omega), (by rw [hi2, drop_getD hi, rkeys, if_pos hr3]), ?h2⟩, Wk_cut (L' := [.box (.d (dBuc b)), .tok 55 44 rows.length]) rfl [1, 2, 3, 4, 5, 13, 14] rfl (by simp [belS, keepL, at_cons, at_nil, AV.bel, AV.bels]) (by simp [BelL, Res.bel, AV.bel, AV.bels]) (by simp) rfl⟩
        case h2 =>
          simp only [St.keep, keepL, at_cons, at_nil, Nat.reduceEqDiff, reduceIte, eq_self, List.map_append, List.map_cons, List.map_nil]
          first | rfl | (apply St_eq <;> first | rfl | (simp; done))
        case h1 => omega
      · have hr3 := hc3
        try simp only [decide_eq_true_eq, decide_eq_false_iff_not, Bool.not_eq_true', Bool.not_eq_false', Int.not_lt, Int.not_le, ge_iff_le, gt_iff_lt, Bool.or_eq_false_iff, Bool.or_eq_true, Bool.and_eq_true, Bool.and_eq_false_imp, beq_iff_eq, beq_eq_false_iff_ne, ne_eq, bne_iff_ne, bne_eq_false_iff_eq] at hc3
        refine Wps_skip ?_
        refine Wps_seq ?_
        refine Wps_reg (T := [(23, e23), (24, e24), (25, e25)]) ⟨e23_ok, e24_ok, e25_ok, trivial⟩ [1, 2, 3, 4, 5, 13, 14, 15, 16, 17, 18] rfl (by simp) fun K hK => ?_
        repeat
          (first | refine X0 rfl fun K1 hK1 => ?_ | refine X1 rfl rfl fun K1 hK1 => ?_)
          simp only [↓EP, EQ, implies_true, forall_const, tys, zoks, zeros, Nat.reduceEqDiff, Nat.reduceAdd, Nat.reduceLT, Nat.reduceLeDiff, reduceIte, reduceCtorEq, e23, e24, e25_ap, List.length_map, Int.toNat_natCast, toNat_pred, paged, ↓dBuc_size, ↓dBuc_isAg, ↓dBuc_nav, ↓dBuc_vp, dBuc_fold, ↓dObj_size, ↓dObj_isAg, ↓dObj_nav, ↓dObj_vp, dObj_fold, ↓dVer_size, ↓dVer_isAg, ↓dVer_nav, ↓dVer_vp, dVer_fold, ↓dLock_size, ↓dLock_isAg, ↓dLock_nav, ↓dLock_vp, dLock_fold, ↓dRow_size, ↓dRow_isAg, ↓dRow_nav, ↓dRow_vp, dRow_fold]
          try simp (disch := omega) only [wrap64, wrapU64]
          repeat (first | refine And.intro cl ?_ | intro e)
          refine hK1 _ ?_
          clear hK1 K1
        refine XE ?_
        refine hK _ _ (by simp only [St.keep, keepL, at_cons, at_nil, Nat.reduceEqDiff, reduceIte, eq_self]; rfl) ?_
        clear hK K
        refine Wps_seq ?_
        refine Wps_seq ?_
        refine Wps_reg (T := [(23, e23), (24, e24), (25, e25)]) ⟨e23_ok, e24_ok, e25_ok, trivial⟩ [1, 2, 3, 4, 5, 13, 14, 15, 16, 17, 74] rfl (by simp) fun K hK => ?_
        repeat
          (first | refine X0 rfl fun K1 hK1 => ?_ | refine X1 rfl rfl fun K1 hK1 => ?_)
          simp only [↓EP, EQ, implies_true, forall_const, tys, zoks, zeros, Nat.reduceEqDiff, Nat.reduceAdd, Nat.reduceLT, Nat.reduceLeDiff, reduceIte, reduceCtorEq, e23, e24, e25_ap, List.length_map, Int.toNat_natCast, toNat_pred, paged, ↓dBuc_size, ↓dBuc_isAg, ↓dBuc_nav, ↓dBuc_vp, dBuc_fold, ↓dObj_size, ↓dObj_isAg, ↓dObj_nav, ↓dObj_vp, dObj_fold, ↓dVer_size, ↓dVer_isAg, ↓dVer_nav, ↓dVer_vp, dVer_fold, ↓dLock_size, ↓dLock_isAg, ↓dLock_nav, ↓dLock_vp, dLock_fold, ↓dRow_size, ↓dRow_isAg, ↓dRow_nav, ↓dRow_vp, dRow_fold]
          try simp (disch := omega) only [wrap64, wrapU64]
          repeat (first | refine And.intro cl ?_ | intro e)
          refine hK1 _ ?_
          clear hK1 K1
        refine XE ?_
        refine hK _ _ (by simp only [St.keep, keepL, at_cons, at_nil, Nat.reduceEqDiff, reduceIte, eq_self]; rfl) ?_
        clear hK K
        refine Wps_cond rfl (fun hc4 => ?_) (fun hc4 => ?_)
        · have hr4 := hc4
          try simp only [decide_eq_true_eq, decide_eq_false_iff_not, Bool.not_eq_true', Bool.not_eq_false', Int.not_lt, Int.not_le, ge_iff_le, gt_iff_lt, Bool.or_eq_false_iff, Bool.or_eq_true, Bool.and_eq_true, Bool.and_eq_false_imp, beq_iff_eq, beq_eq_false_iff_ne, ne_eq, bne_iff_ne, bne_eq_false_iff_eq] at hc4
          refine Wps_seq ?_
          refine Wps_reg (T := [(23, e23), (24, e24), (25, e25)]) ⟨e23_ok, e24_ok, e25_ok, trivial⟩ [1, 2, 3, 4, 5, 13, 14] rfl (by simp) fun K hK => ?_
          repeat
            (first | refine X0 rfl fun K1 hK1 => ?_ | refine X1 rfl rfl fun K1 hK1 => ?_)
            simp only [↓EP, EQ, implies_true, forall_const, tys, zoks, zeros, Nat.reduceEqDiff, Nat.reduceAdd, Nat.reduceLT, Nat.reduceLeDiff, reduceIte, reduceCtorEq, e23, e24, e25_ap, List.length_map, Int.toNat_natCast, toNat_pred, paged, ↓dBuc_size, ↓dBuc_isAg, ↓dBuc_nav, ↓dBuc_vp, dBuc_fold, ↓dObj_size, ↓dObj_isAg, ↓dObj_nav, ↓dObj_vp, dObj_fold, ↓dVer_size, ↓dVer_isAg, ↓dVer_nav, ↓dVer_vp, dVer_fold, ↓dLock_size, ↓dLock_isAg, ↓dLock_nav, ↓dLock_vp, dLock_fold, ↓dRow_size, ↓dRow_isAg, ↓dRow_nav, ↓dRow_vp, dRow_fold]
            try simp (disch := omega) only [wrap64, wrapU64]
            repeat (first | refine And.intro cl ?_ | intro e)
            refine hK1 _ ?_
            clear hK1 K1
          refine XE ?_
          refine hK _ _ (by simp only [St.keep, keepL, at_cons, at_nil, Nat.reduceEqDiff, reduceIte, eq_self]; rfl) ?_
          clear hK K
          refine Wps_exit ?_
          simp only [Wps_nil, thenQ_normal, thenQ_exit, thenQ_ret, blkQ_normal, blkQ_ret, blkQ_if, blkQ_same, scQ_normal, scQ_ret, scQ_exit, Nat.reduceEqDiff, reduceIte, eq_self, reduceCtorEq, if_true, if_false]
          refine Wps_regionX' (T := [(23, e23), (24, e24), (25, e25)]) ⟨e23_ok, e24_ok, e25_ok, trivial⟩ rfl fun K hK => ?_
          repeat
            (first | refine X0 rfl fun K1 hK1 => ?_ | refine X1 rfl rfl fun K1 hK1 => ?_)
            simp only [↓EP, EQ, implies_true, forall_const, tys, zoks, zeros, Nat.reduceEqDiff, Nat.reduceAdd, Nat.reduceLT, Nat.reduceLeDiff, reduceIte, reduceCtorEq, e23, e24, e25_ap, List.length_map, Int.toNat_natCast, toNat_pred, paged, ↓dBuc_size, ↓dBuc_isAg, ↓dBuc_nav, ↓dBuc_vp, dBuc_fold, ↓dObj_size, ↓dObj_isAg, ↓dObj_nav, ↓dObj_vp, dObj_fold, ↓dVer_size, ↓dVer_isAg, ↓dVer_nav, ↓dVer_vp, dVer_fold, ↓dLock_size, ↓dLock_isAg, ↓dLock_nav, ↓dLock_vp, dLock_fold, ↓dRow_size, ↓dRow_isAg, ↓dRow_nav, ↓dRow_vp, dRow_fold]
            try simp (disch := omega) only [wrap64, wrapU64]
            repeat (first | refine And.intro cl ?_ | intro e)
            refine hK1 _ ?_
            clear hK1 K1
          refine XE ?_
          refine hK _ ?_
          clear hK K
          simp only [Wps_nil, thenQ_normal, thenQ_exit, thenQ_ret, blkQ_normal, blkQ_ret, blkQ_if, blkQ_same, scQ_normal, scQ_ret, scQ_exit, Nat.reduceEqDiff, reduceIte, eq_self, reduceCtorEq, if_true, if_false]
          refine ⟨_, _, ?h1, ⟨i + 1, rows ++ [keyRow (b.objs.getD i default)], rfl, (by omega), (by simp; omega), (by rw [hi2, drop_getD hi, rkeys, if_neg (Bool.eq_false_iff.1 hr3), if_pos hc4]), ?h2⟩, Wk_cut (L' := [.box (.d (dBuc b)), .tok 55 44 (rows.length + 1)]) rfl [1, 2, 3, 4, 5, 13, 14] rfl (by simp [belS, keepL, at_cons, at_nil, AV.bel, AV.bels]) (by simp [BelL, Res.bel, AV.bel, AV.bels]) (by simp) rfl⟩
          case h2 =>
            simp only [St.keep, keepL, at_cons, at_nil, Nat.reduceEqDiff, reduceIte, eq_self, List.map_append, List.map_cons, List.map_nil]
            first | rfl | (apply St_eq <;> first | rfl | (simp; done))
          case h1 => omega
        · have hr4 := hc4
          try simp only [decide_eq_true_eq, decide_eq_false_iff_not, Bool.not_eq_true', Bool.not_eq_false', Int.not_lt, Int.not_le, ge_iff_le, gt_iff_lt, Bool.or_eq_false_iff, Bool.or_eq_true, Bool.and_eq_true, Bool.and_eq_false_imp, beq_iff_eq, beq_eq_false_iff_ne, ne_eq, bne_iff_ne, bne_eq_false_iff_eq] at hc4
          refine Wps_skip ?_
          refine Wps_seq ?_
          refine Wps_reg (T := [(23, e23), (24, e24), (25, e25)]) ⟨e23_ok, e24_ok, e25_ok, trivial⟩ [1, 2, 3, 4, 5, 13, 14, 17, 19] rfl (by simp) fun K hK => ?_
          repeat
            (first | refine X0 rfl fun K1 hK1 => ?_ | refine X1 rfl rfl fun K1 hK1 => ?_)
            simp only [↓EP, EQ, implies_true, forall_const, tys, zoks, zeros, Nat.reduceEqDiff, Nat.reduceAdd, Nat.reduceLT, Nat.reduceLeDiff, reduceIte, reduceCtorEq, e23, e24, e25_ap, List.length_map, Int.toNat_natCast, toNat_pred, paged, ↓dBuc_size, ↓dBuc_isAg, ↓dBuc_nav, ↓dBuc_vp, dBuc_fold, ↓dObj_size, ↓dObj_isAg, ↓dObj_nav, ↓dObj_vp, dObj_fold, ↓dVer_size, ↓dVer_isAg, ↓dVer_nav, ↓dVer_vp, dVer_fold, ↓dLock_size, ↓dLock_isAg, ↓dLock_nav, ↓dLock_vp, dLock_fold, ↓dRow_size, ↓dRow_isAg, ↓dRow_nav, ↓dRow_vp, dRow_fold]
            try simp (disch := omega) only [wrap64, wrapU64]
            repeat (first | refine And.intro cl ?_ | intro e)
            refine hK1 _ ?_
            clear hK1 K1
          refine XE ?_
          refine hK _ _ (by simp only [St.keep, keepL, at_cons, at_nil, Nat.reduceEqDiff, reduceIte, eq_self]; rfl) ?_
          clear hK K
          refine Wps_seq ?_
          refine Wps_seq ?_
          refine Wps_reg (T := [(23, e23), (24, e24), (25, e25)]) ⟨e23_ok, e24_ok, e25_ok, trivial⟩ [1, 2, 3, 4, 5, 13, 14, 17, 19, 20] rfl (by simp) fun K hK => ?_
          repeat
            (first | refine X0 rfl fun K1 hK1 => ?_ | refine X1 rfl rfl fun K1 hK1 => ?_)
            simp only [↓EP, EQ, implies_true, forall_const, tys, zoks, zeros, Nat.reduceEqDiff, Nat.reduceAdd, Nat.reduceLT, Nat.reduceLeDiff, reduceIte, reduceCtorEq, e23, e24, e25_ap, List.length_map, Int.toNat_natCast, toNat_pred, paged, ↓dBuc_size, ↓dBuc_isAg, ↓dBuc_nav, ↓dBuc_vp, dBuc_fold, ↓dObj_size, ↓dObj_isAg, ↓dObj_nav, ↓dObj_vp, dObj_fold, ↓dVer_size, ↓dVer_isAg, ↓dVer_nav, ↓dVer_vp, dVer_fold, ↓dLock_size, ↓dLock_isAg, ↓dLock_nav, ↓dLock_vp, dLock_fold, ↓dRow_size, ↓dRow_isAg, ↓dRow_nav, ↓dRow_vp, dRow_fold]
            try simp (disch := omega) only [wrap64, wrapU64]
            repeat (first | refine And.intro cl ?_ | intro e)
            refine hK1 _ ?_
            clear hK1 K1
          refine XE ?_
          refine hK _ _ (by simp only [St.keep, keepL, at_cons, at_nil, Nat.reduceEqDiff, reduceIte, eq_self]; rfl) ?_
          clear hK K
          refine Wps_block ?_
          -- live at the head: [1, 2, 3, 4, 5, 13, 14, 17, 19, 20]
          refine Wps_loop (fun n_ st_ => ∃ (k : Nat), ∃ (td : Bool), n_ = rows.length - k ∧ (k ≤ rows.length) ∧ (td = ((strLt (refGroup (b.objs.getD i default).key pre mark).1 after || strEq (refGroup (b.objs.getD i default).key pre mark).1 after) || (rows.take k).any fun r => r.group && strEq r.key (refGroup (b.objs.getD i default).key pre mark).1)) ∧ st_ = ⟨[(1, S pre), (2, S mark), (3, S after), (4, I most), (5, .ptr 0 0 []), (13, .own 1 44 (rows.map dRow)), (14, I i), (17, S (refGroup (b.objs.getD i default).key pre mark).1), (19, B td), (20, I k)], [.box (.d (dBuc b)), .tok 55 44 rows.length, .box (.d (dObj (b.objs.getD i default))), .box (.d (dVer (lastV (b.objs.getD i default))))]⟩) _ ⟨0, (strLt (refGroup (b.objs.getD i default).key pre mark).1 after || strEq (refGroup (b.objs.getD i default).key pre mark).1 after), rfl, (by simp), (by simp), rfl⟩ (Wk.refl _) fun n_ st_ hI => ?_
          obtain ⟨k, td, rfl, hk0, hk1, rfl⟩ := hI
          refine Wps_seq ?_
          refine Wps_seq ?_
          refine Wps_reg (T := [(23, e23), (24, e24), (25, e25)]) ⟨e23_ok, e24_ok, e25_ok, trivial⟩ [1, 2, 3, 4, 5, 13, 14, 17, 19, 20, 88] rfl (by simp) fun K hK => ?_
          repeat
            (first | refine X0 rfl fun K1 hK1 => ?_ | refine X1 rfl rfl fun K1 hK1 => ?_)
            simp only [↓EP, EQ, implies_true, forall_const, tys, zoks, zeros, Nat.reduceEqDiff, Nat.reduceAdd, Nat.reduceLT, Nat.reduceLeDiff, reduceIte, reduceCtorEq, e23, e24, e25_ap, List.length_map, Int.toNat_natCast, toNat_pred, paged, ↓dBuc_size, ↓dBuc_isAg, ↓dBuc_nav, ↓dBuc_vp, dBuc_fold, ↓dObj_size, ↓dObj_isAg, ↓dObj_nav, ↓dObj_vp, dObj_fold, ↓dVer_size, ↓dVer_isAg, ↓dVer_nav, ↓dVer_vp, dVer_fold, ↓dLock_size, ↓dLock_isAg, ↓dLock_nav, ↓dLock_vp, dLock_fold, ↓dRow_size, ↓dRow_isAg, ↓dRow_nav, ↓dRow_vp, dRow_fold]
            try simp (disch := omega) only [wrap64, wrapU64]
            repeat (first | refine And.intro cl ?_ | intro e)
            refine hK1 _ ?_
            clear hK1 K1
          refine XE ?_
          refine hK _ _ (by simp only [St.keep, keepL, at_cons, at_nil, Nat.reduceEqDiff, reduceIte, eq_self]; rfl) ?_
          clear hK K
          refine Wps_cond rfl (fun hc5 => ?_) (fun hc5 => ?_)
          · have hr5 := hc5
            try simp only [decide_eq_true_eq, decide_eq_false_iff_not, Bool.not_eq_true', Bool.not_eq_false', Int.not_lt, Int.not_le, ge_iff_le, gt_iff_lt, Bool.or_eq_false_iff, Bool.or_eq_true, Bool.and_eq_true, Bool.and_eq_false_imp, beq_iff_eq, beq_eq_false_iff_ne, ne_eq, bne_iff_ne, bne_eq_false_iff_eq] at hc5
            refine Wps_skip ?_
            refine Wps_seq ?_
            refine Wps_block ?_
            have hk : k < rows.length := by omega
            refine Wps_regionX' (T := [(23, e23), (24, e24), (25, e25)]) ⟨e23_ok, e24_ok, e25_ok, trivial⟩ rfl fun K hK => ?_
            repeat
              (first | refine X0 rfl fun K1 hK1 => ?_ | refine X1 rfl rfl fun K1 hK1 => ?_)
              simp only [↓EP, EQ, implies_true, forall_const, tys, zoks, zeros, Nat.reduceEqDiff, Nat.reduceAdd, Nat.reduceLT, Nat.reduceLeDiff, reduceIte, reduceCtorEq, e23, e24, e25_ap, List.length_map, Int.toNat_natCast, toNat_pred, paged, ↓dBuc_size, ↓dBuc_isAg, ↓dBuc_nav, ↓dBuc_vp, dBuc_fold, ↓dObj_size, ↓dObj_isAg, ↓dObj_nav, ↓dObj_vp, dObj_fold, ↓dVer_size, ↓dVer_isAg, ↓dVer_nav, ↓dVer_vp, dVer_fold, ↓dLock_size, ↓dLock_isAg, ↓dLock_nav, ↓dLock_vp, dLock_fold, ↓dRow_size, ↓dRow_isAg, ↓dRow_nav, ↓dRow_vp, dRow_fold, getD_map_lt hk]
              try simp (disch := omega) only [wrap64, wrapU64]
              repeat (first | refine And.intro cl ?_ | intro e)
              refine hK1 _ ?_
              clear hK1 K1
            refine XE ?_
            refine hK _ ?_
            clear hK K
            simp only [Wps_nil, thenQ_normal, thenQ_exit, thenQ_ret, blkQ_normal, blkQ_ret, blkQ_if, blkQ_same, scQ_normal, scQ_ret, scQ_exit, Nat.reduceEqDiff, reduceIte, eq_self, reduceCtorEq, if_true, if_false]
            refine Wps_regionX' (T := [(23, e23), (24, e24), (25, e25)]) ⟨e23_ok, e24_ok, e25_ok, trivial⟩ rfl fun K hK => ?_
            repeat
              (first | refine X0 rfl fun K1 hK1 => ?_ | refine X1 rfl rfl fun K1 hK1 => ?_)
              simp only [↓EP, EQ, implies_true, forall_const, tys, zoks, zeros, Nat.reduceEqDiff, Nat.reduceAdd, Nat.reduceLT, Nat.reduceLeDiff, reduceIte, reduceCtorEq, e23, e24, e25_ap, List.length_map, Int.toNat_natCast, toNat_pred, paged, ↓dBuc_size, ↓dBuc_isAg, ↓dBuc_nav, ↓dBuc_vp, dBuc_fold, ↓dObj_size, ↓dObj_isAg, ↓dObj_nav, ↓dObj_vp, dObj_fold, ↓dVer_size, ↓dVer_isAg, ↓dVer_nav, ↓dVer_vp, dVer_fold, ↓dLock_size, ↓dLock_isAg, ↓dLock_nav, ↓dLock_vp, dLock_fold, ↓dRow_size, ↓dRow_isAg, ↓dRow_nav, ↓dRow_vp, dRow_fold]
              try simp (disch := omega) only [wrap64, wrapU64]
              repeat (first | refine And.intro cl ?_ | intro e)
              refine hK1 _ ?_
              clear hK1 K1
            refine XE ?_
            refine hK _ ?_
            clear hK K
            simp only [Wps_nil, thenQ_normal, thenQ_exit, thenQ_ret, blkQ_normal, blkQ_ret, blkQ_if, blkQ_same, scQ_normal, scQ_ret, scQ_exit, Nat.reduceEqDiff, reduceIte, eq_self, reduceCtorEq, if_true, if_false]
            refine ⟨_, _, ?h1, ⟨k + 1, ?w3_1, rfl, (by omega), ?hf3_1, ?h2⟩, Wk_keep [1, 2, 3, 4, 5, 13, 14, 17, 19, 20]⟩
            case h2 =>
              simp only [St.keep, keepL, at_cons, at_nil, Nat.reduceEqDiff, reduceIte, eq_self]
              first | rfl | (apply St_eq <;> first | rfl | (simp; done)) | (rw [wrapS (i := k) (by omega)]; first | rfl | (apply St_eq <;> first | rfl | (simp; done)))
            case hf3_1 => (rw [any_take_succ hk, hk1]; cases strLt (refGroup (b.objs.getD i default).key pre mark).1 after <;> cases strEq (refGroup (b.objs.getD i default).key pre mark).1 after <;> simp)
            case h1 => omega
          · have hr5 := hc5
            try simp only [decide_eq_true_eq, decide_eq_false_iff_not, Bool.not_eq_true', Bool.not_eq_false', Int.not_lt, Int.not_le, ge_iff_le, gt_iff_lt, Bool.or_eq_false_iff, Bool.or_eq_true, Bool.and_eq_true, Bool.and_eq_false_imp, beq_iff_eq, beq_eq_false_iff_ne, ne_eq, bne_iff_ne, bne_eq_false_iff_eq] at hc5
            refine Wps_exit ?_
            simp only [Wps_nil, thenQ_normal, thenQ_exit, thenQ_ret, blkQ_normal, blkQ_ret, blkQ_if, blkQ_same, scQ_normal, scQ_ret, scQ_exit, Nat.reduceEqDiff, reduceIte, eq_self, reduceCtorEq, if_true, if_false]
            refine Wps_seq ?_
            refine Wps_reg (T := [(23, e23), (24, e24), (25, e25)]) ⟨e23_ok, e24_ok, e25_ok, trivial⟩ [1, 2, 3, 4, 5, 13, 14, 17, 109] rfl (by simp) fun K hK => ?_
            repeat
              (first | refine X0 rfl fun K1 hK1 => ?_ | refine X1 rfl rfl fun K1 hK1 => ?_)
              simp only [↓EP, EQ, implies_true, forall_const, tys, zoks, zeros, Nat.reduceEqDiff, Nat.reduceAdd, Nat.reduceLT, Nat.reduceLeDiff, reduceIte, reduceCtorEq, e23, e24, e25_ap, List.length_map, Int.toNat_natCast, toNat_pred, paged, ↓dBuc_size, ↓dBuc_isAg, ↓dBuc_nav, ↓dBuc_vp, dBuc_fold, ↓dObj_size, ↓dObj_isAg, ↓dObj_nav, ↓dObj_vp, dObj_fold, ↓dVer_size, ↓dVer_isAg, ↓dVer_nav, ↓dVer_vp, dVer_fold, ↓dLock_size, ↓dLock_isAg, ↓dLock_nav, ↓dLock_vp, dLock_fold, ↓dRow_size, ↓dRow_isAg, ↓dRow_nav, ↓dRow_vp, dRow_fold]
              try simp (disch := omega) only [wrap64, wrapU64]
              repeat (first | refine And.intro cl ?_ | intro e)
              refine hK1 _ ?_
              clear hK1 K1
            refine XE ?_
            refine hK _ _ (by simp only [St.keep, keepL, at_cons, at_nil, Nat.reduceEqDiff, reduceIte, eq_self]; rfl) ?_
            clear hK K
            refine Wps_cond rfl (fun hc6 => ?_) (fun hc6 => ?_)
            · have hr6 := hc6
              try simp only [decide_eq_true_eq, decide_eq_false_iff_not, Bool.not_eq_true', Bool.not_eq_false', Int.not_lt, Int.not_le, ge_iff_le, gt_iff_lt, Bool.or_eq_false_iff, Bool.or_eq_true, Bool.and_eq_true, Bool.and_eq_false_imp, beq_iff_eq, beq_eq_false_iff_ne, ne_eq, bne_iff_ne, bne_eq_false_iff_eq] at hc6
              have ht : ¬ told (refGroup (b.objs.getD i default).key pre mark).1 after rows = true := by
                rw [hk1, List.take_of_length_le (by omega)] at hc6
                unfold told; rw [hc6]; simp
              refine Wps_regionX' (T := [(23, e23), (24, e24), (25, e25)]) ⟨e23_ok, e24_ok, e25_ok, trivial⟩ rfl fun K hK => ?_
              repeat
                (first | refine X0 rfl fun K1 hK1 => ?_ | refine X1 rfl rfl fun K1 hK1 => ?_)
                simp only [↓EP, EQ, implies_true, forall_const, tys, zoks, zeros, Nat.reduceEqDiff, Nat.reduceAdd, Nat.reduceLT, Nat.reduceLeDiff, reduceIte, reduceCtorEq, e23, e24, e25_ap, List.length_map, Int.toNat_natCast, toNat_pred, paged, ↓dBuc_size, ↓dBuc_isAg, ↓dBuc_nav, ↓dBuc_vp, dBuc_fold, ↓dObj_size, ↓dObj_isAg, ↓dObj_nav, ↓dObj_vp, dObj_fold, ↓dVer_size, ↓dVer_isAg, ↓dVer_nav, ↓dVer_vp, dVer_fold, ↓dLock_size, ↓dLock_isAg, ↓dLock_nav, ↓dLock_vp, dLock_fold, ↓dRow_size, ↓dRow_isAg, ↓dRow_nav, ↓dRow_vp, dRow_fold]
                try simp (disch := omega) only [wrap64, wrapU64]
                repeat (first | refine And.intro cl ?_ | intro e)
                refine hK1 _ ?_
                clear hK1 K1
              refine XE ?_
              refine hK _ ?_
              clear hK K
              simp only [Wps_nil, thenQ_normal, thenQ_exit, thenQ_ret, blkQ_normal, blkQ_ret, blkQ_if, blkQ_same, scQ_normal, scQ_ret, scQ_exit, Nat.reduceEqDiff, reduceIte, eq_self, reduceCtorEq, if_true, if_false]
              refine Wps_weak (Wk_slots (l' := [(1, S pre), (2, S mark), (3, S after), (4, I most), (5, .ptr 0 0 []), (13, .own 1 44 ((rows ++ [grpRow (refGroup (b.objs.getD i default).key pre mark).1]).map dRow)), (14, I i)]) ⟨Imp.refl _, Imp.refl _, Imp.refl _, Imp.refl _, Imp.refl _, (by rw [List.map_append]; exact Imp_own (DImps.append (DImps.refl _) ⟨dimp_grp _, trivial⟩)), Imp.refl _, trivial⟩) ?_ (by simp)
              refine Wps_regionX' (T := [(23, e23), (24, e24), (25, e25)]) ⟨e23_ok, e24_ok, e25_ok, trivial⟩ rfl fun K hK => ?_
              repeat
                (first | refine X0 rfl fun K1 hK1 => ?_ | refine X1 rfl rfl fun K1 hK1 => ?_)
                simp only [↓EP, EQ, implies_true, forall_const, tys, zoks, zeros, Nat.reduceEqDiff, Nat.reduceAdd, Nat.reduceLT, Nat.reduceLeDiff, reduceIte, reduceCtorEq, e23, e24, e25_ap, List.length_map, Int.toNat_natCast, toNat_pred, paged, ↓dBuc_size, ↓dBuc_isAg, ↓dBuc_nav, ↓dBuc_vp, dBuc_fold, ↓dObj_size, ↓dObj_isAg, ↓dObj_nav, ↓dObj_vp, dObj_fold, ↓dVer_size, ↓dVer_isAg, ↓dVer_nav, ↓dVer_vp, dVer_fold, ↓dLock_size, ↓dLock_isAg, ↓dLock_nav, ↓dLock_vp, dLock_fold, ↓dRow_size, ↓dRow_isAg, ↓dRow_nav, ↓dRow_vp, dRow_fold]
                try simp (disch := omega) only [wrap64, wrapU64]
                repeat (first | refine And.intro cl ?_ | intro e)
                refine hK1 _ ?_
                clear hK1 K1
              refine XE ?_
              refine hK _ ?_
              clear hK K
              simp only [Wps_nil, thenQ_normal, thenQ_exit, thenQ_ret, blkQ_normal, blkQ_ret, blkQ_if, blkQ_same, scQ_normal, scQ_ret, scQ_exit, Nat.reduceEqDiff, reduceIte, eq_self, reduceCtorEq, if_true, if_false]
              refine ⟨_, _, ?h1, ⟨i + 1, rows ++ [grpRow (refGroup (b.objs.getD i default).key pre mark).1], rfl, (by omega), (by simp; omega), (by rw [hi2, drop_getD hi, rkeys, if_neg (Bool.eq_false_iff.1 hr3), if_neg (by rw [hc4]; simp), if_neg ht]), ?h2⟩, Wk_cut (L' := [.box (.d (dBuc b)), .tok 55 44 (rows.length + 1)]) rfl [1, 2, 3, 4, 5, 13, 14] rfl (by simp [belS, keepL, at_cons, at_nil, AV.bel, AV.bels]) (by simp [BelL, Res.bel, AV.bel, AV.bels]) (by simp) rfl⟩
              case h2 =>
                simp only [St.keep, keepL, at_cons, at_nil, Nat.reduceEqDiff, reduceIte, eq_self, List.map_append, List.map_cons, List.map_nil]
                first | rfl | (apply St_eq <;> first | rfl | (simp; done))
              case h1 => omega
            · have hr6 := hc6
              try simp only [decide_eq_true_eq, decide_eq_false_iff_not, Bool.not_eq_true', Bool.not_eq_false', Int.not_lt, Int.not_le, ge_iff_le, gt_iff_lt, Bool.or_eq_false_iff, Bool.or_eq_true, Bool.and_eq_true, Bool.and_eq_false_imp, beq_iff_eq, beq_eq_false_iff_ne, ne_eq, bne_iff_ne, bne_eq_false_iff_eq] at hc6
              have ht : told (refGroup (b.objs.getD i default).key pre mark).1 after rows = true := by
                rw [hk1, List.take_of_length_le (by omega)] at hc6
                unfold told; exact hc6
              refine Wps_skip ?_
              simp only [Wps_nil, thenQ_normal, thenQ_exit, thenQ_ret, blkQ_normal, blkQ_ret, blkQ_if, blkQ_same, scQ_normal, scQ_ret, scQ_exit, Nat.reduceEqDiff, reduceIte, eq_self, reduceCtorEq, if_true, if_false]
              refine Wps_regionX' (T := [(23, e23), (24, e24), (25, e25)]) ⟨e23_ok, e24_ok, e25_ok, trivial⟩ rfl fun K hK => ?_
              repeat
                (first | refine X0 rfl fun K1 hK1 => ?_ | refine X1 rfl rfl fun K1 hK1 => ?_)
                simp only [↓EP, EQ, implies_true, forall_const, tys, zoks, zeros, Nat.reduceEqDiff, Nat.reduceAdd, Nat.reduceLT, Nat.reduceLeDiff, reduceIte, reduceCtorEq, e23, e24, e25_ap, List.length_map, Int.toNat_natCast, toNat_pred, paged, ↓dBuc_size, ↓dBuc_isAg, ↓dBuc_nav, ↓dBuc_vp, dBuc_fold, ↓dObj_size, ↓dObj_isAg, ↓dObj_nav, ↓dObj_vp, dObj_fold, ↓dVer_size, ↓dVer_isAg, ↓dVer_nav, ↓dVer_vp, dVer_fold, ↓dLock_size, ↓dLock_isAg, ↓dLock_nav, ↓dLock_vp, dLock_fold, ↓dRow_size, ↓dRow_isAg, ↓dRow_nav, ↓dRow_vp, dRow_fold]
                try simp (disch := omega) only [wrap64, wrapU64]
                repeat (first | refine And.intro cl ?_ | intro e)
                refine hK1 _ ?_
                clear hK1 K1
              refine XE ?_
              refine hK _ ?_
              clear hK K
              simp only [Wps_nil, thenQ_normal, thenQ_exit, thenQ_ret, blkQ_normal, blkQ_ret, blkQ_if, blkQ_same, scQ_normal, scQ_ret, scQ_exit, Nat.reduceEqDiff, reduceIte, eq_self, reduceCtorEq, if_true, if_false]
              refine ⟨_, _, ?h1, ⟨i + 1, rows, rfl, (by omega), (by omega), (by rw [hi2, drop_getD hi, rkeys, if_neg (Bool.eq_false_iff.1 hr3), if_neg (by rw [hc4]; simp), if_pos ht]), ?h2⟩, Wk_cut (L' := [.box (.d (dBuc b)), .tok 55 44 rows.length]) rfl [1, 2, 3, 4, 5, 13, 14] rfl (by simp [belS, keepL, at_cons, at_nil, AV.bel, AV.bels]) (by simp [BelL, Res.bel, AV.bel, AV.bels]) (by simp) rfl⟩
              case h2 =>
                simp only [St.keep, keepL, at_cons, at_nil, Nat.reduceEqDiff, reduceIte, eq_self, List.map_append, List.map_cons, List.map_nil]
                first | rfl | (apply St_eq <;> first | rfl | (simp; done))
              case h1 => omega
    · have hr2 := hc2
      try simp only [decide_eq_true_eq, decide_eq_false_iff_not, Bool.not_eq_true', Bool.not_eq_false', Int.not_lt, Int.not_le, ge_iff_le, gt_iff_lt, Bool.or_eq_false_iff, Bool.or_eq_true, Bool.and_eq_true, Bool.and_eq_false_imp, beq_iff_eq, beq_eq_false_iff_ne, ne_eq, bne_iff_ne, bne_eq_false_iff_eq] at hc2
      refine Wps_exit ?_
      simp only [Wps_nil, thenQ_normal, thenQ_exit, thenQ_ret, blkQ_normal, blkQ_ret, blkQ_if, blkQ_same, scQ_normal, scQ_ret, scQ_exit, Nat.reduceEqDiff, reduceIte, eq_self, reduceCtorEq, if_true, if_false]
      refine Wps_seq ?_
      refine Wps_reg (T := [(23, e23), (24, e24), (25, e25)]) ⟨e23_ok, e24_ok, e25_ok, trivial⟩ [21, 22] rfl (by simp) fun K hK => ?_
      repeat
        (first | refine X0 rfl fun K1 hK1 => ?_ | refine X1 rfl rfl fun K1 hK1 => ?_)
        simp only [↓EP, EQ, implies_true, forall_const, tys, zoks, zeros, Nat.reduceEqDiff, Nat.reduceAdd, Nat.reduceLT, Nat.reduceLeDiff, reduceIte, reduceCtorEq, e23, e24, e25_ap, List.length_map, Int.toNat_natCast, toNat_pred, paged, ↓dBuc_size, ↓dBuc_isAg, ↓dBuc_nav, ↓dBuc_vp, dBuc_fold, ↓dObj_size, ↓dObj_isAg, ↓dObj_nav, ↓dObj_vp, dObj_fold, ↓dVer_size, ↓dVer_isAg, ↓dVer_nav, ↓dVer_vp, dVer_fold, ↓dLock_size, ↓dLock_isAg, ↓dLock_nav, ↓dLock_vp, dLock_fold, ↓dRow_size, ↓dRow_isAg, ↓dRow_nav, ↓dRow_vp, dRow_fold]
        try simp (disch := omega) only [wrap64, wrapU64]
        repeat (first | refine And.intro cl ?_ | intro e)
        refine hK1 _ ?_
        clear hK1 K1
      refine XE ?_
      refine hK _ _ (by simp only [St.keep, keepL, at_cons, at_nil, Nat.reduceEqDiff, reduceIte, eq_self]; rfl) ?_
      clear hK K
      refine Wps_seq ?_
      refine Wps_reg (T := [(23, e23), (24, e24), (25, e25)]) ⟨e23_ok, e24_ok, e25_ok, trivial⟩ [10, 11, 12] rfl (by simp) fun K hK => ?_
      repeat
        (first | refine X0 rfl fun K1 hK1 => ?_ | refine X1 rfl rfl fun K1 hK1 => ?_)
        simp only [↓EP, EQ, implies_true, forall_const, tys, zoks, zeros, Nat.reduceEqDiff, Nat.reduceAdd, Nat.reduceLT, Nat.reduceLeDiff, reduceIte, reduceCtorEq, e23, e24, e25_ap, List.length_map, Int.toNat_natCast, toNat_pred, paged, ↓dBuc_size, ↓dBuc_isAg, ↓dBuc_nav, ↓dBuc_vp, dBuc_fold, ↓dObj_size, ↓dObj_isAg, ↓dObj_nav, ↓dObj_vp, dObj_fold, ↓dVer_size, ↓dVer_isAg, ↓dVer_nav, ↓dVer_vp, dVer_fold, ↓dLock_size, ↓dLock_isAg, ↓dLock_nav, ↓dLock_vp, dLock_fold, ↓dRow_size, ↓dRow_isAg, ↓dRow_nav, ↓dRow_vp, dRow_fold]
        try simp (disch := omega) only [wrap64, wrapU64]
        repeat (first | refine And.intro cl ?_ | intro e)
        refine hK1 _ ?_
        clear hK1 K1
      refine XE ?_
      refine hK _ _ (by simp only [St.keep, keepL, at_cons, at_nil, Nat.reduceEqDiff, reduceIte, eq_self]; rfl) ?_
      clear hK K
      refine Wps_ret ?_
      try simp only [Wps_nil, thenQ_normal, thenQ_exit, thenQ_ret, blkQ_normal, blkQ_ret, blkQ_if, blkQ_same, scQ_normal, scQ_ret, scQ_exit, Nat.reduceEqDiff, reduceIte, eq_self, reduceCtorEq, if_true, if_false]
      first | refine ret_pureQ rfl ?_ | refine ret_pureN rfl ?_
      simp only [retP, at_cons, at_nil, Nat.reduceEqDiff, reduceIte, eq_self, AV.use, retV, AV.bel, AV.bels, true_and, and_true]
      rw [pagedR, if_neg (show ¬ (most < 1 ∨ most > 100) by omega), hi2, List.drop_of_length_le (by omega), rkeys]

end Go.Proofs.Ytolplbfonlhbhaa
