/- Contracts, ninth part: states. -/
import Derived.Test.YtolplbfonlhbhaaC8
set_option maxRecDepth 20000
set_option maxHeartbeats 4000000
set_option linter.unusedVariables false
set_option linter.unusedSectionVars false
set_option linter.unusedSimpArgs false
namespace Go.Proofs.Ytolplbfonlhbhaa
open Go Go.Eng
variable [Globs]

def dId (n : Int) : D := .raw (.int .u64 n)
structure BucL where
  name : ByteArray
  mode : Int
  days : Int
  rules : List RuleL
  grants : List GrantL
  objs : List ObjL
  ups : List UpL
  deriving Inhabited
def dBuc (b : BucL) : D := .ag [.raw (.string b.name), .ag [.raw (.int .i64 b.mode), .raw (.int .i64 b.days)], .sl 5 (b.rules.map dRule), .sl 4 (b.grants.map dGrant), .sl 2 (b.objs.map dObj), .sl 4 (b.ups.map dUp)]
structure StL where
  mark : Int
  next : Int
  blobs : Int
  bucs : List BucL
  deriving Inhabited
def dSt (s : StL) : D := .ag [.raw (.int .i64 s.mark), .raw (.int .u64 s.next), .raw (.int .u64 s.blobs), .sl 7 (s.bucs.map dBuc)]

theorem dSt_size (s : StL) : (dSt s).size = 4 := rfl
theorem dSt_isAg (s : StL) : (dSt s).isAg = true := rfl
theorem dSt_nav (s : StL) : (∀ p, (dSt s).nav (0 :: p) = ((.raw (.int .i64 s.mark) : D).nav p).map fun q => (q.1, 0 + q.2)) ∧ (∀ p, (dSt s).nav (1 :: p) = ((.raw (.int .u64 s.next) : D).nav p).map fun q => (q.1, 1 + q.2)) ∧ (∀ p, (dSt s).nav (2 :: p) = ((.raw (.int .u64 s.blobs) : D).nav p).map fun q => (q.1, 2 + q.2)) ∧ (∀ p, (dSt s).nav (3 :: p) = ((.sl 7 (s.bucs.map dBuc) : D).nav p).map fun q => (q.1, 3 + q.2)) := ⟨fun _ => rfl, fun _ => rfl, fun _ => rfl, fun _ => rfl⟩
theorem dSt_vp (s : StL) : AV.vp (dSt s) = .vp (.ag [.raw (.int .i64 s.mark), .raw (.int .u64 s.next), .raw (.int .u64 s.blobs), .sl 7 (s.bucs.map dBuc)]) := rfl
theorem dSt_fold (s : StL) : AV.d (.ag [.raw (.int .i64 s.mark), .raw (.int .u64 s.next), .raw (.int .u64 s.blobs), .sl 7 (s.bucs.map dBuc)]) = .d (dSt s) := rfl
theorem dBuc_size (b : BucL) : (dBuc b).size = 7 := rfl
theorem dBuc_isAg (b : BucL) : (dBuc b).isAg = true := rfl
theorem dBuc_nav (b : BucL) : (∀ p, (dBuc b).nav (0 :: p) = ((.raw (.string b.name) : D).nav p).map fun q => (q.1, 0 + q.2)) ∧ (∀ p, (dBuc b).nav (1 :: p) = ((.ag [.raw (.int .i64 b.mode), .raw (.int .i64 b.days)] : D).nav p).map fun q => (q.1, 1 + q.2)) ∧ (∀ p, (dBuc b).nav (2 :: p) = ((.sl 5 (b.rules.map dRule) : D).nav p).map fun q => (q.1, 3 + q.2)) ∧ (∀ p, (dBuc b).nav (3 :: p) = ((.sl 4 (b.grants.map dGrant) : D).nav p).map fun q => (q.1, 4 + q.2)) ∧ (∀ p, (dBuc b).nav (4 :: p) = ((.sl 2 (b.objs.map dObj) : D).nav p).map fun q => (q.1, 5 + q.2)) ∧ (∀ p, (dBuc b).nav (5 :: p) = ((.sl 4 (b.ups.map dUp) : D).nav p).map fun q => (q.1, 6 + q.2)) := ⟨fun _ => rfl, fun _ => rfl, fun _ => rfl, fun _ => rfl, fun _ => rfl, fun _ => rfl⟩
theorem dBuc_vp (b : BucL) : AV.vp (dBuc b) = .vp (.ag [.raw (.string b.name), .ag [.raw (.int .i64 b.mode), .raw (.int .i64 b.days)], .sl 5 (b.rules.map dRule), .sl 4 (b.grants.map dGrant), .sl 2 (b.objs.map dObj), .sl 4 (b.ups.map dUp)]) := rfl
theorem dBuc_fold (b : BucL) : AV.d (.ag [.raw (.string b.name), .ag [.raw (.int .i64 b.mode), .raw (.int .i64 b.days)], .sl 5 (b.rules.map dRule), .sl 4 (b.grants.map dGrant), .sl 2 (b.objs.map dObj), .sl 4 (b.ups.map dUp)]) = .d (dBuc b) := rfl
theorem dObj_size (o : ObjL) : (dObj o).size = 2 := rfl
theorem dObj_isAg (o : ObjL) : (dObj o).isAg = true := rfl
theorem dObj_nav (o : ObjL) : (∀ p, (dObj o).nav (0 :: p) = ((.raw (.string o.key) : D).nav p).map fun q => (q.1, 0 + q.2)) ∧ (∀ p, (dObj o).nav (1 :: p) = ((.sl 41 (o.vers.map dVer) : D).nav p).map fun q => (q.1, 1 + q.2)) := ⟨fun _ => rfl, fun _ => rfl⟩
theorem dObj_vp (o : ObjL) : AV.vp (dObj o) = .vp (.ag [.raw (.string o.key), .sl 41 (o.vers.map dVer)]) := rfl
theorem dObj_fold (o : ObjL) : AV.d (.ag [.raw (.string o.key), .sl 41 (o.vers.map dVer)]) = .d (dObj o) := rfl
theorem dUp_size (u : UpL) : (dUp u).size = 4 := rfl
theorem dUp_isAg (u : UpL) : (dUp u).isAg = true := rfl
theorem dUp_nav (u : UpL) : (∀ p, (dUp u).nav (0 :: p) = ((.raw (.int .u64 u.id) : D).nav p).map fun q => (q.1, 0 + q.2)) ∧ (∀ p, (dUp u).nav (1 :: p) = ((.raw (.string u.key) : D).nav p).map fun q => (q.1, 1 + q.2)) ∧ (∀ p, (dUp u).nav (2 :: p) = ((dTags u.tags : D).nav p).map fun q => (q.1, 2 + q.2)) ∧ (∀ p, (dUp u).nav (3 :: p) = ((.sl 35 (u.parts.map dPart) : D).nav p).map fun q => (q.1, 3 + q.2)) := ⟨fun _ => rfl, fun _ => rfl, fun _ => rfl, fun _ => rfl⟩
theorem dUp_vp (u : UpL) : AV.vp (dUp u) = .vp (.ag [.raw (.int .u64 u.id), .raw (.string u.key), dTags u.tags, .sl 35 (u.parts.map dPart)]) := rfl
theorem dUp_fold (u : UpL) : AV.d (.ag [.raw (.int .u64 u.id), .raw (.string u.key), dTags u.tags, .sl 35 (u.parts.map dPart)]) = .d (dUp u) := rfl
theorem dLock_size (l : LockL) : (dLock l).size = 3 := rfl
theorem dLock_isAg (l : LockL) : (dLock l).isAg = true := rfl
theorem dLock_nav (l : LockL) : (∀ p, (dLock l).nav (0 :: p) = ((.raw (.int .i64 l.mode) : D).nav p).map fun q => (q.1, 0 + q.2)) ∧ (∀ p, (dLock l).nav (1 :: p) = ((.raw (.int .i64 l.til) : D).nav p).map fun q => (q.1, 1 + q.2)) ∧ (∀ p, (dLock l).nav (2 :: p) = ((.raw (.bool l.hold) : D).nav p).map fun q => (q.1, 2 + q.2)) := ⟨fun _ => rfl, fun _ => rfl, fun _ => rfl⟩
theorem dLock_vp (l : LockL) : AV.vp (dLock l) = .vp (.ag [.raw (.int .i64 l.mode), .raw (.int .i64 l.til), .raw (.bool l.hold)]) := rfl
theorem dLock_fold (l : LockL) : AV.d (.ag [.raw (.int .i64 l.mode), .raw (.int .i64 l.til), .raw (.bool l.hold)]) = .d (dLock l) := rfl
theorem dVer_nav (v : VerL) : (∀ p, (dVer v).nav (0 :: p) = ((.raw (.int .u64 v.id) : D).nav p).map fun q => (q.1, 0 + q.2)) ∧ (∀ p, (dVer v).nav (1 :: p) = ((.raw (.bool v.marker) : D).nav p).map fun q => (q.1, 1 + q.2)) ∧ (∀ p, (dVer v).nav (2 :: p) = ((.raw (.int .i64 v.size) : D).nav p).map fun q => (q.1, 2 + q.2)) ∧ (∀ p, (dVer v).nav (3 :: p) = ((.raw (.int .u64 v.blob) : D).nav p).map fun q => (q.1, 3 + q.2)) ∧ (∀ p, (dVer v).nav (4 :: p) = ((.arr 32 1 (v.digest.map dByte) : D).nav p).map fun q => (q.1, 4 + q.2)) ∧ (∀ p, (dVer v).nav (5 :: p) = ((.raw (.int .i64 v.created) : D).nav p).map fun q => (q.1, 36 + q.2)) ∧ (∀ p, (dVer v).nav (6 :: p) = ((dLock v.lock : D).nav p).map fun q => (q.1, 37 + q.2)) ∧ (∀ p, (dVer v).nav (7 :: p) = ((dTags v.tags : D).nav p).map fun q => (q.1, 40 + q.2)) := ⟨fun _ => rfl, fun _ => rfl, fun _ => rfl, fun _ => rfl, fun _ => rfl, fun _ => rfl, fun _ => rfl, fun _ => rfl⟩
theorem dVer_vp (v : VerL) : AV.vp (dVer v) = .vp (.ag [.raw (.int .u64 v.id), .raw (.bool v.marker), .raw (.int .i64 v.size), .raw (.int .u64 v.blob), .arr 32 1 (v.digest.map dByte), .raw (.int .i64 v.created), dLock v.lock, dTags v.tags]) := rfl
theorem dVer_fold (v : VerL) : AV.d (.ag [.raw (.int .u64 v.id), .raw (.bool v.marker), .raw (.int .i64 v.size), .raw (.int .u64 v.blob), .arr 32 1 (v.digest.map dByte), .raw (.int .i64 v.created), dLock v.lock, dTags v.tags]) = .d (dVer v) := rfl
abbrev okObj (o : ObjL) : Prop := o.key.size ≤ 1048576 ∧ okL okVer o.vers
abbrev okBuc (b : BucL) : Prop := b.name.size ≤ 1048576 ∧ okL okRule b.rules ∧ okL okGrant b.grants ∧ okL okObj b.objs ∧ okL okUp b.ups
abbrev okSt (s : StL) : Prop := okL okBuc s.bucs
/-- what is sound of an object, of a bucket -/
def goodO (o : ObjL) : Prop := 1 ≤ o.key.size ∧ 1 ≤ o.vers.length ∧ rising o.vers
def goodB (b : BucL) : Prop := ∀ k, k < b.objs.length → goodO (b.objs.getD k default) ∧ (0 < k → strLt (b.objs.getD (k - 1) default).key (b.objs.getD k default).key = true) ∧ (b.objs.getD k default).vers.length ≤ 256
def goodS (s : StL) : Prop := ∀ i, i < s.bucs.length → goodB (s.bucs.getD i default)
theorem dObj_inj : ∀ {a b : ObjL}, dObj a = dObj b → a = b := by
  intro a b h
  obtain ⟨k, v⟩ := a
  obtain ⟨k', v'⟩ := b
  simp only [dObj, D.ag.injEq, List.cons.injEq, D.raw.injEq, Value.string.injEq, D.sl.injEq, true_and, and_true] at h
  rw [h.1, map_inj dVer_inj h.2]

noncomputable def e49 : Ent := ent1 (fun l : List VerL => [.d (.sl 41 (l.map dVer))]) (fun l => okL okVer l) (fun l => YesB (rising l))
theorem e49_ap (l : List VerL) : e49 [.d (.sl 41 (l.map dVer))] = some (okL okVer l, YesB (rising l)) := ent1_ap (f := fun l : List VerL => [.d (.sl 41 (l.map dVer))]) (fun x y h => by simp only [List.cons.injEq, AV.d.injEq, D.sl.injEq, true_and, and_true] at h; exact map_inj dVer_inj h) l
theorem e49_ok : EntOk Try.prog 49 e49 := ent1_ok (fun l => yes_ex _) fun l h => f49_ok l h

-- chartularyref13.Sound
theorem f35_ok (o : ObjL) (ho : okObj o) : PureOk Try.prog 35 [.d (dObj o)] (YesB (goodO o)) := by
  refine PureOk_of (fn := Try.f35) (rs := [.tmp 2]) (n := 17) (hf := Try.func35) (hn := by kernel_rfl) (hb := rfl) (hr := rfl) (hN := rfl) (hargs := by simp) (ha := by simp [AV.bels, AV.bel]) (hrb := by exact yes_bel) (h := fun Z0 w0 => ?_)
  simp only [enumA, Nat.zero_add]
  refine Wps_seq ?_
  refine Wps_reg (T := [(48, e48), (49, e49)]) ⟨e48_ok, e49_ok, trivial⟩ [1] rfl (by simp) fun K hK => ?_
  repeat
    (first | refine X0 rfl fun K1 hK1 => ?_ | refine X1 rfl rfl fun K1 hK1 => ?_)
    simp only [↓EP, EQ, implies_true, forall_const, tys, zoks, zeros, Nat.reduceEqDiff, Nat.reduceAdd, Nat.reduceLT, Nat.reduceLeDiff, reduceIte, reduceCtorEq, e48, e49_ap, dObj, List.length_map]
    try simp (disch := omega) only [wrap64, wrapU64]
    repeat (first | refine And.intro cl ?_ | intro e)
    refine hK1 _ ?_
    clear hK1 K1
  refine XE ?_
  refine hK _ _ (by simp only [St.keep, keepL, at_cons, at_nil, Nat.reduceEqDiff, reduceIte, eq_self]; rfl) ?_
  clear hK K
  refine Wps_seq ?_
  obtain ⟨ho1, ho2⟩ := ho
  refine Wps_reg (T := [(48, e48), (49, e49)]) ⟨e48_ok, e49_ok, trivial⟩ [2] rfl (by simp) fun K hK => ?_
  repeat
    (first | refine X0 rfl fun K1 hK1 => ?_ | refine X1 rfl rfl fun K1 hK1 => ?_)
    simp only [↓EP, EQ, implies_true, forall_const, tys, zoks, zeros, Nat.reduceEqDiff, Nat.reduceAdd, Nat.reduceLT, Nat.reduceLeDiff, reduceIte, reduceCtorEq, e48, e49_ap, dObj, List.length_map]
    try simp (disch := omega) only [wrap64, wrapU64]
    repeat (first | refine And.intro cl ?_ | intro e)
    refine hK1 _ ?_
    clear hK1 K1
  refine XE ?_
  refine hK _ _ (by simp only [St.keep, keepL, at_cons, at_nil, Nat.reduceEqDiff, reduceIte, eq_self]; rfl) ?_
  clear hK K
  refine Wps_ret ?_
  try simp only [Wps_nil, thenQ_normal, thenQ_exit, thenQ_ret, blkQ_normal, blkQ_ret, blkQ_if, blkQ_same, scQ_normal, scQ_ret, scQ_exit, Nat.reduceEqDiff, reduceIte, eq_self, reduceCtorEq, if_true, if_false]
  first | refine ret_pureQ rfl ?_ | refine ret_pureN rfl ?_
  simp only [retP, at_cons, at_nil, Nat.reduceEqDiff, reduceIte, eq_self, AV.use, retV, AV.bel, AV.bels, true_and, and_true]
  refine ⟨_, rfl, fun hb => ?_⟩
  simp only [Bool.and_eq_true, decide_eq_true_eq] at hb
  obtain ⟨⟨hb1, hb2⟩, hb3⟩ := hb
  first | exact ⟨e2 hb1, by omega, e3 hb3⟩ | exact ⟨by simp_all, by omega, by simp_all⟩

def e31 : Ent := entA (fun s : ByteArray => [S s]) (fun s => s.size ≤ 1048576)
theorem e31_ok : EntOk Try.prog 31 e31 := entA_ok fun s h => f31_ok s h

def e32 : Ent := entA (fun p : Int × Int => [.d (.ag [.raw (.int .i64 p.1), .raw (.int .i64 p.2)])]) (fun p => True)
theorem e32_ok : EntOk Try.prog 32 e32 := entA_ok fun p h => f32_ok p.1 p.2

noncomputable def e35 : Ent := ent1 (fun o : ObjL => [.d (dObj o)]) (fun o => okObj o) (fun o => YesB (goodO o))
theorem e35_ap (o : ObjL) : e35 [.d (dObj o)] = some (okObj o, YesB (goodO o)) := ent1_ap (f := fun o : ObjL => [.d (dObj o)]) (fun x y h => by simp only [List.cons.injEq, AV.d.injEq, and_true] at h; exact dObj_inj h) o
theorem e35_ok : EntOk Try.prog 35 e35 := ent1_ok (fun o => yes_ex _) fun o h => f35_ok o h

end Go.Proofs.Ytolplbfonlhbhaa
