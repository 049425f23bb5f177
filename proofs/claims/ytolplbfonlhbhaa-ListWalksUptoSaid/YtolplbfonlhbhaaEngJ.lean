/- The engine, part J: straight-line code, control, calls. -/
import Derived.Test.YtolplbfonlhbhaaEngI
set_option linter.unusedVariables false
set_option linter.unusedSectionVars false
set_option linter.unusedSimpArgs false
namespace Go.Eng
open Go
variable [Globs]

/-- WHAT A CALL COMES TO: over whatever owned memory L, its result and what is owned behind it -/
def Ok (P : Program) (f : FuncId) (args : List AV) (L : List Res) (post : AV → List Res → Prop) : Prop :=
  (∃ fn, P.funcs[f]? = some fn ∧ (fn.name == "runtime.NumGoroutine") = false ∧ fn.body.isSome = true) ∧
  ∀ (w : World) (Z : Zone) (γ : List Value) (vs : Array Value), Env L Z γ w → RepVs Z w γ L args vs.toList →
    Calls P f vs w fun e w' => ∃ v r L' Z' γ', e = .returned v ∧ post r L' ∧ RepV Z' w' γ' L' r v ∧ Env L' Z' γ' w' ∧ Adv L Z γ w L' Z' γ' w'

theorem Ok.mono {P : Program} {f : FuncId} {args : List AV} {L : List Res} {post post' : AV → List Res → Prop} (h : Ok P f args L post) (hp : ∀ r L', post r L' → post' r L') : Ok P f args L post' :=
  ⟨h.1, fun w Z γ vs he hr => (h.2 w Z γ vs he hr).mono fun e w' ⟨v, r, L', Z', γ', h1, h2, h3⟩ => ⟨v, r, L', Z', γ', h1, hp r L' h2, h3⟩⟩

def putR (s : St) (L : List Res) (dst : Option Nat) (x : AV) : St := St.put ⟨s.sl, L⟩ dst x

mutual
/-- a value, seen as frozen data -/
def AV.asD : AV → Option D
  | .d x => some x
  | .own _ k xs => some (.sl k xs)
  | .ag xs => match AV.asDs xs with
    | some ds => some (.ag ds)
    | none => none
  | _ => none
def AV.asDs : List AV → Option (List D)
  | [] => some []
  | x :: r => match x.asD, AV.asDs r with
    | some a, some b => some (a :: b)
    | _, _ => none
end
def fillD : List (Nat × (Prop × AV)) → List D → Prop × List D
  | [], xs => (True, xs)
  | (i, q, y) :: r, xs => match y.asD with
    | some d => (q ∧ i < xs.length ∧ d.size = (xs.getD i default).size ∧ (fillD r (xs.set i d)).1, (fillD r (xs.set i d)).2)
    | none => (False, xs)

def wpStore (P : Program) (s : St) (dst : Option Nat) (t : TypeId) (a x : Prop × AV) (K : St → Prop) : Prop :=
  match a.2 with
  | .ptr j off p => match s.L[j]? with
    | some (.box y) => match y.nav p with
      | some (z, off') => a.1 ∧ x.1 ∧ off' = off ∧ x.2.isVal = true ∧ x.2.size = z.size ∧ szT P t = some z.size ∧ y.okPut p x.2 = true ∧ K (putR s (s.L.set j (.box (y.putAt p x.2))) dst .undef)
      | none => False
    | _ => False
  | _ => False

def wpBuildSlice (P : Program) (s : St) (dst : Option Nat) (t n : Nat) (parts : List (Nat × Operand)) (K : St → Prop) : Prop :=
  match sliceT P t with
  | none => False
  | some (e, k, _, _) =>
    ZOK P e (zeroD P 9 e) ∧ (zeroD P 9 e).size = k ∧ k ≠ 0 ∧ n * k ≤ 16777216 ∧ (fillD (parts.map fun q => (q.1, s.us q.2)) (List.replicate n (zeroD P 9 e))).1 ∧
    K (putR s (s.L ++ [.tok e k n]) dst (.own s.L.length k (fillD (parts.map fun q => (q.1, s.us q.2)) (List.replicate n (zeroD P 9 e))).2))

def wpMake (P : Program) (s : St) (dst : Option Nat) (t : Nat) (l c : Prop × AV) (K : St → Prop) : Prop :=
  match sliceT P t, intOf l.2, intOf c.2 with
  | some (e, k, b, _), some (_, n), some (_, m) =>
    l.1 ∧ c.1 ∧ ZOK P e (zeroD P 9 e) ∧ (zeroD P 9 e).size = k ∧ k ≠ 0 ∧ 0 ≤ n ∧ m = n ∧ b * n ≤ 281474976710656 ∧ n ≤ 9223372036854775807 ∧
    K (putR s (s.L ++ [.box (.d (.arr n.toNat k (List.replicate n.toNat (zeroD P 9 e))))]) dst (.bsl s.L.length 0 k 0 n.toNat []))
  | _, _, _ => False

def wpAppend (P : Program) (s : St) (dst : Option Nat) (t : TypeId) (x y : Prop × AV) (K : St → Prop) : Prop :=
  match sliceT P t with
  | none => False
  | some (e, k, b, _) =>
    match y.2.els with
    | none => False
    | some (k', ys) =>
      match x.2 with
      | .own j k'' xs => x.1 ∧ y.1 ∧ k' = k ∧ k'' = k ∧ s.L[j]? = some (.tok e k xs.length) ∧ k ≠ 0 ∧ ZOK P e (zeroD P 9 e) ∧ (zeroD P 9 e).size = k ∧ (xs.length + ys.length) * b ≤ 140737488355328 ∧ xs.length + ys.length ≤ 9223372036854775807 ∧
          K (putR s (s.L.set j (.tok e k (xs.length + ys.length))) dst (.own j k (xs ++ ys)))
      | .d (.raw (.slice none 0 0)) => x.1 ∧ y.1 ∧ k' = k ∧ k ≠ 0 ∧ ZOK P e (zeroD P 9 e) ∧ (zeroD P 9 e).size = k ∧ ys.length * b ≤ 140737488355328 ∧ ys.length ≤ 9223372036854775807 ∧
          K (putR s (s.L ++ [.tok e k ys.length]) dst (.own s.L.length k ys))
      | _ => False

def strBytes (s : ByteArray) : List D := s.data.toList.map fun b => .raw (.int .u8 b.toNat)

def wpConv (P : Program) (s : St) (dst : Option Nat) (src t : TypeId) (x : Prop × AV) (K : St → Prop) : Prop :=
  match x.2 with
  | .d (.raw (.string b)) => match sliceT P t with
    | some (e, k, _, _) => x.1 ∧ kindT P src = .str ∧ kindT P e = .int .u8 ∧ k = 1 ∧ K (s.put dst (.d (.sl 1 (strBytes b))))
    | none => False
  | _ => False

/-- all operands are there -/
def usAll (s : St) : List Operand → Prop
  | [] => True
  | x :: r => (s.us x).1 ∧ usAll s r
def usVals (s : St) : List Operand → List AV
  | [] => []
  | x :: r => (s.us x).2 :: usVals s r

def wpCall (P : Program) (s : St) (dst : Option Nat) (c : Call) (K : St → Prop) : Prop :=
  match c.callee with
  | .builtin .append => match c.args.toList, c.argTypes.toList with
    | [x, y], [t, t'] => t' = t ∧ wpAppend P s dst t (s.us x) (s.us y) K
    | _, _ => False
  | .value (.func f) => usAll s c.args.toList ∧ Ok P f (usVals s c.args.toList) s.L fun r L' => K (putR s L' dst r)
  | _ => False

def wpe (P : Program) (s : St) (o : Oper) (K : St → Prop) : Prop :=
  match o.op with
  | .alloc t => ZOK P t (zeroD P 9 t) ∧ K (putR s (s.L ++ [.box (.d (zeroD P 9 t))]) o.dst (.ptr s.L.length 0 []))
  | .box _ x => (s.us x).1 ∧ (s.us x).2.isVal = true ∧ K (putR s (s.L ++ [.box (s.us x).2]) o.dst (.ptr s.L.length 0 []))
  | .store t a x => wpStore P s o.dst t (s.us a) (s.us x) K
  | .buildSlice t n ps => wpBuildSlice P s o.dst t n ps.toList K
  | .makeSlice t l c => wpMake P s o.dst t (s.us l) (s.us c) K
  | .convert src t x => wpConv P s o.dst src t (s.us x) K
  | .call c => wpCall P s o.dst c K
  | _ => False

/-- what leaves all that was there as it was -/
def opX : Op → Bool
  | .alloc _ | .box _ _ | .buildSlice _ _ _ | .makeSlice _ _ _ | .convert _ _ _ => true
  | _ => false

def wpgCall (P : Program) (s : St) (o : Oper) (g : Bool) (K : St → Prop) : Prop :=
  match o.op with
  | .call c => match c.callee with
    | .value (.func f) => ∃ r : D, (g = true → usAll s c.args.toList ∧ Ok P f (usVals s c.args.toList) s.L fun r' L' => r' = .d r ∧ L' = s.L) ∧ K (s.put o.dst (.gd g (.d r)))
    | _ => False
  | _ => False

/-- the Bool that a guard asks -/
def guardV : AV → Option (Prop × Bool × Bool)
  | .d (.raw (.bool b)) => some (True, true, b)
  | .gd b' (.d (.raw (.bool b))) => some (True, b', b)
  | _ => none

def wpg (P : Program) (all : List Oper) (s : St) (o : Oper) (K : St → Prop) : Prop :=
  match o.guard with
  | none => match pv P s o.op with
    | some (c, x) => c ∧ K (s.put o.dst x)
    | none => wpe P s o K
  | some (j, want) => match (all[j]?).bind (·.dst) with
    | none => False
    | some t => match guardV (s.at t) with
      | none => False
      | some (_, b', b) => match pv P s o.op with
        | some (c, x) => ((b' && (b == want)) = true → c ∧ x.use.1) ∧ K (s.put o.dst (.gd (b' && (b == want)) x.use.2))
        | none => wpgCall P s o (b' && (b == want)) K

def wpl (P : Program) (all : List Oper) : List Oper → St → (St → Prop) → Prop
  | [], s, K => K s
  | o :: r, s, K => wpg P all s o fun s' => wpl P all r s' K

/-! ### soundness -/
section
variable {P : Program} {Z : Zone} {w : World} {γ : List Value} {c : Ctx} {s : St} {a : Act}

theorem upon_value {o : Oper} {next : Act → World → Prop} {Q : Exit → Act → World → Prop} {v : Value} {w' : World} (h : (execOp a.eval o).run P w = .ok (.value v) w') (hn : next (a.put o.dst v) w') : o.wp P a w next Q := by
  unfold Oper.wp; rw [h]; exact hn
theorem upon_skip' {o : Oper} {next : Act → World → Prop} {Q : Exit → Act → World → Prop} {w' : World} (h : (execOp a.eval o).run P w = .ok .skip w') (hn : next (a.put o.dst undef) w') : o.wp P a w next Q := by
  unfold Oper.wp; rw [h]; exact hn

theorem RepV_undef (v : Value) : RepV Z w γ s.L .undef v := by simp only [RepV]

mutual
theorem asD_rep {L : List Res} : ∀ (x : AV) (d : D) (cs : List Value), x.asD = some d → RepA Z w γ L x cs → RepD Z w d cs
  | .d x, d, cs, h, hr => by simp only [AV.asD, Option.some.injEq] at h; subst h; simpa only [RepA] using hr
  | .own j k xs, d, cs, h, hr => by simp only [AV.asD, Option.some.injEq] at h; subst h; simp only [RepA] at hr; exact hr.2.1
  | .ag xs, d, cs, h, hr => by
    simp only [AV.asD] at h
    split at h
    · rename_i ds hds
      simp only [Option.some.injEq] at h
      subst h
      simp only [RepA] at hr
      simp only [RepD]
      exact asDs_rep xs ds cs hds hr
    · simp at h
  | .ptr .., d, cs, h, hr => by simp [AV.asD] at h
  | .vp _, d, cs, h, hr => by simp [AV.asD] at h
  | .bsl .., d, cs, h, hr => by simp [AV.asD] at h
  | .gd _ _, d, cs, h, hr => by simp [AV.asD] at h
  | .tup _, d, cs, h, hr => by simp [AV.asD] at h
  | .undef, d, cs, h, hr => by simp [AV.asD] at h
theorem asDs_rep {L : List Res} : ∀ (xs : List AV) (ds : List D) (cs : List Value), AV.asDs xs = some ds → RepAs Z w γ L xs cs → RepDs Z w ds cs
  | [], ds, cs, h, hr => by simp only [AV.asDs, Option.some.injEq] at h; subst h; simpa only [RepAs, RepDs] using hr
  | x :: r, ds, cs, h, hr => by
    simp only [AV.asDs] at h
    split at h
    · rename_i a b ha hb
      simp only [Option.some.injEq] at h
      subst h
      simp only [RepAs] at hr
      obtain ⟨c1, c2, e, h1, h2⟩ := hr
      simp only [RepDs]
      exact ⟨c1, c2, e, asD_rep x a c1 ha h1, asDs_rep r b c2 hb h2⟩
    · simp at h
end
theorem asD_sound {L : List Res} {x : AV} {d : D} {v : Value} (h : x.asD = some d) (hr : RepV Z w γ L x v) : RepV Z w γ L (.d d) v := by
  cases x with
  | d y => simp only [AV.asD, Option.some.injEq] at h; subst h; exact hr
  | own j k xs =>
    simp only [AV.asD, Option.some.injEq] at h
    subst h
    simp only [RepV, RepC, AV.isAg, Bool.false_eq_true, if_false, RepA] at hr
    exact (rep_dna rfl).2 hr.2.1
  | ag xs =>
    have hd : d.isAg = true := by
      simp only [AV.asD] at h
      split at h
      · simp only [Option.some.injEq] at h; subst h; rfl
      · simp at h
    simp only [RepV, RepC, AV.isAg, if_true] at hr
    obtain ⟨cs, h1, h2⟩ := hr
    exact (rep_dag hd).2 ⟨cs, h1, asD_rep _ _ _ h h2⟩
  | _ => simp [AV.asD] at h
theorem fillD_sound (k : Nat) : ∀ (parts : List (Nat × (Prop × AV))) (vs : List (Nat × Value)) (xs : List D) (cells : Array Value) {L : List Res},
    parts.length = vs.length →
    (∀ (j i : Nat) (q : Prop) (y : AV) (i' : Nat) (v : Value), parts[j]? = some (i, q, y) → vs[j]? = some (i', v) → i = i' ∧ (q → RepV Z w γ L y v)) →
    (∀ x ∈ xs, x.size = k) → RepDs Z w xs cells.toList → (fillD parts xs).1 →
    ∃ cs, Instr.fill (fun i => some (i * k, k)) cells vs = some cs ∧ RepDs Z w (fillD parts xs).2 cs.toList ∧ (∀ x ∈ (fillD parts xs).2, x.size = k) ∧ (fillD parts xs).2.length = xs.length
  | [], [], xs, cells, _, _, _, hk, hr, _ => ⟨cells, rfl, hr, hk, rfl⟩
  | [], _ :: _, _, _, _, hl, _, _, _, _ => by simp at hl
  | _ :: _, [], _, _, _, hl, _, _, _, _ => by simp at hl
  | (i, q, y) :: r, (i', v) :: vs, xs, cells, L, hl, hm, hk, hr, hc => by
    cases hy : y.asD with
    | some y' =>
      simp only [fillD, hy] at hc ⊢
      obtain ⟨hq, hi, hsz, hrest⟩ := hc
      obtain ⟨rfl, hrep⟩ := hm 0 i q y i' v rfl rfl
      have hx : xs[i]? = some (xs.getD i default) := getD_some hi
      have hxk := hk _ (List.mem_of_getElem? hx)
      have hC := RepC_cells (repC_d.2 (asD_sound hy (hrep hq)))
      simp only [RepA] at hC
      have hlen := RepD_len Z w _ _ hC
      have hset := RepDs_set hr hx hsz hC
      have hfit := (RepDs_nth hr hx).2
      rw [Array.length_toList, sizes_take_const hk (by omega), hxk] at hfit
      rw [sizes_take_const hk (by omega), hxk] at hset
      have hvs : v.cells.size = k := by rw [← Array.length_toList, hlen, hsz, hxk]
      have hstep : (v.cells.zipIdx.foldl (fun cs (p : Value × Nat) => cs.setIfInBounds (i * k + p.2) p.1) cells).toList =
          cells.toList.take (i * k) ++ v.cells.toList ++ cells.toList.drop (i * k + k) := by
        have := setCells_eq v.cells v.cells.toList (i * k) cells 0 (by simp [hvs]; omega)
        rw [← Array.foldl_toList, Array.toList_zipIdx]
        simp only [Nat.add_zero] at this
        rw [this, Array.length_toList, hvs]
      rw [← hstep] at hset
      obtain ⟨cs, h1, h2, h3, h4⟩ := fillD_sound k r vs (xs.set i y') (v.cells.zipIdx.foldl (fun cs (p : Value × Nat) => cs.setIfInBounds (i * k + p.2) p.1) cells) (L := L) (by simpa using hl)
        (fun j a b c d e h1 h2 => hm (j + 1) a b c d e (by simpa using h1) (by simpa using h2)) (fun x hx => by
          rcases List.mem_or_eq_of_mem_set hx with hx | rfl
          · exact hk x hx
          · omega) hset hrest
      refine ⟨cs, ?_, h2, h3, by rw [h4]; simp⟩
      simp only [Instr.fill]
      have c2 : ¬ (i * k + k > cells.size) := by omega
      simp only [ne_eq, hvs, not_true_eq_false, decide_false, Bool.false_or]
      rw [if_neg (by simpa using c2)]
      exact h1
    | none => simp [fillD, hy] at hc

/-- n zero values' cells -/
theorem zero_row {z : D} {cs : List Value} (h : RepD Z w z cs) : ∀ n, RepDs Z w (List.replicate n z) (List.replicate n cs).flatten
  | 0 => by simp [RepDs]
  | n + 1 => by
    simp only [List.replicate_succ, List.flatten_cons, RepDs]
    exact ⟨cs, _, rfl, h, zero_row h n⟩
theorem flatten_get {α : Type} (cs : List α) : ∀ (n i : Nat), i < n * cs.length → (List.replicate n cs).flatten[i]? = cs[i % cs.length]?
  | 0, i, h => by simp at h
  | n + 1, i, h => by
    simp only [List.replicate_succ, List.flatten_cons]
    rcases Nat.lt_or_ge i cs.length with hlt | hge
    · rw [List.getElem?_append_left hlt, Nat.mod_eq_of_lt hlt]
    · rw [List.getElem?_append_right hge, flatten_get cs n (i - cs.length) (by rw [Nat.add_one_mul] at h; omega)]
      rw [Nat.mod_eq_sub_mod hge]
theorem zero_cells {z : Array Value} {k : Nat} (hz : z.size = k) (n : Nat) : ((Array.range (n * k)).map fun i => z[i % z.size]!).toList = (List.replicate n z.toList).flatten := by
  apply List.ext_getElem?
  intro i
  by_cases hi : i < n * k
  · have hk : 0 < k := by
      rcases Nat.eq_zero_or_pos k with h | h
      · subst h; simp at hi
      · exact h
    have hm : i % k < z.size := by rw [hz]; exact Nat.mod_lt _ hk
    rw [flatten_get z.toList n i (by simpa [hz] using hi)]
    simp only [Array.toList_map, Array.toList_range, List.getElem?_map, List.getElem?_range hi, Option.map_some, hz, Array.getElem?_toList, Array.length_toList]
    rw [getElem!_pos z (i % k) hm, Array.getElem?_eq_getElem hm]
  · rw [List.getElem?_eq_none (by simp; omega), List.getElem?_eq_none (by simp [hz]; omega)]
end
end Go.Eng
