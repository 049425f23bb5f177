/- The engine, part C: operations that leave memory alone. -/
import Derived.Test.YtolplbfonlhbhaaEngB
set_option linter.unusedVariables false
set_option linter.unusedSectionVars false
set_option linter.unusedSimpArgs false
namespace Go.Eng
open Go

/-! ### what the program's types say -/
def szT (P : Program) (t : TypeId) : Option Nat := (P.info? t).map (·.size)
def aggT (P : Program) (t : TypeId) : Option Bool :=
  match P.underlying t with
  | some (.struct _) | some (.array _ _) => some true
  | some _ => some false
  | none => none
def fldT (P : Program) (t i : Nat) : Option (Nat × Nat × Bool) :=
  match P.underlying t with
  | some (.struct fs) => match fs[i]? with
    | some f => match szT P f.type, aggT P f.type with
      | some k, some a => some (f.offset, k, a)
      | _, _ => none
    | none => none
  | _ => none
/-- a slice type: its elements' type, cells and bytes, and whether they are structs or arrays -/
def sliceT (P : Program) (t : TypeId) : Option (TypeId × Nat × Nat × Bool) :=
  match P.underlying t with
  | some (.slice e) => match P.info? e, aggT P e with
    | some i, some a => some (e, i.size, i.bytes, a)
    | _, _ => none
  | _ => none
def arrT (P : Program) (t : TypeId) : Option (Nat × Nat × Bool) :=
  match P.underlying t with
  | some (.array n e) => match szT P e, aggT P e with
    | some k, some a => some (n, k, a)
    | _, _ => none
  | _ => none
inductive Kd where
  | bool | int (k : IntKind) | str | ptr | other
  deriving DecidableEq
def kindT (P : Program) (t : TypeId) : Kd :=
  match P.underlying t with
  | some .bool => .bool
  | some (.int k) => .int k
  | some .string => .str
  | some (.pointer _) => .ptr
  | _ => .other

variable {P : Program}

theorem szT_some {t k : Nat} (h : szT P t = some k) : ∃ i, P.info? t = some i ∧ i.size = k := by
  unfold szT at h
  cases hi : P.info? t with
  | none => simp [hi] at h
  | some i => simp [hi] at h; exact ⟨i, rfl, h⟩

theorem run_sizeOf' {t k : Nat} (h : szT P t = some k) (w : World) : (sizeOf t).run P w = .ok k w := by
  obtain ⟨i, hi, rfl⟩ := szT_some h
  simp [sizeOf, typeInfo, hi]

theorem run_isAgg' {t : Nat} {b : Bool} (h : aggT P t = some b) (w : World) : (isAgg t).run P w = .ok b w := by
  unfold aggT at h
  cases hu : P.underlying t with
  | none => simp [hu] at h
  | some d =>
    cases d <;> simp_all [isAgg, underlying]

theorem fldT_some {t i o k : Nat} {a : Bool} (h : fldT P t i = some (o, k, a)) :
    ∃ fs f, P.underlying t = some (.struct fs) ∧ fs[i]? = some f ∧ f.offset = o ∧ szT P f.type = some k ∧ aggT P f.type = some a := by
  unfold fldT at h
  split at h
  · rename_i fs hu
    split at h
    · rename_i f hf
      split at h
      · rename_i k' a' h1 h2
        simp only [Option.some.injEq, Prod.mk.injEq] at h
        obtain ⟨rfl, rfl, rfl⟩ := h
        exact ⟨fs, f, hu, hf, rfl, h1, h2⟩
      · simp at h
    · simp at h
  · simp at h

theorem sliceT_some {t e k by_ : Nat} {a : Bool} (h : sliceT P t = some (e, k, by_, a)) :
    P.underlying t = some (.slice e) ∧ szT P e = some k ∧ aggT P e = some a ∧ ∃ i, P.info? e = some i ∧ i.size = k ∧ i.bytes = by_ := by
  unfold sliceT at h
  split at h
  · rename_i e' hu
    split at h
    · rename_i i a' h1 h2
      simp only [Option.some.injEq, Prod.mk.injEq] at h
      obtain ⟨rfl, rfl, rfl, rfl⟩ := h
      exact ⟨hu, by simp [szT, h1], h2, i, h1, rfl, rfl⟩
    · simp at h
  · simp at h

theorem arrT_some {t n k : Nat} {a : Bool} (h : arrT P t = some (n, k, a)) :
    ∃ e, P.underlying t = some (.array n e) ∧ szT P e = some k ∧ aggT P e = some a := by
  unfold arrT at h
  split at h
  · rename_i n' e hu
    split at h
    · rename_i k' a' h1 h2
      simp only [Option.some.injEq, Prod.mk.injEq] at h
      obtain ⟨rfl, rfl, rfl⟩ := h
      exact ⟨e, hu, h1, h2⟩
    · simp at h
  · simp at h

theorem kindT_bool {t : Nat} (h : kindT P t = .bool) : P.underlying t = some .bool := by
  unfold kindT at h; split at h <;> simp_all
theorem kindT_int {t : Nat} {k : IntKind} (h : kindT P t = .int k) : P.underlying t = some (.int k) := by
  unfold kindT at h; split at h <;> simp_all
theorem kindT_str {t : Nat} (h : kindT P t = .str) : P.underlying t = some .string := by
  unfold kindT at h; split at h <;> simp_all
theorem kindT_ptr {t : Nat} (h : kindT P t = .ptr) : ∃ e, P.underlying t = some (.pointer e) := by
  unfold kindT at h; split at h <;> simp_all

/-! ### parts of data -/
theorem RepDs_append {Z : Zone} {w : World} : ∀ {xs ys : List D} {cs : List Value}, RepDs Z w (xs ++ ys) cs → ∃ c1 c2, cs = c1 ++ c2 ∧ RepDs Z w xs c1 ∧ RepDs Z w ys c2
  | [], ys, cs, h => ⟨[], cs, rfl, by simp [RepDs], h⟩
  | x :: xs, ys, cs, h => by
    simp only [List.cons_append, RepDs] at h
    obtain ⟨c1, c2, rfl, h1, h2⟩ := h
    obtain ⟨c3, c4, rfl, h3, h4⟩ := RepDs_append h2
    exact ⟨c1 ++ c3, c4, by simp, by simp only [RepDs]; exact ⟨c1, c3, rfl, h1, h3⟩, h4⟩
theorem RepDs_join {Z : Zone} {w : World} : ∀ {xs ys : List D} {c1 c2 : List Value}, RepDs Z w xs c1 → RepDs Z w ys c2 → RepDs Z w (xs ++ ys) (c1 ++ c2)
  | [], ys, c1, c2, h1, h2 => by simp only [RepDs] at h1; subst h1; simpa using h2
  | x :: xs, ys, c1, c2, h1, h2 => by
    simp only [RepDs] at h1
    obtain ⟨c3, c4, rfl, h3, h4⟩ := h1
    simp only [List.cons_append, RepDs]
    exact ⟨c3, c4 ++ c2, by simp, h3, RepDs_join h4 h2⟩
theorem RepAs_append {Z : Zone} {w : World} {γ : List Value} {L : List Res} : ∀ {xs ys : List AV} {cs : List Value}, RepAs Z w γ L (xs ++ ys) cs → ∃ c1 c2, cs = c1 ++ c2 ∧ RepAs Z w γ L xs c1 ∧ RepAs Z w γ L ys c2
  | [], ys, cs, h => ⟨[], cs, rfl, by simp [RepAs], h⟩
  | x :: xs, ys, cs, h => by
    simp only [List.cons_append, RepAs] at h
    obtain ⟨c1, c2, rfl, h1, h2⟩ := h
    obtain ⟨c3, c4, rfl, h3, h4⟩ := RepAs_append h2
    exact ⟨c1 ++ c3, c4, by simp, by simp only [RepAs]; exact ⟨c1, c3, rfl, h1, h3⟩, h4⟩
theorem RepAs_join {Z : Zone} {w : World} {γ : List Value} {L : List Res} : ∀ {xs ys : List AV} {c1 c2 : List Value}, RepAs Z w γ L xs c1 → RepAs Z w γ L ys c2 → RepAs Z w γ L (xs ++ ys) (c1 ++ c2)
  | [], ys, c1, c2, h1, h2 => by simp only [RepAs] at h1; subst h1; simpa using h2
  | x :: xs, ys, c1, c2, h1, h2 => by
    simp only [RepAs] at h1
    obtain ⟨c3, c4, rfl, h3, h4⟩ := h1
    simp only [List.cons_append, RepAs]
    exact ⟨c3, c4 ++ c2, by simp, h3, RepAs_join h4 h2⟩

theorem split_at {α : Type} {l : List α} {i : Nat} {x : α} (h : l[i]? = some x) : l = l.take i ++ (x :: l.drop (i + 1)) := by
  have hi : i < l.length := (List.getElem?_eq_some_iff.1 h).1
  have hx : l[i] = x := (List.getElem?_eq_some_iff.1 h).2
  rw [← hx, ← List.drop_eq_getElem_cons hi, List.take_append_drop]

theorem mid_of {c1 c2 c3 : List Value} {o n : Nat} (ho : c1.length = o) (hn : c2.length = n) : ((c1 ++ (c2 ++ c3)).drop o).take n = c2 := by
  subst ho hn; simp

/-- the part at a place -/
theorem RepDs_nth {Z : Zone} {w : World} {ds : List D} {cs : List Value} {i : Nat} {x : D} (h : RepDs Z w ds cs) (hi : ds[i]? = some x) :
    RepD Z w x ((cs.drop (D.sizes (ds.take i))).take x.size) ∧ D.sizes (ds.take i) + x.size ≤ cs.length := by
  rw [split_at hi] at h
  obtain ⟨c1, c2, rfl, h1, h2⟩ := RepDs_append h
  simp only [RepDs] at h2
  obtain ⟨c3, c4, rfl, h3, h4⟩ := h2
  have e1 := RepDs_len Z w _ _ h1
  have e2 := RepD_len Z w _ _ h3
  rw [mid_of e1 e2]
  refine ⟨h3, ?_⟩
  simp only [List.length_append]
  omega
theorem RepAs_nth {Z : Zone} {w : World} {γ : List Value} {L : List Res} {xs : List AV} {cs : List Value} {i : Nat} {x : AV} (h : RepAs Z w γ L xs cs) (hi : xs[i]? = some x) :
    RepA Z w γ L x ((cs.drop (AV.sizes (xs.take i))).take x.size) ∧ AV.sizes (xs.take i) + x.size ≤ cs.length := by
  rw [split_at hi] at h
  obtain ⟨c1, c2, rfl, h1, h2⟩ := RepAs_append h
  simp only [RepAs] at h2
  obtain ⟨c3, c4, rfl, h3, h4⟩ := h2
  have e1 := RepAs_len Z w γ L _ _ h1
  have e2 := RepA_len Z w γ L _ _ h3
  rw [mid_of e1 e2]
  refine ⟨h3, ?_⟩
  simp only [List.length_append]
  omega

theorem sizes_take_const {ds : List D} {k i : Nat} (h : ∀ x ∈ ds, x.size = k) (hi : i ≤ ds.length) : D.sizes (ds.take i) = i * k := by
  rw [sizes_const _ k (fun x hx => h x (List.mem_of_mem_take hx)), List.length_take, Nat.min_eq_left hi]

/-- an element of a slice -/
theorem RepEls_nth {Z : Zone} {w : World} {k b : Nat} : ∀ {ds : List D} {o i : Nat} {x : D}, RepEls Z w k b o ds → ds[i]? = some x →
    ∃ cs, cs.length = k ∧ cellsAt Z w b (o + i * k) cs ∧ RepD Z w x cs
  | [], o, i, x, _, hi => by simp at hi
  | d :: r, o, 0, x, h, hi => by
    simp only [RepEls] at h
    simp only [List.getElem?_cons_zero, Option.some.injEq] at hi
    subst hi
    simpa using h.1
  | d :: r, o, i + 1, x, h, hi => by
    simp only [RepEls] at h
    simp only [List.getElem?_cons_succ] at hi
    have := RepEls_nth h.2 hi
    rwa [Nat.add_assoc, show k + i * k = (i + 1) * k by rw [Nat.add_one_mul]; omega] at this
theorem RepEls_drop {Z : Zone} {w : World} {k b : Nat} : ∀ {ds : List D} {o : Nat} (n : Nat), RepEls Z w k b o ds → RepEls Z w k b (o + n * k) (ds.drop n)
  | ds, o, 0, h => by simpa using h
  | [], o, n + 1, h => by simp [RepEls]
  | d :: r, o, n + 1, h => by
    simp only [RepEls] at h
    have := RepEls_drop (o := o + k) n h.2
    simp only [List.drop_succ_cons]
    rwa [Nat.add_assoc, show k + n * k = (n + 1) * k by rw [Nat.add_one_mul]; omega] at this
theorem RepEls_take {Z : Zone} {w : World} {k b : Nat} : ∀ {ds : List D} {o : Nat} (n : Nat), RepEls Z w k b o ds → RepEls Z w k b o (ds.take n)
  | ds, o, 0, h => by simp [RepEls]
  | [], o, n + 1, h => by simp [RepEls]
  | d :: r, o, n + 1, h => by
    simp only [List.take_succ_cons, RepEls] at h ⊢
    exact ⟨h.1, RepEls_take n h.2⟩
theorem RepEls_append {Z : Zone} {w : World} {k b : Nat} : ∀ {xs ys : List D} {o : Nat}, RepEls Z w k b o xs → RepEls Z w k b (o + xs.length * k) ys → RepEls Z w k b o (xs ++ ys)
  | [], ys, o, h, h' => by simpa using h'
  | x :: r, ys, o, h, h' => by
    simp only [List.cons_append, RepEls] at h ⊢
    refine ⟨h.1, RepEls_append h.2 ?_⟩
    rwa [Nat.add_assoc, show k + r.length * k = (x :: r).length * k by rw [List.length_cons, Nat.add_one_mul]; omega]

/-! ### loading cells -/
theorem add_eq (b o n : Nat) : (⟨b, o, none⟩ : Addr).add n = ⟨b, o + n, none⟩ := by
  unfold Addr.add; split <;> simp_all

theorem run_loadAt_agg {t k b o : Nat} {w : World} {cs : List Value} (hs : szT P t = some k) (ha : aggT P t = some true) (hl : cs.length = k)
    (hc : ∀ (j : Nat) (v : Value), cs[j]? = some v → w.cell? ⟨b, o + j, none⟩ = some v) :
    (Instr.loadAt t (.pointer (some ⟨b, o, none⟩))).run P w = .ok (.agg cs.toArray) w := by
  have h := run_loadCells_list (P := P) w ⟨b, o, none⟩ cs (fun j v hj => by rw [add_eq]; exact hc j v hj)
  rw [hl] at h
  simp [Instr.loadAt, Instr.sureAddr, loadVar, run_isAgg' ha, run_sizeOf' hs, h]

theorem run_loadAt_one {t b o : Nat} {w : World} {v : Value} (ha : aggT P t = some false) (hc : w.cell? ⟨b, o, none⟩ = some v) :
    (Instr.loadAt t (.pointer (some ⟨b, o, none⟩))).run P w = .ok v w := by
  simp [Instr.loadAt, Instr.sureAddr, loadVar, run_isAgg' ha, hc]

theorem D.size_one {x : D} (h : x.isAg = false) : x.size = 1 := by cases x <;> simp_all [D.isAg, D.size]
theorem RepA_size_one {Z : Zone} {w : World} {γ : List Value} {L : List Res} {x : AV} {cs : List Value} (hr : RepA Z w γ L x cs) (h : x.isAg = false) : x.size = 1 := by
  cases x with
  | d x => exact D.size_one h
  | ag xs => simp [AV.isAg] at h
  | gd b x => simp [RepA] at hr
  | tup l => simp [RepA] at hr
  | undef => simp [RepA] at hr
  | _ => rfl

/-- data at a place, loaded -/
theorem run_loadAt_rep {t b o : Nat} {Z : Zone} {w : World} {γ : List Value} {L : List Res} {x : AV} {cs : List Value} (hs : szT P t = some x.size) (ha : aggT P t = some x.isAg)
    (hc : ∀ (j : Nat) (v : Value), cs[j]? = some v → w.cell? ⟨b, o + j, none⟩ = some v) (hr : RepA Z w γ L x cs) :
    ∃ v, (∀ w1, Ext w w1 → (Instr.loadAt t (.pointer (some ⟨b, o, none⟩))).run P w1 = .ok v w1) ∧ RepC Z w γ L x v := by
  have hl := RepA_len Z w γ L x cs hr
  cases hx : x.isAg with
  | true =>
    refine ⟨_, fun w1 hw1 => run_loadAt_agg hs (by rw [ha, hx]) hl (fun j v hj => hw1.cell (hc j v hj)), ?_⟩
    rw [RepC, if_pos hx]
    exact ⟨cs.toArray, rfl, by simpa using hr⟩
  | false =>
    rw [RepA_size_one hr hx] at hl
    obtain ⟨v, rfl⟩ := List.length_eq_one_iff.1 hl
    refine ⟨v, fun w1 hw1 => run_loadAt_one (by rw [ha, hx]) (hw1.cell (by simpa using hc 0 v rfl)), ?_⟩
    rw [RepC, hx, if_neg (by simp)]
    exact hr

theorem run_part_rep {t off : Nat} {Z : Zone} {w : World} {γ : List Value} {L : List Res} {x : AV} {cs : Array Value} (hs : szT P t = some x.size) (ha : aggT P t = some x.isAg)
    (hr : RepA Z w γ L x ((cs.toList.drop off).take x.size)) (hfit : off + x.size ≤ cs.size) :
    ∃ v, (∀ w1, (part t cs off).run P w1 = .ok v w1) ∧ RepC Z w γ L x v := by
  cases hx : x.isAg with
  | true =>
    refine ⟨.agg (cs.extract off (off + x.size)), fun w1 => by simp [part, run_isAgg' ha, hx, run_sizeOf' hs], ?_⟩
    rw [RepC, if_pos hx]
    refine ⟨_, rfl, ?_⟩
    have e : (cs.extract off (off + x.size)).toList = (cs.toList.drop off).take x.size := by
      rw [Array.toList_extract, List.extract_eq_take_drop]; congr 1; omega
    rw [e]; exact hr
  | false =>
    have hsz := RepA_size_one hr hx
    rw [hsz] at hfit hr
    have hlt : off < cs.size := by omega
    have e : (cs.toList.drop off).take 1 = [cs[off]] := by
      rw [List.drop_eq_getElem_cons (by simpa using hlt)]; simp
    rw [e] at hr
    refine ⟨cs[off], fun w1 => by simp [part, run_isAgg' ha, hx, hlt], ?_⟩
    rw [RepC, hx, if_neg (by simp)]
    exact hr

/-! ### where a path leads in owned data -/
def D.nav : D → List Nat → Option (D × Nat)
  | x, [] => some (x, 0)
  | .ag ds, i :: p => match ds[i]? with
    | some y => (y.nav p).map fun q => (q.1, D.sizes (ds.take i) + q.2)
    | none => none
  | .arr _ k ds, i :: p => match ds[i]? with
    | some y => (y.nav p).map fun q => (q.1, i * k + q.2)
    | none => none
  | _, _ :: _ => none
def AV.nav : AV → List Nat → Option (AV × Nat)
  | x, [] => some (x, 0)
  | .d x, i :: p => (x.nav (i :: p)).map fun q => (.d q.1, q.2)
  | .ag xs, i :: p => match xs[i]? with
    | some y => (y.nav p).map fun q => (q.1, AV.sizes (xs.take i) + q.2)
    | none => none
  | _, _ :: _ => none

theorem sub_sub {cs : List Value} {o n o' n' : Nat} (h : o' + n' ≤ n) : ((((cs.drop o).take n).drop o').take n') = (cs.drop (o + o')).take n' := by
  rw [List.drop_take, List.take_take, List.drop_drop, Nat.min_eq_left (by omega)]

theorem RepD_nav {Z : Zone} {w : World} : ∀ (p : List Nat) {x y : D} {off : Nat} {cs : List Value}, RepD Z w x cs → x.nav p = some (y, off) →
    RepD Z w y ((cs.drop off).take y.size) ∧ off + y.size ≤ cs.length
  | [], x, y, off, cs, h, hn => by
    cases x <;> simp only [D.nav, Option.some.injEq, Prod.mk.injEq] at hn <;> obtain ⟨rfl, rfl⟩ := hn <;>
      (have := RepD_len Z w _ _ h; rw [List.drop_zero, List.take_of_length_le (by omega)]; exact ⟨h, by omega⟩)
  | i :: p, x, y, off, cs, h, hn => by
    cases x with
    | raw v => simp [D.nav] at hn
    | sl k ds => simp [D.nav] at hn
    | ag ds =>
      simp only [D.nav] at hn
      split at hn
      · rename_i z hz
        simp only [Option.map_eq_some_iff, Prod.mk.injEq, Prod.exists] at hn
        obtain ⟨y', o', hy, rfl, rfl⟩ := hn
        simp only [RepD] at h
        obtain ⟨h1, h2⟩ := RepDs_nth h hz
        obtain ⟨h3, h4⟩ := RepD_nav p h1 hy
        have hl := RepD_len Z w _ _ h1
        rw [sub_sub (by omega)] at h3
        exact ⟨h3, by omega⟩
      · simp at hn
    | arr n k ds =>
      simp only [D.nav] at hn
      split at hn
      · rename_i z hz
        simp only [Option.map_eq_some_iff, Prod.mk.injEq, Prod.exists] at hn
        obtain ⟨y', o', hy, rfl, rfl⟩ := hn
        simp only [RepD] at h
        obtain ⟨h1, h2⟩ := RepDs_nth h.2.2 hz
        have hi : i < ds.length := (List.getElem?_eq_some_iff.1 hz).1
        rw [sizes_take_const h.2.1 (by omega)] at h1 h2
        obtain ⟨h3, h4⟩ := RepD_nav p h1 hy
        have hl := RepD_len Z w _ _ h1
        rw [sub_sub (by omega)] at h3
        exact ⟨h3, by omega⟩
      · simp at hn

theorem RepA_nav {Z : Zone} {w : World} {γ : List Value} {L : List Res} : ∀ (p : List Nat) {x y : AV} {off : Nat} {cs : List Value}, RepA Z w γ L x cs → x.nav p = some (y, off) →
    RepA Z w γ L y ((cs.drop off).take y.size) ∧ off + y.size ≤ cs.length
  | [], x, y, off, cs, h, hn => by
    cases x <;> simp only [AV.nav, Option.some.injEq, Prod.mk.injEq] at hn <;> obtain ⟨rfl, rfl⟩ := hn <;>
      (have := RepA_len Z w γ L _ _ h; rw [List.drop_zero, List.take_of_length_le (by omega)]; exact ⟨h, by omega⟩)
  | i :: p, x, y, off, cs, h, hn => by
    cases x with
    | d x =>
      simp only [AV.nav, Option.map_eq_some_iff, Prod.mk.injEq, Prod.exists] at hn
      obtain ⟨y', o', hy, rfl, rfl⟩ := hn
      simp only [RepA] at h
      have := RepD_nav (i :: p) h hy
      simpa only [RepA, AV.size] using this
    | ag xs =>
      simp only [AV.nav] at hn
      split at hn
      · rename_i z hz
        simp only [Option.map_eq_some_iff, Prod.mk.injEq, Prod.exists] at hn
        obtain ⟨y', o', hy, rfl, rfl⟩ := hn
        simp only [RepA] at h
        obtain ⟨h1, h2⟩ := RepAs_nth h hz
        obtain ⟨h3, h4⟩ := RepA_nav p h1 hy
        have hl := RepA_len Z w γ L _ _ h1
        rw [sub_sub (by omega)] at h3
        exact ⟨h3, by omega⟩
      · simp at hn
    | _ => simp [AV.nav] at hn
end Go.Eng
