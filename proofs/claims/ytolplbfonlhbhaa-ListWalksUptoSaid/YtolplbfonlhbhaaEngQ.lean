/- The engine, part Q: regions, one operation at a time. -/
import Derived.Test.YtolplbfonlhbhaaEngP
import Derived.Attr
set_option linter.unusedVariables false
set_option linter.unusedSimpArgs false
set_option linter.unusedSectionVars false
namespace Go.Eng
open Go
variable [Globs]

/-- what a guard says: nothing, or the slot that it looks at and what it wants -/
def grdG (g : Option (Nat × Bool)) (s : St) (K : Option Bool → Prop) : Prop :=
  match g with
  | none => K none
  | some (t, want) => match guardV (s.at t) with
    | none => False
    | some (_, b', b) => K (some (b' && (b == want)))

def wpgG (P : Program) (g : Option (Nat × Bool)) (s : St) (o : Oper) (K : St → Prop) : Prop :=
  match g with
  | none => match pv P s o.op with
    | some (c, x) => c ∧ K (s.put o.dst x)
    | none => wpe P s o K
  | some (t, want) => match guardV (s.at t) with
      | none => False
      | some (_, b', b) => match pv P s o.op with
        | some (c, x) => ((b' && (b == want)) = true → c ∧ x.use.1) ∧ K (s.put o.dst (.gd (b' && (b == want)) x.use.2))
        | none => wpgCall P s o (b' && (b == want)) K

def wpxG (P : Program) (T : List (Nat × Ent)) (g : Option (Nat × Bool)) (s : St) (o : Oper) (K : St → Prop) : Prop :=
  match pureF T o.op with
  | none => match relOp P s o.op with
    | some (q, post) => grdG g s fun g => wpGoX s o.dst g q post K
    | none => wpgG P g s o K
  | some (_, e, l) => match e (shuts s l) with
    | none => False
    | some (q, post) => grdG g s fun g => wpGoX s o.dst g (usAll s l ∧ q) post K

def wprG (P : Program) (g : Option (Nat × Bool)) (s : St) (o : Oper) (K : St → Prop) : Prop :=
  match pv P s o.op with
  | none => match relOp P s o.op with
    | some (q, post) => grdG g s fun g => wpGoX s o.dst g q post K
    | none => False
  | some (q, x) => grdG g s fun g => wpGo s o.dst g q x K

section
variable {P : Program} {T : List (Nat × Ent)} {all : List Oper} {s : St} {o : Oper} {K : St → Prop}

theorem grd_none (hg : o.guard = none) (K : Option Bool → Prop) : grd all s o K = grdG none s K := by
  unfold grd grdG; rw [hg]
theorem grd_some {j t : Nat} {want : Bool} (hg : o.guard = some (j, want)) (ht : (all[j]?).bind (·.dst) = some t) (K : Option Bool → Prop) : grd all s o K = grdG (some (t, want)) s K := by
  unfold grd grdG; rw [hg]; simp only [ht]; rfl
theorem wpg_none (hg : o.guard = none) (K : St → Prop) : wpg P all s o K = wpgG P none s o K := by
  unfold wpg wpgG; rw [hg]; rfl
theorem wpg_some {j t : Nat} {want : Bool} (hg : o.guard = some (j, want)) (ht : (all[j]?).bind (·.dst) = some t) (K : St → Prop) : wpg P all s o K = wpgG P (some (t, want)) s o K := by
  unfold wpg wpgG; rw [hg]; simp only [ht]; rfl

theorem wpx_none (hg : o.guard = none) (K : St → Prop) : wpx P T all s o K = wpxG P T none s o K := by
  unfold wpx wpxG; simp only [grd_none hg, wpg_none hg]; rfl
theorem wpx_some {j t : Nat} {want : Bool} (hg : o.guard = some (j, want)) (ht : (all[j]?).bind (·.dst) = some t) (K : St → Prop) : wpx P T all s o K = wpxG P T (some (t, want)) s o K := by
  unfold wpx wpxG; simp only [grd_some hg ht, wpg_some hg ht]; rfl
theorem wpr_none (hg : o.guard = none) (K : St → Prop) : wpr P all s o K = wprG P none s o K := by
  unfold wpr wprG; simp only [grd_none hg]; rfl
theorem wpr_some {j t : Nat} {want : Bool} (hg : o.guard = some (j, want)) (ht : (all[j]?).bind (·.dst) = some t) (K : St → Prop) : wpr P all s o K = wprG P (some (t, want)) s o K := by
  unfold wpr wprG; simp only [grd_some hg ht]; rfl

variable {r : List Oper} {ro : List (Nat × Bool)}
/-- a region that is done in order: its next operation -/
theorem X0 (hg : o.guard = none) (h : ∀ K' : St → Prop, (∀ s', wplX P T all r s' K → K' s') → wpxG P T none s o K') : wplX P T all (o :: r) s K := by
  simp only [wplX, wpx_none hg]; exact h _ fun _ h => h
theorem X1 {j t : Nat} {want : Bool} (hg : o.guard = some (j, want)) (ht : (all[j]?).bind (·.dst) = some t) (h : ∀ K' : St → Prop, (∀ s', wplX P T all r s' K → K' s') → wpxG P T (some (t, want)) s o K') : wplX P T all (o :: r) s K := by
  simp only [wplX, wpx_some hg ht]; exact h _ fun _ h => h
theorem XE (h : K s) : wplX P T all [] s K := h
/-- a region that draws its order -/
theorem R0 {i : Nat} (hi : all[i]? = some o) (hg : o.guard = none) (h : ∀ K' : St → Prop, (∀ s', wplO P T all ro s' K → K' s') → wprG P none s o K') : wplO P T all ((i, true) :: ro) s K := by
  simp only [wplO, hi, if_true, wpr_none hg]; exact h _ fun _ h => h
theorem R1 {i j t : Nat} {want : Bool} (hi : all[i]? = some o) (hg : o.guard = some (j, want)) (ht : (all[j]?).bind (·.dst) = some t) (h : ∀ K' : St → Prop, (∀ s', wplO P T all ro s' K → K' s') → wprG P (some (t, want)) s o K') : wplO P T all ((i, true) :: ro) s K := by
  simp only [wplO, hi, if_true, wpr_some hg ht]; exact h _ fun _ h => h
theorem Q0 {i : Nat} (hi : all[i]? = some o) (hg : o.guard = none) (h : ∀ K' : St → Prop, (∀ s', wplO P T all ro s' K → K' s') → wpxG P T none s o K') : wplO P T all ((i, false) :: ro) s K := by
  simp only [wplO, hi, Bool.false_eq_true, if_false, wpx_none hg]; exact h _ fun _ h => h
theorem Q1 {i j t : Nat} {want : Bool} (hi : all[i]? = some o) (hg : o.guard = some (j, want)) (ht : (all[j]?).bind (·.dst) = some t) (h : ∀ K' : St → Prop, (∀ s', wplO P T all ro s' K → K' s') → wpxG P T (some (t, want)) s o K') : wplO P T all ((i, false) :: ro) s K := by
  simp only [wplO, hi, Bool.false_eq_true, if_false, wpx_some hg ht]; exact h _ fun _ h => h
theorem OE (h : K s) : wplO P T all [] s K := h
end
theorem use_d (x : D) : AV.use (.d x) = (True, .d x) := rfl
theorem use_ag (x : List AV) : AV.use (.ag x) = (True, .ag x) := rfl
theorem use_ptr (j o : Nat) (p : List Nat) : AV.use (.ptr j o p) = (True, .ptr j o p) := rfl
theorem use_vp (x : D) : AV.use (.vp x) = (True, .vp x) := rfl
theorem use_own (j k : Nat) (x : List D) : AV.use (.own j k x) = (True, .own j k x) := rfl
theorem use_bsl (j o k a b : Nat) (p : List Nat) : AV.use (.bsl j o k a b p) = (True, .bsl j o k a b p) := rfl
theorem use_tup (x : List AV) : AV.use (.tup x) = (True, .tup x) := rfl
theorem use_undef : AV.use .undef = (True, .undef) := rfl
theorem shut_d (x : D) : AV.shut (.d x) = .d x := rfl
theorem shut_ag (x : List AV) : AV.shut (.ag x) = match AV.asDs x with
    | some ds => .d (.ag ds)
    | none => .ag x := by
  simp only [AV.shut, AV.asD]
  cases AV.asDs x <;> rfl
theorem shut_own (j k : Nat) (x : List D) : AV.shut (.own j k x) = .d (.sl k x) := rfl
theorem asD_d (x : D) : AV.asD (.d x) = some x := rfl
theorem asD_own (j k : Nat) (x : List D) : AV.asD (.own j k x) = some (.sl k x) := rfl
theorem asD_ag (x : List AV) : AV.asD (.ag x) = match AV.asDs x with
    | some ds => some (.ag ds)
    | none => none := by simp only [AV.asD]; rfl
theorem asDs_nil : AV.asDs [] = some [] := rfl
theorem asDs_cons (x : AV) (r : List AV) : AV.asDs (x :: r) = match x.asD, AV.asDs r with
    | some a, some b => some (a :: b)
    | _, _ => none := by simp only [AV.asDs]; rfl
theorem shut_ptr (j o : Nat) (p : List Nat) : AV.shut (.ptr j o p) = .ptr j o p := rfl
theorem shut_vp (x : D) : AV.shut (.vp x) = .vp x := rfl
theorem isVal_d (x : D) : AV.isVal (.d x) = true := rfl
theorem isVal_ag (x : List AV) : AV.isVal (.ag x) = true := rfl
theorem isVal_ptr (j o : Nat) (p : List Nat) : AV.isVal (.ptr j o p) = true := rfl
theorem isVal_vp (x : D) : AV.isVal (.vp x) = true := rfl
theorem isVal_own (j k : Nat) (x : List D) : AV.isVal (.own j k x) = true := rfl
theorem isVal_bsl (j o k a b : Nat) (p : List Nat) : AV.isVal (.bsl j o k a b p) = true := rfl

theorem wrapU64 {n : Int} (h : 0 ≤ n) (h' : n ≤ 18446744073709551615) : IntKind.wrap .u64 n = n := by
  simp only [IntKind.wrap, IntKind.bits, IntKind.signed]; simp; omega
theorem wrapU32 {n : Int} (h : 0 ≤ n) (h' : n ≤ 4294967295) : IntKind.wrap .u32 n = n := by
  simp only [IntKind.wrap, IntKind.bits, IntKind.signed]; simp; omega
theorem wrapU8 {n : Int} (h : 0 ≤ n) (h' : n ≤ 255) : IntKind.wrap .u8 n = n := by
  simp only [IntKind.wrap, IntKind.bits, IntKind.signed]; simp; omega
theorem wrapI32 {n : Int} (h : -2147483648 ≤ n) (h' : n ≤ 2147483647) : IntKind.wrap .i32 n = n := by
  simp only [IntKind.wrap, IntKind.bits, IntKind.signed]; simp; omega

/-- what is asked on the way, closed by whatever serves -/
theorem cl {p : Prop} (h : p := by
  clear hK1 hK
  first
  | omega
  | (simp only [decide_eq_true_eq]; omega)
  | (simp only [List.length_map, List.length_append, List.length_nil, List.length_cons, Nat.zero_add]; omega)
  | (simp; done)
  | (intro hg; simp only [Bool.and_eq_true, Bool.or_eq_true, Bool.not_eq_true', Bool.and_eq_false_imp, Bool.or_eq_false_iff, decide_eq_true_eq, decide_eq_false_iff_not, beq_true, beq_false, Bool.not_not] at hg
     try simp (disch := omega) only [wrap64, wrapU64, wrapU32, wrapU8, wrapI32]
     first | omega | (simp only [List.length_map, List.length_append]; omega) | (simp_all; done) | (simp_all; omega))
  | (intros; (repeat (refine And.intro (by assumption) ?_)); first | exact Exists.intro _ rfl | exact Exists.intro (_, _) rfl | (refine Exists.intro _ (And.intro rfl ?_); (first | trivial | assumption | omega); done) | (refine Exists.intro (_, _) (And.intro rfl ?_); (first | trivial | assumption | omega); done))
  | (simp; omega)
  | grind
  | (simp_all; done)) : p := h

section
variable {P : Program} {c : Ctx} {s : St} {Q : Exit → St → Prop} {l : List Code}
/-- the ways of x meet again at J, where less may be known -/
theorem Wps_joinW {x : Code} (hl : l ≠ []) (J : St → Prop) (h : Wps P c [x] s (thenQ (fun s' => ∃ s'', J s'' ∧ Wk c s' s'') Q)) (hj : ∀ s', J s' → Wps P c l s' Q) : Wps P c (x :: l) s Q :=
  Wps_join _ h fun s' ⟨s'', h1, h2⟩ => Wps_weak h2 (hj s'' h1) hl
end

/-- some bool comes out -/
abbrev AnyB (r : AV) : Prop := ∃ b : Bool, r = .d (.raw (.bool b))
/-- a listed call that answers some bool -/
def entA {α : Type} (f : α → List AV) (q : α → Prop) : Ent := fun args => some (∃ x, args = f x ∧ q x, AnyB)
theorem entA_ok {P : Program} {g : Nat} {α : Type} {f : α → List AV} {q : α → Prop} (h : ∀ x, q x → PureOk P g (f x) AnyB) : EntOk P g (entA f q) := by
  intro args q' post he
  simp only [entA, Option.some.injEq, Prod.mk.injEq] at he
  obtain ⟨rfl, rfl⟩ := he
  exact ⟨⟨_, true, rfl⟩, fun ⟨x, hx, hq⟩ => hx ▸ h x hq⟩
/-- a listed call whose answer is told by what the arguments encode -/
noncomputable def ent1 {α : Type} (f : α → List AV) (q : α → Prop) (post : α → AV → Prop) : Ent := fun args => open Classical in if h : ∃ x, f x = args then some (q h.choose, post h.choose) else none
theorem ent1_ap {α : Type} {f : α → List AV} {q : α → Prop} {post : α → AV → Prop} (hf : ∀ x y, f x = f y → x = y) (x : α) : ent1 f q post (f x) = some (q x, post x) := by
  unfold ent1
  have h : ∃ y, f y = f x := ⟨x, rfl⟩
  rw [dif_pos h, hf _ _ h.choose_spec]
theorem ent1_ok {P : Program} {g : Nat} {α : Type} {f : α → List AV} {q : α → Prop} {post : α → AV → Prop} (hne : ∀ x, ∃ r, post x r) (h : ∀ x, q x → PureOk P g (f x) (post x)) : EntOk P g (ent1 f q post) := by
  intro args q' post' he
  unfold ent1 at he
  split at he
  · rename_i hx
    simp only [Option.some.injEq, Prod.mk.injEq] at he
    obtain ⟨rfl, rfl⟩ := he
    refine ⟨hne _, fun hq => ?_⟩
    have := h _ hq
    rwa [hx.choose_spec] at this
  · simp at he
theorem getD_map_lt {α : Type} [Inhabited α] {f : α → D} {l : List α} {i : Nat} (h : i < l.length) (d : D) : (l.map f).getD i d = f (l.getD i default) := by
  simp [List.getD_eq_getElem?_getD, h]
theorem drop_getD {α : Type} [Inhabited α] {l : List α} {i : Nat} (h : i < l.length) : l.drop i = l.getD i default :: l.drop (i + 1) := by
  rw [List.drop_eq_getElem_cons h]; simp [List.getD_eq_getElem?_getD, h]
theorem map_inj {α : Type} {f : α → D} (hf : ∀ {a b : α}, f a = f b → a = b) : ∀ {l l' : List α}, l.map f = l'.map f → l = l'
  | [], [], _ => rfl
  | [], _ :: _, h => by simp at h
  | _ :: _, [], h => by simp at h
  | a :: l, b :: l', h => by
    simp only [List.map_cons, List.cons.injEq] at h
    rw [hf h.1, map_inj hf h.2]
theorem toNat_pred (i : Nat) : ((i : Int) - 1).toNat = i - 1 := by omega
theorem toNat_add (i j : Nat) : ((i : Int) + (j : Int)).toNat = i + j := by omega
/-- all of a list are within bounds, and so is its length -/
abbrev okL {α : Type} (p : α → Prop) (l : List α) : Prop := l.length ≤ 1048576 ∧ ∀ x ∈ l, p x
theorem okL_get {α : Type} [Inhabited α] {p : α → Prop} {l : List α} (h : okL p l) {i : Nat} (hi : i < l.length) : p (l.getD i default) := by
  rw [List.getD_eq_getElem?_getD, List.getElem?_eq_getElem hi]
  exact h.2 _ (List.getElem_mem hi)
/-- a bool, and what a yes tells -/
abbrev YesB (p : Prop) (r : AV) : Prop := ∃ b : Bool, r = .d (.raw (.bool b)) ∧ (b = true → p)
theorem yes_bel {p : Prop} : ∀ r, YesB p r → r.bel 0 := by rintro _ ⟨b, rfl, _⟩; simp [AV.bel]
theorem yes_ex (p : Prop) : ∃ r, YesB p r := ⟨_, false, rfl, by simp⟩
theorem St_eq {l l' : List (Nat × AV)} {L L' : List Res} (h : l = l') (h' : L = L') : St.mk l L = St.mk l' L' := by rw [h, h']
theorem getE_map_lt {α : Type} [Inhabited α] {f : α → D} {l : List α} {i : Nat} (h : i < l.length) : (l.map f)[i]? = some (f (l.getD i default)) := by
  simp [List.getD_eq_getElem?_getD, h]
end Go.Eng
