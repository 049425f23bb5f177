/- The engine, part B: owned memory, and the relation between an abstract state and the machine's. -/
import Derived.Test.YtolplbfonlhbhaaEngA
set_option linter.unusedVariables false
set_option linter.unusedSectionVars false
set_option linter.unusedSimpArgs false
namespace Go.Eng
open Go

/-- what package-level variables are known to hold, all along -/
class Globs where
  dat : Nat → Option D

/-- what a stretch of the run does to the world: blocks in F may turn, cells in the zone never do -/
structure Step (F : Nat → Prop) (Z : Zone) (w w' : World) : Prop where
  os : w'.os = w.os
  output : w'.output = w.output
  tape : w'.tape = w.tape
  size : w.heap.size ≤ w'.heap.size
  keep : ∀ b, b < w.heap.size → ¬ F b → w'.heap[b]? = w.heap[b]?
  zone : ∀ b o, Z b o → w'.cell? ⟨b, o, none⟩ = w.cell? ⟨b, o, none⟩

/-- a later world in which all that was there is as it was -/
structure Ext (w w' : World) : Prop where
  os : w'.os = w.os
  output : w'.output = w.output
  tape : w'.tape = w.tape
  size : w.heap.size ≤ w'.heap.size
  keep : ∀ b, b < w.heap.size → w'.heap[b]? = w.heap[b]?

theorem Ext.refl (w : World) : Ext w w := ⟨rfl, rfl, rfl, Nat.le_refl _, fun _ _ => rfl⟩
theorem Ext.trans {w w1 w2 : World} (h : Ext w w1) (h1 : Ext w1 w2) : Ext w w2 :=
  ⟨h1.os.trans h.os, h1.output.trans h.output, h1.tape.trans h.tape, Nat.le_trans h.size h1.size, fun b hb => (h1.keep b (Nat.lt_of_lt_of_le hb h.size)).trans (h.keep b hb)⟩
theorem Ext.cell {w w1 : World} (h : Ext w w1) {a : Addr} {v : Value} (hc : w.cell? a = some v) : w1.cell? a = some v := by
  have hb : a.block < w.heap.size := World.block_lt_of_cell? w a hc
  simpa only [World.cell?, h.keep _ hb] using hc

theorem Step.refl (F : Nat → Prop) (Z : Zone) (w : World) : Step F Z w w := ⟨rfl, rfl, rfl, Nat.le_refl _, fun _ _ _ => rfl, fun _ _ _ => rfl⟩

theorem Step.trans {F F1 : Nat → Prop} {Z Z1 : Zone} {w w1 w2 : World} (h : Step F Z w w1) (h1 : Step F1 Z1 w1 w2)
    (hF : ∀ b, F1 b → F b ∨ w.heap.size ≤ b) (hZ : ∀ b o, Z b o → Z1 b o) : Step F Z w w2 :=
  ⟨h1.os.trans h.os, h1.output.trans h.output, h1.tape.trans h.tape, Nat.le_trans h.size h1.size,
    fun b hb hf => (h1.keep b (Nat.lt_of_lt_of_le hb h.size) (fun hf1 => by
      rcases hF b hf1 with g | g
      · exact hf g
      · omega)).trans (h.keep b hb hf),
    fun b o hz => (h1.zone b o (hZ b o hz)).trans (h.zone b o hz)⟩

theorem Step.weaken {F F1 : Nat → Prop} {Z : Zone} {w w1 : World} (h : Step F Z w w1) (hF : ∀ b, F b → F1 b) : Step F1 Z w w1 :=
  ⟨h.os, h.output, h.tape, h.size, fun b hb hf => h.keep b hb (fun g => hf (hF b g)), h.zone⟩

/-- the block that owned memory lies in -/
def Res.blk : Res → Value → Option Nat
  | .box _, .pointer (some a) => some a.block
  | .tok _ _ _, g => g.ownBlock
  | _, _ => none

def ResOK (Z : Zone) (w : World) (γ : List Value) (L : List Res) : Res → Value → Prop
  | .box x, g => ∃ b c ty fr, g = .pointer (some ⟨b, 0, none⟩) ∧ w.heap[b]? = some (.cells c ty fr) ∧ fr = (0, 0) ∧ RepA Z w γ L x c.toList ∧ ∀ o, ¬ Z b o
  | .tok e k n, g => ∃ xs, w.ownsRow 0 e k g n xs ∧ ∀ b o, g.ownBlock = some b → n * k ≤ o → ¬ Z b o
  | .dead, _ => True

/-- the blocks that are owned -/
def owns (L : List Res) (γ : List Value) (b : Nat) : Prop := ∃ (j : Nat) (r : Res) (g : Value), L[j]? = some r ∧ γ[j]? = some g ∧ r.blk g = some b

variable [Globs]
structure Env (L : List Res) (Z : Zone) (γ : List Value) (w : World) : Prop where
  len : γ.length = L.length
  res : ∀ (j : Nat) (r : Res) (g : Value), L[j]? = some r → γ[j]? = some g → ResOK Z w γ L r g
  sep : ∀ (i j : Nat) (ri rj : Res) (gi gj : Value) (b : Nat), L[i]? = some ri → γ[i]? = some gi → L[j]? = some rj → γ[j]? = some gj → ri.blk gi = some b → rj.blk gj = some b → i = j
  zlt : ∀ (b o : Nat), Z b o → b < w.heap.size
  glob : ∀ (g : Nat) (x : D), Globs.dat g = some x → ∃ cs, cellsAt Z w g 0 cs ∧ RepD Z w x cs

structure Adv (L : List Res) (Z : Zone) (γ : List Value) (w : World) (L' : List Res) (Z' : Zone) (γ' : List Value) (w' : World) : Prop where
  zone : ∀ (b o : Nat), Z b o → Z' b o
  ext : ExtR γ L γ' L'
  step : Step (owns L γ) Z w w'
  foot : ∀ b, owns L' γ' b → owns L γ b ∨ w.heap.size ≤ b
  znew : ∀ (b o : Nat), Z' b o → Z b o ∨ owns L γ b ∨ w.heap.size ≤ b

theorem Adv.refl (L : List Res) (Z : Zone) (γ : List Value) (w : World) : Adv L Z γ w L Z γ w :=
  ⟨fun _ _ h => h, ExtR.refl γ L, Step.refl _ _ _, fun _ h => .inl h, fun _ _ h => .inl h⟩

theorem ExtR.trans {γ γ1 γ2 : List Value} {L L1 L2 : List Res} (h : ExtR γ L γ1 L1) (h1 : ExtR γ1 L1 γ2 L2) : ExtR γ L γ2 L2 := by
  refine ⟨Nat.le_trans h.len h1.len, fun j b hj => h1.ptr j b (h.ptr j b hj), fun j e k n' hj hn' => ?_⟩
  obtain ⟨n, g1, g2, g3⟩ := h1.tok j e k n' (Nat.lt_of_lt_of_le hj h.len) hn'
  obtain ⟨m, f1, f2, f3⟩ := h.tok j e k n hj g1
  exact ⟨m, f1, by omega, fun e => (g3 (by omega)).trans (f3 (by omega))⟩

theorem Adv.trans {L L1 L2 : List Res} {Z Z1 Z2 : Zone} {γ γ1 γ2 : List Value} {w w1 w2 : World} (h : Adv L Z γ w L1 Z1 γ1 w1) (h1 : Adv L1 Z1 γ1 w1 L2 Z2 γ2 w2) :
    Adv L Z γ w L2 Z2 γ2 w2 := by
  refine ⟨fun b o hz => h1.zone b o (h.zone b o hz), h.ext.trans h1.ext, h.step.trans h1.step h.foot h.zone, fun b hb => ?_, fun b o hz => ?_⟩
  · rcases h1.foot b hb with g | g
    · exact h.foot b g
    · exact .inr (Nat.le_trans h.step.size g)
  · rcases h1.znew b o hz with g | g | g
    · exact h.znew b o g
    · exact .inr (h.foot b g)
    · exact .inr (.inr (Nat.le_trans h.step.size g))

theorem Env.glob_mono {L : List Res} {Z Z' : Zone} {γ : List Value} {w w' : World} (h : Env L Z γ w) (hZ : ∀ b o, Z b o → Z' b o) (hw : ∀ b o, Z b o → w'.cell? ⟨b, o, none⟩ = w.cell? ⟨b, o, none⟩) :
    ∀ (g : Nat) (x : D), Globs.dat g = some x → ∃ cs, cellsAt Z' w' g 0 cs ∧ RepD Z' w' x cs :=
  fun g x hg => let ⟨cs, h1, h2⟩ := h.glob g x hg; ⟨cs, cellsAt_mono hZ hw h1, RepD_mono hZ hw x cs h2⟩

theorem Env.blk_lt {L : List Res} {Z : Zone} {γ : List Value} {w : World} (h : Env L Z γ w) {b : Nat} (hb : owns L γ b) : b < w.heap.size := by
  obtain ⟨j, r, g, h1, h2, h3⟩ := hb
  have hr := h.res j r g h1 h2
  cases r with
  | box x =>
    obtain ⟨b', c', ty, fr, rfl, hh, _⟩ := hr
    simp only [Res.blk, Option.some.injEq] at h3
    subst h3
    exact (Array.getElem?_eq_some_iff.1 hh).1
  | tok e k n =>
    obtain ⟨xs, ho, _⟩ := hr
    exact (ho.lt b h3).2
  | dead => simp [Res.blk] at h3

/-! ### the abstract state of a function's frame -/
structure Ctx where
  N : Nat
  L0 : List Res
  Z0 : Zone
  γ0 : List Value
  w0 : World

structure St where
  sl : List (Nat × AV)
  L : List Res

def St.put (s : St) (d : Option Nat) (x : AV) : St :=
  match d with
  | some d => { s with sl := (d, x) :: s.sl }
  | none => s

def St.at (s : St) (t : Nat) : AV := (s.sl.lookup t).getD .undef

def constA : Value → AV
  | .agg _ => .undef
  | .tuple _ => .undef
  | .bool b => .d (.raw (.bool b))
  | .int k n => .d (.raw (.int k n))
  | .string s => .d (.raw (.string s))
  | v => .d (.raw v)

def St.ev (s : St) : Operand → AV
  | .tmp t => s.at t
  | .const v => constA v
  | .global g => match Globs.dat g with
    | some x => .vp x
    | none => .undef
  | .func f => .d (.raw (.func (.func f) #[] #[]))

structure RelZ (c : Ctx) (s : St) (Z : Zone) (γ : List Value) (a : Act) (w : World) : Prop where
  defers : a.defers = []
  ntmps : a.tmps.size = c.N
  slots : ∀ t, RepV Z w γ s.L (s.at t) (a.tmps.getD t undef)
  env : Env s.L Z γ w
  adv : Adv c.L0 c.Z0 c.γ0 c.w0 s.L Z γ w

def Rel (c : Ctx) (s : St) (a : Act) (w : World) : Prop := ∃ Z γ, RelZ c s Z γ a w

theorem St.at_put_same (s : St) (d : Nat) (x : AV) : (s.put (some d) x).at d = x := by simp [St.put, St.at]
theorem St.at_put_ne (s : St) (d t : Nat) (x : AV) (h : t ≠ d) : (s.put (some d) x).at t = s.at t := by
  have : (t == d) = false := by simpa using h
  simp [St.put, St.at, List.lookup, this]

theorem RelZ.put {c : Ctx} {s : St} {Z : Zone} {γ : List Value} {a : Act} {w : World} (h : RelZ c s Z γ a w) {dst : Option Nat} {x : AV} {v : Value}
    (hd : ∀ d, dst = some d → d < c.N) (hx : RepV Z w γ s.L x v) : RelZ c (s.put dst x) Z γ (a.put dst v) w := by
  cases dst with
  | none => exact h
  | some d =>
    have hd := hd d rfl
    have hL : (s.put (some d) x).L = s.L := rfl
    refine ⟨h.defers, by simp [Act.put, h.ntmps], ?_, h.env, h.adv⟩
    intro t
    rw [hL]
    have hs : d < a.tmps.size := by rw [h.ntmps]; exact hd
    by_cases e : t = d
    · subst e
      rw [St.at_put_same]
      simpa [Act.put, Array.getD, hs] using hx
    · rw [St.at_put_ne s d t x e]
      have hne : ¬ d = t := fun g => e g.symm
      have := h.slots t
      have e2 : (a.tmps.setIfInBounds d v).getD t undef = a.tmps.getD t undef := by
        simp only [Array.getD_eq_getD_getElem?, Array.getElem?_setIfInBounds, hne, if_false]
      simpa only [Act.put, e2] using this

theorem RelZ.putR' {c : Ctx} {s : St} {a : Act} {w : World} {Z : Zone} {γ : List Value} (h : RelZ c s Z γ a w) {dst : Option Nat} {x : AV} {v : Value}
    (hd : ∀ d, dst = some d → d < c.N) (hx : RepV Z w γ s.L x v) : Rel c (s.put dst x) (a.put dst v) w := ⟨Z, γ, h.put hd hx⟩

theorem RepV_const (Z : Zone) (w : World) (γ : List Value) (L : List Res) (v : Value) : RepV Z w γ L (constA v) v := by
  cases v <;> simp [constA, RepV, RepC, AV.isAg, D.isAg, RepA, RepD, Value.oneCell']

theorem RelZ.ev {c : Ctx} {s : St} {Z : Zone} {γ : List Value} {a : Act} {w : World} (h : RelZ c s Z γ a w) (x : Operand) : RepV Z w γ s.L (s.ev x) (a.eval x) := by
  cases x with
  | tmp t => exact h.slots t
  | const v => exact RepV_const _ _ _ _ v
  | global g =>
    simp only [St.ev]
    cases hg : Globs.dat g with
    | none => simp [RepV]
    | some x =>
      obtain ⟨cs, h1, h2⟩ := h.env.glob g x hg
      simp only [RepV, RepC, AV.isAg, Bool.false_eq_true, if_false, RepA]
      exact ⟨g, 0, cs, rfl, h1, h2⟩
  | func f => simp [St.ev, RepV, RepC, AV.isAg, D.isAg, RepA, RepD, Act.eval, Value.oneCell']

/-- the world goes on: the slots' values stand -/
theorem RelZ.go {c : Ctx} {s : St} {Z : Zone} {γ : List Value} {a : Act} {w : World} (h : RelZ c s Z γ a w) {L' : List Res} {Z' : Zone} {γ' : List Value} {w' : World}
    (he : Env L' Z' γ' w') (ha : Adv s.L Z γ w L' Z' γ' w') : RelZ c ⟨s.sl, L'⟩ Z' γ' a w' :=
  ⟨h.defers, h.ntmps, fun t => RepV_mono ha.zone ha.step.zone ha.ext _ _ (h.slots t), he, h.adv.trans ha⟩

/-- untouched memory stays owned as it was -/
theorem ResOK.mono {Z Z' : Zone} {w w' : World} {γ γ' : List Value} {L L' : List Res} (hZ : ∀ b o, Z b o → Z' b o)
    (hw : ∀ b o, Z b o → w'.cell? ⟨b, o, none⟩ = w.cell? ⟨b, o, none⟩) (hE : ExtR γ L γ' L') {r : Res} {g : Value}
    (hb : ∀ b, r.blk g = some b → w'.heap[b]? = w.heap[b]? ∧ ∀ o, Z' b o → Z b o) (h : ResOK Z w γ L r g) : ResOK Z' w' γ' L' r g := by
  cases r with
  | box x =>
    obtain ⟨b, c, ty, fr, rfl, h1, h2, h3, h4⟩ := h
    obtain ⟨g1, g2⟩ := hb b rfl
    exact ⟨b, c, ty, fr, rfl, g1.trans h1, h2, RepA_mono hZ hw hE x _ h3, fun o ho => h4 o (g2 o ho)⟩
  | tok e k n =>
    obtain ⟨xs, ho, hz⟩ := h
    refine ⟨xs, ?_, fun b o h1 h2 h3 => hz b o h1 h2 ((hb b h1).2 o h3)⟩
    refine ⟨ho.1, ?_⟩
    rcases ho.2 with h | ⟨g', cap, cur, rfl, h1, h2, h3⟩
    · exact .inl h
    · exact .inr ⟨g', cap, cur, rfl, h1, (hb g' rfl).1.trans h2, h3⟩
  | dead => trivial

/-- new blocks whose cells nobody owns -/
theorem ExtR.push {γ : List Value} {L : List Res} (hlen : γ.length = L.length) (g : Value) (r : Res) : ExtR γ L (γ ++ [g]) (L ++ [r]) := by
  refine ⟨by simp, fun j b h => ?_, fun j e k n' hj h => ?_⟩
  · have hj : j < γ.length := (List.getElem?_eq_some_iff.1 h).1
    rw [List.getElem?_append_left hj]; exact h
  · rw [List.getElem?_append_left hj] at h
    refine ⟨n', h, Nat.le_refl _, fun _ => ?_⟩
    rw [List.getElem?_append_left (by omega)]

theorem getElem?_snoc {α : Type} {l : List α} {x y : α} {j : Nat} (h : (l ++ [x])[j]? = some y) : l[j]? = some y ∨ (j = l.length ∧ y = x) := by
  rcases Nat.lt_or_ge j l.length with hj | hj
  · rw [List.getElem?_append_left hj] at h; exact .inl h
  · have hlt : j < (l ++ [x]).length := (List.getElem?_eq_some_iff.1 h).1
    simp only [List.length_append, List.length_cons, List.length_nil] at hlt
    have e : j = l.length := by omega
    subst e
    simp at h
    exact .inr ⟨rfl, h.symm⟩

theorem snoc2 {L : List Res} {γ : List Value} (hl : γ.length = L.length) {r r' : Res} {g g' : Value} {j : Nat} (h1 : (L ++ [r])[j]? = some r') (h2 : (γ ++ [g])[j]? = some g') :
    (L[j]? = some r' ∧ γ[j]? = some g') ∨ (j = L.length ∧ r' = r ∧ g' = g) := by
  rcases getElem?_snoc h1 with h1 | ⟨e1, e2⟩
  · rcases getElem?_snoc h2 with h2 | ⟨e3, e4⟩
    · exact .inl ⟨h1, h2⟩
    · have := (List.getElem?_eq_some_iff.1 h1).1; omega
  · rcases getElem?_snoc h2 with h2 | ⟨e3, e4⟩
    · have := (List.getElem?_eq_some_iff.1 h2).1; omega
    · exact .inr ⟨e1, e2, e4⟩

section
variable {L : List Res} {Z : Zone} {γ : List Value} {w : World} (h : Env L Z γ w) {Z' : Zone} {w' : World}
include h

/-- a resource more, which lies in a new block or in none -/
theorem Env.push {g : Value} {r : Res}
    (hst : Step (fun _ => False) Z w w') (hZ : ∀ b o, Z b o → Z' b o) (hnew : ∀ b o, Z' b o → Z b o ∨ w.heap.size ≤ b ∧ b < w'.heap.size)
    (hres : ResOK Z' w' (γ ++ [g]) (L ++ [r]) r g) (hblk : ∀ b, r.blk g = some b → w.heap.size ≤ b) :
    Env (L ++ [r]) Z' (γ ++ [g]) w' ∧ Adv L Z γ w (L ++ [r]) Z' (γ ++ [g]) w' := by
  have hE := ExtR.push h.len g r
  refine ⟨⟨by simp [h.len], ?_, ?_, ?_, h.glob_mono hZ hst.zone⟩, ⟨hZ, hE, hst.weaken (fun _ h => h.elim), ?_, fun b o hz => (hnew b o hz).imp id (fun q => .inr q.1)⟩⟩
  · intro j r' g' h1 h2
    rcases snoc2 h.len h1 h2 with ⟨h1, h2⟩ | ⟨_, rfl, rfl⟩
    · refine (h.res j r' g' h1 h2).mono hZ hst.zone hE fun b hb => ?_
      have hlt := h.blk_lt ⟨j, r', g', h1, h2, hb⟩
      refine ⟨hst.keep b hlt id, fun o hz => ?_⟩
      rcases hnew b o hz with hz | hz
      · exact hz
      · omega
    · exact hres
  · intro i j ri rj gi gj b h1 h2 h3 h4 h5 h6
    rcases snoc2 h.len h1 h2 with ⟨p1, p2⟩ | ⟨p1, p2, p3⟩ <;> rcases snoc2 h.len h3 h4 with ⟨q1, q2⟩ | ⟨q1, q2, q3⟩
    · exact h.sep i j ri rj gi gj b p1 p2 q1 q2 h5 h6
    · subst q2 q3
      have k1 := h.blk_lt ⟨i, ri, gi, p1, p2, h5⟩
      have k2 := hblk b h6
      omega
    · subst p2 p3
      have k1 := h.blk_lt ⟨j, rj, gj, q1, q2, h6⟩
      have k2 := hblk b h5
      omega
    · omega
  · intro b o hz
    rcases hnew b o hz with hz | hz
    · exact Nat.lt_of_lt_of_le (h.zlt b o hz) hst.size
    · exact hz.2
  · rintro b ⟨j, r', g', h1, h2, h3⟩
    rcases snoc2 h.len h1 h2 with ⟨p1, p2⟩ | ⟨p1, p2, p3⟩
    · exact .inl ⟨j, r', g', p1, p2, h3⟩
    · subst p2 p3; exact .inr (hblk b h3)

/-- no resource more -/
theorem Env.grow
    (hst : Step (fun _ => False) Z w w') (hZ : ∀ b o, Z b o → Z' b o) (hnew : ∀ b o, Z' b o → Z b o ∨ w.heap.size ≤ b ∧ b < w'.heap.size) :
    Env L Z' γ w' ∧ Adv L Z γ w L Z' γ w' := by
  have hE := ExtR.refl γ L
  refine ⟨⟨h.len, ?_, h.sep, ?_, h.glob_mono hZ hst.zone⟩, ⟨hZ, hE, hst.weaken (fun _ h => h.elim), fun b hb => .inl hb, fun b o hz => (hnew b o hz).imp id (fun q => .inr q.1)⟩⟩
  · intro j r g h1 h2
    refine (h.res j r g h1 h2).mono hZ hst.zone hE fun b hb => ?_
    have hlt := h.blk_lt ⟨j, r, g, h1, h2, hb⟩
    refine ⟨hst.keep b hlt id, fun o hz => ?_⟩
    rcases hnew b o hz with hz | hz
    · exact hz
    · omega
  · intro b o hz
    rcases hnew b o hz with hz | hz
    · exact Nat.lt_of_lt_of_le (h.zlt b o hz) hst.size
    · exact hz.2

/-- a resource turned -/
theorem Env.upd {j : Nat} {r r' : Res} {g g' : Value} (hj : L[j]? = some r) (hg : γ[j]? = some g)
    (hst : Step (fun b => r.blk g = some b) Z w w') (hZ : ∀ b o, Z b o → Z' b o) (hnew : ∀ b o, Z' b o → Z b o ∨ r.blk g = some b ∨ w.heap.size ≤ b ∧ b < w'.heap.size)
    (hE : ExtR γ L (γ.set j g') (L.set j r')) (hres : ResOK Z' w' (γ.set j g') (L.set j r') r' g') (hblk : ∀ b, r'.blk g' = some b → r.blk g = some b ∨ w.heap.size ≤ b) :
    Env (L.set j r') Z' (γ.set j g') w' ∧ Adv L Z γ w (L.set j r') Z' (γ.set j g') w' := by
  have hjL : j < L.length := (List.getElem?_eq_some_iff.1 hj).1
  have hjγ : j < γ.length := (List.getElem?_eq_some_iff.1 hg).1
  have hcase : ∀ {i : Nat} {ri : Res} {gi : Value}, (L.set j r')[i]? = some ri → (γ.set j g')[i]? = some gi → (i ≠ j ∧ L[i]? = some ri ∧ γ[i]? = some gi) ∨ (i = j ∧ ri = r' ∧ gi = g') := by
    intro i ri gi h1 h2
    by_cases e : j = i
    · subst e
      rw [List.getElem?_set_self hjL] at h1
      rw [List.getElem?_set_self hjγ] at h2
      simp only [Option.some.injEq] at h1 h2
      exact .inr ⟨rfl, h1.symm, h2.symm⟩
    · rw [List.getElem?_set_ne e] at h1 h2
      exact .inl ⟨fun q => e q.symm, h1, h2⟩
  have hown : ∀ b, r.blk g = some b → owns L γ b := fun b hb => ⟨j, r, g, hj, hg, hb⟩
  refine ⟨⟨by simp [h.len], ?_, ?_, ?_, h.glob_mono hZ hst.zone⟩, ⟨hZ, hE, hst.weaken hown, ?_, fun b o hz => (hnew b o hz).imp id (fun q => q.imp (hown b) (fun q => q.1))⟩⟩
  · intro i ri gi h1 h2
    rcases hcase h1 h2 with ⟨hne, h1, h2⟩ | ⟨_, rfl, rfl⟩
    · refine (h.res i ri gi h1 h2).mono hZ hst.zone hE fun b hb => ?_
      have hlt := h.blk_lt ⟨i, ri, gi, h1, h2, hb⟩
      have hnb : ¬ r.blk g = some b := fun q => hne (h.sep i j ri r gi g b h1 h2 hj hg hb q)
      refine ⟨hst.keep b hlt hnb, fun o hz => ?_⟩
      rcases hnew b o hz with hz | hz | hz
      · exact hz
      · exact (hnb hz).elim
      · omega
    · exact hres
  · intro i i' ri ri' gi gi' b h1 h2 h3 h4 h5 h6
    rcases hcase h1 h2 with ⟨n1, p1, p2⟩ | ⟨p1, p2, p3⟩ <;> rcases hcase h3 h4 with ⟨n2, q1, q2⟩ | ⟨q1, q2, q3⟩
    · exact h.sep i i' ri ri' gi gi' b p1 p2 q1 q2 h5 h6
    · subst q2 q3
      have k1 := h.blk_lt ⟨i, ri, gi, p1, p2, h5⟩
      rcases hblk b h6 with k2 | k2
      · exact (n1 (h.sep i j ri r gi g b p1 p2 hj hg h5 k2)).elim
      · omega
    · subst p2 p3
      have k1 := h.blk_lt ⟨i', ri', gi', q1, q2, h6⟩
      rcases hblk b h5 with k2 | k2
      · exact (n2 (h.sep i' j ri' r gi' g b q1 q2 hj hg h6 k2)).elim
      · omega
    · omega
  · intro b o hz
    rcases hnew b o hz with hz | hz | hz
    · exact Nat.lt_of_lt_of_le (h.zlt b o hz) hst.size
    · exact Nat.lt_of_lt_of_le (h.blk_lt (hown b hz)) hst.size
    · exact hz.2
  · rintro b ⟨i, ri, gi, h1, h2, h3⟩
    rcases hcase h1 h2 with ⟨n1, p1, p2⟩ | ⟨p1, p2, p3⟩
    · exact .inl ⟨i, ri, gi, p1, p2, h3⟩
    · subst p2 p3
      exact (hblk b h3).imp (hown b) id

end
end Go.Eng
