/- The engine, part H: operations that make or write memory. -/
import Derived.Test.YtolplbfonlhbhaaEngG
set_option linter.unusedVariables false
set_option linter.unusedSectionVars false
set_option linter.unusedSimpArgs false
namespace Go.Eng
open Go
variable [Globs]

/-! ### a part put into data -/
def D.putAt : D → List Nat → D → D
  | _, [], y => y
  | .ag ds, i :: p, y => .ag (ds.set i ((ds.getD i default).putAt p y))
  | .arr n k ds, i :: p, y => .arr n k (ds.set i ((ds.getD i default).putAt p y))
  | x, _ :: _, _ => x
def AV.putAt : AV → List Nat → AV → AV
  | _, [], y => y
  | .d x, i :: p, .d y => .d (x.putAt (i :: p) y)
  | .d (.ag ds), i :: p, y => .ag ((ds.map .d).set i ((AV.d (ds.getD i default)).putAt p y))
  | .ag xs, i :: p, y => .ag (xs.set i ((xs.getD i .undef).putAt p y))
  | x, _ :: _, _ => x

def AV.okPut : AV → List Nat → AV → Bool
  | _, [], _ => true
  | .d _, _ :: _, .d _ => true
  | .d (.ag ds), i :: p, y => (AV.d (ds.getD i default)).okPut p y
  | .ag xs, i :: p, y => (xs.getD i .undef).okPut p y
  | _, _ :: _, _ => false

section
variable {P : Program} {Z : Zone} {w : World} {γ : List Value} {L : List Res}

theorem RepDs_set : ∀ {xs : List D} {i : Nat} {x y : D} {cs c' : List Value}, RepDs Z w xs cs → xs[i]? = some x → y.size = x.size → RepD Z w y c' →
    RepDs Z w (xs.set i y) (cs.take (D.sizes (xs.take i)) ++ c' ++ cs.drop (D.sizes (xs.take i) + x.size)) := by
  intro xs i x y cs c' h hi hy hr
  have hlt : i < xs.length := (List.getElem?_eq_some_iff.1 hi).1
  have h' := h
  rw [split_at hi] at h'
  obtain ⟨c1, c2, rfl, h1, h2⟩ := RepDs_append h'
  simp only [RepDs] at h2
  obtain ⟨c3, c4, rfl, h3, h4⟩ := h2
  have l1 := RepDs_len Z w _ _ h1
  have l3 := RepD_len Z w _ _ h3
  have e2 : xs.set i y = xs.take i ++ (y :: xs.drop (i + 1)) := by
    rw [List.set_eq_take_append_cons_drop, if_pos hlt]
  rw [e2]
  have t1 : (c1 ++ (c3 ++ c4)).take (D.sizes (xs.take i)) = c1 := by rw [← l1]; simp
  have t2 : (c1 ++ (c3 ++ c4)).drop (D.sizes (xs.take i) + x.size) = c4 := by rw [← l1, ← l3, ← List.drop_drop]; simp
  rw [t1, t2, List.append_assoc]
  refine RepDs_join h1 ?_
  simp only [RepDs]
  exact ⟨c', c4, rfl, hr, h4⟩

theorem splice {cs c' : List Value} {o n o' n' : Nat} (h : o' + n' ≤ n) (hn : o + n ≤ cs.length) :
    cs.take o ++ (((cs.drop o).take n).take o' ++ c' ++ ((cs.drop o).take n).drop (o' + n')) ++ cs.drop (o + n) = cs.take (o + o') ++ c' ++ cs.drop (o + o' + n') := by
  have e1 : ((cs.drop o).take n).take o' = (cs.drop o).take o' := by rw [List.take_take, Nat.min_eq_left (by omega)]
  have e2 : ((cs.drop o).take n).drop (o' + n') = (cs.drop (o + o' + n')).take (n - (o' + n')) := by
    rw [List.drop_take, List.drop_drop]; congr 2; omega
  have e3 : cs.drop (o + o' + n') = (cs.drop (o + o' + n')).take (n - (o' + n')) ++ cs.drop (o + n) := by
    have := (List.take_append_drop (n - (o' + n')) (cs.drop (o + o' + n'))).symm
    rw [List.drop_drop, show o + o' + n' + (n - (o' + n')) = o + n by omega] at this
    exact this
  have e4 : cs.take (o + o') = cs.take o ++ (cs.drop o).take o' := List.take_add
  rw [e1, e2, e4]
  simp only [List.append_assoc]
  rw [← e3]

theorem RepD_putAt : ∀ (p : List Nat) {x z y : D} {off : Nat} {cs c' : List Value}, RepD Z w x cs → x.nav p = some (z, off) → y.size = z.size → RepD Z w y c' →
    RepD Z w (x.putAt p y) (cs.take off ++ c' ++ cs.drop (off + z.size))
  | [], x, z, y, off, cs, c', h, hn, hy, hr => by
    have hl := RepD_len Z w _ _ h
    cases x <;> simp only [D.nav, Option.some.injEq, Prod.mk.injEq] at hn <;> obtain ⟨rfl, rfl⟩ := hn <;>
      (simp only [D.putAt]; rw [List.take_zero, List.nil_append, Nat.zero_add, List.drop_of_length_le (by omega), List.append_nil]; exact hr)
  | i :: p, x, z, y, off, cs, c', h, hn, hy, hr => by
    cases x with
    | raw v => simp [D.nav] at hn
    | sl k ds => simp [D.nav] at hn
    | ag ds =>
      simp only [D.nav] at hn
      split at hn
      · rename_i u hu
        simp only [Option.map_eq_some_iff, Prod.mk.injEq, Prod.exists] at hn
        obtain ⟨z', o', hz, rfl, rfl⟩ := hn
        simp only [RepD] at h
        obtain ⟨h1, h2⟩ := RepDs_nth h hu
        have ih := RepD_putAt p h1 hz hy hr
        have hnav := RepD_nav p h1 hz
        have hl1 := RepD_len Z w _ _ h1
        have hsz := RepD_len Z w _ _ ih
        have hlen : ((List.take u.size (List.drop (D.sizes (ds.take i)) cs)).take o' ++ c' ++ (List.take u.size (List.drop (D.sizes (ds.take i)) cs)).drop (o' + z'.size)).length = u.size := by
          have e := RepD_len Z w _ _ hr
          simp only [List.length_append, List.length_take, List.length_drop] at hl1 hnav ⊢
          omega
        have := RepDs_set h hu (by rw [← hsz, hlen]) ih
        rw [splice (by omega) h2] at this
        have eu : ds.getD i default = u := by simp [List.getD, hu]
        simp only [D.putAt, eu, RepD]
        exact this
      · simp at hn
    | arr n k ds =>
      simp only [D.nav] at hn
      split at hn
      · rename_i u hu
        simp only [Option.map_eq_some_iff, Prod.mk.injEq, Prod.exists] at hn
        obtain ⟨z', o', hz, rfl, rfl⟩ := hn
        simp only [RepD] at h
        obtain ⟨hn1, hn2, h⟩ := h
        obtain ⟨h1, h2⟩ := RepDs_nth h hu
        have ih := RepD_putAt p h1 hz hy hr
        have hnav := RepD_nav p h1 hz
        have hl1 := RepD_len Z w _ _ h1
        have hsz := RepD_len Z w _ _ ih
        have hlen : ((List.take u.size (List.drop (D.sizes (ds.take i)) cs)).take o' ++ c' ++ (List.take u.size (List.drop (D.sizes (ds.take i)) cs)).drop (o' + z'.size)).length = u.size := by
          have e := RepD_len Z w _ _ hr
          simp only [List.length_append, List.length_take, List.length_drop] at hl1 hnav ⊢
          omega
        have hus : (u.putAt p y).size = u.size := by rw [← hsz, hlen]
        have := RepDs_set h hu hus ih
        rw [splice (by omega) h2] at this
        have hi : i < ds.length := (List.getElem?_eq_some_iff.1 hu).1
        rw [sizes_take_const hn2 (by omega)] at this
        have eu : ds.getD i default = u := by simp [List.getD, hu]
        simp only [D.putAt, eu, RepD]
        refine ⟨by simp [hn1], fun x hx => ?_, this⟩
        rcases List.mem_or_eq_of_mem_set hx with hx | rfl
        · exact hn2 x hx
        · rw [hus]; exact hn2 u (List.mem_of_getElem? hu)
      · simp at hn

theorem RepA_putAt : ∀ (p : List Nat) {x z y : AV} {off : Nat} {cs c' : List Value}, RepA Z w γ L x cs → x.nav p = some (z, off) → y.size = z.size → RepA Z w γ L y c' → x.okPut p y = true →
    RepA Z w γ L (x.putAt p y) (cs.take off ++ c' ++ cs.drop (off + z.size))
  | [], x, z, y, off, cs, c', h, hn, hy, hr, hok => by
    have hl := RepA_len Z w γ L _ _ h
    cases x <;> simp only [AV.nav, Option.some.injEq, Prod.mk.injEq] at hn <;> obtain ⟨rfl, rfl⟩ := hn <;>
      (simp only [AV.putAt]; rw [List.take_zero, List.nil_append, Nat.zero_add, List.drop_of_length_le (by omega), List.append_nil]; exact hr)
  | i :: p, x, z, y, off, cs, c', h, hn, hy, hr, hok => by
    have agcase : ∀ (xs : List AV), RepA Z w γ L (.ag xs) cs → (∃ u, xs[i]? = some u ∧ ∃ z' o', u.nav p = some (z', o') ∧ z' = z ∧ AV.sizes (xs.take i) + o' = off) → (xs.getD i .undef).okPut p y = true →
        RepA Z w γ L (.ag (xs.set i ((xs.getD i .undef).putAt p y))) (cs.take off ++ c' ++ cs.drop (off + z.size)) := by
      rintro xs h ⟨u, hu, z', o', hz, rfl, rfl⟩ hok'
      have eu : xs.getD i .undef = u := by simp [List.getD, hu]
      rw [eu] at hok'
      simp only [RepA] at h
      obtain ⟨h1, h2⟩ := RepAs_nth h hu
      have ih := RepA_putAt p h1 hz hy hr hok'
      have hnav := RepA_nav p h1 hz
      have hl1 := RepA_len Z w γ L _ _ h1
      have hsz := RepA_len Z w γ L _ _ ih
      have hlen : ((List.take u.size (List.drop (AV.sizes (xs.take i)) cs)).take o' ++ c' ++ (List.take u.size (List.drop (AV.sizes (xs.take i)) cs)).drop (o' + z'.size)).length = u.size := by
        have e := RepA_len Z w γ L _ _ hr
        simp only [List.length_append, List.length_take, List.length_drop] at hl1 hnav ⊢
        omega
      have := RepAs_set h hu (by rw [← hsz, hlen]) ih
      rw [splice (by omega) h2] at this
      simp only [eu, RepA]
      exact this
    cases x with
    | d x =>
      simp only [AV.nav, Option.map_eq_some_iff, Prod.mk.injEq, Prod.exists] at hn
      obtain ⟨z', o', hz, rfl, rfl⟩ := hn
      simp only [RepA] at h
      have gen : ∀ ds, x = .ag ds → (AV.d (ds.getD i default)).okPut p y = true → RepA Z w γ L (.ag ((ds.map .d).set i ((AV.d (ds.getD i default)).putAt p y))) (cs.take o' ++ c' ++ cs.drop (o' + (AV.d z').size)) := by
        rintro ds rfl hok'
        simp only [D.nav] at hz
        split at hz
        · rename_i u hu
          simp only [Option.map_eq_some_iff, Prod.mk.injEq, Prod.exists] at hz
          obtain ⟨z2, o2, hz2, rfl, rfl⟩ := hz
          have hA : RepA Z w γ L (.ag (ds.map .d)) cs := by simp only [RepA, RepD] at h ⊢; exact (RepAs_map ds cs).2 h
          have hu' : (ds.map AV.d)[i]? = some (.d u) := by simp [hu]
          have e1 : (ds.map AV.d).getD i .undef = .d u := by simp [List.getD, hu]
          have e2 : ds.getD i default = u := by simp [List.getD, hu]
          rw [e2] at hok'
          have := agcase (ds.map .d) hA ⟨.d u, hu', .d z2, o2, ?_, rfl, ?_⟩ (by rw [e1]; exact hok')
          · rw [e1] at this
            rw [e2]
            exact this
          · cases p with
            | nil => cases u <;> simp_all [AV.nav, D.nav]
            | cons q p => simp [AV.nav, hz2]
          · rw [← List.map_take, AV.sizes_map]
        · simp at hz
      cases y with
      | d y' =>
        simp only [AV.putAt, RepA]
        simp only [RepA] at hr
        exact RepD_putAt (i :: p) h hz (by simpa [AV.size] using hy) hr
      | _ =>
        cases x with
        | ag ds => simp only [AV.putAt]; exact gen ds rfl (by simpa only [AV.okPut] using hok)
        | raw v => simp [D.nav] at hz
        | sl k ds => simp [D.nav] at hz
        | arr n k ds => simp [AV.okPut] at hok
    | ag xs =>
      simp only [AV.nav] at hn
      split at hn
      · rename_i u hu
        simp only [Option.map_eq_some_iff, Prod.mk.injEq, Prod.exists] at hn
        obtain ⟨z', o', hz, rfl, rfl⟩ := hn
        simp only [AV.putAt]
        exact agcase xs h ⟨u, hu, z', o', hz, rfl, rfl⟩ (by simpa only [AV.okPut] using hok)
      · simp at hn
    | _ => simp [AV.nav] at hn
end
end Go.Eng
