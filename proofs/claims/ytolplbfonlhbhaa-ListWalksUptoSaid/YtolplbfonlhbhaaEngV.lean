/- The engine, part V: arguments that came in, read as data; a row out of a contract. -/
import Derived.Test.YtolplbfonlhbhaaEngS
import Derived.Test.YtolplbfonlhbhaaRows
import Derived.ProofKit
import Derived.HandedShaped
import Derived.JoinedCond
import Derived.Carry
set_option linter.unusedVariables false
set_option linter.unusedSectionVars false
set_option linter.unusedSimpArgs false
namespace Go.Proofs.Ytolplbfonlhbhaa
open Go Go.Eng Go.ChangeShapes Go.RowKit

/-! ### what the bound gives -/
section
variable {H : Type}
theorem bulk_part {d : DataW H} {l : List (DataW H)} (h : d ∈ l) : Rows.uptoBulk d ≤ Rows.uptoBulkAll l := by
  induction l with
  | nil => cases h
  | cons x r ih =>
    simp only [Rows.uptoBulkAll]
    cases List.mem_cons.1 h with
    | inl e => subst e; omega
    | inr e => have := ih e; omega
theorem bulk_one (d : DataW H) : 1 ≤ Rows.uptoBulk d := by
  cases d with
  | lit l => cases l <;> simp [Rows.uptoBulk]
  | nil => simp [Rows.uptoBulk]
  | ptr d => simp [Rows.uptoBulk]
  | slice elems spare => simp [Rows.uptoBulk]
  | agg parts => simp [Rows.uptoBulk]
  | iface t d => simp [Rows.uptoBulk]
  | map entries => simp [Rows.uptoBulk]
  | held h => simp [Rows.uptoBulk]
theorem bulk_len (l : List (DataW H)) : l.length ≤ Rows.uptoBulkAll l := by
  induction l with
  | nil => simp [Rows.uptoBulkAll]
  | cons x r ih => have := bulk_one x; simp only [Rows.uptoBulkAll, List.length_cons]; omega
end

/-- the cells of the world as it came in -/
def Z0 (W : World) : Zone := fun b o => b < W.heap.size ∧ True

section
variable {P : Program} {W : World} {H : Type} {enc : TypeId × Value → H}

theorem mapM_some {α β : Type} {f : α → Option β} : ∀ {l : List α} {r : List β}, l.mapM f = some r → r.length = l.length ∧ ∀ (i : Nat) (x : α), l[i]? = some x → ∃ y, r[i]? = some y ∧ f x = some y
  | [], r, h => by
    simp only [List.mapM_nil, Option.pure_def, Option.some.injEq] at h
    subst h
    exact ⟨rfl, fun i x hx => by simp at hx⟩
  | a :: l, r, h => by
    simp only [List.mapM_cons, Option.pure_def, Option.bind_eq_bind, Option.bind_eq_some_iff, Option.some.injEq] at h
    obtain ⟨y, hy, ys, hys, rfl⟩ := h
    obtain ⟨h1, h2⟩ := mapM_some hys
    refine ⟨by simp [h1], fun i x hx => ?_⟩
    cases i with
    | zero => simp only [List.getElem?_cons_zero, Option.some.injEq] at hx ⊢; subst hx; exact ⟨y, rfl, hy⟩
    | succ i => simp only [List.getElem?_cons_succ] at hx ⊢; exact h2 i x hx
theorem cells_some {base : Nat} {a : Addr} {n : Nat} {cs : List Value} (h : W.cells? base a n = some cs) : cs.length = n ∧ ∀ j, j < n → W.cell? (a.add j) = cs[j]? := by
  unfold World.cells? at h
  split at h
  · obtain ⟨h1, h2⟩ := mapM_some h
    rw [List.length_range] at h1
    refine ⟨h1, fun j hj => ?_⟩
    obtain ⟨y, hy, hc⟩ := h2 j j (by simp [hj])
    rw [hc, hy]
  · cases h
theorem cell_lt {a : Addr} {v : Value} (h : W.cell? a = some v) : a.block < W.heap.size ∧ a.spot = none := by
  refine ⟨?_, World.cell?_spot h⟩
  simp only [World.cell?] at h
  split at h
  · rename_i hh; exact (Array.getElem?_eq_some_iff.1 hh).1
  · cases h
theorem cellsAt_of {base b o n : Nat} {cs : List Value} (h : W.cells? base ⟨b, o, none⟩ n = some cs) : cs.length = n ∧ cellsAt (Z0 W) W b o cs := by
  obtain ⟨h1, h2⟩ := cells_some h
  refine ⟨h1, fun j v hj => ?_⟩
  have := h2 j (by rw [← h1]; exact (List.getElem?_eq_some_iff.1 hj).1)
  rw [add_eq, hj] at this
  exact ⟨⟨(cell_lt this).1, trivial⟩, this⟩

/-- data of a type read as what f encodes, within bounds q -/
def RdT (P : Program) (W : World) (enc : TypeId × Value → H) {α : Type} (t : TypeId) (f : α → D) (q : α → Prop) : Prop :=
  ∀ (fuel : Nat) (cs : List Value) (d : DataW H) (p : List MemPlace), DataW.trod enc P W 0 (fun _ => true) true fuel t cs = some (d, p) → Rows.uptoBulk d ≤ 1048576 → ∃ x, RepD (Z0 W) W (f x) cs ∧ q x

theorem rd_map {α β : Type} {t : TypeId} {f : α → D} {q : α → Prop} {g : β → D} {q' : β → Prop} (φ : α → β) (h : RdT P W enc t f q) (hf : ∀ x, q x → f x = g (φ x)) (hq : ∀ x, q x → q' (φ x)) : RdT P W enc t g q' := by
  intro fuel cs d p h1 h2
  obtain ⟨x, hx, hqx⟩ := h fuel cs d p h1 h2
  exact ⟨φ x, hf x hqx ▸ hx, hq x hqx⟩
theorem rd_bool {t : TypeId} (hu : P.underlying t = some .bool) : RdT P W enc t (fun b : Bool => .raw (.bool b)) fun _ => True := by
  intro fuel cs d p h _
  cases fuel with
  | zero => simp [DataW.trod] at h
  | succ n =>
    simp only [DataW.trod, hu] at h
    split at h <;> simp_all [RepD, Value.oneCell']
theorem rd_int {t : TypeId} {k : IntKind} (hu : P.underlying t = some (.int k)) : RdT P W enc t (fun n : Int => .raw (.int k n)) fun n => (Lit.int k n).wf = true := by
  intro fuel cs d p h _
  cases fuel with
  | zero => simp [DataW.trod] at h
  | succ n =>
    simp only [DataW.trod, hu] at h
    split at h <;> simp_all [RepD, Value.oneCell']
theorem rd_str {t : TypeId} (hu : P.underlying t = some .string) : RdT P W enc t (fun s : ByteArray => .raw (.string s)) fun s => s.size ≤ 1048576 := by
  intro fuel cs d p h hb
  cases fuel with
  | zero => simp [DataW.trod] at h
  | succ n =>
    simp only [DataW.trod, hu] at h
    split at h <;> simp_all [RepD, Value.oneCell']
    rename_i s
    obtain ⟨_, rfl, _⟩ := h
    have : s.data.toList.length = s.size := by rw [Array.length_toList]; rfl
    simp only [Rows.uptoBulk] at hb
    omega
/-- the fields of a struct of so many cells, from an offset on -/
def RdFs (P : Program) (W : World) (enc : TypeId × Value → H) {α : Type} (N : Nat) (fs : List Field) (o : Nat) (f : α → List D) (q : α → Prop) : Prop :=
  ∀ (fuel : Nat) (cs : List Value) (xs : List (DataW H × List MemPlace)), cs.length = N → fs.mapM (fun g => DataW.trod enc P W 0 (fun _ => true) true fuel g.type ((cs.drop g.offset).take (P.cellsOf g.type))) = some xs → Rows.uptoBulkAll (xs.map (·.1)) ≤ 1048576 → ∃ x, RepDs (Z0 W) W (f x) (cs.drop o) ∧ q x
theorem rd_nil {N : Nat} : RdFs P W enc N [] N (fun _ : Unit => []) fun _ => True := by
  intro fuel cs xs hl h hb
  exact ⟨(), by simp only [RepDs]; rw [List.drop_of_length_le (by omega)], trivial⟩
theorem rd_cons {α β : Type} {N o k : Nat} {g : Field} {fs : List Field} {f : α → D} {q : α → Prop} {f' : β → List D} {q' : β → Prop} (hg : g.offset = o) (hk : P.cellsOf g.type = k) (h : RdT P W enc g.type f q) (hr : RdFs P W enc N fs (o + k) f' q') :
    RdFs P W enc N (g :: fs) o (fun x : α × β => f x.1 :: f' x.2) fun x => q x.1 ∧ q' x.2 := by
  intro fuel cs xs hl hm hb
  simp only [List.mapM_cons, Option.pure_def, Option.bind_eq_bind, Option.bind_eq_some_iff, Option.some.injEq] at hm
  obtain ⟨y, hy, ys, hys, rfl⟩ := hm
  simp only [List.map_cons, Rows.uptoBulkAll] at hb
  obtain ⟨x, hx, hqx⟩ := h fuel _ y.1 y.2 hy (by omega)
  obtain ⟨x', hx', hqx'⟩ := hr fuel cs ys hl hys (by omega)
  refine ⟨(x, x'), ?_, hqx, hqx'⟩
  rw [hg, hk] at hx
  simp only [RepDs]
  exact ⟨_, _, by rw [← List.drop_drop]; exact (List.take_append_drop _ _).symm, hx, hx'⟩
theorem rd_struct {α : Type} {t : TypeId} {fs : Array Field} {N : Nat} {f : α → List D} {q : α → Prop} (hu : P.underlying t = some (.struct fs)) (hN : P.cellsOf t = N) (h : RdFs P W enc N fs.toList 0 f q) : RdT P W enc t (fun x => .ag (f x)) q := by
  intro fuel cs d p hd hb
  cases fuel with
  | zero => simp [DataW.trod] at hd
  | succ n =>
    simp only [DataW.trod, hu] at hd
    split at hd
    · rename_i hl
      simp only [Option.map_eq_some_iff, Prod.mk.injEq] at hd
      obtain ⟨xs, hxs, rfl, _⟩ := hd
      simp only [Rows.uptoBulk] at hb
      obtain ⟨x, hx, hq⟩ := h n cs xs (hl.trans hN) hxs (by omega)
      exact ⟨x, by simpa only [RepD, List.drop_zero] using hx, hq⟩
    · cases hd
theorem rd_slice {α : Type} {t e : TypeId} {k : Nat} {f : α → D} {q : α → Prop} (hu : P.underlying t = some (.slice e)) (hk : P.cellsOf e = k) (hk0 : 0 < k) (h : RdT P W enc e f q) : RdT P W enc t (fun l : List α => .sl k (l.map f)) fun l => l.length ≤ 1048576 ∧ ∀ x ∈ l, q x := by
  intro fuel cs d p hd hb
  cases fuel with
  | zero => simp [DataW.trod] at hd
  | succ n =>
    simp only [DataW.trod, hu] at hd
    split at hd
    all_goals try (simp_all; done)
    · exact ⟨[], by simp only [RepD, List.map_nil]; exact .inl ⟨none, rfl, trivial⟩, by simp, by simp⟩
    · rename_i e' a len cap he
      simp only [Option.some.injEq, TypeDesc.slice.injEq] at he
      subst he
      split at hd
      · rename_i hc
        simp only [Option.bind_eq_some_iff, Option.map_eq_some_iff, if_true, Prod.mk.injEq] at hd
        obtain ⟨els, hels, rest, hrest, rfl, _⟩ := hd
        rw [hk] at hels hrest
        obtain ⟨hl1, hl2⟩ := mapM_some hels
        obtain ⟨hr1, hr2⟩ := mapM_some hrest
        rw [List.length_range] at hl1 hr1
        simp only [Rows.uptoBulk] at hb
        have hbl := bulk_len (els.map (·.1))
        rw [List.length_map] at hbl
        by_cases h0 : cap = 0
        · have hlen0 : len = 0 := by omega
          subst h0 hlen0
          exact ⟨[], by simp only [RepD, List.map_nil]; exact .inl ⟨some a, rfl, trivial⟩, by simp, by simp⟩
        · have hsp : a.spot = none := by
            rcases Nat.eq_zero_or_pos len with hz | hz
            · obtain ⟨y, _, hy⟩ := hr2 0 0 (by rw [List.getElem?_range (by omega)])
              simp only [Option.bind_eq_some_iff] at hy
              obtain ⟨c, hc1, _⟩ := hy
              obtain ⟨g1, g2⟩ := cells_some hc1
              have := g2 0 hk0
              rw [List.getElem?_eq_getElem (by omega), hz] at this
              simpa [Addr.add] using (cell_lt this).2
            · obtain ⟨y, _, hy⟩ := hl2 0 0 (by rw [List.getElem?_range (by omega)])
              simp only [Option.bind_eq_some_iff] at hy
              obtain ⟨c, hc1, _⟩ := hy
              obtain ⟨g1, g2⟩ := cells_some hc1
              have := g2 0 hk0
              rw [List.getElem?_eq_getElem (by omega)] at this
              simpa [Addr.add] using (cell_lt this).2
          obtain ⟨b, o, sp⟩ := a
          simp only at hsp
          subst hsp
          have key : ∀ m i, i + m = len → ∃ l : List α, l.length = m ∧ RepEls (Z0 W) W k b (o + i * k) (l.map f) ∧ ∀ x ∈ l, q x := by
            intro m
            induction m with
            | zero => intro i _; exact ⟨[], rfl, by simp only [List.map_nil, RepEls], by simp⟩
            | succ m ih =>
              intro i hi
              obtain ⟨y, hy1, hy⟩ := hl2 i i (by rw [List.getElem?_range (by omega)])
              simp only [Option.bind_eq_some_iff] at hy
              obtain ⟨c, hc1, hc2⟩ := hy
              rw [add_eq] at hc1
              obtain ⟨g1, g2⟩ := cellsAt_of hc1
              have hyb : Rows.uptoBulk y.1 ≤ 1048576 := by
                have := bulk_part (List.mem_map_of_mem (f := (·.1)) (List.mem_of_getElem? hy1))
                omega
              obtain ⟨x, hx, hqx⟩ := h n c y.1 y.2 hc2 hyb
              obtain ⟨l, hll, hlr, hlq⟩ := ih (i + 1) (by omega)
              refine ⟨x :: l, by simp [hll], ?_, ?_⟩
              · simp only [List.map_cons, RepEls]
                exact ⟨⟨c, g1, g2, hx⟩, by rwa [Nat.add_assoc, show i * k + k = (i + 1) * k by rw [Nat.add_one_mul]]⟩
              · intro z hz
                rcases List.mem_cons.1 hz with rfl | hz
                · exact hqx
                · exact hlq z hz
          obtain ⟨l, hll, hlr, hlq⟩ := key len 0 (by omega)
          refine ⟨l, ?_, by omega, hlq⟩
          simp only [RepD, List.length_map, hll]
          exact .inr ⟨b, o, cap, rfl, hc.2.1, by simpa using hlr⟩
      · cases hd
theorem rd_bytes {t e : TypeId} {n : Nat} (hu : P.underlying t = some (.array n e)) (he : P.underlying e = some (.int .u8)) (hk : P.cellsOf e = 1) (hN : P.cellsOf t = n) : RdT P W enc t (fun l : List UInt8 => .arr n 1 (l.map fun b => .raw (.int .u8 b.toNat))) fun l => l.length = n := by
  intro fuel cs d p hd hb
  cases fuel with
  | zero => simp [DataW.trod] at hd
  | succ m =>
    simp only [DataW.trod, hu] at hd
    split at hd
    · rename_i hl
      simp only [Option.map_eq_some_iff, Prod.mk.injEq] at hd
      obtain ⟨xs, hxs, rfl, _⟩ := hd
      obtain ⟨hl1, hl2⟩ := mapM_some hxs
      rw [hN] at hl
      have hall : ∀ v ∈ cs, ∃ b : UInt8, v = .int .u8 b.toNat := by
        intro v hv
        obtain ⟨i, hi, rfl⟩ := List.mem_iff_getElem.1 hv
        obtain ⟨y, hy1, hy⟩ := hl2 i i (by rw [List.getElem?_range (by omega)])
        rw [hk, Nat.mul_one] at hy
        have hyb : Rows.uptoBulk y.1 ≤ 1048576 := by
          have := bulk_part (List.mem_map_of_mem (f := (·.1)) (List.mem_of_getElem? hy1))
          simp only [Rows.uptoBulk] at hb
          omega
        obtain ⟨x, hx, hq⟩ := rd_int (W := W) (enc := enc) he m _ y.1 y.2 hy hyb
        simp only [RepD] at hx
        have e1 : (cs.drop i).take 1 = [cs[i]] := by
          have h1 := List.drop_eq_getElem_cons hi
          rw [h1, List.take_succ_cons, List.take_zero]
        rw [e1] at hx
        have hx1 : cs[i] = .int .u8 x := by simpa using hx.1
        have hr : 0 ≤ x ∧ x ≤ 255 := by simpa [Lit.wf, IntKind.min, IntKind.max, IntKind.signed, IntKind.bits] using hq
        refine ⟨UInt8.ofNat x.toNat, ?_⟩
        rw [hx1]
        congr 1
        simp only [UInt8.toNat_ofNat']
        omega
      have key : ∀ cs : List Value, (∀ v ∈ cs, ∃ b : UInt8, v = .int .u8 b.toNat) → ∃ l : List UInt8, l.length = cs.length ∧ RepDs (Z0 W) W (l.map fun b => .raw (.int .u8 b.toNat)) cs := by
        intro cs
        induction cs with
        | nil => intro _; exact ⟨[], rfl, by simp only [List.map_nil, RepDs]⟩
        | cons v cs ih =>
          intro hv
          obtain ⟨b, rfl⟩ := hv v (List.mem_cons_self ..)
          obtain ⟨l, h1, h2⟩ := ih fun v hx => hv v (List.mem_cons_of_mem _ hx)
          refine ⟨b :: l, by simp [h1], ?_⟩
          simp only [List.map_cons, RepDs]
          exact ⟨[_], cs, rfl, by simp [RepD, Value.oneCell'], h2⟩
      obtain ⟨l, h1, h2⟩ := key cs hall
      refine ⟨l, ?_, by omega⟩
      simp only [RepD, List.length_map]
      exact ⟨by omega, by simp [D.size], h2⟩
    · cases hd
end
end Go.Proofs.Ytolplbfonlhbhaa
