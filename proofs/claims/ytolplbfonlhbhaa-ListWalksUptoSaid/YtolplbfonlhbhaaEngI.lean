/- The engine, part I: laws of memory that is made and written. -/
import Derived.Test.YtolplbfonlhbhaaEngH
import Derived.Laws.MakeOwn
set_option linter.unusedVariables false
set_option linter.unusedSectionVars false
set_option linter.unusedSimpArgs false
namespace Go.Eng
open Go
variable [Globs]

section
variable {P : Program} {Z : Zone} {w : World} {γ : List Value} {L : List Res}

theorem cell_push (w : World) (o : Obj) {b : Nat} (hb : b < w.heap.size) (off : Nat) : (w.alloc o).cell? ⟨b, off, none⟩ = w.cell? ⟨b, off, none⟩ :=
  World.cell?_alloc_lt w o ⟨b, off, none⟩ hb

theorem Step_alloc {Z : Zone} {w : World} (hz : ∀ b o, Z b o → b < w.heap.size) (o : Obj) : Step (fun _ => False) Z w (w.alloc o) :=
  ⟨rfl, rfl, rfl, by simp, fun b hb _ => heap_alloc_old w o b hb, fun b off h => cell_push w o (hz b off h) off⟩

theorem Step_drew (F : Nat → Prop) (Z : Zone) (w : World) : Step F Z w w.drew := ⟨rfl, rfl, rfl, Nat.le_refl _, fun _ _ _ => rfl, fun _ _ _ => rfl⟩

theorem Env.drew (h : Env L Z γ w) : Env L Z γ w.drew ∧ Adv L Z γ w L Z γ w.drew := by
  have := h.grow (Z' := Z) (w' := w.drew) (Step_drew _ Z w) (fun _ _ h => h) (fun _ _ h => .inl h)
  exact this

/-- a new box -/
theorem Env.box (h : Env L Z γ w) {x : AV} {cs : Array Value} {t : TypeId} (hx : RepA Z w γ L x cs.toList) :
    Env (L ++ [.box x]) Z (γ ++ [.pointer (some ⟨w.heap.size, 0, none⟩)]) (w.alloc (.cells cs t)) ∧
    Adv L Z γ w (L ++ [.box x]) Z (γ ++ [.pointer (some ⟨w.heap.size, 0, none⟩)]) (w.alloc (.cells cs t)) := by
  have hst := Step_alloc h.zlt (.cells cs t)
  refine h.push hst (fun _ _ h => h) (fun b o hz => .inl hz) ?_ (fun b hb => ?_)
  · refine ⟨w.heap.size, cs, t, (0, 0), rfl, heap_alloc_new w _, rfl, RepA_mono (fun _ _ h => h) hst.zone (ExtR.push h.len _ _) _ _ hx, fun o hz => ?_⟩
    have := h.zlt _ _ hz
    omega
  · simp only [Res.blk, Option.some.injEq] at hb
    omega

/-- the zone, and a new block's first cells -/
def Zone.plus (Z : Zone) (g n : Nat) : Zone := fun b o => Z b o ∨ (b = g ∧ o < n)

/-- frozen data in a new block, to which may be appended -/
theorem Env.row (h : Env L Z γ w) {e k n : Nat} {cs : Array Value} (hsz : cs.size = n * k) (hn : n ≤ maxLen) :
    Env (L ++ [.tok e k n]) (Z.plus w.heap.size (n * k)) (γ ++ [.slice (some ⟨w.heap.size, 0, none⟩) n n]) (w.alloc (.cells cs e)) ∧
    Adv L Z γ w (L ++ [.tok e k n]) (Z.plus w.heap.size (n * k)) (γ ++ [.slice (some ⟨w.heap.size, 0, none⟩) n n]) (w.alloc (.cells cs e)) := by
  have hst := Step_alloc h.zlt (.cells cs e)
  refine h.push hst (fun _ _ h => .inl h) (fun b o hz => ?_) ?_ (fun b hb => ?_)
  · rcases hz with hz | ⟨rfl, _⟩
    · exact .inl hz
    · exact .inr ⟨Nat.le_refl _, by simp⟩
  · refine ⟨cs.toList, ⟨by simpa using hsz, .inr ⟨w.heap.size, n, cs, rfl, Nat.zero_le _, heap_alloc_new w _, Nat.le_refl _, hn, hsz, ?_⟩⟩, fun b o hb ho hz => ?_⟩
    · rw [List.take_of_length_le (by simp [hsz])]
    · simp only [Value.ownBlock, Option.some.injEq] at hb
      subst hb
      rcases hz with hz | ⟨_, hz⟩
      · have := h.zlt _ _ hz; omega
      · omega
  · simp only [Res.blk, Value.ownBlock, Option.some.injEq] at hb
    omega

/-- frozen data in a new block -/
theorem Env.data (h : Env L Z γ w) (n : Nat) (o : Obj) :
    Env L (Z.plus w.heap.size n) γ (w.alloc o) ∧ Adv L Z γ w L (Z.plus w.heap.size n) γ (w.alloc o) := by
  refine h.grow (Step_alloc h.zlt o) (fun _ _ h => .inl h) (fun b o hz => ?_)
  rcases hz with hz | ⟨rfl, _⟩
  · exact .inl hz
  · exact .inr ⟨Nat.le_refl _, by simp⟩

theorem RepEls_cells {Z' : Zone} {w' : World} {k b : Nat} : ∀ {ds : List D} {o : Nat} {cs : List Value}, RepDs Z' w' ds cs → (∀ x ∈ ds, x.size = k) → cellsAt Z' w' b o cs → RepEls Z' w' k b o ds
  | [], o, cs, _, _, _ => by simp only [RepEls]
  | d :: r, o, cs, h, hk, hc => by
    simp only [RepDs] at h
    obtain ⟨c1, c2, rfl, h1, h2⟩ := h
    have hd := hk d (by simp)
    have l1 := RepD_len Z' w' _ _ h1
    simp only [RepEls]
    refine ⟨⟨c1, by omega, fun j v hj => ?_, h1⟩, RepEls_cells h2 (fun x hx => hk x (by simp [hx])) (fun j v hj => ?_)⟩
    · exact hc j v (by rw [List.getElem?_append_left (List.getElem?_eq_some_iff.1 hj).1]; exact hj)
    · have := hc (k + j) v (by rw [List.getElem?_append_right (by omega)]; rw [show k + j - c1.length = j by omega]; exact hj)
      rwa [← Nat.add_assoc] at this

/-- the cells of a slice's elements -/
theorem RepEls_list {k b : Nat} : ∀ {ds : List D} {o : Nat}, RepEls Z w k b o ds → ∃ cs, cs.length = ds.length * k ∧ cellsAt Z w b o cs ∧ RepDs Z w ds cs ∧ ∀ x ∈ ds, x.size = k
  | [], o, h => ⟨[], by simp, fun j v hj => by simp at hj, by simp only [RepDs], by simp⟩
  | d :: r, o, h => by
    simp only [RepEls] at h
    obtain ⟨⟨c1, h1, h2, h3⟩, h4⟩ := h
    obtain ⟨c2, g1, g2, g3, g4⟩ := RepEls_list h4
    have hd := RepD_len Z w _ _ h3
    refine ⟨c1 ++ c2, by simp [h1, g1, Nat.add_one_mul]; omega, fun j v hj => ?_, by simp only [RepDs]; exact ⟨c1, c2, rfl, h3, g3⟩, fun x hx => ?_⟩
    · rcases Nat.lt_or_ge j c1.length with hlt | hge
      · rw [List.getElem?_append_left hlt] at hj; exact h2 j v hj
      · rw [List.getElem?_append_right hge] at hj
        have := g2 _ v hj
        rwa [h1, show o + k + (j - k) = o + j by omega] at this
    · rcases List.mem_cons.1 hx with rfl | hx
      · omega
      · exact g4 x hx

theorem cellsAt_same {b o : Nat} {cs cs' : List Value} (h : cellsAt Z w b o cs) (hl : cs'.length = cs.length) (h' : ∀ (j : Nat) (v : Value), cs'[j]? = some v → w.cell? ⟨b, o + j, none⟩ = some v) : cs' = cs := by
  apply List.ext_getElem?
  intro j
  by_cases hj : j < cs.length
  · have e1 : cs[j]? = some cs[j] := List.getElem?_eq_getElem hj
    have e2 : cs'[j]? = some (cs'[j]'(by omega)) := List.getElem?_eq_getElem (by omega)
    have g1 := (h j _ e1).2
    have g2 := h' j _ e2
    rw [g1] at g2
    rw [e1, e2]
    simpa using g2.symm
  · rw [List.getElem?_eq_none (by omega), List.getElem?_eq_none (by omega)]

theorem Step_setRow {Z : Zone} {w : World} {g : Nat} {c c' : Array Value} {ty : TypeId} {fr : Nat × Nat} (hg : w.heap[g]? = some (.cells c ty fr))
    (hz : ∀ o, Z g o → c'[o]? = c[o]?) : Step (fun b => b = g) Z w (w.setRow g c') := by
  refine ⟨rfl, rfl, rfl, by simp, fun b hb hne => setRow_other w g b c' (by simpa using hne), fun b o h => ?_⟩
  by_cases e : b = g
  · subst e
    have h1 := setRow_heap w b c c' ty fr hg
    simp only [World.cell?, h1, hg]
    simpa using hz o h
  · have := setRow_other w g b c' e
    simp only [World.cell?, this]

/-- a box written -/
theorem Env.store (h : Env L Z γ w) {j b : Nat} {x x' : AV} {c c' : Array Value} {ty : TypeId} (hj : L[j]? = some (.box x)) (hg : γ[j]? = some (.pointer (some ⟨b, 0, none⟩)))
    (hh : w.heap[b]? = some (.cells c ty (0, 0))) (hx : RepA Z w γ L x' c'.toList) :
    Env (L.set j (.box x')) Z γ (w.setRow b c') ∧ Adv L Z γ w (L.set j (.box x')) Z γ (w.setRow b c') := by
  have hjL : j < L.length := (List.getElem?_eq_some_iff.1 hj).1
  obtain ⟨b', c0, ty0, fr0, e0, hh0, _, _, hz0⟩ := h.res j _ _ hj hg
  simp only [Value.pointer.injEq, Option.some.injEq, Addr.mk.injEq, and_true] at e0
  subst e0
  have hst : Step (fun b' => b' = b) Z w (w.setRow b c') := Step_setRow hh (fun o hz => (hz0 o hz).elim)
  have hE : ExtR γ L γ (L.set j (.box x')) := by
    refine ⟨by simp, fun _ _ h => h, fun i e k n' hi hn' => ⟨n', ?_, Nat.le_refl _, fun _ => rfl⟩⟩
    by_cases ei : j = i
    · subst ei; rw [List.getElem?_set_self hjL] at hn'; simp at hn'
    · rwa [List.getElem?_set_ne ei] at hn'
  have hset : γ.set j (.pointer (some ⟨b, 0, none⟩)) = γ := by
    apply List.ext_getElem?
    intro i
    by_cases e : j = i
    · subst e; rw [List.getElem?_set_self (List.getElem?_eq_some_iff.1 hg).1]; exact hg.symm
    · rw [List.getElem?_set_ne e]
  have := h.upd (Z' := Z) (w' := w.setRow b c') (r' := .box x') (g' := .pointer (some ⟨b, 0, none⟩)) hj hg (hst.weaken (fun b' e => by simp [Res.blk, e])) (fun _ _ h => h) (fun _ _ h => .inl h) (by rw [hset]; exact hE)
    (by
      rw [hset]
      exact ⟨b, c', ty, (0, 0), rfl, setRow_heap w b c c' ty (0, 0) hh, rfl, RepA_mono (fun _ _ h => h) hst.zone hE _ _ hx, hz0⟩) (fun b' hb => .inl hb)
  rwa [hset] at this

theorem run_storeAt {t b o n : Nat} {c : Array Value} {ty : TypeId} {v : Value} (hs : szT P t = some n) (hh : w.heap[b]? = some (.cells c ty (0, 0))) (hl : v.cells.size = n) (hfit : o + n ≤ c.size)
    (h1 : ∀ u ∈ v.cells.toList, u.oneCell' = true) :
    (Instr.storeAt t (.pointer (some ⟨b, o, none⟩)) v).run P w = .ok () (w.setRow b (c.toList.take o ++ v.cells.toList ++ c.toList.drop (o + n)).toArray) := by
  have hst := run_storeCells_at P b o ty v.cells.toList 0 c w hh (by simp [hl]; exact hfit) h1
  simp only [Nat.add_zero, Array.length_toList, hl] at hst
  simp [Instr.storeAt, Instr.sureAddr, storeVar, run_sizeOf' hs, hl, hst]

/-! ### append -/
theorem run_append_all {t ty e : TypeId} {i : TypeInfo} {z : Value} {size : Nat} (ht : P.underlying t = some (.slice e)) (hi : P.info? e = some i) (hz : i.zero = some z)
    (hsize : i.size = size) (hzs : z.cells.size = size) (hsz : 0 < size)
    {v : Value} {n : Nat} {xs : List Value} (hown : w.ownsRow 0 e size v n xs)
    {a : Addr} {m c : Nat} {news : List Value} (hl : news.length = m * size) (hnews : ∀ (j : Nat) (u : Value), news[j]? = some u → w.cell? (a.add j) = some u) (h1 : ∀ u ∈ news, u.oneCell' = true)
    (h63 : n + m ≤ maxLen) (hbytes : (n + m) * i.bytes ≤ 140737488355328)
    (hz1 : ∀ b o, Z b o → b < w.heap.size) (hz2 : ∀ b o, Z b o → v.ownBlock = some b → o < n * size) :
    ∃ v' w', (Builtin.append_ #[t, t] ty #[v, .slice (some a) m c]).run P w = .ok v' w' ∧ w'.ownsRow 0 e size v' (n + m) (xs ++ news) ∧
      Step (fun b => v.ownBlock = some b) Z w w' ∧ (∀ b, v'.ownBlock = some b → (v.ownBlock = some b ∨ w.heap.size ≤ b) ∧ b < w'.heap.size) ∧ (m = 0 → v' = v) := by
  subst hsize
  have hsmall : n + m ≤ 9223372036854775807 := by simp only [maxLen] at h63; omega
  have hlen : (xs ++ news).length = (n + m) * i.size := by rw [List.length_append, hown.1, hl, Nat.add_mul]
  have grown : ∀ (old : Nat), old < n + m →
      (w.drew.alloc (.cells (xs.toArray ++ news.toArray ++ Builtin.zeroCells z.cells (grownCap w (n + m) old e - (n + m))) e)).ownsRow 0 e i.size
        (.slice (some ⟨w.heap.size, 0, none⟩) (n + m) (grownCap w (n + m) old e)) (n + m) (xs ++ news) ∧
      Step (fun b => v.ownBlock = some b) Z w (w.drew.alloc (.cells (xs.toArray ++ news.toArray ++ Builtin.zeroCells z.cells (grownCap w (n + m) old e - (n + m))) e)) := by
    intro old ho
    have hge := grownCap_ge w (n + m) old e
    have hcm : grownCap w (n + m) old e ≤ maxLen := grownCap_le_maxLen w (n + m) old e h63
    refine ⟨⟨hlen, .inr ⟨w.heap.size, _, _, rfl, Nat.zero_le _, heap_alloc_new w.drew _, hge, hcm, ?_, ?_⟩⟩, ?_⟩
    · simp only [Array.size_append, List.size_toArray, size_zeroCells, hzs, hown.1, hl, ← Nat.add_mul]
      congr 1
      omega
    · simp only [Array.toList_append, List.append_assoc]
      rw [← List.append_assoc, ← hlen]
      exact List.take_left
    · exact (Step_drew _ Z w).trans ((Step_alloc (w := w.drew) hz1 _).weaken (fun _ h => h.elim) (F1 := fun b => v.ownBlock = some b)) (fun b hb => .inl hb) (fun _ _ h => h)
  rcases hown.2 with ⟨rfl, rfl⟩ | ⟨g, cap, cur, rfl, hbg, hg, hnc, hcm, hcs, htake⟩
  · have hx : xs = [] := List.eq_nil_of_length_eq_zero (by simpa using hown.1)
    subst hx
    by_cases hm : m = 0
    · subst hm
      have hn : news = [] := List.eq_nil_of_length_eq_zero (by simpa using hl)
      subst hn
      refine ⟨.slice none 0 0, w, ?_, World.ownsRow_nil w 0 e i.size, Step.refl _ _ _, fun b hb => by simp [Value.ownBlock] at hb, fun _ => rfl⟩
      simp [Builtin.append_, run_underlying ht, sizeOf, typeInfo, hi, Builtin.lenOf, Builtin.firstCells, loadCells, loadCellsFrom]
    · have hr := run_append_nil (P := P) w t ty e i z ht hi hz a m c news hl hnews (by omega) (by omega) (by have hb := hbytes; simp only [Nat.zero_add] at hb; omega)
      have hgr := grown 0 (by omega)
      simp only [Nat.zero_add, List.nil_append, Array.empty_append] at hgr ⊢
      exact ⟨_, _, hr, hgr.1, hgr.2, fun b hb => by simp only [Value.ownBlock, Option.some.injEq] at hb; subst hb; exact ⟨.inr (Nat.le_refl _), by simp⟩, fun h => (hm h).elim⟩
  · by_cases hroom : n + m ≤ cap
    · have hfit : n * i.size + news.length ≤ cur.size := by rw [hl, hcs, ← Nat.add_mul]; exact Nat.mul_le_mul_right _ hroom
      have hr := run_append_room (P := P) w t ty e i ht hi g n cap cur hg a m c news hl hnews h1 hroom hfit
      refine ⟨_, _, hr, ⟨hlen, .inr ⟨g, cap, _, rfl, hbg, setRow_heap w g cur _ e _ hg, hroom, hcm, ?_, ?_⟩⟩, ?_, ?_, ?_⟩
      · simp only [List.size_toArray, List.length_append, List.length_take, List.length_drop, Array.length_toList]
        omega
      · rw [htake, ← hlen]
        exact List.take_left
      · refine (Step_setRow hg fun o hzo => ?_).weaken (fun b e => by simp [Value.ownBlock, e])
        have ho := hz2 g o hzo rfl
        simp only [List.getElem?_toArray]
        rw [List.append_assoc, List.getElem?_append_left (by simp; omega), List.getElem?_take, if_pos ho]
        simp
      · intro b hb
        simp only [Value.ownBlock, Option.some.injEq] at hb
        subst hb
        exact ⟨.inl rfl, by simpa using (Array.getElem?_eq_some_iff.1 hg).1⟩
      · rintro rfl; rfl
    · have holds : ∀ (j : Nat) (u : Value), xs[j]? = some u → w.cell? ((⟨g, 0, none⟩ : Addr).add j) = some u := hown.cells (g := g) rfl
      have hr := run_append_grow (P := P) w t ty e i z ht hi hz ⟨g, 0, none⟩ n cap xs hown.1 holds a m c news hl hnews (by omega) (by omega) (growslice_fits (by omega) hbytes)
      have hgr := grown cap (by omega)
      exact ⟨_, _, hr, hgr.1, hgr.2, fun b hb => by simp only [Value.ownBlock, Option.some.injEq] at hb; subst hb; exact ⟨.inr (Nat.le_refl _), by simp⟩, fun h => by omega⟩

theorem run_append_nothing {t ty e : TypeId} {i : TypeInfo} (ht : P.underlying t = some (.slice e)) (hi : P.info? e = some i) {b sd : Option Addr} {n c : Nat} (hn : n ≤ c) :
    (Builtin.append_ #[t, t] ty #[.slice b n c, .slice sd 0 0]).run P w = .ok (.slice b n c) w := by
  have h0 : ∀ a : Addr, (loadCells a 0).run P w = .ok #[] w := fun a => by
    have := run_loadCells_list (P := P) w a [] (fun j v hj => by simp at hj)
    simpa using this
  cases b <;> cases sd <;> simp [h0, Builtin.append_, run_underlying ht, sizeOf, typeInfo, hi, Builtin.lenOf, Builtin.firstCells, hn, storeCells]

theorem ownsRow_slice {e k n : Nat} {v : Value} {xs : List Value} (h : w.ownsRow 0 e k v n xs) : ∃ a c, v = .slice a n c ∧ n ≤ c := by
  rcases h.2 with ⟨rfl, rfl⟩ | ⟨g, cap, cur, rfl, _, _, h, _⟩
  · exact ⟨none, 0, rfl, Nat.le_refl _⟩
  · exact ⟨_, _, rfl, h⟩

theorem ownsRow_cell {e k n : Nat} {g c : Nat} {xs : List Value} (h : w.ownsRow 0 e k (.slice (some ⟨g, 0, none⟩) n c) n xs) {j : Nat} {u : Value} (hj : xs[j]? = some u) :
    w.cell? ⟨g, 0 + j, none⟩ = some u := by
  have := h.cells (g := g) rfl j u hj
  rwa [add_eq] at this

/-- what an owned slice's elements read as, as cells -/
theorem own_cells {e k n : Nat} {ds : List D} {v : Value} {xc : List Value} (ho : w.ownsRow 0 e k v n xc) (hr : RepD Z w (.sl k ds) [v]) (hn : ds.length = n) :
    RepDs Z w ds xc ∧ (∀ x ∈ ds, x.size = k) ∧ (∀ b, v.ownBlock = some b → cellsAt Z w b 0 xc) := by
  simp only [RepD, List.cons.injEq, and_true] at hr
  rcases hr with ⟨ad, rfl, rfl⟩ | ⟨b, o, cap, rfl, hle, hels⟩
  · have hx : xc = [] := List.eq_nil_of_length_eq_zero (by rw [ho.1, ← hn]; simp)
    subst hx
    exact ⟨by simp only [RepDs], by simp, fun b hb j u hj => by simp at hj⟩
  · obtain ⟨cs, h1, h2, h3, h4⟩ := RepEls_list hels
    rcases ho.2 with ⟨h, _⟩ | ⟨g, cap', cur, h, _, hg, _⟩
    · simp at h
    · simp only [Value.slice.injEq, Option.some.injEq, Addr.mk.injEq, and_true] at h
      obtain ⟨⟨rfl, rfl⟩, hln, rfl⟩ := h
      rw [hln] at ho
      have e1 : xc = cs := cellsAt_same h2 (by rw [ho.1, h1, hln]) (fun j u hj => ownsRow_cell ho hj)
      subst e1
      refine ⟨h3, h4, fun b' hb => ?_⟩
      simp only [Value.ownBlock, Option.some.injEq] at hb
      subst hb
      exact h2

/-- AN APPEND TO AN OWNED SLICE -/
theorem Env.append (h : Env L Z γ w) {j e k : Nat} {xs ys : List D} {v : Value} {t ty : TypeId} {i : TypeInfo} {z : Value} (ht : P.underlying t = some (.slice e)) (hi : P.info? e = some i) (hz : i.zero = some z)
    (hsize : i.size = k) (hzs : z.cells.size = k) (hsz : 0 < k)
    (hj : L[j]? = some (.tok e k xs.length)) (hv : RepV Z w γ L (.own j k xs) v)
    {b o c : Nat} (hy : RepEls Z w k b o ys)
    (h63 : xs.length + ys.length ≤ maxLen) (hbytes : (xs.length + ys.length) * i.bytes ≤ 140737488355328) :
    ∃ v' w' Z', (Builtin.append_ #[t, t] ty #[v, .slice (some ⟨b, o, none⟩) ys.length c]).run P w = .ok v' w' ∧
      Env (L.set j (.tok e k (xs.length + ys.length))) Z' (γ.set j v') w' ∧ Adv L Z γ w (L.set j (.tok e k (xs.length + ys.length))) Z' (γ.set j v') w' ∧
      RepV Z' w' (γ.set j v') (L.set j (.tok e k (xs.length + ys.length))) (.own j k (xs ++ ys)) v' := by
  have hjL : j < L.length := (List.getElem?_eq_some_iff.1 hj).1
  simp only [RepV, RepC, AV.isAg, RepA, Bool.false_eq_true, if_false] at hv
  obtain ⟨_, hrep, htok⟩ := hv
  obtain ⟨_, hcur⟩ := htok e _ hj
  obtain ⟨g0, hγ, hg0⟩ := hcur rfl
  simp only [List.cons.injEq, and_true] at hg0
  subst hg0
  have hjγ : j < γ.length := (List.getElem?_eq_some_iff.1 hγ).1
  obtain ⟨xc, hown, hzf⟩ := h.res j _ _ hj hγ
  obtain ⟨hxd, hxs, hxc⟩ := own_cells hown hrep rfl
  obtain ⟨yc, y1, y2, y3, y4⟩ := RepEls_list hy
  have hz2 : ∀ b o, Z b o → v.ownBlock = some b → o < xs.length * k := fun b o hzz hb => by
    rcases Nat.lt_or_ge o (xs.length * k) with q | q
    · exact q
    · exact (hzf b o hb q hzz).elim
  obtain ⟨v', w', hrun, hown', hst, hblk, h0⟩ := run_append_all (P := P) (ty := ty) (c := c) ht hi hz hsize hzs hsz hown y1 (fun j u hj => by rw [add_eq]; exact (y2 j u hj).2)
    (RepDs_one Z w _ _ y3) h63 hbytes h.zlt hz2
  let Z' : Zone := fun b o => Z b o ∨ (v'.ownBlock = some b ∧ o < (xs.length + ys.length) * k)
  have hnotptr : ∀ b, γ[j]? = some (.pointer (some ⟨b, 0, none⟩)) → False := fun b q => by
    rw [hγ] at q
    obtain ⟨a, c, hvs, _⟩ := ownsRow_slice hown
    rw [hvs] at q
    simp at q
  have hE : ExtR γ L (γ.set j v') (L.set j (.tok e k (xs.length + ys.length))) := by
    refine ⟨by simp, fun i b hq => ?_, fun i e' k' n' hil hn' => ?_⟩
    · by_cases ei : j = i
      · subst ei; exact (hnotptr b hq).elim
      · rwa [List.getElem?_set_ne ei]
    · by_cases ei : j = i
      · subst ei
        rw [List.getElem?_set_self hjL] at hn'
        simp only [Option.some.injEq, Res.tok.injEq] at hn'
        obtain ⟨rfl, rfl, rfl⟩ := hn'
        refine ⟨xs.length, hj, by omega, fun q => ?_⟩
        rw [List.getElem?_set_self hjγ, hγ, h0 (by omega)]
      · rw [List.getElem?_set_ne ei] at hn'
        exact ⟨n', hn', Nat.le_refl _, fun _ => by rw [List.getElem?_set_ne ei]⟩
  have hZ : ∀ b o, Z b o → Z' b o := fun b o hq => .inl hq
  obtain ⟨henv, hadv⟩ := h.upd (Z' := Z') (w' := w') (r' := .tok e k (xs.length + ys.length)) (g' := v') hj hγ hst hZ (fun b o hq => by
      rcases hq with hq | ⟨hq, _⟩
      · exact .inl hq
      · obtain ⟨q1, q2⟩ := hblk b hq
        rcases q1 with q1 | q1
        · exact .inr (.inl q1)
        · exact .inr (.inr ⟨q1, q2⟩)) hE
    (by
      refine ⟨xc ++ yc, hown', fun b o hb ho hq => ?_⟩
      rcases hq with hq | ⟨_, hq⟩
      · rcases (hblk b hb).1 with q | q
        · have := hz2 b o hq q
          have e1 : xs.length * k ≤ (xs.length + ys.length) * k := Nat.mul_le_mul_right k (by omega)
          omega
        · have := h.zlt b o hq; omega
      · omega)
    (fun b hb => (hblk b hb).1)
  refine ⟨v', w', Z', hrun, henv, hadv, ?_⟩
  simp only [RepV, RepC, AV.isAg, RepA, Bool.false_eq_true, if_false]
  refine ⟨by simpa using hjL, ?_, fun e' n' hn' => ?_⟩
  · have hds : RepDs Z' w' (xs ++ ys) (xc ++ yc) := RepDs_join (RepDs_mono hZ hst.zone _ _ hxd) (RepDs_mono hZ hst.zone _ _ y3)
    have hsizes : ∀ x ∈ xs ++ ys, x.size = k := fun x hx => by
      rcases List.mem_append.1 hx with hx | hx
      · exact hxs x hx
      · exact y4 x hx
    simp only [RepD, List.cons.injEq, and_true]
    have hown2 := hown'
    rcases hown'.2 with ⟨rfl, hn0⟩ | ⟨g, cap, cur, rfl, _, hg, hnc, _, _, htake⟩
    · exact .inl ⟨none, rfl, List.eq_nil_of_length_eq_zero (by rw [List.length_append]; exact hn0)⟩
    · refine .inr ⟨g, 0, cap, by rw [List.length_append], by rw [List.length_append]; exact hnc, RepEls_cells hds hsizes (fun j' u hj' => ⟨.inr ⟨rfl, ?_⟩, ownsRow_cell hown2 hj'⟩)⟩
      have := (List.getElem?_eq_some_iff.1 hj').1
      rw [hown'.1] at this
      omega
  · rw [List.getElem?_set_self hjL] at hn'
    simp only [Option.some.injEq, Res.tok.injEq] at hn'
    obtain ⟨rfl, _, rfl⟩ := hn'
    rw [List.length_append]
    exact ⟨Nat.le_refl _, fun _ => ⟨v', List.getElem?_set_self hjγ, rfl⟩⟩

/-- a token for nothing yet -/
theorem Env.tok0 (h : Env L Z γ w) (e k : Nat) :
    Env (L ++ [.tok e k 0]) Z (γ ++ [.slice none 0 0]) w ∧ Adv L Z γ w (L ++ [.tok e k 0]) Z (γ ++ [.slice none 0 0]) w ∧
    RepV Z w (γ ++ [.slice none 0 0]) (L ++ [.tok e k 0]) (.own L.length k []) (.slice none 0 0) := by
  have := h.push (Z' := Z) (w' := w) (g := .slice none 0 0) (r := .tok e k 0) (Step.refl _ _ _) (fun _ _ h => h) (fun _ _ h => .inl h)
    ⟨[], World.ownsRow_nil w 0 e k, fun b o hb => by simp [Value.ownBlock] at hb⟩ (fun b hb => by simp [Res.blk, Value.ownBlock] at hb)
  refine ⟨this.1, this.2, ?_⟩
  simp only [RepV, RepC, AV.isAg, RepA, RepD, Bool.false_eq_true, if_false]
  refine ⟨by simp, .inl ⟨none, by simp⟩, fun e' n' hn' => ?_⟩
  simp at hn'
  obtain ⟨_, rfl⟩ := hn'
  exact ⟨by simp, fun _ => ⟨_, by rw [← h.len]; simp, rfl⟩⟩
end
end Go.Eng
