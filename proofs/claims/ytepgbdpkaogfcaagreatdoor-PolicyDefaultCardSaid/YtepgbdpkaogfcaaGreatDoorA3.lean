/-
  An own logic of abstract values and what is proved with it: the bench texts V13, V14, V15, V16, V17, V18.
-/
import Derived.Test.YtepgbdpkaogfcaaGreatDoorA2
import Derived.Lib.AppendStr
set_option linter.unusedVariables false
set_option linter.unusedSimpArgs false
namespace Go.V
section
variable {P : Program} {T : Ctx} {w w' : World} {H : Heap} {ρ : Places} {u u2 : AV} {v v2 : Value}

/-! ### append -/
/-- The elements of what is appended, e: their type. -/
def elemsK (e : Nat) (x : AV) (H : Heap) (K : List (List AV) → Prop) : Prop := match x with
  | .slt _ t enc l => bif Nat.beq t e then K (l.map enc) else False
  | .nils => K []
  | .own k off len => bif eltIs H k e then (match hget H k with
    | .arrl _ ls => K ((ls.drop off).take len)
    | .arr _ enc _ l => K (((l.drop off).take len).map enc)
    | _ => False) else False
  | _ => False

/-- Cells of elements. -/
structure Cells (T : Ctx) (w : World) (H : Heap) (ρ : Places) (size : Nat) (ls : List (List AV)) (vs : List Value) : Prop where
  len : vs.length = ls.length * size
  sz : ∀ x, x ∈ ls → x.length = size
  at_ : ∀ (i : Nat) (x : List AV), ls[i]? = some x → ∀ (j : Nat) (u : AV), x[j]? = some u → ∃ val, vs[i * size + j]? = some val ∧ Rep1 T w H ρ u val
theorem Cells.one {size : Nat} {ls : List (List AV)} {vs : List Value} (h : Cells T w H ρ size ls vs) (h0 : 0 < size) : ∀ x ∈ vs, x.oneCell' = true := by
  intro x hx
  obtain ⟨q, hq⟩ := List.getElem?_of_mem hx
  have hql := (List.getElem?_eq_some_iff.1 hq).1
  have hlen := h.len
  have hi : q / size < ls.length := by
    apply Nat.div_lt_of_lt_mul
    rw [Nat.mul_comm]
    omega
  obtain ⟨y, hy⟩ : ∃ y, ls[q / size]? = some y := ⟨_, List.getElem?_eq_getElem hi⟩
  have hyl := h.sz y (List.mem_of_getElem? hy)
  have hj : q % size < y.length := by rw [hyl]; exact Nat.mod_lt _ h0
  obtain ⟨u, hu⟩ : ∃ u, y[q % size]? = some u := ⟨_, List.getElem?_eq_getElem hj⟩
  obtain ⟨val, h1, h2⟩ := h.at_ _ _ hy _ _ hu
  have : q / size * size + q % size = q := by rw [Nat.mul_comm]; exact Nat.div_add_mod q size
  rw [this, hq] at h1
  cases h1
  exact h2.one
theorem Cells.append {size : Nat} {ls ls' : List (List AV)} {vs vs' : List Value} (h : Cells T w H ρ size ls vs) (h' : Cells T w H ρ size ls' vs') : Cells T w H ρ size (ls ++ ls') (vs ++ vs') := by
  refine ⟨by simp [h.len, h'.len, Nat.add_mul], fun x hx => ?_, fun i x hx j u hu => ?_⟩
  · rcases List.mem_append.1 hx with hx | hx
    · exact h.sz x hx
    · exact h'.sz x hx
  · rcases Nat.lt_or_ge i ls.length with hi | hi
    · rw [List.getElem?_append_left hi] at hx
      obtain ⟨val, h1, h2⟩ := h.at_ i x hx j u hu
      have hlt := (List.getElem?_eq_some_iff.1 h1).1
      exact ⟨val, by rw [List.getElem?_append_left hlt]; exact h1, h2⟩
    · rw [List.getElem?_append_right hi] at hx
      obtain ⟨val, h1, h2⟩ := h'.at_ _ x hx j u hu
      refine ⟨val, ?_, h2⟩
      have hm : i * size = (i - ls.length) * size + ls.length * size := by rw [← Nat.add_mul]; congr 1; omega
      rw [List.getElem?_append_right (by rw [h.len]; rw [hm]; omega), ← h1, h.len]
      congr 1
      omega
theorem Cells.ext {M N : Nat → Prop} {H' : Heap} {ρ' : Places} (e : Ext M N w H ρ w' H' ρ') {size : Nat} {ls : List (List AV)} {vs : List Value} (h : Cells T w H ρ size ls vs) (ha : ∀ x, x ∈ ls → ∀ u, u ∈ x → Av M N u) : Cells T w' H' ρ' size ls vs :=
  ⟨h.len, h.sz, fun i x hx j u hu => let ⟨val, h1, h2⟩ := h.at_ i x hx j u hu; ⟨val, h1, h2.ext e (ha x (List.mem_of_getElem? hx) u (List.mem_of_getElem? hu))⟩⟩

/-- What is appended is read. -/
def Source (P : Program) (w : World) (size : Nat) (v : Value) (n : Nat) (vs : List Value) : Prop :=
  vs.length = n * size ∧ ((∃ a c, v = .slice a n c ∧ (a = none → n = 0) ∧ ∀ ad, a = some ad → ∀ j x, vs[j]? = some x → w.cell? (ad.add j) = some x))
theorem source_run {size n : Nat} {vs : List Value} (h : Source P w size v n vs) : (Builtin.lenOf v).run P w = .ok n w ∧ (Builtin.firstCells size n v).run P w = .ok vs.toArray w := by
  obtain ⟨hl, a, c, rfl, hn, hc⟩ := h
  refine ⟨by simp [Builtin.lenOf], ?_⟩
  cases a with
  | none =>
    have := hn rfl
    subst this
    have : vs = [] := List.eq_nil_of_length_eq_zero (by simpa using hl)
    subst this
    simp [Builtin.firstCells]
  | some ad =>
    have := run_loadCells_list (P := P) w ad vs (hc ad rfl)
    rw [hl] at this
    simp only [Builtin.firstCells, this]
theorem elemsK_ok {e : Nat} {te : TI} (hte : T.look e = some te) (h0 : 0 < te.cells) (hH : HeapR T w H ρ) {K : List (List AV) → Prop} (h : elemsK e u H K) (hr : RepV T w H ρ u v) :
    ∃ ls vs, Source P w te.cells v ls.length vs ∧ Cells T w H ρ te.cells ls vs ∧ ls.length ≤ maxB ∧ K ls := by
  unfold elemsK at h
  split at h
  · rename_i α full t enc l
    cases hb : Nat.beq t e with
    | false => rw [hb] at h; exact h.elim
    | true =>
      rw [hb] at h
      have := Nat.eq_of_beq_eq_true hb
      subst this
      obtain ⟨a, c, ti, vs, rfl, hti, hsz, hc0, hbb, hl, hc, hff, ha, hrr⟩ := rep_slt hr
      rw [hte] at hti
      cases hti
      let cells : List Value := (List.range (l.length * te.cells)).map fun q => vs (q / te.cells) (q % te.cells)
      have hcell : ∀ i j, i < l.length → j < te.cells → cells[i * te.cells + j]? = some (vs i j) := by
        intro i j hi hj
        have hlt : i * te.cells + j < l.length * te.cells := by
          have : (i + 1) * te.cells ≤ l.length * te.cells := Nat.mul_le_mul_right _ hi
          rw [Nat.add_mul] at this
          omega
        simp only [cells, List.getElem?_map, List.getElem?_range hlt, Option.map_some]
        congr 2
        · rw [Nat.add_comm, Nat.add_mul_div_right _ _ h0, Nat.div_eq_of_lt hj, Nat.zero_add]
        · rw [Nat.add_comm, Nat.add_mul_mod_self_right, Nat.mod_eq_of_lt hj]
      refine ⟨l.map enc, cells, ⟨by simp [cells], a, c, by simp, ?_, ?_⟩, ⟨by simp [cells], ?_, ?_⟩, by simpa using hl, h⟩
      · intro hn
        subst hn
        by_cases hl0 : l = []
        · simp [hl0]
        · obtain ⟨b, o, h', _⟩ := ha hl0
          cases h'
      · intro ad had j x hx
        have hjl := (List.getElem?_eq_some_iff.1 hx).1
        have hjl' : j < l.length * te.cells := by simpa [cells] using hjl
        have hne : l ≠ [] := by rintro rfl; simp at hjl'
        obtain ⟨b, o, h', hO, hcc⟩ := ha hne
        rw [had] at h'
        cases h'
        have hi : j / te.cells < l.length := Nat.div_lt_of_lt_mul (by rw [Nat.mul_comm]; exact hjl')
        have hj' : j % te.cells < te.cells := Nat.mod_lt _ h0
        have e1 := hcell _ _ hi hj'
        have e2 : j / te.cells * te.cells + j % te.cells = j := by rw [Nat.mul_comm]; exact Nat.div_add_mod j te.cells
        rw [e2, hx] at e1
        cases e1
        have := hcc _ hi _ hj'
        rw [e2] at this
        rw [add_none]
        exact this
      · intro x hx
        obtain ⟨y, hy, rfl⟩ := List.mem_map.1 hx
        exact hsz y hy
      · intro i x hx j u hu
        rw [List.getElem?_map, Option.map_eq_some_iff] at hx
        obtain ⟨y, hy, rfl⟩ := hx
        have hi := (List.getElem?_eq_some_iff.1 hy).1
        have hj := (List.getElem?_eq_some_iff.1 hu).1
        rw [hsz y (List.mem_of_getElem? hy)] at hj
        exact ⟨vs i j, hcell i j hi hj, (hrr i y hy j u hu).rep1⟩
  · have := rep_nils hr
    subst this
    exact ⟨[], [], ⟨by simp, none, 0, rfl, fun _ => rfl, fun ad h => by cases h⟩, ⟨by simp, by simp, by simp⟩, by simp, h⟩
  · rename_i k off len
    cases hb : eltIs H k e with
    | false => rw [hb] at h; exact h.elim
    | true =>
      rw [hb] at h
      simp only [cond_true] at h
      simp only [RepV, RepA, Rep1] at hr
      obtain ⟨t', n, ti', c, h3, h4, h5, h6⟩ := hr
      have hobj := hH.obj k
      have go : ∀ (ls : List (List AV)), ArrR T w H ρ k t' ls → ls.length = n → t' = e → K ((ls.drop off).take len) → ∃ ls vs, Source P w te.cells v ls.length vs ∧ Cells T w H ρ te.cells ls vs ∧ ls.length ≤ maxB ∧ K ls := by
        rintro ls ⟨ti, b1, b2, b3, b4⟩ hn rfl hK
        rw [h4] at b1
        cases b1
        rw [hte] at h4
        cases h4
        have hll : ((ls.drop off).take len).length = len := by simp; omega
        rcases b4 with ⟨b5, b6⟩ | ⟨b, p, cap, cur, fr, b5, b6, bun, b7, b8, b9, b10, b11⟩
        · rcases h6 with ⟨h7, h8, a0, rfl⟩ | ⟨b, p, cap, o, h7, _⟩
          · subst b6
            subst h8
            refine ⟨_, [], ⟨by simp, a0, 0, by simp, by simp, by simp⟩, ⟨by simp, by simp, by simp⟩, by simp, hK⟩
          · rw [b5] at h7; cases h7
        · rcases h6 with ⟨h7, _⟩ | ⟨b', p', cap', o, h7, h8, h9, h10, rfl⟩
          · rw [b5] at h7; cases h7
          · rw [b5] at h7
            cases h7
            have hend : off * te.cells + len * te.cells ≤ cap * te.cells := by rw [← Nat.add_mul]; exact Nat.mul_le_mul_right _ (by omega)
            refine ⟨_, (cur.toList.drop (p + off * te.cells)).take (len * te.cells), ⟨?_, some ⟨b, o, none⟩, c, by rw [hll], by simp, ?_⟩, ⟨?_, ?_, ?_⟩, by rw [hll]; omega, hK⟩
            · rw [hll]; simp; omega
            · rintro ad ⟨⟩ j x hx
              have hjl := (List.getElem?_eq_some_iff.1 hx).1
              have hjl' : j < len * te.cells := by simp at hjl; omega
              have hlen0 : 0 < len := by
                rcases Nat.eq_zero_or_pos len with h | h
                · subst h; simp at hjl'
                · exact h
              rw [add_none, h10 (by omega)]
              rw [List.getElem?_take, if_pos hjl', List.getElem?_drop] at hx
              simp only [World.cell?, b6]
              simpa using hx
            · rw [hll]; simp; omega
            · intro x hx
              exact b3 x (List.mem_of_mem_drop (List.mem_of_mem_take hx))
            · intro i x hx j u hu
              rw [List.getElem?_take] at hx
              split at hx
              · rename_i hi
                rw [List.getElem?_drop] at hx
                obtain ⟨val, e1, e2⟩ := b11 _ x hx j u hu
                have hj := (List.getElem?_eq_some_iff.1 hu).1
                rw [b3 x (List.mem_of_getElem? hx)] at hj
                have : (i + 1) * te.cells ≤ len * te.cells := Nat.mul_le_mul_right _ hi
                rw [Nat.add_mul] at this
                refine ⟨val, ?_, e2⟩
                rw [List.getElem?_take, if_pos (by omega), List.getElem?_drop, ← e1]
                rw [Nat.add_mul]
                simp only [Array.getElem?_toList]
                congr 1
                omega
              · cases hx
      have het : t' = e := by
        unfold eltIs at hb
        revert hb h3
        cases hget H k with
        | box => intro hb _; cases hb
        | dead => intro hb _; cases hb
        | map => intro hb _; cases hb
        | arr t₁ enc hc l => intro hb h3; simp only [Obj.len, Obj.elems, Option.map_some, Option.some.injEq, Prod.mk.injEq] at h3; exact h3.1.symm.trans (Nat.eq_of_beq_eq_true hb)
        | arrl t₁ ls => intro hb h3; simp only [Obj.len, Obj.elems, Option.map_some, Option.some.injEq, Prod.mk.injEq] at h3; exact h3.1.symm.trans (Nat.eq_of_beq_eq_true hb)
      split at h
      · rename_i t₁ ls hk
        rw [hk] at hobj h3
        simp only [Obj.len, Obj.elems, Option.map_some, Option.some.injEq, Prod.mk.injEq] at h3
        obtain ⟨rfl, h3⟩ := h3
        exact go ls hobj h3 het h
      · rename_i α t₁ enc hc l hk
        rw [hk] at hobj h3
        simp only [Obj.len, Obj.elems, Option.map_some, Option.some.injEq, Prod.mk.injEq] at h3
        obtain ⟨rfl, h3⟩ := h3
        exact go (l.map enc) hobj h3 het (by rw [← List.map_drop, ← List.map_take]; exact h)
      · exact h.elim
  · exact h.elim
end
end Go.V


set_option linter.unusedVariables false
set_option linter.unusedSimpArgs false
namespace Go.V
section
variable {P : Program} {T : Ctx} {w w' : World} {H : Heap} {ρ : Places} {u u2 : AV} {v v2 : Value}

/-- What may be appended: a slice, a text. -/
def SourceX (P : Program) (w : World) (size : Nat) (v : Value) (n : Nat) (vs : List Value) : Prop := Source P w size v n vs ∨ (vs.length = n * size ∧ ∃ s : ByteArray, v = .string s ∧ n = s.size ∧ vs = Lib.strCells s)
theorem SourceX.len {size n : Nat} {vs : List Value} (h : SourceX P w size v n vs) : vs.length = n * size := h.elim (fun h => h.1) (fun h => h.1)
theorem sourceX_run {size n : Nat} {vs : List Value} (h : SourceX P w size v n vs) : (Builtin.lenOf v).run P w = .ok n w ∧ (Builtin.firstCells size n v).run P w = .ok vs.toArray w := by
  rcases h with h | ⟨_, s, rfl, rfl, rfl⟩
  · exact source_run h
  · exact ⟨by simp [Builtin.lenOf], Lib.run_firstCells_string w size s⟩
/-- append, run: in place, or into new memory. -/
theorem append_run {t e : TypeId} {tt : TypeId} (hu : P.underlying t = some (.slice e)) {ti : TI} (hty : TyR P e ti) {t2 : TypeId} {d2 : TypeDesc} (h2 : P.underlying t2 = some d2) (hd2 : d2 = .string ∨ ∃ e2, d2 = .slice e2)
    {a : Option Addr} {len c m : Nat} {y : Value} {old new : List Value} {fr : Nat × Nat} (hs : Source P w ti.cells (.slice a len c) len old) (hy : SourceX P w ti.cells y m new) (h1 : ∀ x ∈ new, x.oneCell' = true) (hb : (len + m) * ti.bytes ≤ maxB)
    (hfit : len + m ≤ c → 0 < m → ∃ b o t' cur, a = some ⟨b, o, none⟩ ∧ w.heap[b]? = some (.cells cur t' fr) ∧ Unfr fr cur.size ∧ o + c * ti.cells ≤ cur.size) (hlc : len ≤ c) :
    ∃ val w', (Builtin.append_ #[t, t2] tt #[.slice a len c, y]).run P w = .ok val w' ∧
      ((len + m ≤ c ∧ val = .slice a (len + m) c ∧ ((m = 0 ∧ w' = w) ∨ ∃ b o t' cur, 0 < m ∧ a = some ⟨b, o, none⟩ ∧ w.heap[b]? = some (.cells cur t' fr) ∧ Unfr fr cur.size ∧ o + c * ti.cells ≤ cur.size ∧ w' = w.setRow b (cur.toList.take (o + len * ti.cells) ++ new ++ cur.toList.drop (o + len * ti.cells + new.length)).toArray)) ∨
       (c < len + m ∧ ∃ cap rest, len + m ≤ cap ∧ rest.length = (cap - (len + m)) * ti.cells ∧ val = .slice (some ⟨w.heap.size, 0, none⟩) (len + m) cap ∧ w' = w.drew.alloc (.cells (old ++ new ++ rest).toArray e))) := by
  rcases hd2 with rfl | ⟨e2, rfl⟩
  all_goals
    obtain ⟨y1, y2⟩ := sourceX_run hy
    obtain ⟨s1, s2⟩ := source_run hs
    obtain ⟨i, z, hi, hi1, hi2, hi3, hi4⟩ := info_run (w := w) hty
    have hsz := sizeOf_run (w := w) hty
    have hnew : new.length = m * ti.cells := hy.len
    by_cases hfits : len + m ≤ c
    · by_cases hm : 0 < m
      · obtain ⟨b, o, t', cur, rfl, hcur, hun, hroom⟩ := hfit hfits hm
        have hin : o + len * ti.cells + new.length ≤ cur.size := by
          have : (len + m) * ti.cells ≤ c * ti.cells := Nat.mul_le_mul_right _ hfits
          rw [Nat.add_mul] at this
          omega
        have hst := run_storeCells_u P b (o + len * ti.cells) t' fr new 0 cur w hcur hun (by omega) h1
        rw [Nat.add_zero] at hst
        refine ⟨.slice (some ⟨b, o, none⟩) (len + m) c, w.setRow b (cur.toList.take (o + len * ti.cells) ++ new ++ cur.toList.drop (o + len * ti.cells + new.length)).toArray, ?_, .inl ⟨hfits, rfl, .inr ⟨b, o, t', cur, hm, rfl, hcur, hun, hroom, rfl⟩⟩⟩
        have key : (Builtin.append_ #[t, t2] tt #[.slice (some ⟨b, o, none⟩) len c, y]).run P w = .ok (.slice (some ⟨b, o, none⟩) (len + m) c) (w.setRow b (cur.toList.take (o + len * ti.cells) ++ new ++ cur.toList.drop (o + len * ti.cells + new.length)).toArray) := by
          simp [Builtin.append_, run_underlying hu, run_underlying h2, hsz, y1, y2, hfits, add_none, hst]
        exact key
      · have hm0 : m = 0 := by omega
        subst hm0
        have hn : new = [] := List.eq_nil_of_length_eq_zero (by simpa using hnew)
        subst hn
        refine ⟨.slice a (len + 0) c, w, ?_, .inl ⟨hfits, rfl, .inl ⟨rfl, rfl⟩⟩⟩
        cases a <;> simp [Builtin.append_, run_underlying hu, run_underlying h2, hsz, y1, y2, hlc, storeCells]
    · have hlt : c < len + m := by omega
      have hnext := growslice_fits (need := len + m) (old := c) (bytes := ti.bytes) hlt hb
      -- the new capacity
      let cap := (Question.appendCap (len + m) c e).cut (w.tape w.drawn (.appendCap (len + m) c e))
      have hcap : len + m ≤ cap := by simp only [cap, Question.cut]; omega
      have y2' : (Builtin.firstCells ti.cells m y).run P w.drew = .ok new.toArray w.drew := by
        have : SourceX P w.drew ti.cells y m new := hy
        exact (sourceX_run this).2
      have s2' : (Builtin.firstCells ti.cells len (.slice a len c)).run P w.drew = .ok old.toArray w.drew := by
        have : Source P w.drew ti.cells (.slice a len c) len old := hs
        exact (source_run this).2
      obtain ⟨i', z', hi', hi1', hi2', hi3', hi4'⟩ := info_run (w := w.drew) hty
      obtain ⟨zz, hzz, hzz', hzsz⟩ := zero_run (w := w.drew) hty
      refine ⟨.slice (some ⟨w.heap.size, 0, none⟩) (len + m) cap, w.drew.alloc (.cells (old ++ new ++ (Builtin.zeroCells zz.cells (cap - (len + m))).toList).toArray e), ?_, .inr ⟨hlt, cap, _, hcap, by simp [Builtin.zeroCells, hzsz], rfl, rfl⟩⟩
      have hno : i.bytes ≠ 0 := by have := hty.bpos; omega
      have h48 : ¬ (281474976710656 < Builtin.nextslicecap (len + m) c * i.bytes) := by rw [hi2]; omega
      simp [Builtin.append_, run_underlying hu, run_underlying h2, hsz, y1, y2', s2', hfits, hi, hi', hno, h48, hzz, Question.forced, newRow, cap]
      congr 2
      apply Array.ext'
      simp
end
end Go.V


set_option linter.unusedVariables false
set_option linter.unusedSimpArgs false
namespace Go.V
section
variable {P : Program} {T : Ctx} {w w' : World} {H : Heap} {ρ : Places} {u u2 : AV} {v v2 : Value}

def Fits (n b : Nat) : Prop := n * b ≤ maxB ∧ n ≤ maxB
def appY (e : Nat) (te : TI) (x : AV) (ys : List (List AV)) (env : Env) (H : Heap) (K : AV → Env → Heap → Prop) : Prop := match x with
  | .nils => Ob (Fits ys.length te.bytes) (K (.own (List.length H) 0 ys.length) env (H ++ [.arrl e ys]))
  | @AV.slt α full t enc l => bif full && Nat.beq t e then ∃ (hc : ∀ x, (enc x).all AV.closed = true) (zs : List α), ys = zs.map enc ∧ (l = [] ∨ zs ≠ []) ∧ Ob (Fits (l.length + zs.length) te.bytes) (K (.own (List.length H) 0 (l.length + zs.length)) env (H ++ [.arr e enc hc (l ++ zs)])) else False
  | .own k off len => (match hget H k with
    | @Obj.arr α t enc hc l => bif Nat.beq t e then ∃ zs : List α, ys = zs.map enc ∧ Ob (Fits (len + zs.length) te.bytes) (killEK k env fun env => killHK k H fun H => K (.own k 0 (len + zs.length)) env (hset H k (.arr t enc hc ((l.drop off).take len ++ zs)))) else False
    | .arrl t ls => bif Nat.beq t e then Ob (Fits (len + ys.length) te.bytes) (killEK k env fun env => killHK k H fun H => K (.own k 0 (len + ys.length)) env (hset H k (.arrl t (((ls.map fun x => x.map (killC k)).drop off).take len ++ ys.map fun x => x.map (killC k))))) else False
    | _ => False)
  | _ => False

def appendK (e : Nat) (te : TI) (x y : AV) (env : Env) (H : Heap) (K : AV → Env → Heap → Prop) : Prop := elemsK e y H fun ys => appY e te x ys env H K
theorem keeps_drew_alloc (O : Nat → Prop) (w : World) (o : Go.Obj) : Keeps O w (w.drew.alloc o) :=
  ⟨rfl, rfl, rfl, by rw [alloc_size]; exact Nat.le_succ _, fun b hb _ => by rw [alloc_heap, if_neg (by show b ≠ w.heap.size; omega)]; rfl⟩
theorem da_heap (w : World) (o : Go.Obj) : (w.drew.alloc o).heap[w.heap.size]? = some o := by
  rw [alloc_heap]; exact if_pos rfl
theorem da_size (w : World) (o : Go.Obj) : (w.drew.alloc o).heap.size = w.heap.size + 1 := by rw [alloc_size]; rfl

/-- The elements of an array with room, in a new block. -/
theorem ArrR.fresh {H' : Heap} {ρ' : Places} {k : Nat} {e : TypeId} {te : TI} (hte : T.look e = some te) (h0 : 0 < te.cells) {ls : List (List AV)} {vs rest : List Value} {cap b : Nat} (hρ : ρ' k = some (b, 0, cap))
    (hb : w'.heap[b]? = some (.cells (vs ++ rest).toArray e (0, 0))) (hc : Cells T w' H' ρ' te.cells ls vs) (hl : ls.length ≤ cap) (hr : rest.length = (cap - ls.length) * te.cells) (hf : Fits ls.length te.bytes) : ArrR T w' H' ρ' k e ls := by
  refine ⟨te, hte, h0, hc.sz, .inr ⟨b, 0, cap, _, _, hρ, hb, .inl rfl, ?_, hl, hf.1, hf.2, fun i x hx j u hu => ?_⟩⟩
  · simp only [List.size_toArray, List.length_append, hc.len, hr]
    rw [← Nat.add_mul, Nat.zero_add]
    exact Nat.mul_le_mul_right _ (by omega)
  · obtain ⟨val, h1, h2⟩ := hc.at_ i x hx j u hu
    refine ⟨val, ?_, h2⟩
    rw [Nat.zero_add, List.getElem?_toArray, List.getElem?_append_left (List.getElem?_eq_some_iff.1 h1).1]
    exact h1
/-- A new array object behind an append to nil or to a full slice. -/
theorem append_new {t e : TypeId} {tt : TypeId} (hu : P.underlying t = some (.slice e)) {te : TI} (hte : T.look e = some te) (hty : TyR P e te) {t2 : TypeId} {d2 : TypeDesc} (h2 : P.underlying t2 = some d2) (hd2 : d2 = .string ∨ ∃ e2, d2 = .slice e2) (hH : HeapR T w H ρ)
    {a : Option Addr} {len c : Nat} {y : Value} {l0 ys : List (List AV)} {old new : List Value} (hl0 : l0.length = len) (hs : Source P w te.cells (.slice a len c) len old) (hy : SourceX P w te.cells y ys.length new)
    (c0 : Cells T w H ρ te.cells l0 old) (c1 : Cells T w H ρ te.cells ys new) (hlc : len ≤ c) (hfull : len + ys.length ≤ c → len = 0 ∧ ys = [] ∧ c = 0) (hf : Fits (len + ys.length) te.bytes) (o : Go.V.Obj) (ho : o.elems = some (e, l0 ++ ys)) (hlive : o.live)
    (hoR : ∀ w' H' ρ' k, ArrR T w' H' ρ' k e (l0 ++ ys) → ObjR T w' H' ρ' k o) :
    ∃ val w' ρ', (Builtin.append_ #[t, t2] tt #[.slice a len c, y]).run P w = .ok val w' ∧ HeapR T w' (H ++ [o]) ρ' ∧ Ext No No w H ρ w' (H ++ [o]) ρ' ∧ RepV T w' (H ++ [o]) ρ' (.own H.length 0 (len + ys.length)) val := by
  have hpos := hty.pos
  obtain ⟨val, w', hrun, hcase⟩ := append_run (tt := tt) (fr := (0, 0)) hu hty h2 hd2 hs hy (c1.one hpos) hf.1 (fun h1 h2 => by have := (hfull h1).2.1; subst this; simp at h2) hlc
  have hlen : (o.len) = some (e, len + ys.length) := by simp [Obj.len, ho, hl0]
  rcases hcase with ⟨h3, rfl, h4⟩ | ⟨h3, cap, rest, h4, h5, rfl, rfl⟩
  · obtain ⟨rfl, rfl, rfl⟩ := hfull h3
    have hw : w' = w := by
      rcases h4 with ⟨_, h⟩ | ⟨b, o', t', cur, h, _⟩
      · exact h
      · simp at h
    subst hw
    have hl0' : l0 = [] := List.eq_nil_of_length_eq_zero hl0
    subst hl0'
    have hp := hH.push (o := o) (x := none) (Keeps.refl _ w') (by simp) (fun ex => hoR _ _ _ _ ⟨te, hte, hpos, by simp, .inl ⟨by simp [push], by simp⟩⟩)
    refine ⟨_, _, _, hrun, hp.1, hp.2, ?_⟩
    refine ⟨e, 0, te, 0, by rw [hget_push, if_pos rfl]; simpa using hlen, hte, by simp, .inl ⟨by simp [push], rfl, a, rfl⟩⟩
  · have hp := hH.push (o := o) (x := some (w.heap.size, 0, cap)) (keeps_drew_alloc _ w (.cells (old ++ new ++ rest).toArray e)) (by
      rintro b p c ⟨⟩
      rw [da_size]
      omega) (fun ex => hoR _ _ _ _ (ArrR.fresh (cap := cap) (b := w.heap.size) hte hpos (by simp [push]) (da_heap w _) (Cells.ext ex (c0.append c1) (fun _ _ _ _ => Av.none)) (by simp [hl0]; omega) (by simp [hl0, h5]) (by simpa [hl0] using hf)))
    refine ⟨_, _, _, hrun, hp.1, hp.2, ?_⟩
    exact ⟨e, len + ys.length, te, cap, by rw [hget_push, if_pos rfl]; exact hlen, hte, by omega, .inr ⟨w.heap.size, 0, cap, 0, by simp [push], h4, by omega, by simp, rfl⟩⟩
/-- An array of the heap, read for an append. -/
theorem own_source {k off len : Nat} {e : TypeId} {te : TI} (hte : T.look e = some te) {ls : List (List AV)} (hA : ArrR T w H ρ k e ls) (hlen : (hget H k).len = some (e, ls.length)) (hr : RepV T w H ρ (.own k off len) v) :
    ∃ a c old fr, v = .slice a len c ∧ len ≤ c ∧ off + len ≤ ls.length ∧ Source P w te.cells v len old ∧ Cells T w H ρ te.cells ((ls.drop off).take len) old ∧
      ((ρ k = none ∧ len = 0 ∧ c = 0) ∨ ∃ b p cap cur, ρ k = some (b, p, cap) ∧ off + c ≤ cap ∧ (∃ o, a = some ⟨b, o, none⟩ ∧ (0 < c → o = p + off * te.cells)) ∧ w.heap[b]? = some (.cells cur e fr) ∧ Unfr fr cur.size ∧ p + cap * te.cells ≤ cur.size ∧ old = (cur.toList.drop (p + off * te.cells)).take (len * te.cells)) := by
  simp only [RepV, RepA, Rep1] at hr
  obtain ⟨t', n, ti', c, h3, h4, h5, h6⟩ := hr
  rw [hlen] at h3
  cases h3
  rw [hte] at h4
  cases h4
  obtain ⟨ti, b1, b2, b3, b4⟩ := hA
  rw [hte] at b1
  cases b1
  have hll : ((ls.drop off).take len).length = len := by simp; omega
  rcases b4 with ⟨b5, b6⟩ | ⟨b, p, cap, cur, fr, b5, b6, bun, b7, b8, b9, b10, b11⟩
  · rcases h6 with ⟨h7, h8, a0, rfl⟩ | ⟨b, p, cap, o, h7, _⟩
    · subst b6
      subst h8
      exact ⟨a0, 0, [], (0, 0), rfl, Nat.le_refl _, h5, ⟨by simp, a0, 0, rfl, by simp, by simp⟩, ⟨by simp, by simp, by simp⟩, .inl ⟨b5, rfl, rfl⟩⟩
    · rw [b5] at h7; cases h7
  · rcases h6 with ⟨h7, _⟩ | ⟨b', p', cap', o, h7, h8, h9, h10, rfl⟩
    · rw [b5] at h7; cases h7
    · rw [b5] at h7
      cases h7
      have hend : off * te.cells + len * te.cells ≤ cap * te.cells := by rw [← Nat.add_mul]; exact Nat.mul_le_mul_right _ (by omega)
      refine ⟨some ⟨b, o, none⟩, c, (cur.toList.drop (p + off * te.cells)).take (len * te.cells), fr, rfl, h8, h5, ⟨by simp; omega, some ⟨b, o, none⟩, c, rfl, by simp, ?_⟩, ⟨by rw [hll]; simp; omega, ?_, ?_⟩, .inr ⟨b, p, cap, cur, b5, h9, ⟨o, rfl, h10⟩, b6, bun, b7, rfl⟩⟩
      · rintro ad ⟨⟩ j x hx
        have hjl := (List.getElem?_eq_some_iff.1 hx).1
        have hjl' : j < len * te.cells := by simp at hjl; omega
        have hlen0 : 0 < len := by
          rcases Nat.eq_zero_or_pos len with h | h
          · subst h; simp at hjl'
          · exact h
        rw [add_none, h10 (by omega)]
        rw [List.getElem?_take, if_pos hjl', List.getElem?_drop] at hx
        simp only [World.cell?, b6]
        simpa using hx
      · intro x hx
        exact b3 x (List.mem_of_mem_drop (List.mem_of_mem_take hx))
      · intro i x hx j u hu
        rw [List.getElem?_take] at hx
        split at hx
        · rename_i hi
          rw [List.getElem?_drop] at hx
          obtain ⟨val, e1, e2⟩ := b11 _ x hx j u hu
          have hj := (List.getElem?_eq_some_iff.1 hu).1
          rw [b3 x (List.mem_of_getElem? hx)] at hj
          have : (i + 1) * te.cells ≤ len * te.cells := Nat.mul_le_mul_right _ hi
          rw [Nat.add_mul] at this
          refine ⟨val, ?_, e2⟩
          rw [List.getElem?_take, if_pos (by omega), List.getElem?_drop, ← e1]
          rw [Nat.add_mul]
          simp only [Array.getElem?_toList]
          congr 1
          omega
        · cases hx

/-- An append to an array of the heap, of which nothing else speaks. -/
theorem append_own {t e : TypeId} {tt : TypeId} (hu : P.underlying t = some (.slice e)) {te : TI} (hte : T.look e = some te) (hty : TyR P e te) {t2 : TypeId} {d2 : TypeDesc} (h2 : P.underlying t2 = some d2) (hd2 : d2 = .string ∨ ∃ e2, d2 = .slice e2) (hH : HeapR T w H ρ)
    {k off len : Nat} {ls ys : List (List AV)} (hA : ArrR T w H ρ k e ls) (hlen : (hget H k).len = some (e, ls.length)) (hr : RepV T w H ρ (.own k off len) v)
    {y : Value} {new : List Value} (hy : SourceX P w te.cells y ys.length new) (c1 : Cells T w H ρ te.cells ys new) (hf : Fits (len + ys.length) te.bytes)
    (hav : ∀ j, j ≠ k → AvO (Is k) No (hget H j)) (hav1 : ∀ x, x ∈ ls → ∀ u, u ∈ x → Av (Is k) No u) (hav2 : ∀ x, x ∈ ys → ∀ u, u ∈ x → Av (Is k) No u) (o : Go.V.Obj) (ho : o.elems = some (e, (ls.drop off).take len ++ ys)) (hlive : o.live) (hbox : o.isBox = none)
    (hoR : ∀ w' H' ρ' k, ArrR T w' H' ρ' k e ((ls.drop off).take len ++ ys) → ObjR T w' H' ρ' k o) :
    ∃ val w' ρ', (Builtin.append_ #[t, t2] tt #[v, y]).run P w = .ok val w' ∧ HeapR T w' (hset H k o) ρ' ∧ Ext (Is k) No w H ρ w' (hset H k o) ρ' ∧ RepV T w' (hset H k o) ρ' (.own k 0 (len + ys.length)) val := by
  have hpos := hty.pos
  obtain ⟨a, c, old, fr, rfl, hlc, hoff, hsrc, c0, hplace⟩ := own_source (P := P) hte hA hlen hr
  have hlk : (hget H k).live := by
    revert hlen
    cases hget H k <;> simp [Obj.len, Obj.elems, Obj.live]
  have hnb : ∀ n, (hget H k).isBox = some n → False := by
    revert hlen
    cases hget H k <;> simp [Obj.len, Obj.elems, Obj.isBox]
  have hl0 : ((ls.drop off).take len).length = len := by simp; omega
  have hlo : o.len = some (e, len + ys.length) := by simp [Obj.len, ho, hl0]
  have hav3 : ∀ x, x ∈ (ls.drop off).take len ++ ys → ∀ u, u ∈ x → Av (Is k) No u := by
    intro x hx
    rcases List.mem_append.1 hx with hx | hx
    · exact hav1 x (List.mem_of_mem_drop (List.mem_of_mem_take hx))
    · exact hav2 x hx
  obtain ⟨val, w', hrun, hcase⟩ := append_run (tt := tt) hu hty h2 hd2 hsrc hy (c1.one hpos) hf.1 (fun h1 h2 => by
    rcases hplace with ⟨_, h4, h5⟩ | ⟨b, p, cap, cur, h4, h5, ⟨o', h6, h7⟩, h8, hun, h9, _⟩
    · omega
    · refine ⟨b, o', e, cur, h6, h8, hun, ?_⟩
      rw [h7 (by omega)]
      have : (off + c) * te.cells ≤ cap * te.cells := Nat.mul_le_mul_right _ h5
      rw [Nat.add_mul] at this
      omega) hlc
  have grow : ∀ (cap : Nat) (rest : List Value), len + ys.length ≤ cap → rest.length = (cap - (len + ys.length)) * te.cells → val = .slice (some ⟨w.heap.size, 0, none⟩) (len + ys.length) cap → w' = w.drew.alloc (.cells (old ++ new ++ rest).toArray e) →
      ∃ val w' ρ', (Builtin.append_ #[t, t2] tt #[.slice a len c, y]).run P w = .ok val w' ∧ HeapR T w' (hset H k o) ρ' ∧ Ext (Is k) No w H ρ w' (hset H k o) ρ' ∧ RepV T w' (hset H k o) ρ' (.own k 0 (len + ys.length)) val := by
    rintro cap rest h4 h5 rfl rfl
    have hup := hH.upd (k := k) (o' := o) (x := some (w.heap.size, 0, cap)) (M := Is k) (w' := w.drew.alloc (.cells (old ++ new ++ rest).toArray e)) hlk (keeps_drew_alloc _ w _) (by
      rintro b p c ⟨⟩
      rw [da_size]
      exact ⟨by omega, .inr (Nat.le_refl _)⟩) (fun n hn => (hnb n hn).elim) (fun h => absurd rfl h) hav (fun ex => hoR _ _ _ _ (ArrR.fresh (cap := cap) (b := w.heap.size) hte hpos (by rw [upd_same]) (da_heap w _) (Cells.ext ex (c0.append c1) hav3) (by simp [hl0]; omega) (by simp [hl0, h5]) (by simpa [hl0] using hf)))
    refine ⟨_, _, _, hrun, hup.1, hup.2, ?_⟩
    exact ⟨e, len + ys.length, te, cap, by rw [hget_set _ _ _ _ (live_lt hlk), if_pos rfl]; exact hlo, hte, by omega, .inr ⟨w.heap.size, 0, cap, 0, by rw [upd_same], h4, by omega, by simp, rfl⟩⟩
  rcases hcase with ⟨h3, rfl, h4⟩ | ⟨h3, cap, rest, h4, h5, e1, e2⟩
  · -- in place
    rcases hplace with ⟨g1, g2, g3⟩ | ⟨b, p, cap, cur, g1, g2, ⟨o', g3, g4⟩, g5, gun, g6, g7⟩
    · -- no block at all
      subst g2
      subst g3
      have hm : ys.length = 0 := by omega
      have hys : ys = [] := List.eq_nil_of_length_eq_zero hm
      subst hys
      have hw : w' = w := by
        rcases h4 with ⟨_, h⟩ | ⟨b, o', t', cur, h, _⟩
        · exact h
        · simp at h
      subst hw
      have hup := hH.upd (k := k) (o' := o) (x := none) (M := Is k) (w' := w') hlk (Keeps.refl _ _) (by simp) (fun n hn => (hnb n hn).elim) (fun h => absurd rfl h) hav (fun ex => hoR _ _ _ _ ⟨te, hte, hpos, by simp, .inl ⟨by rw [upd_same], by simp⟩⟩)
      refine ⟨_, _, _, hrun, hup.1, hup.2, ?_⟩
      exact ⟨e, 0, te, 0, by rw [hget_set _ _ _ _ (live_lt hlk), if_pos rfl]; simpa using hlo, hte, by simp, .inl ⟨by rw [upd_same], rfl, a, rfl⟩⟩
    · have hcap : (off + c) * te.cells ≤ cap * te.cells := Nat.mul_le_mul_right _ g2
      rw [Nat.add_mul] at hcap
      have hneed : (len + ys.length) * te.cells ≤ c * te.cells := Nat.mul_le_mul_right _ h3
      rw [Nat.add_mul] at hneed
      have hnew := hy.len
      -- the block behind
      have hblk : ∃ cur', w'.heap[b]? = some (.cells cur' e fr) ∧ cur'.size = cur.size ∧ Keeps (fun b' => b' = b) w w' ∧ ∀ q, q < (len + ys.length) * te.cells → cur'[p + off * te.cells + q]? = (old ++ new)[q]? := by
        have hold : old.length = len * te.cells := hsrc.1
        have holdat : ∀ q, q < len * te.cells → cur[p + off * te.cells + q]? = old[q]? := by
          intro q hq
          rw [g7, List.getElem?_take, if_pos hq, List.getElem?_drop, Array.getElem?_toList]
        rcases h4 with ⟨hm, rfl⟩ | ⟨b₁, o₁, t₁, cur₁, hm, k1, k2, kun, k3, rfl⟩
        · refine ⟨cur, g5, rfl, Keeps.refl _ _, fun q hq => ?_⟩
          have hn0 : new = [] := List.eq_nil_of_length_eq_zero (by rw [hnew, hm, Nat.zero_mul])
          rw [hn0, List.append_nil]
          exact holdat q (by rw [hm] at hq; simpa using hq)
        · rw [g3] at k1
          cases k1
          rw [g5] at k2
          cases k2
          have ho' := g4 (by omega)
          subst ho'
          refine ⟨_, setRow_heap w b cur _ e fr g5, by simp; omega, keeps_setRow w b _, fun q hq => ?_⟩
          rw [List.getElem?_toArray, splice_at _ _ _ _ (by simp; omega)]
          rw [Nat.add_mul] at hq
          by_cases hq1 : q < len * te.cells
          · rw [if_pos (by omega), List.getElem?_append_left (by omega), Array.getElem?_toList]
            exact holdat q hq1
          · rw [if_neg (by omega), if_pos (by omega), List.getElem?_append_right (by omega), hold]
            congr 1
            omega
      obtain ⟨cur', hb', hsz, hkeep, hat⟩ := hblk
      have hup := hH.upd (k := k) (o' := o) (x := some (b, p + off * te.cells, c)) (M := Is k) (w' := w') hlk ⟨hkeep.os, hkeep.tape, hkeep.output, hkeep.size, fun b' hb'' hn => hkeep.block b' hb'' (by rintro rfl; exact hn ⟨_, _, g1⟩)⟩ (by
        rintro b' p' c' ⟨⟩
        exact ⟨(Array.getElem?_eq_some_iff.1 hb').1, .inl ⟨_, _, g1⟩⟩) (fun n hn => (hnb n hn).elim) (fun h => absurd rfl h) hav (fun ex => by
        have cc := Cells.ext ex (c0.append c1) hav3
        refine hoR _ _ _ _ ⟨te, hte, hpos, cc.sz, .inr ⟨b, p + off * te.cells, c, cur', fr, by rw [upd_same], hb', by rw [hsz]; exact gun, by omega, by simp [hl0]; omega, by simpa [hl0] using hf.1, by simpa [hl0] using hf.2, fun i x hx j u hu => ?_⟩⟩
        obtain ⟨val', e1, e2⟩ := cc.at_ i x hx j u hu
        have hlt := (List.getElem?_eq_some_iff.1 e1).1
        rw [cc.len, List.length_append, hl0] at hlt
        exact ⟨val', by rw [hat _ hlt]; exact e1, e2⟩)
      refine ⟨_, _, _, hrun, hup.1, hup.2, ?_⟩
      refine ⟨e, len + ys.length, te, c, by rw [hget_set _ _ _ _ (live_lt hlk), if_pos rfl]; exact hlo, hte, by omega, .inr ⟨b, p + off * te.cells, c, o', by rw [upd_same], h3, by omega, ?_, by rw [g3]⟩⟩
      intro hc
      rw [g4 hc]
      omega
  · exact grow cap rest h4 h5 e1 e2
end
end Go.V


set_option linter.unusedVariables false
set_option linter.unusedSimpArgs false
namespace Go.V
section
variable {P : Program} {T : Ctx} {w w' w1 w2 : World} {H H' H1 H2 : Heap} {ρ ρ' ρ1 ρ2 : Places} {u u2 : AV} {v v2 : Value} {env : Env} {a : Act} {n : Nat}

/-- From one state to another: what was not ours is as it was. -/
structure Step (B : Nat) (w : World) (H : Heap) (ρ : Places) (w' : World) (H' : Heap) (ρ' : Places) : Prop where
  keeps : Keeps (OwnedT H ρ) w w'
  own : ∀ b, OwnedT H' ρ' b → OwnedT H ρ b ∨ w.heap.size ≤ b
  F : ρ'.F = ρ.F
  box : ∀ k, k < B → ∀ n, (hget H k).isBox = some n → ρ' k = ρ k ∧ (hget H' k).isBox = some n
variable {B : Nat}
theorem Step.refl : Step B w H ρ w H ρ := ⟨Keeps.refl _ _, fun _ h => .inl h, rfl, fun _ _ _ h => ⟨rfl, h⟩⟩
theorem Step.trans (h : Step B w H ρ w1 H1 ρ1) (h' : Step B w1 H1 ρ1 w2 H2 ρ2) : Step B w H ρ w2 H2 ρ2 :=
  ⟨h.keeps.trans h'.keeps h.own, fun b hb => by
    rcases h'.own b hb with h1 | h1
    · exact h.own b h1
    · exact .inr (Nat.le_trans h.keeps.size h1), h'.F.trans h.F, fun k hk n hn => by
    obtain ⟨e1, e2⟩ := h.box k hk n hn
    obtain ⟨e3, e4⟩ := h'.box k hk n e2
    exact ⟨e3.trans e1, e4⟩⟩
theorem Ext.step {M : Nat → Prop} (e : Ext M No w H ρ w' H' ρ') : Step B w H ρ w' H' ρ' := ⟨e.keeps, e.own, e.F, fun k _ n hn => e.box k id n hn⟩

theorem St.ext {M N : Nat → Prop} (h : St T w H ρ env a n) (e : Ext M N w H ρ w' H' ρ') (hav : ∀ s, AvV M N (get env s)) (hH : HeapR T w' H' ρ') : St T w' H' ρ' env a n :=
  ⟨fun s => (h.slot s).ext e (hav s), h.size, hH⟩
theorem St.kill {k : Nat} (h : St T w H ρ env a n) : St T w (H.map (killO k)) ρ (killE k env) a n :=
  ⟨fun s => by rw [get_kill]; exact killV_rep ((h.slot s).ext (ext_kill (k := k)) .none), h.size, h.heap.kill⟩

theorem elems_len {k : Nat} {t : TypeId} {ls : List (List AV)} (h : (hget H k).elems = some (t, ls)) : (hget H k).len = some (t, ls.length) := by simp [Obj.len, h]
theorem appY_ok {t e : TypeId} {tt : TypeId} (hu : P.underlying t = some (.slice e)) {te : TI} (hte : T.look e = some te) (hty : TyR P e te) {t2 : TypeId} {d2 : TypeDesc} (h2 : P.underlying t2 = some d2) (hd2 : d2 = .string ∨ ∃ e2, d2 = .slice e2) (hS : St T w H ρ env a n)
    {vy : Value} {K : AV → Env → Heap → Prop} {ys : List (List AV)} {new : List Value} (hsrc : SourceX P w te.cells vy ys.length new) (hcells : Cells T w H ρ te.cells ys new) (hK : appY e te u ys env H K) (hr : RepV T w H ρ u v) :
    ∃ val w' H' ρ' env' u', (Builtin.append_ #[t, t2] tt #[v, vy]).run P w = .ok val w' ∧ St T w' H' ρ' env' a n ∧ Step B w H ρ w' H' ρ' ∧ RepV T w' H' ρ' u' val ∧ K u' env' H' := by
  have hpos := hty.pos
  have hH := hS.heap
  unfold appY at hK
  split at hK
  · have := rep_nils hr
    subst this
    obtain ⟨hf, hK⟩ := hK
    obtain ⟨val, w', ρ', r1, r2, r3, r4⟩ := append_new (tt := tt) hu hte hty h2 hd2 hH (a := none) (len := 0) (c := 0) (l0 := []) (old := []) rfl ⟨by simp, none, 0, rfl, by simp, by simp⟩ hsrc ⟨by simp, by simp, by simp⟩ hcells (Nat.le_refl _)
      (fun h => ⟨rfl, List.eq_nil_of_length_eq_zero (by omega), rfl⟩) (by rw [Nat.zero_add]; exact hf) (.arrl e ys) rfl trivial (fun _ _ _ _ h => h)
    rw [Nat.zero_add] at r4
    exact ⟨val, w', _, ρ', env, _, r1, hS.ext r3 (fun _ => .none) r2, r3.step, r4, hK⟩
  · rename_i α full t' enc l
    cases hb : full && Nat.beq t' e with
    | false => rw [hb] at hK; exact hK.elim
    | true =>
      rw [hb] at hK
      simp only [cond_true] at hK
      simp only [Bool.and_eq_true] at hb
      have := Nat.eq_of_beq_eq_true hb.2
      subst this
      obtain ⟨hc, zs, rfl, hne, hf, hK⟩ := hK
      -- what the slice has, as a source
      obtain ⟨ls0, old, hsrc0, hcells0, _, hls0⟩ := elemsK_ok (P := P) (K := fun ls => ls = l.map enc) hte hpos hH (u := .slt full t' enc l) (v := v) (by simp [elemsK, hb.2]) hr
      subst hls0
      obtain ⟨a0, c, ti, vs, rfl, hti, hsz, hc0, hbb, hl, hlc, hff, ha, hrr⟩ := rep_slt hr
      have hcl : c = l.length := hff hb.1
      rw [List.length_map] at hsrc0
      obtain ⟨val, w', ρ', r1, r2, r3, r4⟩ := append_new (tt := tt) hu hte hty h2 hd2 hH (a := a0) (len := l.length) (c := c) (l0 := l.map enc) (old := old) (by simp) hsrc0 hsrc hcells0 hcells hlc
        (fun h => by
          have hz : zs = [] := by
            rw [List.length_map, hcl] at h
            exact List.eq_nil_of_length_eq_zero (by omega)
          rcases hne with h' | h'
          · subst h'; exact ⟨rfl, by simp [hz], by simpa using hcl⟩
          · exact absurd hz h') (by simpa using hf) (.arr t' enc hc (l ++ zs)) (by simp [Obj.elems]) trivial (fun _ _ _ _ h => by simpa [ObjR] using h)
      rw [List.length_map] at r4
      exact ⟨val, w', _, ρ', env, _, r1, hS.ext r3 (fun _ => .none) r2, r3.step, r4, hK⟩
  · rename_i k off len
    have hobj := hH.obj k
    have go : ∀ (ls ys' : List (List AV)) (o : Go.V.Obj), ArrR T w (H.map (killO k)) ρ k e ls → (hget (H.map (killO k)) k).elems = some (e, ls) → (∀ x, x ∈ ls → ∀ u, u ∈ x → Av (Is k) No u) → (∀ x, x ∈ ys' → ∀ u, u ∈ x → Av (Is k) No u) → ys'.length = ys.length → Cells T w (H.map (killO k)) ρ te.cells ys' new →
        Fits (len + ys.length) te.bytes → o.elems = some (e, (ls.drop off).take len ++ ys') → o.live → o.isBox = none → (∀ w' H' ρ' k, ArrR T w' H' ρ' k e ((ls.drop off).take len ++ ys') → ObjR T w' H' ρ' k o) →
        (K (.own k 0 (len + ys.length)) (killE k env) (hset (H.map (killO k)) k o)) →
        ∃ val w' H' ρ' env' u', (Builtin.append_ #[t, t2] tt #[v, vy]).run P w = .ok val w' ∧ St T w' H' ρ' env' a n ∧ Step B w H ρ w' H' ρ' ∧ RepV T w' H' ρ' u' val ∧ K u' env' H' := by
      intro ls ys' o hA hel hav1 hav2 hyl hcy hf ho hlive hbox hoR hK
      obtain ⟨val, w', ρ', r1, r2, r3, r4⟩ := append_own (tt := tt) hu hte hty h2 hd2 hH.kill (k := k) (off := off) (len := len) (v := v) (ls := ls) (ys := ys') (y := vy) (new := new) hA (elems_len hel) (hr.ext ext_kill .none) (by rw [hyl]; exact hsrc) hcy (by rw [hyl]; exact hf)
        (fun j _ => by rw [hget_map (killO k) rfl]; exact killO_av _) hav1 hav2 o ho hlive hbox hoR
      rw [hyl] at r4
      refine ⟨val, w', _, ρ', killE k env, _, r1, (hS.kill (k := k)).ext r3 (fun s => by rw [get_kill]; exact killV_av) r2, (ext_kill (k := k)).step.trans r3.step, r4, hK⟩
    split at hK
    · rename_i α t' enc hc l hk
      cases hb : Nat.beq t' e with
      | false => rw [hb] at hK; exact hK.elim
      | true =>
        rw [hb] at hK
        have := Nat.eq_of_beq_eq_true hb
        subst this
        obtain ⟨zs, rfl, hf, hK⟩ := hK
        rw [killEK_eq, killHK_eq] at hK
        have hk' : hget (H.map (killO k)) k = .arr t' enc hc l := by rw [hget_map (killO k) rfl, hk]; rfl
        have hobj' := hH.kill (k := k) |>.obj k
        rw [hk'] at hobj'
        have hcl : ∀ (l : List α) (x : List AV), x ∈ l.map enc → ∀ u, u ∈ x → Av (Is k) No u := by
          intro l x hx u hu
          obtain ⟨y, _, rfl⟩ := List.mem_map.1 hx
          exact closed_av (List.all_eq_true.1 (hc y) u hu)
        refine go (l.map enc) (zs.map enc) (.arr t' enc hc ((l.drop off).take len ++ zs)) hobj' (by rw [hk']; rfl) (hcl l) (hcl zs) rfl (Cells.ext (ext_kill (k := k)) hcells (fun _ _ _ _ => .none)) (by simpa using hf) (by simp [Obj.elems, List.map_drop, List.map_take]) trivial rfl (fun _ _ _ _ h => by simpa [ObjR, List.map_drop, List.map_take] using h) (by simpa using hK)
    · rename_i t' ls hk
      cases hb : Nat.beq t' e with
      | false => rw [hb] at hK; exact hK.elim
      | true =>
        rw [hb] at hK
        have := Nat.eq_of_beq_eq_true hb
        subst this
        obtain ⟨hf, hK⟩ := hK
        rw [killEK_eq, killHK_eq] at hK
        have hk' : hget (H.map (killO k)) k = .arrl t' (ls.map fun x => x.map (killC k)) := by rw [hget_map (killO k) rfl, hk]; rfl
        have hobj' := hH.kill (k := k) |>.obj k
        rw [hk'] at hobj'
        have hcl : ∀ (l : List (List AV)) (x : List AV), x ∈ l.map (fun x => x.map (killC k)) → ∀ u, u ∈ x → Av (Is k) No u := by
          intro l x hx u hu
          obtain ⟨y, _, rfl⟩ := List.mem_map.1 hx
          obtain ⟨z, _, rfl⟩ := List.mem_map.1 hu
          exact killC_av
        refine go (ls.map fun x => x.map (killC k)) (ys.map fun x => x.map (killC k)) (.arrl t' (((ls.map fun x => x.map (killC k)).drop off).take len ++ ys.map fun x => x.map (killC k))) hobj' (by rw [hk']; rfl) (hcl ls) (hcl ys) (by simp) ?_ hf rfl trivial rfl (fun _ _ _ _ h => h) hK
        have hc2 := Cells.ext (ext_kill (k := k)) hcells (fun _ _ _ _ => .none)
        refine ⟨by simpa using hc2.len, ?_, ?_⟩
        · intro x hx
          obtain ⟨y, hy, rfl⟩ := List.mem_map.1 hx
          rw [List.length_map]
          exact hc2.sz y hy
        · intro i x hx j u hu
          rw [List.getElem?_map, Option.map_eq_some_iff] at hx
          obtain ⟨y, hy, rfl⟩ := hx
          rw [List.getElem?_map, Option.map_eq_some_iff] at hu
          obtain ⟨z, hz, rfl⟩ := hu
          obtain ⟨val, e1, e2⟩ := hc2.at_ i y hy j z hz
          exact ⟨val, e1, killC_rep e2⟩
    · exact hK.elim
  · exact hK.elim
theorem appendK_ok {t e : TypeId} {tt : TypeId} (hu : P.underlying t = some (.slice e)) {te : TI} (hte : T.look e = some te) (hty : TyR P e te) {t2 e2 : TypeId} (h2 : P.underlying t2 = some (.slice e2)) (hS : St T w H ρ env a n)
    {y : AV} {vy : Value} {K : AV → Env → Heap → Prop} (h : appendK e te u y env H K) (hr : RepV T w H ρ u v) (hry : RepV T w H ρ y vy) :
    ∃ val w' H' ρ' env' u', (Builtin.append_ #[t, t2] tt #[v, vy]).run P w = .ok val w' ∧ St T w' H' ρ' env' a n ∧ Step B w H ρ w' H' ρ' ∧ RepV T w' H' ρ' u' val ∧ K u' env' H' := by
  unfold appendK at h
  obtain ⟨ys, new, hsrc, hcells, hmax, hK⟩ := elemsK_ok (P := P) hte hty.pos hS.heap h hry
  exact appY_ok hu hte hty h2 (.inr ⟨e2, rfl⟩) hS (.inl hsrc) hcells hK hr
end
end Go.V


set_option linter.unusedVariables false
set_option linter.unusedSimpArgs false
namespace Go.V
section
variable {P : Program} {T : Ctx} {w w' w1 w2 : World} {H H' H1 H2 : Heap} {ρ ρ' ρ1 ρ2 : Places} {u u2 : AV} {v v2 : Value} {env : Env} {a : Act} {n : Nat}

/-! ### Calls -/
def ExecF (P : Program) (f : FuncId) (args : Array Value) (w : World) (R : Value → World → Prop) : Prop := match (callFunc f args).run P w with
  | .ok (.value v) w' => R v w'
  | .ok (.enter g as) w' => Calls P g as w' fun e w'' => ∃ v, e = .returned v ∧ R v w''
  | _ => False
theorem ExecF.mono {f : FuncId} {args : Array Value} {R R' : Value → World → Prop} (h : ExecF P f args w R) (hr : ∀ v w', R v w' → R' v w') : ExecF P f args w R' := by
  unfold ExecF at h ⊢
  split at h
  · exact hr _ _ h
  · exact h.mono fun e w' ⟨v, h1, h2⟩ => ⟨v, h1, hr _ _ h2⟩
  · exact h.elim
/-- A call: K at the result, at the arrays that may have moved, at the heap behind. -/
structure VCall (P : Program) (T : Ctx) (f : FuncId) (args : List AV) (H : Heap) (K : AV → List Nat → Heap → Prop) : Prop where
  call : ∀ w ρ vs, HeapR T w H ρ → All2 (RepV T w H ρ) args vs → ExecF P f vs.toArray w fun v w' => ∃ r mv H' ρ', HeapR T w' H' ρ' ∧ RepV T w' H' ρ' r v ∧ Ext (fun k => k ∈ mv) No w H ρ w' H' ρ' ∧ K r mv H'
theorem VCall.mono {f : FuncId} {args : List AV} {K K' : AV → List Nat → Heap → Prop} (h : VCall P T f args H K) (hk : ∀ r mv H', K r mv H' → K' r mv H') : VCall P T f args H K' :=
  ⟨fun w ρ vs h1 h2 => (h.call w ρ vs h1 h2).mono fun v w' ⟨r, mv, H', ρ', a, b, c, d⟩ => ⟨r, mv, H', ρ', a, b, c, hk _ _ _ d⟩⟩

def killMany : List Nat → Env → (Env → Prop) → Prop
  | [], env, K => K env
  | k :: r, env, K => killEK k env fun env => killMany r env K
def killedMany : List Nat → Env → Env
  | [], env => env
  | k :: r, env => killedMany r (killE k env)
theorem killMany_eq : ∀ {ks : List Nat} {env : Env} {K : Env → Prop}, killMany ks env K = K (killedMany ks env)
  | [], _, _ => rfl
  | k :: r, env, K => by simp only [killMany, killEK_eq, killMany_eq, killedMany]
theorem AvA_iff {M N : Nat → Prop} (h : ¬ ∃ cs, u = .agg cs) : AvA M N u ↔ Av M N u := by cases u <;> first | exact Iff.rfl | exact absurd ⟨_, rfl⟩ h
theorem AvV_iff {M N : Nat → Prop} (h : ¬ ∃ cs, u = .tup cs) : AvV M N u ↔ AvA M N u := by cases u <;> first | exact Iff.rfl | exact absurd ⟨_, rfl⟩ h
theorem AvV.lift2 {M N M' N' M1 N1 : Nat → Prop} (h : ∀ u, Av M N u → Av M' N' u → Av M1 N1 u) (h1 : AvV M N u) (h2 : AvV M' N' u) : AvV M1 N1 u := by
  have hA : ∀ {u : AV}, AvA M N u → AvA M' N' u → AvA M1 N1 u := by
    intro u h1 h2
    by_cases ha : ∃ cs, u = .agg cs
    · obtain ⟨cs, rfl⟩ := ha
      exact fun x hx => h x (h1 x hx) (h2 x hx)
    · rw [AvA_iff ha] at h1 h2 ⊢
      exact h u h1 h2
  by_cases ha : ∃ cs, u = .tup cs
  · obtain ⟨cs, rfl⟩ := ha
    exact fun x hx => hA (h1 x hx) (h2 x hx)
  · rw [AvV_iff ha] at h1 h2 ⊢
    exact hA h1 h2
theorem AvV.mono {M M' N : Nat → Prop} (h : ∀ k, M' k → M k) (ha : AvV M N u) : AvV M' N u :=
  AvV.lift2 (fun u h1 _ => by cases u <;> first | exact fun h' => h1 (h _ h') | exact h1) ha ha
theorem AvV.or {M M' N : Nat → Prop} (h : AvV M N u) (h' : AvV M' N u) : AvV (fun k => M k ∨ M' k) N u :=
  AvV.lift2 (fun u h1 h2 => by cases u <;> first | exact fun h' => h'.elim h1 h2 | exact h1) h h'
theorem killV_keeps {M N : Nat → Prop} {k : Nat} (h : AvV M N u) : AvV M N (killV k u) := by
  have hC : ∀ {u : AV}, Av M N u → Av M N (killC k u) := by
    intro u h
    cases u <;> first | exact h | (simp only [killC]; cases Nat.beq _ k <;> first | exact h | trivial)
  have hA : ∀ {u : AV}, AvA M N u → AvA M N (killA k u) := by
    intro u h
    by_cases ha : ∃ cs, u = .agg cs
    · obtain ⟨cs, rfl⟩ := ha
      intro x hx
      obtain ⟨y, hy, rfl⟩ := List.mem_map.1 hx
      exact hC (h y hy)
    · have e : killA k u = killC k u := by cases u <;> first | rfl | exact absurd ⟨_, rfl⟩ ha
      have e2 : ¬ ∃ cs, killC k u = .agg cs := by
        rintro ⟨cs, hcs⟩
        cases u <;> first | exact ha ⟨_, rfl⟩ | (cases hcs; done) | (simp only [killC] at hcs; revert hcs; cases Nat.beq _ k <;> intro h <;> cases h)
      rw [e, AvA_iff e2]
      exact hC ((AvA_iff ha).1 h)
  by_cases ha : ∃ cs, u = .tup cs
  · obtain ⟨cs, rfl⟩ := ha
    intro x hx
    obtain ⟨y, hy, rfl⟩ := List.mem_map.1 hx
    exact hA (h y hy)
  · have e : killV k u = killA k u := by cases u <;> first | rfl | exact absurd ⟨_, rfl⟩ ha
    have e2 : ¬ ∃ cs, killA k u = .tup cs := by
      rintro ⟨cs, hcs⟩
      cases u <;> first | exact ha ⟨_, rfl⟩ | (cases hcs; done) | (simp only [killA, killC] at hcs; revert hcs; cases Nat.beq _ k <;> intro h <;> cases h)
    rw [e, AvV_iff e2]
    exact hA ((AvV_iff ha).1 h)
theorem killedMany_av : ∀ (ks : List Nat) (env : Env) (M : Nat → Prop), (∀ s, AvV M No (get env s)) → ∀ s, AvV (fun k => M k ∨ k ∈ ks) No (get (killedMany ks env) s)
  | [], env, M, h, s => (h s).mono (by rintro k (h | h); exact h; simp at h)
  | k :: r, env, M, h, s => by
    have := killedMany_av r (killE k env) (fun j => M j ∨ j = k) (fun s => by rw [get_kill]; exact (killV_keeps (h s)).or killV_av) s
    refine this.mono ?_
    intro j hj
    simp only [List.mem_cons] at hj
    rcases hj with h | h | h
    · exact .inl (.inl h)
    · exact .inl (.inr h)
    · exact .inr h
theorem killedMany_rep : ∀ (ks : List Nat) (env : Env), (∀ s, RepV T w H ρ (get env s) (a.tmps.getD s Go.undef)) → ∀ s, RepV T w H ρ (get (killedMany ks env) s) (a.tmps.getD s Go.undef)
  | [], env, h => h
  | k :: r, env, h => killedMany_rep r (killE k env) (fun s => by rw [get_kill]; exact killV_rep (h s))
theorem St.killMany (h : St T w H ρ env a n) {mv : List Nat} (e : Ext (fun k => k ∈ mv) No w H ρ w' H' ρ') (hH : HeapR T w' H' ρ') : St T w' H' ρ' (killedMany mv env) a n :=
  ⟨fun s => (killedMany_rep mv env h.slot s).ext e ((killedMany_av mv env No (fun _ => .none) s).mono fun k hk => .inr hk), h.size, hH⟩

/-! ### Operations -/
/-- May it stand among those whose order is open? -/
def softOp : Op → Bool
  | .alloc _ | .box _ _ | .buildSlice _ _ _ | .store _ _ _ => false
  | .call c => (match c.callee with
    | .builtin b => (match b with | .append => false | _ => true)
    | _ => false)
  | _ => true
/-- An operation whose law is given where it is met. -/
structure ExtOp (P : Program) (T : Ctx) (op : Op) (env : Env) (H : Heap) (K : AV → Env → Heap → Prop) : Prop where
  run : ∀ (B : Nat) (w : World) (ρ : Places) (a : Act) (n : Nat) (o : Oper), o.op = op → St T w H ρ env a n →
    Exec P o a w fun v w' => ∃ u env' H' ρ', St T w' H' ρ' env' a n ∧ Step B w H ρ w' H' ρ' ∧ RepV T w' H' ρ' u v ∧ K u env' H' ∧ (softOp op = true → H' = H → Ext No No w H ρ w' H' ρ')
def evL (env : Env) : List Operand → (List AV → Prop) → Prop
  | [], K => K []
  | x :: r, K => force (ev env x) fun v => evL env r fun r => K (v :: r)
theorem evL_eq {env : Env} : ∀ {l : List Operand} {K : List AV → Prop}, evL env l K = K (l.map (ev env))
  | [], _ => rfl
  | x :: r, K => by simp only [evL, force_eq, evL_eq, List.map_cons]
theorem evL_rep (h : St T w H ρ env a n) : ∀ (l : List Operand), All2 (RepV T w H ρ) (l.map (ev env)) (l.map a.eval)
  | [] => .nil
  | x :: r => .cons (ev_rep h x) (evL_rep h r)
def minmaxK (mx : Bool) (vs : List AV) (K : AV → Prop) : Prop := match vs with
  | [.int k x, .int k' y] => bif Nat.beq (kidx k) (kidx k') then (match mx with | true => K (.int k (max x y)) | false => K (.int k (min x y))) else False
  | _ => False
def ev? (env : Env) : Option Operand → (Option Int → Prop) → Prop
  | none, K => K none
  | some x, K => match ev env x with
    | .int _ n => K (some n)
    | _ => False
theorem ev?_ok (h : St T w H ρ env a n) {x : Option Operand} {K : Option Int → Prop} (hk : ev? env x K) : ∃ y, BndR y (x.map a.eval) ∧ K y := by
  cases x with
  | none => exact ⟨none, rfl, hk⟩
  | some x =>
    simp only [ev?] at hk
    have hr := ev_rep h x
    split at hk
    · rename_i k m he
      rw [he] at hr
      exact ⟨some m, ⟨k, by simp [rep_int hr]⟩, hk⟩
    · exact hk.elim

def bopq (tk : TK) (x y : AV) : Bool := match tk with
  | .struct _ => false
  | .other => false
  | .map _ _ => false
  | .func => false
  | .ptr => (match nilq x, nilq y with | some a, some b => a || b | _, _ => true)
  | _ => true
/-- Is it a conversion of integers, of strings? -/
def convq : TK → TK → Bool
  | .int _, .int _ => true
  | .str, .str => true
  | _, _ => false
def callK (P : Program) (T : Ctx) (c : Call) (env : Env) (H : Heap) (K : AV → Env → Heap → Prop) : Prop := match c.callee with
  | .builtin b => evL env c.args.toList fun vs => (match b with
    | .len => (match c.argTypes.toList with
      | [t] => (match vs with
        | [x] => (match T.look t with | some ti => lenK ti.kind x fun v => K v env H | none => False)
        | _ => False)
      | _ => False)
    | .append => (match c.argTypes.toList with
      | [t, t2] => (match vs with
        | [x, y] => (match T.look t with
          | some ⟨_, _, .slice e, _⟩ => (match T.look t2 with
            | some ⟨_, _, .slice _, _⟩ => (match T.look e with
              | some te => appendK e te x y env H K
              | none => False)
            | _ => ExtOp P T (.call c) env H K)
          | _ => False)
        | _ => False)
      | _ => False)
    | .min => minmaxK false vs fun v => K v env H
    | .max => minmaxK true vs fun v => K v env H
    | _ => ExtOp P T (.call c) env H K)
  | .value f => (match ev env f with
    | .fn g first caps => evL env c.args.toList fun vs => VCall P T g (first ++ vs ++ caps) H fun r mv H => killMany mv env fun env => K r env H
    | _ => False)
  | _ => False

def opK (P : Program) (T : Ctx) (o : Op) (env : Env) (H : Heap) (K : AV → Env → Heap → Prop) : Prop := match o with
  | .move x => force (ev env x) fun v => K v env H
  | .assign x => force (ev env x) fun v => K v env H
  | .pick c x y => boolK (ev env c) (force (ev env x) fun v => K v env H) (force (ev env y) fun v => K v env H)
  | .alloc t => (match T.look t with
    | some ti => forceL ti.zero fun cs => K (.box (List.length H) 0) env (H ++ [.box t cs])
    | none => False)
  | .box t x => force (ev env x) fun v => (match T.look t with
    | some ti => bif okv v && Nat.beq (cellsOf v).length ti.cells then forceL (cellsOf v) fun cs => K (.box (List.length H) 0) env (H ++ [.box t cs]) else False
    | none => False)
  | .build t parts => (match T.look t with
    | some ti => evL env (parts.toList.map (·.2)) fun vs => bldK ti ((parts.toList.map (·.1)).zip vs) fun v => K v env H
    | none => False)
  | .buildSlice t len parts => (match T.look t with
    | some ⟨_, _, .slice e, _⟩ => (match T.look e with
      | some te => bif idxOk 0 parts.toList then evL env (parts.toList.map (·.2)) fun vs => bslK e te len vs H fun v H => K v env H else False
      | none => False)
    | _ => False)
  | .load t x => (match T.look t with | some ti => loadK ti (ev env x) H fun v => K v env H | none => False)
  | .store t x y => force (ev env y) fun v => (match T.look t with | some ti => storeK ti (ev env x) v H fun H => K .undef env H | none => False)
  | .nilCheck x => force (ev env x) fun v => (match nilq v with | some false => K v env H | _ => False)
  | .binOp op t x y yt => (match T.look t with
    | some ti => (match bopq ti.kind (ev env x) (ev env y) with | true => bopK op ti.kind (ev env x) (ev env y) fun v => K v env H | false => ExtOp P T (.binOp op t x y yt) env H K)
    | none => False)
  | .unOp op _ x => unK op (ev env x) fun v => K v env H
  | .convert s d x => (match T.look s with
    | some ts => (match T.look d with
      | some td => (match convq ts.kind td.kind with | true => convK ts.kind td.kind (ev env x) fun v => K v env H | false => ExtOp P T (.convert s d x) env H K)
      | none => False)
    | none => False)
  | .makeFunc fn first caps => (match fn with
    | .func f => evL env first.toList fun fs => evL env caps.toList fun cs => bif fs.all isBoxV && cs.all isBoxV then K (.fn f fs cs) env H else False
    | _ => False)
  | .slice t x lo hi mx => (match T.look t with
    | some ti => ev? env lo fun lo => ev? env hi fun hi => ev? env mx fun mx => force (ev env x) fun x => (match ti.kind with
      | .str => cutK (H := H) .str x lo hi mx fun v => K v env H
      | .slice e => (match T.look e with | some _ => cutK (H := H) (.slice e) x lo hi mx fun v => K v env H | none => False)
      | _ => False)
    | none => False)
  | .fieldAddr t x f => (match T.look t with | some ti => fieldK ti (ev env x) f fun v => K v env H | none => False)
  | .indexAddr t x i => (match T.look t with
    | some ⟨_, _, .slice e, _⟩ => (match T.look e with | some _ => idxK e (ev env x) (ev env i) H fun v => K v env H | none => False)
    | _ => False)
  | .index t x i => (match T.look t with
    | some ⟨_, _, .str, _⟩ => strIdxK (ev env x) (ev env i) fun v => K v env H
    | _ => False)
  | .extract x i => extK (ev env x) i fun v => K v env H
  | .call c => callK P T c env H K
  | o => ExtOp P T o env H K
end
end Go.V


set_option linter.unusedVariables false
set_option linter.unusedSimpArgs false
namespace Go.V
section
variable {P : Program} {T : Ctx} {w w' w1 w2 : World} {H H' H1 H2 : Heap} {ρ ρ' ρ1 ρ2 : Places} {u u2 : AV} {v v2 : Value} {env : Env} {a : Act} {n B : Nat}

theorem exec_val {o : Oper} {R : Value → World → Prop} (h : (execOp a.eval o).run P w = .ok (.value v) w') (hr : R v w') : Exec P o a w R := by unfold Exec; rw [h]; exact hr
theorem exec_skip {o : Oper} {R : Value → World → Prop} (h : (execOp a.eval o).run P w = .ok .skip w') (hr : R Go.undef w') : Exec P o a w R := by unfold Exec; rw [h]; exact hr
/-- What an operation's soundness comes to. -/
def Out (B : Nat) (T : Ctx) (w : World) (H : Heap) (ρ : Places) (a : Act) (n : Nat) (K : AV → Env → Heap → Prop) (val : Value) (w' : World) : Prop :=
  ∃ u env' H' ρ', St T w' H' ρ' env' a n ∧ Step B w H ρ w' H' ρ' ∧ RepV T w' H' ρ' u val ∧ K u env' H'
theorem ExtOp.out {o : Oper} {K : AV → Env → Heap → Prop} (h : ExtOp P T o.op env H K) (hS : St T w H ρ env a n) : Exec P o a w (Out B T w H ρ a n K) :=
  (h.run B w ρ a n o rfl hS).mono fun _ _ ⟨u, e, H', ρ', k1, k2, k3, k4, _⟩ => ⟨u, e, H', ρ', k1, k2, k3, k4⟩
theorem Out.same {K : AV → Env → Heap → Prop} (hS : St T w H ρ env a n) (hr : RepV T w H ρ u v) (hk : K u env H) : Out B T w H ρ a n K v w := ⟨u, env, H, ρ, hS, .refl, hr, hk⟩
theorem minmax_ok {mx : Bool} {us : List AV} {vs : List Value} {K : AV → Prop} (h : minmaxK mx us K) (hv : All2 (RepV T w H ρ) us vs) (ts : Array TypeId) (t : TypeId) :
    ∃ val u', (match mx with | true => Builtin.max_ ts t vs.toArray | false => Builtin.min_ ts t vs.toArray).run P w = .ok val w ∧ RepV T w H ρ u' val ∧ K u' := by
  unfold minmaxK at h
  split at h
  · rename_i k x k' y
    cases hb : Nat.beq (kidx k) (kidx k') with
    | false => rw [hb] at h; exact h.elim
    | true =>
      rw [hb] at h
      have := kidx_inj hb
      subst this
      cases hv with
      | cons h1 hv =>
        cases hv with
        | cons h2 hv =>
          cases hv
          have e1 := rep_int h1
          have e2 := rep_int h2
          subst e1; subst e2
          cases mx with
          | true =>
            refine ⟨.int k (max x y), .int k (max x y), ?_, .inte _ _, h⟩
            simp [Builtin.max_, Builtin.max2]
            omega
          | false =>
            refine ⟨.int k (min x y), .int k (min x y), ?_, .inte _ _, h⟩
            simp [Builtin.min_, Builtin.min2]
            omega
  · exact h.elim
theorem all2_append_toArray {xs ys zs : List Value} : (xs ++ ys ++ zs).toArray = xs.toArray ++ ys.toArray ++ zs.toArray := by simp
theorem caps_back : ∀ {us : List AV} {vs : List Value}, All2 (CapR T w H ρ) us vs → All2 (RepV T w H ρ) us vs
  | _, _, .nil => .nil
  | _, _, .cons h hs => by
    refine .cons ?_ (caps_back hs)
    rename_i u v _ _
    cases u <;> simp only [CapR] at h <;> exact h
theorem idxOk_zip : ∀ {l : List (Nat × Operand)} {m : Nat}, idxOk m l = true → ∀ f : Operand → Value, l.map (fun x => (x.1, f x.2)) = ((l.map fun x => f x.2).zipIdx m).map fun x => (x.2, x.1)
  | [], _, _, _ => rfl
  | (i, x) :: r, m, h, f => by
    simp only [idxOk, Bool.and_eq_true] at h
    have := Nat.eq_of_beq_eq_true h.1
    subst this
    simp [idxOk_zip h.2 f]
theorem opK_ok (hT : treeOk P T = true) (hS : St T w H ρ env a n) (o : Oper) {K : AV → Env → Heap → Prop} (h : opK P T o.op env H K) : Exec P o a w (Out B T w H ρ a n K) := by
  have hH := hS.heap
  cases ho : o.op with
  | move x =>
    rw [ho] at h
    simp only [opK, force_eq] at h
    exact exec_val (v := a.eval x) (w' := w) (by simp [execOp, ho]) (.same hS (ev_rep hS x) h)
  | assign x =>
    rw [ho] at h
    simp only [opK, force_eq] at h
    exact exec_val (v := a.eval x) (w' := w) (by simp [execOp, ho]) (.same hS (ev_rep hS x) h)
  | pick c x y =>
    rw [ho] at h
    simp only [opK, force_eq] at h
    obtain ⟨b, hb, hk⟩ := boolK_ok h (ev_rep hS c)
    cases b with
    | true => exact exec_val (v := a.eval x) (w' := w) (by simp [execOp, ho, hb, asBool]) (.same hS (ev_rep hS x) (by simpa using hk))
    | false => exact exec_val (v := a.eval y) (w' := w) (by simp [execOp, ho, hb, asBool]) (.same hS (ev_rep hS y) (by simpa using hk))
  | alloc t =>
    rw [ho] at h
    simp only [opK] at h
    split at h
    · rename_i ti hti
      rw [forceL_eq] at h
      have ht := look_ty hT hti
      obtain ⟨z, hz, hzz, hzs⟩ := zero_run (w := w) ht
      obtain ⟨r1, r2, r3⟩ := newVar_ok hH t ti.zero z.cells ((zeqs_rep hzz).mono fun _ _ h => h.rep1)
      refine exec_val (v := .pointer (some ⟨w.heap.size, 0, none⟩)) (w' := w.alloc (.cells z.cells t)) ?_ ⟨_, env, _, _, hS.ext r2 (fun _ => .none) r1, r2.step, r3, h⟩
      simp [execOp, ho, Instr.alloc, hz, newVar, newRow]
    · exact h.elim
  | box t x =>
    rw [ho] at h
    simp only [opK, force_eq] at h
    split at h
    · rename_i ti hti
      have ht := look_ty hT hti
      cases hb : okv (ev env x) && Nat.beq (cellsOf (ev env x)).length ti.cells with
      | false => rw [hb] at h; exact h.elim
      | true =>
        rw [hb] at h
        simp only [cond_true, forceL_eq] at h
        simp only [Bool.and_eq_true] at hb
        obtain ⟨r1, r2, r3⟩ := newVar_ok hH t _ (a.eval x).cells (cells_rep (ev_rep hS x) hb.1)
        refine exec_val (v := .pointer (some ⟨w.heap.size, 0, none⟩)) (w' := w.alloc (.cells (a.eval x).cells t)) ?_ ⟨_, env, _, _, hS.ext r2 (fun _ => .none) r1, r2.step, r3, h⟩
        simp [execOp, ho, Instr.box, newVar, newRow]
    · exact h.elim
  | build t parts =>
    rw [ho] at h
    simp only [opK, evL_eq] at h
    split at h
    · rename_i ti hti
      have ht := look_ty hT hti
      have hv : ∀ (l : List (Nat × Operand)), All2 (fun (x : Nat × AV) (y : Nat × Value) => x.1 = y.1 ∧ RepV T w H ρ x.2 y.2) ((l.map (·.1)).zip ((l.map (·.2)).map (ev env))) (l.map fun x => (x.1, a.eval x.2)) := by
        intro l
        induction l with
        | nil => exact .nil
        | cons x r ih => exact .cons ⟨rfl, ev_rep hS x.2⟩ ih
      obtain ⟨val, u', r1, r2, r3⟩ := bldK_ok (P := P) ht (vs := parts.map fun (i, x) => (i, a.eval x)) h (by simpa using hv parts.toList)
      exact exec_val (v := val) (w' := w) (by simp only [execOp, ho, Sem.run_bind, r1, Result.andThen_ok, Sem.run_pure]) (.same hS r2 r3)
    · exact h.elim
  | buildSlice t len parts =>
    rw [ho] at h
    simp only [opK] at h
    split at h
    · rename_i c b e z hti
      have ht := look_ty hT hti
      split at h
      · rename_i te hte
        have hty := look_ty hT hte
        cases hb : idxOk 0 parts.toList with
        | false => rw [hb] at h; exact h.elim
        | true =>
          rw [hb] at h
          simp only [cond_true, evL_eq] at h
          obtain ⟨val, w', u', H', ρ', r1, r2, r3, r4, r5, _⟩ := bslK_ok (P := P) (ty_slice ht rfl) hte hty hH h (by have := evL_rep hS (parts.toList.map (·.2)); exact this)
          refine exec_val (v := val) (w' := w') ?_ ⟨u', env, H', ρ', hS.ext r3 (fun _ => .none) r2, r3.step, r4, r5⟩
          have hz := idxOk_zip hb a.eval
          have he : (parts.map fun (i, x) => (i, a.eval x)) = ((((parts.toList.map (·.2)).map a.eval).zipIdx 0).map fun x => (x.2, x.1)).toArray := by
            apply Array.ext'
            simpa [Function.comp_def] using hz
          simp only [execOp, ho, Sem.run_bind]
          rw [he, r1]
          rfl
      · exact h.elim
    · exact h.elim
  | load t x =>
    rw [ho] at h
    simp only [opK] at h
    split at h
    · rename_i ti hti
      obtain ⟨val, u', r1, r2, r3⟩ := loadK_ok (P := P) (look_ty hT hti) hH h (ev_rep hS x)
      exact exec_val (v := val) (w' := w) (by simp only [execOp, ho, Sem.run_bind, r1, Result.andThen_ok, Sem.run_pure]) (.same hS r2 r3)
    · exact h.elim
  | store t x y =>
    rw [ho] at h
    simp only [opK, force_eq] at h
    split at h
    · rename_i ti hti
      obtain ⟨w', H', r1, r2, r3, r4⟩ := storeK_ok (P := P) (look_ty hT hti) hH h (ev_rep hS x) (ev_rep hS y)
      exact exec_skip (w' := w') (by simp only [execOp, ho, Sem.run_bind, r1, Result.andThen_ok, Sem.run_pure]) ⟨.undef, env, H', ρ, hS.ext r3 (fun _ => .none) r2, r3.step, trivial, r4⟩
    · exact h.elim
  | nilCheck x =>
    rw [ho] at h
    simp only [opK, force_eq] at h
    split at h
    · rename_i hq
      obtain ⟨p, hp, hn⟩ := nilq_ok hq (ev_rep hS x)
      cases p with
      | none => simp at hn
      | some p => exact exec_val (v := a.eval x) (w' := w) (by simp [execOp, ho, hp]) (.same hS (ev_rep hS x) h)
    · exact h.elim
  | binOp op t x y yt =>
    rw [ho] at h
    simp only [opK] at h
    split at h
    · rename_i ti hti
      split at h
      · obtain ⟨val, u', r1, r2, r3⟩ := bopK_ok (P := P) (look_ty hT hti) h (ev_rep hS x) (ev_rep hS y) x y
        exact exec_val (v := val) (w' := w) (by
          simp only [execOp, ho]
          simp only [Sem.run_bind] at r1 ⊢
          rw [r1]
          rfl) (.same hS r2 r3)
      · exact ExtOp.out (by rw [ho]; exact h) hS
    · exact h.elim
  | unOp op t x =>
    rw [ho] at h
    simp only [opK] at h
    obtain ⟨val, u', r1, r2, r3⟩ := unK_ok (P := P) h (ev_rep hS x)
    exact exec_val (v := val) (w' := w) (by simp only [execOp, ho, Sem.run_bind, r1, Result.andThen_ok, Sem.run_pure]) (.same hS r2 r3)
  | convert s d x =>
    rw [ho] at h
    simp only [opK] at h
    split at h
    · rename_i ts hts
      split at h
      · rename_i td htd
        split at h
        · obtain ⟨val, u', r1, r2, r3⟩ := convK_ok (P := P) (look_ty hT hts) (look_ty hT htd) h (ev_rep hS x)
          exact exec_val (v := val) (w' := w) (by simp only [execOp, ho, Sem.run_bind, r1, Result.andThen_ok, Sem.run_pure]) (.same hS r2 r3)
        · exact ExtOp.out (by rw [ho]; exact h) hS
      · exact h.elim
    · exact h.elim
  | makeFunc fn first caps =>
    rw [ho] at h
    simp only [opK] at h
    split at h
    · rename_i f
      simp only [evL_eq] at h
      cases hb : (first.toList.map (ev env)).all isBoxV && (caps.toList.map (ev env)).all isBoxV with
      | false => rw [hb] at h; exact h.elim
      | true =>
        rw [hb] at h
        simp only [Bool.and_eq_true] at hb
        refine exec_val (v := .func (.func f) (first.map a.eval) (caps.map a.eval)) (w' := w) (by simp [execOp, ho, Instr.makeFunc]) (.same (u := .fn f _ _) hS ?_ h)
        exact ⟨_, _, rfl, by simpa using caps_rep hb.1 (evL_rep hS first.toList), by simpa using caps_rep hb.2 (evL_rep hS caps.toList)⟩
    · exact h.elim
  | slice t x lo hi mx =>
    rw [ho] at h
    simp only [opK] at h
    split at h
    · rename_i ti hti
      have ht := look_ty hT hti
      obtain ⟨lo', e1, h⟩ := ev?_ok hS h
      obtain ⟨hi', e2, h⟩ := ev?_ok hS h
      obtain ⟨mx', e3, h⟩ := ev?_ok hS h
      rw [force_eq] at h
      have key : ∀ (tk : TK), ti.kind = tk → (∀ e, tk = .slice e → ∃ ti, T.look e = some ti) → cutK (H := H) tk (ev env x) lo' hi' mx' (fun v => K v env H) → Exec P o a w (Out B T w H ρ a n K) := by
        intro tk hk hlk hc
        subst hk
        obtain ⟨val, u', r1, r2, r3⟩ := cutK_ok (P := P) ht (fun e he => let ⟨ti, h⟩ := hlk e he; ⟨ti, h, look_ty hT h⟩) e1 e2 e3 (ev_rep hS x) hc
        exact exec_val (v := val) (w' := w) (by simp only [execOp, ho, Sem.run_bind, r1, Result.andThen_ok, Sem.run_pure]) (.same hS r2 r3)
      split at h
      · rename_i hk
        exact key _ hk (by simp) h
      · rename_i e hk
        split at h
        · rename_i te hte
          exact key _ hk (by rintro e' ⟨⟩; exact ⟨te, hte⟩) h
        · exact h.elim
      · exact h.elim
    · exact h.elim
  | fieldAddr t x f =>
    rw [ho] at h
    simp only [opK] at h
    split at h
    · rename_i ti hti
      obtain ⟨val, u', r1, r2, r3⟩ := fieldK_ok (P := P) (look_ty hT hti) h (ev_rep hS x)
      exact exec_val (v := val) (w' := w) (by simp only [execOp, ho, Sem.run_bind, r1, Result.andThen_ok, Sem.run_pure]) (.same hS r2 r3)
    · exact h.elim
  | indexAddr t x i =>
    rw [ho] at h
    simp only [opK] at h
    split at h
    · rename_i c b e z hti
      split at h
      · rename_i te hte
        obtain ⟨val, u', r1, r2, r3⟩ := idxK_ok (P := P) (ty_slice (look_ty hT hti) rfl) hte (look_ty hT hte) hH h (ev_rep hS x) (ev_rep hS i)
        exact exec_val (v := val) (w' := w) (by simp only [execOp, ho, Sem.run_bind, r1, Result.andThen_ok, Sem.run_pure]) (.same hS r2 r3)
      · exact h.elim
    · exact h.elim
  | index t x i =>
    rw [ho] at h
    simp only [opK] at h
    split at h
    · rename_i c b z hti
      obtain ⟨val, u', r1, r2, r3⟩ := strIdxK_ok (P := P) (ty_str (look_ty hT hti) rfl) h (ev_rep hS x) (ev_rep hS i)
      exact exec_val (v := val) (w' := w) (by simp only [execOp, ho, Sem.run_bind, r1, Result.andThen_ok, Sem.run_pure]) (.same hS r2 r3)
    · exact h.elim
  | extract x i =>
    rw [ho] at h
    simp only [opK] at h
    obtain ⟨val, u', r1, r2, r3⟩ := extK_ok (P := P) h (ev_rep hS x)
    exact exec_val (v := val) (w' := w) (by simp only [execOp, ho, Sem.run_bind, r1, Result.andThen_ok, Sem.run_pure]) (.same hS r2 r3)
  | call c =>
    rw [ho] at h
    simp only [opK, callK] at h
    have hargs := evL_rep hS c.args.toList
    have hat : (c.args.toList.map a.eval).toArray = c.args.map a.eval := by apply Array.ext'; simp
    split at h
    · rename_i b hcal
      simp only [evL_eq] at h
      have hexec : ∀ (S : Sem Value) (val : Value) (w1 : World), (∀ cs, builtin b c.argTypes o.type cs (c.args.map a.eval) = (do pure (.value (← S)))) → S.run P w = .ok val w1 → (execOp a.eval o).run P w = .ok (.value val) w1 := by
        intro S val w1 hb hs
        simp only [execOp, ho, resolve, hcal, Sem.run_bind, Sem.run_pure, Result.andThen_ok, invoke, hb, hs]
      split at h
      · split at h
        · rename_i t ht
          split at h
          · rename_i x hx
            split at h
            · rename_i ti hti
              cases hl : c.args.toList with
              | nil => rw [hl] at hx; simp at hx
              | cons y r =>
                rw [hl] at hx
                simp only [List.map_cons, List.cons.injEq, List.map_eq_nil_iff] at hx
                obtain ⟨rfl, rfl⟩ := hx
                obtain ⟨val, u', r1, r2, r3⟩ := lenK_ok (P := P) (ty := o.type) (look_ty hT hti) hH h (ev_rep hS y)
                refine exec_val (v := val) (w' := w) (hexec _ val w (fun _ => rfl) ?_) (.same hS r2 r3)
                rw [← hat, hl]
                rw [show c.argTypes = #[t] from Array.ext' ht]
                exact r1
            · exact h.elim
          · exact h.elim
        · exact h.elim
      · split at h
        · rename_i t t2 ht
          split at h
          · rename_i x y hx
            split at h
            · rename_i c1 b1 e z1 hti
              split at h
              · rename_i c2 b2 e2 z2 hti2
                split at h
                · rename_i te hte
                  cases hl : c.args.toList with
                  | nil => rw [hl] at hx; simp at hx
                  | cons y1 r =>
                    cases r with
                    | nil => rw [hl] at hx; simp at hx
                    | cons y2 r =>
                    rw [hl] at hx
                    simp only [List.map_cons, List.cons.injEq, List.map_eq_nil_iff] at hx
                    obtain ⟨rfl, rfl, rfl⟩ := hx
                    obtain ⟨val, w', H', ρ', env', u', r1, r2, r3, r4, r5⟩ := appendK_ok (P := P) (tt := o.type) (ty_slice (look_ty hT hti) rfl) hte (look_ty hT hte) (ty_slice (look_ty hT hti2) rfl) hS h (ev_rep hS y1) (ev_rep hS y2)
                    refine exec_val (v := val) (w' := w') (hexec _ val w' (fun _ => rfl) ?_) ⟨u', env', H', ρ', r2, r3, r4, r5⟩
                    rw [← hat, hl]
                    rw [show c.argTypes = #[t, t2] from Array.ext' ht]
                    exact r1
                · exact h.elim
              · exact ExtOp.out (by rw [ho]; exact h) hS
            · exact h.elim
          · exact h.elim
        · exact h.elim
      · obtain ⟨val, u', r1, r2, r3⟩ := minmax_ok (P := P) h hargs c.argTypes o.type
        rw [hat] at r1
        exact exec_val (v := val) (w' := w) (hexec _ val w (fun _ => rfl) r1) (.same hS r2 r3)
      · obtain ⟨val, u', r1, r2, r3⟩ := minmax_ok (P := P) h hargs c.argTypes o.type
        rw [hat] at r1
        exact exec_val (v := val) (w' := w) (hexec _ val w (fun _ => rfl) r1) (.same hS r2 r3)
      · exact ExtOp.out (by rw [ho]; exact h) hS
    · rename_i f hcal
      split at h
      · rename_i g first caps hf
        simp only [evL_eq] at h
        have hr := ev_rep hS f
        rw [hf] at hr
        obtain ⟨fs, cs, e1, e2, e3⟩ := hr
        have hall : All2 (RepV T w H ρ) (first ++ c.args.toList.map (ev env) ++ caps) (fs.toList ++ c.args.toList.map a.eval ++ cs.toList) := ((caps_back e2).append hargs).append (caps_back e3)
        have hc := h.call w ρ _ hH hall
        have harr : (fs.toList ++ c.args.toList.map a.eval ++ cs.toList).toArray = fs ++ c.args.map a.eval ++ cs := by apply Array.ext'; simp
        rw [harr] at hc
        have hrun : (execOp a.eval o).run P w = (callFunc g (fs ++ c.args.map a.eval ++ cs)).run P w := by
          simp only [execOp, ho, resolve, hcal, e1, Deferred.ofValue, Sem.run_bind, Sem.run_pure, Result.andThen_ok, invoke]
        have hfin : ∀ val w', (∃ r mv H' ρ', HeapR T w' H' ρ' ∧ RepV T w' H' ρ' r val ∧ Ext (fun k => k ∈ mv) No w H ρ w' H' ρ' ∧ killMany mv env fun env => K r env H') → Out B T w H ρ a n K val w' := by
          rintro val w' ⟨r, mv, H', ρ', k1, k2, k3, k4⟩
          rw [killMany_eq] at k4
          exact ⟨r, _, H', ρ', hS.killMany k3 k1, k3.step, k2, k4⟩
        unfold Exec
        rw [hrun]
        unfold ExecF at hc
        split at hc
        · rename_i e; rw [e]; exact hfin _ _ hc
        · rename_i e; rw [e]; exact hc.mono fun e w' ⟨v, h1, h2⟩ => ⟨v, h1, hfin _ _ h2⟩
        · exact hc.elim
      · exact h.elim
    · exact h.elim
  | _ => exact ExtOp.out (by rw [ho]; rw [ho] at h; exact h) hS
end
end Go.V

