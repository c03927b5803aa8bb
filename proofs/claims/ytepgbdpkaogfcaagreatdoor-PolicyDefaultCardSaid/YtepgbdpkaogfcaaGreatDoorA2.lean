/-
  An own logic of abstract values and what is proved with it: the bench texts V7, V8, V9, V10, V11, V12.
-/
import Derived.Test.YtepgbdpkaogfcaaGreatDoorA1
import Derived.Laws.Append
import Derived.Laws.Tables
set_option linter.unusedVariables false
set_option linter.unusedSimpArgs false
namespace Go.V
section
variable {P : Program} {T : Ctx} {w : World} {H : Heap} {ρ : Places} {u u2 : AV} {v v2 : Value}

/-! ### Cutting -/
/-- A bound that may be missing: its number, if any. -/
def bndK (x : Option AV) (K : Option Int → Prop) : Prop := match x with
  | none => K none
  | some (.int _ n) => K (some n)
  | some _ => False
def strCutK (s : List UInt8) (lo hi : Option Int) (K : AV → Prop) : Prop := match lo with
  | none => (match hi with
    | none => K (.str s)
    | some h => Ob (0 ≤ h ∧ h ≤ (s.length : Int)) (K (.str (s.take h.toNat))))
  | some l => (match hi with
    | none => Ob (0 ≤ l ∧ l ≤ (s.length : Int)) (K (.str (s.drop l.toNat)))
    | some h => Ob (0 ≤ l ∧ l ≤ h ∧ h ≤ (s.length : Int)) (K (.str ((s.take h.toNat).drop l.toNat))))
def sltCutK {α : Type} (full : Bool) (t : TypeId) (enc : α → List AV) (s : List α) (lo hi mx : Option Int) (K : AV → Prop) : Prop := match lo with
  | none => (match hi with
    | none => (match mx with | none => K (.slt full t enc s) | some _ => False)
    | some h => (match mx with
      | none => Ob (0 ≤ h ∧ h ≤ (s.length : Int)) (K (.slt false t enc (s.take h.toNat)))
      | some m => Ob (0 ≤ h ∧ h = m ∧ h ≤ (s.length : Int)) (K (.slt true t enc (s.take h.toNat)))))
  | some l => (match hi with
    | none => (match mx with | none => Ob (0 ≤ l ∧ l ≤ (s.length : Int)) (K (.slt full t enc (s.drop l.toNat))) | some _ => False)
    | some h => (match mx with
      | none => Ob (0 ≤ l ∧ l ≤ h ∧ h ≤ (s.length : Int)) (K (.slt false t enc ((s.take h.toNat).drop l.toNat)))
      | some m => Ob (0 ≤ l ∧ l ≤ h ∧ h = m ∧ h ≤ (s.length : Int)) (K (.slt true t enc ((s.take h.toNat).drop l.toNat)))))
def ownCutK (k off len : Nat) (lo hi mx : Option Int) (K : AV → Prop) : Prop := match mx with
  | some _ => False
  | none => (match lo with
    | none => (match hi with
      | none => K (.own k off len)
      | some h => Ob (0 ≤ h ∧ h ≤ (len : Int)) (K (.own k off h.toNat)))
    | some l => (match hi with
      | none => Ob (0 ≤ l ∧ l ≤ (len : Int)) (K (.own k (off + l.toNat) (len - l.toNat)))
      | some h => Ob (0 ≤ l ∧ l ≤ h ∧ h ≤ (len : Int)) (K (.own k (off + l.toNat) (h.toNat - l.toNat)))))
def nilCutK (lo hi : Option Int) (K : AV → Prop) : Prop := Ob (lo.getD 0 = 0 ∧ hi.getD 0 = 0) (K .nils)
def cutK (tk : TK) (x : AV) (lo hi mx : Option Int) (K : AV → Prop) : Prop := match tk with
  | .str => (match x with
    | .str s => (match mx with | none => strCutK s lo hi K | some _ => False)
    | _ => False)
  | .slice e => (match x with
    | .slt full t enc l => bif Nat.beq t e then sltCutK full t enc l lo hi mx K else False
    | .own k off len => bif eltIs H k e then ownCutK k off len lo hi mx K else False
    | .nils => (match mx with | none => nilCutK lo hi K | some _ => False)
    | _ => False)
  | _ => False

theorem bnd_run {n : Int} {k : IntKind} (y : Nat) (c : BoundsCode) (h0 : 0 ≤ n) (h1 : n ≤ y) : (Instr.sliceBound (.int k n) y c).run P w = .ok n.toNat w := by
  simp [Instr.sliceBound, asIntOf, h0, h1]
theorem bs_extract (s : List UInt8) (l h : Nat) : (bs s).extract l h = bs ((s.take h).drop l) := by
  rw [Lib.extract_eq]
  unfold bs
  congr 1
  simp [List.drop_take]
/-- What the bounds of a cut come to. -/
def BndR (x : Option Int) (v : Option Value) : Prop := match x with
  | none => v = none
  | some n => ∃ k, v = some (.int k n)
theorem strCut_ok {t : TypeId} (hu : P.underlying t = some .string) {s : List UInt8} (hs : s.length ≤ maxS) {lo hi : Option Int} {vlo vhi : Option Value} (hlo : BndR lo vlo) (hhi : BndR hi vhi) {K : AV → Prop} (h : strCutK s lo hi K) :
    ∃ val u', (Instr.sliceAt t (.string (bs s)) vlo vhi none).run P w = .ok val w ∧ RepV T w H ρ u' val ∧ K u' := by
  have hrep : ∀ s' : List UInt8, s'.length ≤ s.length → RepV T w H ρ (.str s') (.string (bs s')) := fun s' h => RepF.str s' (by omega)
  have hmax : (Option.isSome (none : Option Value)) = false := rfl
  unfold strCutK at h
  split at h
  · simp only [BndR] at hlo
    subst hlo
    split at h
    · simp only [BndR] at hhi
      subst hhi
      exact ⟨.string (bs s), .str s, by simp [Instr.sliceAt, Instr.slice, run_underlying hu, Instr.sliceBounds, bs_extract, bs_size], hrep s (Nat.le_refl _), h⟩
    · rename_i n
      obtain ⟨k, rfl⟩ := hhi
      obtain ⟨⟨h0, h1⟩, h2⟩ := h
      exact ⟨.string (bs (s.take n.toNat)), .str _, by simp [Instr.sliceAt, Instr.slice, run_underlying hu, Instr.sliceBounds, bs_extract, bs_size, bnd_run _ _ h0 h1], hrep _ (by simp; omega), h2⟩
  · rename_i l
    obtain ⟨k, rfl⟩ := hlo
    split at h
    · simp only [BndR] at hhi
      subst hhi
      obtain ⟨⟨h0, h1⟩, h2⟩ := h
      exact ⟨.string (bs (s.drop l.toNat)), .str _, by simp [Instr.sliceAt, Instr.slice, run_underlying hu, Instr.sliceBounds, bs_extract, bs_size, bnd_run _ _ h0 h1], hrep _ (by simp), h2⟩
    · rename_i n
      obtain ⟨k', rfl⟩ := hhi
      obtain ⟨⟨h0, h1, h1'⟩, h2⟩ := h
      have hb := bnd_run (P := P) (w := w) (k := k) (n := l) n.toNat .sliceB h0 (by omega)
      exact ⟨.string (bs ((s.take n.toNat).drop l.toNat)), .str _, by simp [Instr.sliceAt, Instr.slice, run_underlying hu, Instr.sliceBounds, bs_extract, bs_size, bnd_run (n := n) _ _ (by omega) h1', hb], hrep _ (by simp; omega), h2⟩
/-- A cut of a slice, run. -/
theorem sliceRun {t e : TypeId} (hu : P.underlying t = some (.slice e)) {ti : TI} (hty : TyR P e ti) (a : Option Addr) (len c : Nat) {lo hi mx : Option Int} {vlo vhi vmx : Option Value} (hlo : BndR lo vlo) (hhi : BndR hi vhi) (hmx : BndR mx vmx)
    (l h m : Nat) (h1 : l ≤ h) (h2 : h ≤ m) (h3 : m ≤ c) (e1 : lo.getD 0 = (l : Int)) (e2 : hi.getD (len : Int) = (h : Int)) (e3 : mx.getD (c : Int) = (m : Int)) (e4 : mx.isSome = true → hi.isSome = true) :
    (Instr.sliceAt t (.slice a len c) vlo vhi vmx).run P w = .ok (.slice (if m = l then a else a.map (·.add (l * ti.cells))) (h - l) (m - l)) w := by
  have hb : ∀ (n : Int) (k : IntKind) (y : Nat) (c : BoundsCode) (j : Nat), n = (j : Int) → j ≤ y → (Instr.sliceBound (.int k n) y c).run P w = .ok j w := by
    intro n k y c j hn hj
    rw [bnd_run y c (by omega) (by omega), hn]
    simp
  have hbounds : (Instr.sliceBounds true len c vlo vhi vmx).run P w = .ok (l, h, m) w := by
    unfold Instr.sliceBounds
    cases mx with
    | none =>
      simp only [BndR] at hmx
      subst hmx
      simp only [Option.getD_none] at e3
      cases hi with
      | none =>
        simp only [BndR] at hhi
        subst hhi
        simp only [Option.getD_none] at e2
        cases lo with
        | none =>
          simp only [BndR] at hlo
          subst hlo
          simp only [Option.getD_none] at e1
          simp
          omega
        | some n =>
          obtain ⟨k, rfl⟩ := hlo
          simp only [Option.getD_some] at e1
          simp [hb n k len .sliceB l e1 (by omega)]
          omega
      | some n =>
        obtain ⟨k, rfl⟩ := hhi
        simp only [Option.getD_some] at e2
        cases lo with
        | none =>
          simp only [BndR] at hlo
          subst hlo
          simp only [Option.getD_none] at e1
          simp [hb n k c .sliceAcap h e2 (by omega)]
          omega
        | some n' =>
          obtain ⟨k', rfl⟩ := hlo
          simp only [Option.getD_some] at e1
          simp [hb n k c .sliceAcap h e2 (by omega), hb n' k' h .sliceB l e1 h1]
          omega
    | some mm =>
      obtain ⟨km, rfl⟩ := hmx
      simp only [Option.getD_some] at e3
      cases hi with
      | none => simp at e4
      | some n =>
        obtain ⟨k, rfl⟩ := hhi
        simp only [Option.getD_some] at e2
        cases lo with
        | none =>
          simp only [BndR] at hlo
          subst hlo
          simp only [Option.getD_none] at e1
          simp [hb mm km c .slice3Acap m e3 (by omega), hb n k m .slice3B h e2 h2]
          omega
        | some n' =>
          obtain ⟨k', rfl⟩ := hlo
          simp only [Option.getD_some] at e1
          simp [hb mm km c .slice3Acap m e3 (by omega), hb n k m .slice3B h e2 h2, hb n' k' h .slice3C l e1 h1]
  simp [Instr.sliceAt, Instr.slice, run_underlying hu, hbounds, sizeOf_run hty]

theorem slt_cut {α : Type} {full full' : Bool} {t : TypeId} {enc : α → List AV} {s : List α} {a : Option Addr} {c : Nat} {ti : TI} (hr : RepV T w H ρ (.slt full t enc s) (.slice a s.length c)) (hti : T.look t = some ti)
    (l h m : Nat) (h1 : l ≤ h) (h2 : h ≤ m) (h3 : m ≤ c) (h4 : h ≤ s.length) (hf : full' = true → m = h) :
    RepV T w H ρ (.slt full' t enc ((s.take h).drop l)) (.slice (if m = l then a else a.map (·.add (l * ti.cells))) (h - l) (m - l)) := by
  obtain ⟨a', c', ti', vs, e, hti', hsz, hc0, hbb, hl, hc, hff, ha, hrr⟩ := rep_slt hr
  rw [hti'] at hti
  cases hti
  cases e
  have hlen : ((s.take h).drop l).length = h - l := by simp; omega
  have hmem : ∀ x, x ∈ (s.take h).drop l → x ∈ s := fun x hx => List.mem_of_mem_take (List.mem_of_mem_drop hx)
  have key : RepF T w (Owned H ρ) (.slt full' t enc ((s.take h).drop l)) (.slice (if m = l then a else a.map (·.add (l * ti.cells))) ((s.take h).drop l).length (m - l)) := by
    refine .slt full' t enc _ _ _ ti (fun i j => vs (l + i) j) hti' (fun x hx => hsz x (hmem x hx)) hc0 ?_ ?_ ?_ ?_ ?_ ?_
    · exact Nat.le_trans (Nat.mul_le_mul_right _ (by rw [hlen]; omega)) hbb
    · rw [hlen]; omega
    · rw [hlen]; omega
    · intro hfu; rw [hlen, hf hfu]
    · intro hne
      have hpos : 0 < h - l := by
        rw [← hlen]
        exact List.length_pos_iff.2 hne
      obtain ⟨b, o, rfl, hO, hcell⟩ := ha (by intro h'; subst h'; simp at hlen; omega)
      refine ⟨b, o + l * ti.cells, ?_, hO, fun i hi j hj => ?_⟩
      · rw [if_neg (by omega)]
        simp [add_none]
      · have := hcell (l + i) (by rw [hlen] at hi; omega) j hj
        rw [← this]
        simp [Nat.add_mul, Nat.add_assoc]
    · intro i x hx j u hu
      rw [List.getElem?_drop, List.getElem?_take] at hx
      split at hx
      · exact hrr _ _ hx _ _ hu
      · cases hx
  rw [hlen] at key
  exact key.rep1

theorem sltCut_ok {α : Type} {t e : TypeId} (hu : P.underlying t = some (.slice e)) {ti : TI} (hti : T.look e = some ti) (hty : TyR P e ti) {full : Bool} {enc : α → List AV} {s : List α} (hr : RepV T w H ρ (.slt full e enc s) v)
    {lo hi mx : Option Int} {vlo vhi vmx : Option Value} (hlo : BndR lo vlo) (hhi : BndR hi vhi) (hmx : BndR mx vmx) {K : AV → Prop} (h : sltCutK full e enc s lo hi mx K) :
    ∃ val u', (Instr.sliceAt t v vlo vhi vmx).run P w = .ok val w ∧ RepV T w H ρ u' val ∧ K u' := by
  obtain ⟨a, c, ti', vs, rfl, hti', hsz, hc0, hbb, hl, hc, hff, ha, hrr⟩ := rep_slt hr
  have go : ∀ (full' : Bool) (l h m : Nat) (h1 : l ≤ h) (h2 : h ≤ m) (h3 : m ≤ c) (h4 : h ≤ s.length) (hf : full' = true → m = h) (e1 : lo.getD 0 = (l : Int)) (e2 : hi.getD (s.length : Int) = (h : Int)) (e3 : mx.getD (c : Int) = (m : Int)) (e4 : mx.isSome = true → hi.isSome = true) (s' : List α), s' = (s.take h).drop l → K (.slt full' e enc s') →
      ∃ val u', (Instr.sliceAt t (.slice a s.length c) vlo vhi vmx).run P w = .ok val w ∧ RepV T w H ρ u' val ∧ K u' := by
    rintro full' l h m h1 h2 h3 h4 hf e1 e2 e3 e4 s' rfl hK
    exact ⟨_, _, sliceRun hu hty a s.length c hlo hhi hmx l h m h1 h2 h3 e1 e2 e3 e4, slt_cut hr hti l h m h1 h2 h3 h4 hf, hK⟩
  unfold sltCutK at h
  split at h
  · split at h
    · split at h
      · exact go full 0 s.length c (by omega) hc (Nat.le_refl _) (Nat.le_refl _) hff rfl rfl rfl (by simp) s (by simp) h
      · exact h.elim
    · rename_i n
      split at h
      · obtain ⟨⟨h0, h1⟩, h2⟩ := h
        exact go false 0 n.toNat c (by omega) (by omega) (Nat.le_refl _) (by omega) (by simp) rfl (by simp; omega) rfl (by simp) _ (by simp) h2
      · rename_i m
        obtain ⟨⟨h0, h1, h1'⟩, h2⟩ := h
        exact go true 0 n.toNat n.toNat (by omega) (by omega) (by omega) (by omega) (fun _ => rfl) rfl (by simp; omega) (by simp; omega) (by simp) _ (by simp) h2
  · rename_i l
    split at h
    · split at h
      · obtain ⟨⟨h0, h1⟩, h2⟩ := h
        exact go full l.toNat s.length c (by omega) hc (Nat.le_refl _) (Nat.le_refl _) hff (by simp; omega) rfl rfl (by simp) _ (by simp) h2
      · exact h.elim
    · rename_i n
      split at h
      · obtain ⟨⟨h0, h1, h1'⟩, h2⟩ := h
        exact go false l.toNat n.toNat c (by omega) (by omega) (Nat.le_refl _) (by omega) (by simp) (by simp; omega) (by simp; omega) rfl (by simp) _ rfl h2
      · rename_i m
        obtain ⟨⟨h0, h1, h1', h1''⟩, h2⟩ := h
        exact go true l.toNat n.toNat n.toNat (by omega) (by omega) (by omega) (by omega) (fun _ => rfl) (by simp; omega) (by simp; omega) (by simp; omega) (by simp) _ rfl h2

theorem ownCut_ok {t e : TypeId} (hu : P.underlying t = some (.slice e)) {ti : TI} (hti : T.look e = some ti) (hty : TyR P e ti) {k off len : Nat} (he : eltIs H k e = true) (hr : RepV T w H ρ (.own k off len) v)
    {lo hi mx : Option Int} {vlo vhi vmx : Option Value} (hlo : BndR lo vlo) (hhi : BndR hi vhi) (hmx : BndR mx vmx) {K : AV → Prop} (h : ownCutK k off len lo hi mx K) :
    ∃ val u', (Instr.sliceAt t v vlo vhi vmx).run P w = .ok val w ∧ RepV T w H ρ u' val ∧ K u' := by
  cases mx with
  | some m => simp [ownCutK] at h
  | none =>
  simp only [RepV, RepA, Rep1] at hr
  obtain ⟨t', n, ti', c, h3, h4, h5, h6⟩ := hr
  have het : t' = e := by
    unfold eltIs at he
    revert he h3
    cases hget H k with
    | box => intro _ hb; cases hb
    | dead => intro _ hb; cases hb
    | map => intro _ hb; cases hb
    | arr t₁ enc hc l => intro hb h3; simp only [Obj.len, Obj.elems, Option.map_some, Option.some.injEq, Prod.mk.injEq] at h3; exact h3.1.symm.trans (Nat.eq_of_beq_eq_true hb)
    | arrl t₁ ls => intro hb h3; simp only [Obj.len, Obj.elems, Option.map_some, Option.some.injEq, Prod.mk.injEq] at h3; exact h3.1.symm.trans (Nat.eq_of_beq_eq_true hb)
  subst het
  rw [h4] at hti
  cases hti
  have go : ∀ (p1 p2 : Nat) (h1 : p1 ≤ p2) (h2 : p2 ≤ len) (e1 : lo.getD 0 = (p1 : Int)) (e2 : hi.getD (len : Int) = (p2 : Int)), K (.own k (off + p1) (p2 - p1)) →
      ∃ val u', (Instr.sliceAt t v vlo vhi vmx).run P w = .ok val w ∧ RepV T w H ρ u' val ∧ K u' := by
    intro p1 p2 h1 h2 e1 e2 hK
    rcases h6 with ⟨h7, h8, a0, rfl⟩ | ⟨b, p, cap, o, h7, h8, h9, h10, rfl⟩
    · refine ⟨_, .own k (off + p1) (p2 - p1), sliceRun hu hty a0 0 0 hlo hhi hmx p1 p2 0 h1 (by omega) (Nat.le_refl _) e1 (by rw [← e2, h8]) rfl (by simp), ⟨t', n, ti, 0, h3, h4, by omega, .inl ⟨h7, by omega, ?_⟩⟩, hK⟩
      have : p2 = 0 := by omega
      have : p1 = 0 := by omega
      subst_vars
      simp
    · refine ⟨_, .own k (off + p1) (p2 - p1), sliceRun hu hty _ len c hlo hhi hmx p1 p2 c h1 (by omega) (Nat.le_refl _) e1 e2 rfl (by simp), ⟨t', n, ti, c - p1, h3, h4, by omega, .inr ?_⟩, hK⟩
      by_cases hcl : c = p1
      · exact ⟨b, p, cap, o, h7, by omega, by omega, by omega, by rw [if_pos hcl]⟩
      · refine ⟨b, p, cap, o + p1 * ti.cells, h7, by omega, by omega, fun _ => ?_, by rw [if_neg hcl]; simp [add_none]⟩
        rw [h10 (by omega), Nat.add_mul, Nat.add_assoc]
  unfold ownCutK at h
  simp only at h
  split at h
  · split at h
    · exact go 0 len (by omega) (Nat.le_refl _) rfl rfl h
    · rename_i n
      obtain ⟨⟨h0, h1⟩, h2⟩ := h
      exact go 0 n.toNat (by omega) (by omega) rfl (by simp; omega) (by simpa using h2)
  · rename_i l
    split at h
    · obtain ⟨⟨h0, h1⟩, h2⟩ := h
      exact go l.toNat len (by omega) (Nat.le_refl _) (by simp; omega) rfl h2
    · rename_i n
      obtain ⟨⟨h0, h1, h1'⟩, h2⟩ := h
      exact go l.toNat n.toNat (by omega) (by omega) (by simp; omega) (by simp; omega) h2
theorem cutK_ok {t : TypeId} {tt : TI} (htt : TyR P t tt) (hlook : ∀ e, tt.kind = .slice e → ∃ ti, T.look e = some ti ∧ TyR P e ti)
    {lo hi mx : Option Int} {vlo vhi vmx : Option Value} (hlo : BndR lo vlo) (hhi : BndR hi vhi) (hmx : BndR mx vmx) {K : AV → Prop} (hr : RepV T w H ρ u v) (h : cutK (H := H) tt.kind u lo hi mx K) :
    ∃ val u', (Instr.sliceAt t v vlo vhi vmx).run P w = .ok val w ∧ RepV T w H ρ u' val ∧ K u' := by
  unfold cutK at h
  split at h
  · rename_i hk
    have hu := ty_str htt hk
    split at h
    · split at h
      · simp only [BndR] at hmx
        subst hmx
        obtain ⟨rfl, hs⟩ := rep_str hr
        exact strCut_ok hu hs hlo hhi h
      · exact h.elim
    · exact h.elim
  · rename_i e hk
    have hu := ty_slice htt hk
    obtain ⟨ti, hti, hty⟩ := hlook e hk
    split at h
    · rename_i α full t' enc l
      cases hb : Nat.beq t' e with
      | false => rw [hb] at h; exact h.elim
      | true =>
        rw [hb] at h
        have := Nat.eq_of_beq_eq_true hb
        subst this
        exact sltCut_ok hu hti hty hr hlo hhi hmx h
    · rename_i k off len
      cases hb : eltIs H k e with
      | false => rw [hb] at h; exact h.elim
      | true =>
        rw [hb] at h
        exact ownCut_ok hu hti hty hb hr hlo hhi hmx h
    · split at h
      · have := rep_nils hr
        subst this
        obtain ⟨⟨h0, h1⟩, h2⟩ := h
        refine ⟨_, .nils, sliceRun hu hty none 0 0 hlo hhi hmx 0 0 0 (Nat.le_refl _) (Nat.le_refl _) (Nat.le_refl _) (by simpa using h0) (by simpa using h1) rfl (by simp), ?_, h2⟩
        simp
        exact RepF.nils
      · exact h.elim
    · exact h.elim
  · exact h.elim
end
end Go.V


set_option linter.unusedVariables false
set_option linter.unusedSimpArgs false
namespace Go.V
section
variable {P : Program} {T : Ctx} {w w' : World} {H : Heap} {ρ : Places} {u u2 : AV} {v v2 : Value}

theorem hget_push (H : Heap) (o : Go.V.Obj) (k : Nat) : hget (H ++ [o]) k = if k = H.length then o else hget H k := by
  unfold hget
  rcases Nat.lt_trichotomy k H.length with h | h | h
  · rw [List.getElem?_append_left h, if_neg (by omega)]
  · subst h; simp
  · rw [if_neg (by omega), List.getElem?_eq_none (by simp; omega), List.getElem?_eq_none (by omega)]
theorem hget_out (H : Heap) (k : Nat) (h : H.length ≤ k) : hget H k = .dead := by
  unfold hget; rw [List.getElem?_eq_none h]; rfl
def hset (H : Heap) (k : Nat) (o : Go.V.Obj) : Heap := match H, k with
  | [], _ => []
  | _ :: r, 0 => o :: r
  | x :: r, k + 1 => x :: hset r k o
theorem hset_eq : ∀ (H : Heap) (k : Nat) (o : Go.V.Obj), hset H k o = H.set k o
  | [], _, _ => rfl
  | _ :: _, 0, _ => rfl
  | _ :: r, k + 1, o => by simp [hset, hset_eq r k o]
theorem hget_set (H : Heap) (k : Nat) (o : Go.V.Obj) (j : Nat) (hk : k < H.length) : hget (hset H k o) j = if j = k then o else hget H j := by
  rw [hset_eq]
  unfold hget
  rw [List.getElem?_set]
  by_cases h : k = j
  · subst h; simp [hk]
  · rw [if_neg h, if_neg (Ne.symm h)]
theorem alloc_heap (w : World) (o : Go.Obj) (b : Nat) : (w.alloc o).heap[b]? = if b = w.heap.size then some o else w.heap[b]? := by
  unfold World.alloc
  simp only [Array.getElem?_push]
theorem alloc_size (w : World) (o : Go.Obj) : (w.alloc o).heap.size = w.heap.size + 1 := by unfold World.alloc; exact Array.size_push ..
theorem keeps_alloc (O : Nat → Prop) (w : World) (o : Go.Obj) : Keeps O w (w.alloc o) :=
  ⟨rfl, rfl, rfl, by rw [alloc_size]; omega, fun b hb _ => by rw [alloc_heap, if_neg (by omega)]⟩

/-- Where the new object lies. -/
def push (H : Heap) (ρ : Places) (x : Option (Nat × Nat × Nat)) : Places := ⟨fun k => if k = H.length then x else ρ k, ρ.F⟩
theorem OwnedT.push {o : Go.V.Obj} {x : Option (Nat × Nat × Nat)} {b : Nat} (h : OwnedT (H ++ [o]) (push H ρ x) b) : OwnedT H ρ b ∨ ∃ p c, x = some (b, p, c) := by
  obtain ⟨k, p, c, h1, h2⟩ := h
  rw [hget_push] at h1
  simp only [Go.V.push] at h2
  by_cases hk : k = H.length
  · rw [if_pos hk] at h2; exact .inr ⟨p, c, h2⟩
  · rw [if_neg hk] at h1 h2; exact .inl ⟨k, p, c, h1, h2⟩
theorem ext_push {o : Go.V.Obj} {x : Option (Nat × Nat × Nat)} (hk : Keeps (OwnedT H ρ) w w') (hx : ∀ b p c, x = some (b, p, c) → w.heap.size ≤ b) :
    Ext (fun _ => False) (fun _ => False) w H ρ w' (H ++ [o]) (push H ρ x) := by
  refine ⟨hk, fun b hb => ?_, rfl, fun k _ t n hn => ?_, fun k _ n hn => ?_⟩
  · rcases hb.push with h | ⟨p, c, h⟩
    · exact .inl h
    · exact .inr (hx _ _ _ h)
  · have hlt : k ≠ H.length := by
      rintro rfl
      rw [hget_out _ _ (Nat.le_refl _)] at hn
      simp [Obj.len, Obj.elems] at hn
    refine ⟨by simp [push, hlt], n, ?_, Nat.le_refl _⟩
    rw [hget_push, if_neg hlt]
    exact hn
  · have hlt : k ≠ H.length := by
      rintro rfl
      rw [hget_out _ _ (Nat.le_refl _)] at hn
      simp [Obj.isBox] at hn
    refine ⟨by simp [push, hlt], ?_⟩
    rw [hget_push, if_neg hlt]
    exact hn
theorem Av.none {u : AV} : Av (fun _ => False) (fun _ => False) u := by
  cases u <;> simp [Av]
  exact ⟨fun u _ => by cases u <;> simp [AvC], fun u _ => by cases u <;> simp [AvC]⟩
theorem AvA.none {u : AV} : AvA (fun _ => False) (fun _ => False) u := by
  cases u <;> simp only [AvA] <;> first | exact Av.none | (intro u _; exact Av.none)
theorem AvV.none {u : AV} : AvV (fun _ => False) (fun _ => False) u := by
  cases u <;> simp only [AvV] <;> first | exact AvA.none | (intro u _; exact AvA.none)

def AvO (M N : Nat → Prop) (o : Go.V.Obj) : Prop := match o with
  | .box _ cs => ∀ u, u ∈ cs → Av M N u
  | .arr _ enc _ l => ∀ x, x ∈ l → ∀ u, u ∈ enc x → Av M N u
  | .arrl _ ls => ∀ x, x ∈ ls → ∀ u, u ∈ x → Av M N u
  | .dead => True
  | .map _ => True
/-- An object carried on: its block has not changed. -/
theorem ObjR.ext {M N : Nat → Prop} {H' : Heap} {ρ' : Places} (e : Ext M N w H ρ w' H' ρ') {k : Nat} {o : Go.V.Obj} (ho : ObjR T w H ρ k o) (hρ : ρ' k = ρ k) (hb : ∀ b p c, ρ k = some (b, p, c) → w'.heap[b]? = w.heap[b]?)
    (hav : AvO M N o) : ObjR T w' H' ρ' k o := by
  have harr : ∀ t ls, ArrR T w H ρ k t ls → (∀ x, x ∈ ls → ∀ u, u ∈ x → Av M N u) → ArrR T w' H' ρ' k t ls := by
    rintro t ls ⟨ti, h1, h2, h3, h4⟩ hav
    refine ⟨ti, h1, h2, h3, ?_⟩
    rw [hρ]
    rcases h4 with h5 | ⟨b, p, c, vs, fr, h5, h6, hun, h7, h8, h9, h10, h11⟩
    · exact .inl h5
    · refine .inr ⟨b, p, c, vs, fr, h5, by rw [hb _ _ _ h5]; exact h6, hun, h7, h8, h9, h10, fun i x hx j u hu => ?_⟩
      obtain ⟨val, hv, hr⟩ := h11 i x hx j u hu
      exact ⟨val, hv, hr.ext e (hav x (List.mem_of_getElem? hx) u (List.mem_of_getElem? hu))⟩
  cases o with
  | dead => trivial
  | box t cs =>
    obtain ⟨b, vs, h1, h2, h3⟩ := ho
    exact ⟨b, vs, hρ.trans h1, by rw [hb _ _ _ h1]; exact h2, Rep1.exts e hav h3⟩
  | map es =>
    obtain ⟨b, ms, ck, h1, h2, h3⟩ := ho
    exact ⟨b, ms, ck, hρ.trans h1, by rw [hb _ _ _ h1]; exact h2, h3.mono fun _ _ h => h.ext e⟩
  | arr t enc hc l => exact harr _ _ ho (by
      intro x hx u hu
      obtain ⟨y, hy, rfl⟩ := List.mem_map.1 hx
      exact hav y hy u hu)
  | arrl t ls => exact harr _ _ ho hav

theorem HeapR.push {o : Go.V.Obj} {x : Option (Nat × Nat × Nat)} (hH : HeapR T w H ρ) (hk : Keeps (fun _ => False) w w') (hx : ∀ b p c, x = some (b, p, c) → w.heap.size ≤ b ∧ b < w'.heap.size)
    (ho : Ext (fun _ => False) (fun _ => False) w H ρ w' (H ++ [o]) (Go.V.push H ρ x) → ObjR T w' (H ++ [o]) (Go.V.push H ρ x) H.length o) :
    HeapR T w' (H ++ [o]) (Go.V.push H ρ x) ∧ Ext (fun _ => False) (fun _ => False) w H ρ w' (H ++ [o]) (Go.V.push H ρ x) := by
  have hk' : Keeps (OwnedT H ρ) w w' := ⟨hk.os, hk.tape, hk.output, hk.size, fun b hb _ => hk.block b hb id⟩
  have e := ext_push (o := o) hk' (fun b p c h => (hx b p c h).1)
  refine ⟨⟨fun k => ?_, ?_, ?_, ?_, fun b hb => Nat.lt_of_lt_of_le (hH.flt b hb) hk.size, hH.glob.ext e⟩, e⟩
  · rw [hget_push]
    by_cases h : k = H.length
    · rw [if_pos h]; subst h; exact ho e
    · rw [if_neg h]
      have hobj := hH.obj k
      by_cases hl : (hget H k).live
      · refine ObjR.ext e hobj (by simp [Go.V.push, h]) (fun b p c hb => hk.block b (hH.lt k b p c hl hb) id) ?_
        unfold AvO
        split <;> first | trivial | (intros; exact Av.none)
      · cases hh : hget H k <;> rw [hh] at hl <;> first | trivial | exact absurd trivial hl
  · intro k k' b p c p' c' h1 h2 h3 h4
    rw [hget_push] at h1 h2
    simp only [Go.V.push] at h3 h4
    by_cases hk1 : k = H.length <;> by_cases hk2 : k' = H.length
    · omega
    · rw [if_pos hk1] at h3
      rw [if_neg hk2] at h2 h4
      have := hH.lt _ _ _ _ h2 h4
      have := (hx _ _ _ h3).1
      omega
    · rw [if_neg hk1] at h1 h3
      rw [if_pos hk2] at h4
      have := hH.lt _ _ _ _ h1 h3
      have := (hx _ _ _ h4).1
      omega
    · rw [if_neg hk1] at h1 h3
      rw [if_neg hk2] at h2 h4
      exact hH.inj _ _ _ _ _ _ _ h1 h2 h3 h4
  · intro k b p c h1 h2
    rw [hget_push] at h1
    simp only [Go.V.push] at h2
    by_cases hk1 : k = H.length
    · rw [if_pos hk1] at h2; exact (hx _ _ _ h2).2
    · rw [if_neg hk1] at h1 h2
      exact Nat.lt_of_lt_of_le (hH.lt _ _ _ _ h1 h2) hk.size
  · intro k b p c h1 h2
    rw [hget_push] at h1
    simp only [Go.V.push] at h2 ⊢
    by_cases hk1 : k = H.length
    · simp only [if_pos hk1] at h2
      intro hF
      have := hH.flt b hF
      have := (hx _ _ _ h2).1
      omega
    · rw [if_neg hk1] at h1
      simp only [if_neg hk1] at h2
      exact hH.fresh _ _ _ _ h1 h2

/-! ### A new variable -/
def cellsOf (v : AV) : List AV := match v with | .agg cs => cs | v => [v]
/-- May it be stored? -/
def okv : AV → Bool
  | .undef => false | .tup _ => false | _ => true
theorem RepV.to1 (h : RepV T w H ρ u v) (h1 : okv u = true) (h2 : ∀ cs, u ≠ .agg cs) : Rep1 T w H ρ u v := by
  cases u <;> first | exact h | (simp [okv] at h1; done) | exact absurd rfl (h2 _)
theorem cells_rep (hr : RepV T w H ρ u v) (h : okv u = true) : All2 (Rep1 T w H ρ) (cellsOf u) v.cells.toList := by
  by_cases ha : ∃ cs, u = .agg cs
  · obtain ⟨cs, rfl⟩ := ha
    obtain ⟨vs, rfl, hvs⟩ := hr
    exact hvs
  · have hr1 := hr.to1 h (fun cs hc => ha ⟨cs, hc⟩)
    have h1 := hr1.one
    have e1 : v.cells = #[v] := by cases v <;> first | rfl | simp [Value.oneCell'] at h1
    have e2 : cellsOf u = [u] := by cases u <;> first | rfl | exact absurd ⟨_, rfl⟩ ha
    rw [e1, e2]
    exact .cons hr1 .nil
theorem zeqs_rep : ∀ {us : List AV} {vs : List Value}, zeqs us vs = true → All2 (RepF T w (Owned H ρ)) us vs
  | [], [], _ => .nil
  | [], _ :: _, h => by simp [zeqs] at h
  | _ :: _, [], h => by simp [zeqs] at h
  | u :: us, v :: vs, h => by
    simp only [zeqs, Bool.and_eq_true] at h
    exact .cons (zeq_rep h.1) (zeqs_rep h.2)
/-- The state behind a new variable. -/
theorem newVar_ok (hH : HeapR T w H ρ) (t : TypeId) (cs : List AV) (vs : Array Value) (hc : All2 (Rep1 T w H ρ) cs vs.toList) :
    let w' := w.alloc (.cells vs t)
    let ρ' := push H ρ (some (w.heap.size, 0, 1))
    HeapR T w' (H ++ [.box t cs]) ρ' ∧ Ext (fun _ => False) (fun _ => False) w H ρ w' (H ++ [.box t cs]) ρ' ∧ RepV T w' (H ++ [.box t cs]) ρ' (.box H.length 0) (.pointer (some ⟨w.heap.size, 0, none⟩)) := by
  intro w' ρ'
  have := hH.push (o := .box t cs) (x := some (w.heap.size, 0, 1)) (keeps_alloc _ w (.cells vs t)) (by
    rintro b p c ⟨⟩
    rw [alloc_size]
    omega) (fun e => ⟨w.heap.size, vs, by simp [Go.V.push], by rw [alloc_heap, if_pos rfl], Rep1.exts e (fun _ _ => Av.none) hc⟩)
  refine ⟨this.1, this.2, w.heap.size, 1, cs.length, by simp [ρ', Go.V.push], ?_, rfl⟩
  rw [hget_push, if_pos rfl]
  rfl
end
end Go.V


set_option linter.unusedVariables false
set_option linter.unusedSimpArgs false
namespace Go.V
section
variable {P : Program} {T : Ctx} {w w' : World} {H : Heap} {ρ : Places} {u u2 : AV} {v v2 : Value}

theorem live_lt {k : Nat} (h : (hget H k).live) : k < H.length := by
  by_cases hk : k < H.length
  · exact hk
  · rw [hget_out _ _ (by omega)] at h; exact absurd h id
def upd (ρ : Places) (k : Nat) (x : Option (Nat × Nat × Nat)) : Places := ⟨fun j => if j = k then x else ρ j, ρ.F⟩
theorem upd_same (ρ : Places) (k : Nat) (x : Option (Nat × Nat × Nat)) : upd ρ k x k = x := by simp [upd]
theorem upd_other (ρ : Places) {k j : Nat} (x : Option (Nat × Nat × Nat)) (h : j ≠ k) : upd ρ k x j = ρ j := by simp [upd, h]

theorem HeapR.upd {k : Nat} {o' : Go.V.Obj} {x : Option (Nat × Nat × Nat)} {M : Nat → Prop} (hH : HeapR T w H ρ) (hl : (hget H k).live)
    (hk : Keeps (fun b => ∃ p c, ρ k = some (b, p, c)) w w')
    (hx : ∀ b p c, x = some (b, p, c) → b < w'.heap.size ∧ ((∃ p c, ρ k = some (b, p, c)) ∨ w.heap.size ≤ b))
    (hbox : ∀ n, (hget H k).isBox = some n → x = ρ k ∧ o'.isBox = some n)
    (harr : ¬ M k → ∀ t n, (hget H k).len = some (t, n) → x = ρ k ∧ ∃ n', o'.len = some (t, n') ∧ n ≤ n')
    (hav : ∀ j, j ≠ k → AvO M (fun _ => False) (hget H j))
    (ho : Ext M (fun _ => False) w H ρ w' (hset H k o') (Go.V.upd ρ k x) → ObjR T w' (hset H k o') (Go.V.upd ρ k x) k o') :
    HeapR T w' (hset H k o') (Go.V.upd ρ k x) ∧ Ext M (fun _ => False) w H ρ w' (hset H k o') (Go.V.upd ρ k x) := by
  have hlt := live_lt hl
  have hown : ∀ b, (∃ p c, ρ k = some (b, p, c)) → OwnedT H ρ b := fun b ⟨p, c, h⟩ => ⟨k, p, c, hl, h⟩
  have e : Ext M (fun _ => False) w H ρ w' (hset H k o') (Go.V.upd ρ k x) := by
    refine ⟨⟨hk.os, hk.tape, hk.output, hk.size, fun b hb hO => hk.block b hb fun h => hO (hown b h)⟩, ?_, rfl, ?_, ?_⟩
    · rintro b ⟨j, p, c, h1, h2⟩
      rw [hget_set _ _ _ _ hlt] at h1
      by_cases hj : j = k
      · subst hj
        rw [upd_same] at h2
        rcases (hx _ _ _ h2).2 with h | h
        · exact .inl (hown b h)
        · exact .inr h
      · rw [if_neg hj] at h1
        rw [upd_other _ _ hj] at h2
        exact .inl ⟨j, p, c, h1, h2⟩
    · intro j hM t n hn
      rw [hget_set _ _ _ _ hlt]
      by_cases hj : j = k
      · subst hj
        rw [upd_same, if_pos rfl]
        exact harr hM t n hn
      · rw [upd_other _ _ hj, if_neg hj]
        exact ⟨rfl, n, hn, Nat.le_refl _⟩
    · intro j _ n hn
      rw [hget_set _ _ _ _ hlt]
      by_cases hj : j = k
      · subst hj
        rw [upd_same, if_pos rfl]
        exact hbox n hn
      · rw [upd_other _ _ hj, if_neg hj]
        exact ⟨rfl, hn⟩
  refine ⟨⟨fun j => ?_, ?_, ?_, ?_, fun b hb => Nat.lt_of_lt_of_le (hH.flt b hb) hk.size, hH.glob.ext e⟩, e⟩
  · rw [hget_set _ _ _ _ hlt]
    by_cases hj : j = k
    · subst hj; rw [if_pos rfl]; exact ho e
    · rw [if_neg hj]
      have hobj := hH.obj j
      by_cases hlj : (hget H j).live
      · refine ObjR.ext e hobj (upd_other _ _ hj) (fun b p c hb => hk.block b (hH.lt j b p c hlj hb) ?_) ?_
        · rintro ⟨p', c', h'⟩
          exact hj (hH.inj _ _ _ _ _ _ _ hlj hl hb h')
        · exact hav j hj
      · cases hh : hget H j <;> rw [hh] at hlj <;> first | trivial | exact absurd trivial hlj
  · intro j j' b p c p' c' h1 h2 h3 h4
    rw [hget_set _ _ _ _ hlt] at h1 h2
    by_cases hj : j = k <;> by_cases hj' : j' = k
    · omega
    · subst hj
      rw [if_neg hj'] at h2
      rw [upd_same] at h3
      rw [upd_other _ _ hj'] at h4
      rcases (hx _ _ _ h3).2 with ⟨p1, c1, h⟩ | h
      · exact hH.inj _ _ _ _ _ _ _ hl h2 h h4
      · have := hH.lt _ _ _ _ h2 h4; omega
    · subst hj'
      rw [if_neg hj] at h1
      rw [upd_same] at h4
      rw [upd_other _ _ hj] at h3
      rcases (hx _ _ _ h4).2 with ⟨p1, c1, h⟩ | h
      · exact hH.inj _ _ _ _ _ _ _ h1 hl h3 h
      · have := hH.lt _ _ _ _ h1 h3; omega
    · rw [if_neg hj] at h1
      rw [if_neg hj'] at h2
      rw [upd_other _ _ hj] at h3
      rw [upd_other _ _ hj'] at h4
      exact hH.inj _ _ _ _ _ _ _ h1 h2 h3 h4
  · intro j b p c h1 h2
    rw [hget_set _ _ _ _ hlt] at h1
    by_cases hj : j = k
    · subst hj; rw [upd_same] at h2; exact (hx _ _ _ h2).1
    · rw [if_neg hj] at h1
      rw [upd_other _ _ hj] at h2
      exact Nat.lt_of_lt_of_le (hH.lt _ _ _ _ h1 h2) hk.size
  · intro j b p c h1 h2
    rw [hget_set _ _ _ _ hlt] at h1
    by_cases hj : j = k
    · subst hj
      rw [upd_same] at h2
      intro hF
      rcases (hx _ _ _ h2).2 with ⟨p1, c1, h⟩ | h
      · exact hH.fresh _ _ _ _ hl h hF
      · have := hH.flt b hF; omega
    · rw [if_neg hj] at h1
      rw [upd_other _ _ hj] at h2
      exact hH.fresh _ _ _ _ h1 h2
theorem upd_self (ρ : Places) (k : Nat) : upd ρ k (ρ k) = ρ := by
  have : (fun j => if j = k then ρ k else ρ j) = ρ.f := by
    funext j; by_cases h : j = k
    · subst h; simp
    · simp [h]
  unfold upd
  rw [this]

/-! ### Stores -/
def setCells : List AV → Nat → List AV → List AV
  | cs, _, [] => cs
  | [], _, _ => []
  | _ :: cs, 0, v :: vs => v :: setCells cs 0 vs
  | c :: cs, o + 1, v :: vs => c :: setCells cs o (v :: vs)
theorem setCells_all {α : Type} {R : AV → α → Prop} : ∀ {cs : List AV} {o : Nat} {us : List AV} {vs ws : List α}, All2 R cs vs → All2 R us ws → o + us.length ≤ cs.length → All2 R (setCells cs o us) (vs.take o ++ ws ++ vs.drop (o + ws.length))
  | cs, o, [], vs, [], h, .nil, _ => by
    have : setCells cs o [] = cs := by cases cs <;> rfl
    simpa [this] using h
  | [], o, u :: us, vs, ws, h, h', hl => by simp at hl
  | c :: cs, 0, u :: us, v :: vs, w :: ws, .cons h h1, .cons h' h1', hl => by
    have := setCells_all h1 h1' (o := 0) (by simp at hl ⊢; omega)
    simp only [setCells]
    simp only [List.take_zero, List.nil_append, Nat.zero_add, List.length_cons, List.drop_succ_cons, List.cons_append] at this ⊢
    exact .cons h' this
  | c :: cs, o + 1, u :: us, v :: vs, w :: ws, .cons h h1, h', hl => by
    have := setCells_all h1 h' (o := o) (by simp at hl ⊢; omega)
    simp only [setCells]
    rw [show o + 1 + (w :: ws).length = (o + (w :: ws).length) + 1 by omega]
    exact .cons h this
theorem setCells_length : ∀ (cs : List AV) (o : Nat) (us : List AV), (setCells cs o us).length = cs.length
  | cs, o, [] => by cases cs <;> rfl
  | [], o, u :: us => rfl
  | c :: cs, 0, u :: us => by simp [setCells, setCells_length cs 0 us]
  | c :: cs, o + 1, u :: us => by simp [setCells, setCells_length cs o (u :: us)]

theorem splice_at {α : Type} (l ws : List α) (o j : Nat) (h : o + ws.length ≤ l.length) : (l.take o ++ ws ++ l.drop (o + ws.length))[j]? = if j < o then l[j]? else if j < o + ws.length then ws[j - o]? else l[j]? := by
  have hto : (l.take o).length = o := by simp; omega
  split
  · rename_i h1
    rw [List.append_assoc, List.getElem?_append_left (by omega), List.getElem?_take, if_pos h1]
  · rename_i h1
    split
    · rename_i h2
      rw [List.append_assoc, List.getElem?_append_right (by omega), List.getElem?_append_left (by omega), hto]
    · rename_i h2
      rw [List.getElem?_append_right (by simp; omega), List.getElem?_drop]
      congr 1
      simp
      omega
theorem setCells_at : ∀ (cs : List AV) (o : Nat) (us : List AV) (j : Nat), o + us.length ≤ cs.length → (setCells cs o us)[j]? = if j < o then cs[j]? else if j < o + us.length then us[j - o]? else cs[j]?
  | cs, o, [], j, h => by
    have : setCells cs o [] = cs := by cases cs <;> rfl
    rw [this]
    split
    · rfl
    · rw [if_neg (by simp; omega)]
  | [], o, u :: us, j, h => by simp at h
  | c :: cs, 0, u :: us, 0, h => by simp [setCells]
  | c :: cs, 0, u :: us, j + 1, h => by
    have := setCells_at cs 0 us j (by simp at h ⊢; omega)
    simp only [setCells, List.getElem?_cons_succ, this]
    simp
  | c :: cs, o + 1, u :: us, 0, h => by simp [setCells]
  | c :: cs, o + 1, u :: us, j + 1, h => by
    have := setCells_at cs o (u :: us) j (by simp at h ⊢; omega)
    simp only [setCells, List.getElem?_cons_succ, this]
    simp only [Nat.add_lt_add_iff_right, Nat.add_right_comm o 1, Nat.reduceSubDiff]
theorem keeps_setRow (w : World) (b : Nat) (cs : Array Value) : Keeps (fun b' => b' = b) w (w.setRow b cs) :=
  ⟨rfl, rfl, rfl, by simp [World.setRow], fun b' _ h => setRow_other w b b' cs h⟩
theorem setRow_size (w : World) (b : Nat) (cs : Array Value) : (w.setRow b cs).heap.size = w.heap.size := by simp [World.setRow]

def storeK (ti : TI) (a v : AV) (H : Heap) (K : Heap → Prop) : Prop := bif okv v && Nat.beq (cellsOf v).length ti.cells then (match a with
  | .box k o => (match hget H k with
    | .box t cs => bif Nat.ble (Nat.add o ti.cells) cs.length then forceL (setCells cs o (cellsOf v)) fun cs => K (hset H k (.box t cs)) else False
    | _ => False)
  | .elt k i o => (match hget H k with
    | @Obj.arr α t enc hc l => All fun (x : α) => Hyp (l[i]? = some x) (bif Nat.ble (Nat.add o ti.cells) (enc x).length then ∃ y, setCells (enc x) o (cellsOf v) = enc y ∧ K (hset H k (.arr t enc hc (l.set i y))) else False)
    | .arrl t ls => (match ls[i]? with
      | some x => bif Nat.ble (Nat.add o ti.cells) x.length then K (hset H k (.arrl t (ls.set i (setCells x o (cellsOf v))))) else False
      | none => False)
    | _ => False)
  | _ => False) else False
theorem run_storeCells_u (P : Program) (g o : Nat) (t : TypeId) (fz : Nat × Nat) : ∀ (vs : List Value) (i : Nat) (cur : Array Value) (w : World), w.heap[g]? = some (.cells cur t fz) → Unfr fz cur.size → o + i + vs.length ≤ cur.size → (∀ v ∈ vs, v.oneCell' = true) →
    (storeCells ⟨g, o, none⟩ vs i).run P w = .ok () (w.setRow g (cur.toList.take (o + i) ++ vs ++ cur.toList.drop (o + i + vs.length)).toArray)
  | [], i, cur, w, hg, _, _, _ => by
    simp only [storeCells, List.append_nil, List.length_nil, Nat.add_zero, List.take_append_drop, Array.toArray_toList]
    rw [setRow_self w g cur t fz hg]
    rfl
  | v :: rest, i, cur, w, hg, hfz, hl, h1 => by
    have hi : o + i < cur.size := by simp at hl; omega
    have hadd : (⟨g, o, none⟩ : Addr).add i = ⟨g, o + i, none⟩ := by unfold Addr.add; split <;> simp_all
    have hcell : w.cell? ⟨g, o + i, none⟩ = some cur[o + i] := by simp [World.cell?, hg, hi]
    have hfro : w.frozen? ⟨g, o + i, none⟩ = false := by
      obtain ⟨lo, hi'⟩ := fz
      simp only [World.frozen?, hg, Bool.and_eq_false_iff, decide_eq_false_iff_not]
      rcases hfz with h | h
      · cases h; right; omega
      · left; simp only at h; omega
    have hst : (store ((⟨g, o, none⟩ : Addr).add i) v).run P w = .ok () (w.setRow g (cur.setIfInBounds (o + i) v)) := by
      rw [hadd, run_store P w _ v _ (h1 v (by simp)), hcell]
      simp [hfro, setCell_eq_setRow w g (o + i) cur t fz v hg]
    have ih := run_storeCells_u P g o t fz rest (i + 1) (cur.setIfInBounds (o + i) v) (w.setRow g (cur.setIfInBounds (o + i) v)) (setRow_heap w g cur _ t _ hg) (by simpa using hfz) (by simp at hl ⊢; omega) (fun x hx => h1 x (by simp [hx]))
    simp only [storeCells, Sem.run_bind, hst, Result.andThen_ok, ih, setRow_setRow]
    congr 3
    have e := list_seg_step cur.toList (o + i) v rest (by simp at hl ⊢; omega)
    simpa [Array.toList_setIfInBounds, Nat.add_assoc] using e
theorem storeVar_run {t : TypeId} {ti : TI} (ht : TyR P t ti) {b o : Nat} {t' : TypeId} {cur : Array Value} {fr : Nat × Nat} (hb : w.heap[b]? = some (.cells cur t' fr)) (hfr : Unfr fr cur.size) {val : Value} (hs : val.cells.size = ti.cells) (ho : o + ti.cells ≤ cur.size) (h1 : ∀ x ∈ val.cells.toList, x.oneCell' = true) :
    (Instr.storeAt t (.pointer (some ⟨b, o, none⟩)) val).run P w = .ok () (w.setRow b (cur.toList.take o ++ val.cells.toList ++ cur.toList.drop (o + ti.cells)).toArray) := by
  have hrun := run_storeCells_u P b o t' fr val.cells.toList 0 cur w hb hfr (by simp [hs]; omega) h1
  have hl : val.cells.toList.length = ti.cells := by simpa using hs
  rw [Nat.add_zero, hl] at hrun
  simp only [Instr.storeAt, Instr.sureAddr, Sem.run_bind, Sem.run_pure, Result.andThen_ok, storeVar, sizeOf_run ht, hs, ne_eq, not_true_eq_false, if_false]
  exact hrun
theorem all2_one {us : List AV} {vs : List Value} (h : All2 (Rep1 T w H ρ) us vs) : ∀ x ∈ vs, x.oneCell' = true := by
  induction h with
  | nil => intro x hx; simp at hx
  | cons h _ ih =>
    intro x hx
    rcases List.mem_cons.1 hx with rfl | hx
    · exact h.one
    · exact ih x hx
theorem storeK_ok {t : TypeId} {ti : TI} (ht : TyR P t ti) (hH : HeapR T w H ρ) {a : AV} {va : Value} {K : Heap → Prop} (h : storeK ti a u H K) (hra : RepV T w H ρ a va) (hr : RepV T w H ρ u v) :
    ∃ w' H', (Instr.storeAt t va v).run P w = .ok () w' ∧ HeapR T w' H' ρ ∧ Ext (fun _ => False) (fun _ => False) w H ρ w' H' ρ ∧ K H' := by
  unfold storeK at h
  cases hc : okv u && Nat.beq (cellsOf u).length ti.cells with
  | false => rw [hc] at h; exact h.elim
  | true =>
  rw [hc] at h
  simp only [cond_true] at h
  simp only [Bool.and_eq_true] at hc
  have hcl : (cellsOf u).length = ti.cells := Nat.eq_of_beq_eq_true hc.2
  have hcells := cells_rep hr hc.1
  have hvl : v.cells.size = ti.cells := by have := hcells.length; simp at this; omega
  have hone := all2_one hcells
  split at h
  · rename_i k o
    simp only [RepV, RepA, Rep1] at hra
    obtain ⟨b, c, n, h1, h2, rfl⟩ := hra
    split at h
    · rename_i t' cs hk
      cases hb : Nat.ble (Nat.add o ti.cells) cs.length with
      | false => rw [hb] at h; exact h.elim
      | true =>
        rw [hb] at h
        simp only [cond_true, forceL_eq] at h
        have hle : o + ti.cells ≤ cs.length := Nat.le_of_ble_eq_true hb
        have hobj := hH.obj k
        rw [hk] at hobj
        obtain ⟨b', vs, e1, e2, e3⟩ := hobj
        rw [h1] at e1
        cases e1
        have hvs : vs.size = cs.length := by have := e3.length; simpa using this.symm
        have hrun := storeVar_run ht e2 (.inl rfl) hvl (o := o) (by omega) hone
        have hu := hH.upd (k := k) (o' := .box t' (setCells cs o (cellsOf u))) (x := ρ k) (M := fun _ => False) (w' := w.setRow b (vs.toList.take o ++ v.cells.toList ++ vs.toList.drop (o + ti.cells)).toArray)
          (by rw [hk]; trivial) (by
            refine ⟨rfl, rfl, rfl, by rw [setRow_size]; omega, fun b' hb' hn => setRow_other w b b' _ ?_⟩
            rintro rfl
            exact hn ⟨_, _, h1⟩) (by
            intro b' p c hb'
            rw [setRow_size]
            exact ⟨hH.lt k b' p c (by rw [hk]; trivial) hb', .inl ⟨p, c, hb'⟩⟩) (by
            intro n hn
            rw [hk] at hn
            simp [Obj.isBox, setCells_length] at hn ⊢
            exact hn) (by
            intro _ t n hn
            rw [hk] at hn
            simp [Obj.len, Obj.elems] at hn) (by
            intro j _
            cases hget H j <;> simp only [AvO] <;> intros <;> exact Av.none) (by
            intro e
            refine ⟨b, _, by rw [upd_same]; exact h1, setRow_heap w b vs _ t' (0, 0) e2, ?_⟩
            have := setCells_all (Rep1.exts e (fun _ _ => Av.none) e3) (Rep1.exts e (fun _ _ => Av.none) hcells) (o := o) (by omega)
            simpa [hvl] using this)
        rw [upd_self] at hu
        exact ⟨_, _, hrun, hu.1, hu.2, h⟩
    · exact h.elim
  · rename_i k i o
    simp only [RepV, RepA, Rep1] at hra
    obtain ⟨t₁, n, ti', b, p, c, h1, h2, h3, h4, rfl⟩ := hra
    have hobj := hH.obj k
    have hlive : (hget H k).live := by
      revert h1
      cases hget H k <;> intro h1 <;> first | trivial | simp [Obj.len, Obj.elems] at h1
    -- the store, for an array whose elements' cells are ls
    have go : ∀ (ls : List (List AV)) (x : List AV) (o' : Go.V.Obj), ArrR T w H ρ k t₁ ls → ls.length = n → ls[i]? = some x → o + ti.cells ≤ x.length → o'.live → o'.isBox = none → o'.elems = some (t₁, ls.set i (setCells x o (cellsOf u))) →
        (∀ w' H' ρ', ArrR T w' H' ρ' k t₁ (ls.set i (setCells x o (cellsOf u))) → ObjR T w' H' ρ' k o') →
        ∃ w' , (Instr.storeAt t (.pointer (some ⟨b, p + (i * ti'.cells + o), none⟩)) v).run P w = .ok () w' ∧ HeapR T w' (hset H k o') ρ ∧ Ext (fun _ => False) (fun _ => False) w H ρ w' (hset H k o') ρ := by
      rintro ls x o' ⟨ti₁, a1, a2, a3, a4⟩ hlen hx hle hl' hb' hel hobj'
      rw [h2] at a1
      cases a1
      rcases a4 with ⟨a5, _⟩ | ⟨b₁, p₁, c₁, vs, fr, a5, a6, aun, a7, a8, a9, a10, a11⟩
      · rw [h4] at a5; cases a5
      · rw [h4] at a5
        cases a5
        have hxl : x.length = ti'.cells := a3 x (List.mem_of_getElem? hx)
        have hin : p + (i * ti'.cells + o) + ti.cells ≤ vs.size := by
          have hi1 : i < c := by omega
          have : i * ti'.cells + ti'.cells ≤ c * ti'.cells := by rw [← Nat.succ_mul]; exact Nat.mul_le_mul_right _ hi1
          omega
        have hrun := storeVar_run ht a6 aun hvl hin hone
        have hvll : v.cells.toList.length = ti.cells := by simpa using hvl
        have hu := hH.upd (k := k) (o' := o') (x := ρ k) (M := fun _ => False) (w' := w.setRow b (vs.toList.take (p + (i * ti'.cells + o)) ++ v.cells.toList ++ vs.toList.drop (p + (i * ti'.cells + o) + ti.cells)).toArray)
          hlive (by
            refine ⟨rfl, rfl, rfl, by rw [setRow_size]; omega, fun b' _ hn => setRow_other w b b' _ ?_⟩
            rintro rfl
            exact hn ⟨_, _, h4⟩) (by
            intro b' p' c' hb'
            rw [setRow_size]
            exact ⟨hH.lt k b' p' c' hlive hb', .inl ⟨p', c', hb'⟩⟩) (by
            intro n' hn'
            exfalso
            revert hn' h1
            cases hget H k <;> simp [Obj.isBox, Obj.len, Obj.elems]) (by
            intro _ t' n' hn'
            rw [h1] at hn'
            cases hn'
            refine ⟨rfl, ls.length, ?_, by omega⟩
            simp [Obj.len, hel]) (by
            intro j _
            cases hget H j <;> simp only [AvO] <;> intros <;> exact Av.none) (by
            intro e
            apply hobj'
            refine ⟨ti', h2, a2, ?_, .inr ⟨b, p, c, _, fr, by rw [upd_same]; exact h4, setRow_heap w b vs _ _ fr a6, ?_, ?_, by simpa using a8, by simpa using a9, by simpa using a10, ?_⟩⟩
            · intro y hy
              rcases List.mem_or_eq_of_mem_set hy with h | rfl
              · exact a3 y h
              · rw [setCells_length]; exact hxl
            · refine aun.imp id fun h => ?_
              simp [hvll]
              omega
            · simp [hvll]
              omega
            · intro i' y hy j u' hu'
              have hjl : j < ti'.cells := by
                have h5 : y.length = ti'.cells := by
                  rcases List.mem_or_eq_of_mem_set (List.mem_of_getElem? hy) with h | rfl
                  · exact a3 y h
                  · rw [setCells_length]; exact hxl
                have := (List.getElem?_eq_some_iff.1 hu').1
                omega
              have hsp := splice_at vs.toList v.cells.toList (p + (i * ti'.cells + o)) (p + (i' * ti'.cells + j)) (by rw [hvll]; simpa using hin)
              rw [hvll] at hsp
              have hat : ∀ q : Nat, (vs.toList.take (p + (i * ti'.cells + o)) ++ v.cells.toList ++ vs.toList.drop (p + (i * ti'.cells + o) + ti.cells)).toArray[q]? = (vs.toList.take (p + (i * ti'.cells + o)) ++ v.cells.toList ++ vs.toList.drop (p + (i * ti'.cells + o) + ti.cells))[q]? := by
                intro q; simp
              rw [hat, hsp]
              rw [List.getElem?_set] at hy
              by_cases hii : i = i'
              · subst hii
                rw [if_pos rfl, if_pos (by omega)] at hy
                cases hy
                rw [setCells_at _ _ _ _ (by omega)] at hu'
                by_cases hj1 : j < o
                · rw [if_pos hj1] at hu'
                  rw [if_pos (by omega)]
                  obtain ⟨val, hv, hr'⟩ := a11 i x hx j u' hu'
                  exact ⟨val, by simpa using hv, hr'.ext e .none⟩
                · rw [if_neg hj1] at hu'
                  rw [if_neg (by omega)]
                  by_cases hj2 : j < o + ti.cells
                  · rw [hcl, if_pos hj2] at hu'
                    rw [if_pos (by omega)]
                    obtain ⟨val, hv, hr'⟩ := hcells.at _ _ hu'
                    refine ⟨val, ?_, hr'.ext e .none⟩
                    rw [← hv]
                    congr 1
                    omega
                  · rw [hcl, if_neg hj2] at hu'
                    rw [if_neg (by omega)]
                    obtain ⟨val, hv, hr'⟩ := a11 i x hx j u' hu'
                    exact ⟨val, by simpa using hv, hr'.ext e .none⟩
              · rw [if_neg hii] at hy
                obtain ⟨val, hv, hr'⟩ := a11 i' y hy j u' hu'
                have hne : p + (i' * ti'.cells + j) < p + (i * ti'.cells + o) ∨ p + (i * ti'.cells + o) + ti.cells ≤ p + (i' * ti'.cells + j) := by
                  rcases Nat.lt_or_gt_of_ne hii with h | h
                  · right
                    have : i * ti'.cells + ti'.cells ≤ i' * ti'.cells := by rw [← Nat.succ_mul]; exact Nat.mul_le_mul_right _ h
                    omega
                  · left
                    have : i' * ti'.cells + ti'.cells ≤ i * ti'.cells := by rw [← Nat.succ_mul]; exact Nat.mul_le_mul_right _ h
                    omega
                refine ⟨val, ?_, hr'.ext e .none⟩
                rcases hne with h | h
                · rw [if_pos h]; simpa using hv
                · rw [if_neg (by omega), if_neg (by omega)]; simpa using hv)
        rw [upd_self] at hu
        exact ⟨_, hrun, hu.1, hu.2⟩
    split at h
    · rename_i α t' enc hc l hk
      rw [hk] at hobj h1
      simp only [Obj.len, Obj.elems, Option.map_some, Option.some.injEq, Prod.mk.injEq, List.length_map] at h1
      obtain ⟨rfl, rfl⟩ := h1
      obtain ⟨x, hx⟩ : ∃ x, l[i]? = some x := ⟨_, List.getElem?_eq_getElem h3⟩
      have h5 := (h.all x).hyp hx
      cases hb : Nat.ble (Nat.add o ti.cells) (enc x).length with
      | false => rw [hb] at h5; exact h5.elim
      | true =>
        rw [hb] at h5
        obtain ⟨y, hy, hK⟩ := h5
        have hmap : (l.map enc).set i (setCells (enc x) o (cellsOf u)) = (l.set i y).map enc := by rw [hy, List.map_set]
        obtain ⟨w', r1, r2, r3⟩ := go (l.map enc) (enc x) (.arr t' enc hc (l.set i y)) hobj (by simp) (by simp [hx]) (Nat.le_of_ble_eq_true hb) trivial rfl (by simp only [Obj.elems]; rw [hmap]) (fun w' H' ρ' hA => by
          rw [hmap] at hA
          exact hA)
        exact ⟨w', _, r1, r2, r3, hK⟩
    · rename_i t' ls hk
      rw [hk] at hobj h1
      simp only [Obj.len, Obj.elems, Option.map_some, Option.some.injEq, Prod.mk.injEq] at h1
      obtain ⟨rfl, rfl⟩ := h1
      split at h
      · rename_i x hx
        cases hb : Nat.ble (Nat.add o ti.cells) x.length with
        | false => rw [hb] at h; exact h.elim
        | true =>
          rw [hb] at h
          obtain ⟨w', r1, r2, r3⟩ := go ls x (.arrl t' (ls.set i (setCells x o (cellsOf u)))) hobj rfl hx (Nat.le_of_ble_eq_true hb) trivial rfl rfl (fun w' H' ρ' hA => hA)
          exact ⟨w', _, r1, r2, r3, h⟩
      · exact h.elim
    · exact h.elim
  · exact h.elim
end
end Go.V


set_option linter.unusedVariables false
set_option linter.unusedSimpArgs false
namespace Go.V
section
variable {P : Program} {T : Ctx} {w w' : World} {H : Heap} {ρ : Places} {u u2 : AV} {v v2 : Value}

theorem fold_splice : ∀ (vs : List Value) (off k : Nat) (cells : Array Value), off + k + vs.length ≤ cells.size →
    ((vs.zipIdx k).foldl (fun cs cj => cs.setIfInBounds (off + cj.2) cj.1) cells).toList = cells.toList.take (off + k) ++ vs ++ cells.toList.drop (off + k + vs.length)
  | [], off, k, cells, _ => by simp
  | v :: vs, off, k, cells, h => by
    have ih := fold_splice vs off (k + 1) (cells.setIfInBounds (off + k) v) (by simp at h ⊢; omega)
    simp only [List.zipIdx_cons, List.foldl_cons]
    rw [ih]
    apply List.ext_getElem?
    intro j
    have h1 := splice_at (cells.setIfInBounds (off + k) v).toList vs (off + (k + 1)) j (by simp at h ⊢; omega)
    have h2 := splice_at cells.toList (v :: vs) (off + k) j (by simp at h ⊢; omega)
    rw [h1, h2]
    simp only [Array.toList_setIfInBounds, List.getElem?_set, List.length_cons]
    by_cases e1 : j < off + k
    · rw [if_pos (by omega), if_pos e1, if_neg (by omega)]
    · by_cases e2 : j = off + k
      · subst e2
        have hl : off + k < cells.size := by simp at h; omega
        simp [hl]
      · rw [if_neg (by omega), if_neg e1]
        by_cases e3 : j < off + (k + 1) + vs.length
        · rw [if_pos e3, if_pos (by omega), show j - (off + k) = (j - (off + (k + 1))) + 1 by omega]
          rfl
        · rw [if_neg e3, if_neg (by omega), if_neg (by omega)]
theorem fill_step {place : Nat → Option (Nat × Nat)} {cells : Array Value} {i off : Nat} {x : Value} {rest : List (Nat × Value)} (hp : place i = some (off, x.cells.size)) (hle : off + x.cells.size ≤ cells.size) :
    Instr.fill place cells ((i, x) :: rest) = Instr.fill place (cells.toList.take off ++ x.cells.toList ++ cells.toList.drop (off + x.cells.size)).toArray rest := by
  simp only [Instr.fill, hp]
  rw [if_neg (by simp; omega)]
  congr 1
  apply Array.ext'
  have := fold_splice x.cells.toList off 0 cells (by simp; omega)
  simp only [Nat.add_zero, Array.length_toList] at this
  rw [← this, ← Array.foldl_toList, Array.toList_zipIdx]

/-! ### Values that are built -/
def buildK (fs : List (Nat × Nat)) : List (Nat × AV) → List AV → (List AV → Prop) → Prop
  | [], cs, K => K cs
  | (i, v) :: r, cs, K => match fieldOff fs i with
    | some (o, s) => bif okv v && Nat.beq (cellsOf v).length s && Nat.ble (Nat.add o s) cs.length then forceL (setCells cs o (cellsOf v)) fun cs => buildK fs r cs K else False
    | none => False
theorem buildK_ok {fs : List (Nat × Nat)} {place : Nat → Option (Nat × Nat)} (hp : ∀ i o s, fieldOff fs i = some (o, s) → place i = some (o, s)) : ∀ {parts : List (Nat × AV)} {vs : List (Nat × Value)} {cs : List AV} {cells : Array Value} {K : List AV → Prop},
    buildK fs parts cs K → All2 (fun x y => x.1 = y.1 ∧ RepV T w H ρ x.2 y.2) parts vs → All2 (Rep1 T w H ρ) cs cells.toList →
    ∃ cs' cells', Instr.fill place cells vs = some cells' ∧ All2 (Rep1 T w H ρ) cs' cells'.toList ∧ K cs'
  | [], _, cs, cells, K, h, .nil, hc => ⟨cs, cells, rfl, hc, h⟩
  | (i, u) :: r, (j, x) :: vs, cs, cells, K, h, .cons ⟨h1, h2⟩ h3, hc => by
    simp only at h1 h2
    subst h1
    unfold buildK at h
    split at h
    · rename_i o s hf
      cases hb : okv u && Nat.beq (cellsOf u).length s && Nat.ble (Nat.add o s) cs.length with
      | false => rw [hb] at h; exact h.elim
      | true =>
        rw [hb] at h
        simp only [cond_true, forceL_eq] at h
        simp only [Bool.and_eq_true] at hb
        have hl : (cellsOf u).length = s := Nat.eq_of_beq_eq_true hb.1.2
        have hle : o + s ≤ cs.length := Nat.le_of_ble_eq_true hb.2
        have hcu := cells_rep h2 hb.1.1
        have hxs : x.cells.size = s := by have := hcu.length; simp at this; omega
        have hcl : cells.size = cs.length := by have := hc.length; simpa using this.symm
        have hall := setCells_all hc hcu (o := o) (by omega)
        have hxl : x.cells.toList.length = s := by simpa using hxs
        obtain ⟨cs', cells', e1, e2, e3⟩ := buildK_ok hp (cells := (cells.toList.take o ++ x.cells.toList ++ cells.toList.drop (o + x.cells.size)).toArray) h h3 (by
          rw [hxs]
          rw [hxl] at hall
          simpa using hall)
        exact ⟨cs', cells', by rw [fill_step (by rw [hxs]; exact hp _ _ _ hf) (by omega)]; exact e1, e2, e3⟩
    · exact h.elim
theorem fields_run : ∀ {fs : List (Nat × Nat)} {gs : List Field}, fieldsOk P fs gs = true → (gs.mapM fun f => (do pure (f.offset, ← sizeOf f.type) : Sem (Nat × Nat))).run P w = .ok fs w
  | [], [], _ => by simp
  | [], _ :: _, h => by simp [fieldsOk] at h
  | _ :: _, [], h => by simp [fieldsOk] at h
  | (o, s) :: fs, g :: gs, h => by
    simp only [fieldsOk, Bool.and_eq_true, decide_eq_true_eq] at h
    obtain ⟨j, hj, hjs⟩ := Option.map_eq_some_iff.1 h.1.2
    have hsz : (sizeOf g.type).run P w = .ok s w := by simp [sizeOf, typeInfo, hj, hjs]
    have ih := fields_run h.2
    rw [List.mapM_cons]
    simp only [Sem.run_bind, hsz, Result.andThen_ok, Sem.run_pure, ih, h.1.1]
theorem fieldOff_get : ∀ (fs : List (Nat × Nat)) (i : Nat), fieldOff fs i = fs[i]?
  | [], _ => rfl
  | _ :: _, 0 => rfl
  | _ :: r, i + 1 => by simp [fieldOff, fieldOff_get r i]
def bldK (ti : TI) (parts : List (Nat × AV)) (K : AV → Prop) : Prop := match ti.kind with
  | .struct fs => buildK fs parts ti.zero fun cs => K (.agg cs)
  | _ => False
theorem bldK_ok {t : TypeId} {ti : TI} (ht : TyR P t ti) {parts : List (Nat × AV)} {vs : Array (Nat × Value)} {K : AV → Prop} (h : bldK ti parts K) (hv : All2 (fun x y => x.1 = y.1 ∧ RepV T w H ρ x.2 y.2) parts vs.toList) :
    ∃ val u', (Instr.build t vs).run P w = .ok val w ∧ RepV T w H ρ u' val ∧ K u' := by
  unfold bldK at h
  split at h
  · rename_i fs hk
    obtain ⟨gs, hu, hf⟩ := struct_fields ht hk
    obtain ⟨z, hz, hzz, _⟩ := zero_run (w := w) ht
    have hz1 : All2 (Rep1 T w H ρ) ti.zero z.cells.toList := (zeqs_rep hzz).mono fun _ _ h => h.rep1
    obtain ⟨cs', cells', e1, e2, e3⟩ := buildK_ok (place := fun i => fs.toArray[i]?) (fun i o s hi => by rw [fieldOff_get] at hi; simpa using hi) h hv hz1
    refine ⟨.agg cells', .agg cs', ?_, ⟨cells', rfl, e2⟩, e3⟩
    have hm : (gs.mapM fun f => (do pure (f.offset, ← sizeOf f.type) : Sem (Nat × Nat))).run P w = .ok fs.toArray w := by
      have h1 := fields_run (w := w) hf
      rw [← Array.toList_mapM, Sem.run_map] at h1
      cases hr : (gs.mapM fun f => (do pure (f.offset, ← sizeOf f.type) : Sem (Nat × Nat))).run P w with
      | ok a w1 =>
        rw [hr] at h1
        simp only [Result.andThen_ok, Result.ok.injEq] at h1
        obtain ⟨rfl, rfl⟩ := h1
        rfl
      | halt x w1 => rw [hr] at h1; cases h1
    simp only [Instr.build, Sem.run_bind, hz, Result.andThen_ok, run_underlying hu, hm]
    rw [e1]
    rfl
  · exact h.elim

def extK (u : AV) (i : Nat) (K : AV → Prop) : Prop := match u with
  | .tup us => (match us[i]? with | some v => force v K | none => False)
  | _ => False
theorem extK_ok {i : Nat} {K : AV → Prop} (h : extK u i K) (hr : RepV T w H ρ u v) : ∃ val u', (Instr.extract v i).run P w = .ok val w ∧ RepV T w H ρ u' val ∧ K u' := by
  unfold extK at h
  split at h
  · split at h
    · rename_i us x hx
      obtain ⟨vs, rfl, hvs⟩ := hr
      obtain ⟨val, h1, h2⟩ := hvs.at i x hx
      rw [force_eq] at h
      exact ⟨val, x, by simp [Instr.extract] at h1 ⊢; simp [h1], .ofA h2, h⟩
    · exact h.elim
  · exact h.elim
def isBoxV : AV → Bool
  | .box _ _ => true | .rptr _ _ => true | _ => false
theorem caps_rep : ∀ {us : List AV} {vs : List Value}, us.all isBoxV = true → All2 (RepV T w H ρ) us vs → All2 (CapR T w H ρ) us vs
  | [], _, _, .nil => .nil
  | u :: us, v :: vs, h, .cons h1 h2 => by
    simp only [List.all_cons, Bool.and_eq_true] at h
    refine .cons ?_ (caps_rep h.2 h2)
    cases u <;> simp [isBoxV] at h <;> exact h1
end
end Go.V


set_option linter.unusedVariables false
set_option linter.unusedSimpArgs false
namespace Go.V
section
variable {P : Program} {T : Ctx} {w w' : World} {H : Heap} {ρ : Places} {u u2 : AV} {v v2 : Value}

/-! ### A literal slice -/
def idxOk : Nat → List (Nat × Operand) → Bool
  | _, [] => true
  | n, (i, _) :: r => Nat.beq i n && idxOk (n + 1) r
/-- All parts have so many cells. -/
def partsOk (c : Nat) : List AV → Bool
  | [] => true
  | v :: r => okv v && Nat.beq (cellsOf v).length c && partsOk c r
theorem fill_seq {size : Nat} : ∀ (vs : List Value) (m : Nat) (cells : Array Value), (∀ x ∈ vs, x.cells.size = size) → (m + vs.length) * size ≤ cells.size →
    Instr.fill (fun i => some (i * size, size)) cells ((vs.zipIdx m).map fun x => (x.2, x.1)) = some (cells.toList.take (m * size) ++ (vs.flatMap fun x => x.cells.toList) ++ cells.toList.drop ((m + vs.length) * size)).toArray
  | [], m, cells, _, _ => by simp [Instr.fill]
  | x :: vs, m, cells, hs, hl => by
    have hx : x.cells.size = size := hs x (by simp)
    have hmul : (m + (x :: vs).length) * size = m * size + size + vs.length * size := by
      simp only [List.length_cons, Nat.add_mul, Nat.one_mul]; omega
    simp only [List.zipIdx_cons, List.map_cons]
    rw [fill_step (off := m * size) (by rw [hx]) (by omega)]
    have ih := fill_seq vs (m + 1) (cells.toList.take (m * size) ++ x.cells.toList ++ cells.toList.drop (m * size + x.cells.size)).toArray (fun y hy => hs y (by simp [hy])) (by
      simp only [List.size_toArray, List.length_append, List.length_take, List.length_drop, Array.length_toList, Nat.add_mul, Nat.one_mul]
      omega)
    rw [ih]
    congr 2
    have h1 : (m + 1) * size = m * size + size := by rw [Nat.add_mul, Nat.one_mul]
    have h2 : (m + 1 + vs.length) * size = m * size + size + vs.length * size := by simp only [Nat.add_mul, Nat.one_mul]
    have hxl : x.cells.toList.length = size := by simpa using hx
    simp only [List.flatMap_cons]
    rw [h1, h2, hmul, hx]
    have hA : (cells.toList.take (m * size)).length = m * size := by simp; omega
    rw [List.take_append_of_le_length (by simp; omega), List.take_of_length_le (by simp; omega)]
    rw [List.drop_append, List.drop_eq_nil_of_le (by simp; omega)]
    simp only [List.nil_append, List.length_append, hA, hxl, List.drop_drop, List.append_assoc]
    congr 4
    omega
def bslK (e : Nat) (te : TI) (len : Nat) (vs : List AV) (H : Heap) (K : AV → Heap → Prop) : Prop :=
  bif Nat.beq vs.length len && partsOk te.cells vs && Nat.ble (len * te.cells) 16777216 && Nat.ble (len * te.bytes) maxB && Nat.ble len maxB then
    K (.own (List.length H) 0 len) (H ++ [.arrl e (vs.map cellsOf)]) else False
theorem partsOk_ok {c : Nat} : ∀ {us : List AV} {vs : List Value}, partsOk c us = true → All2 (RepV T w H ρ) us vs → (∀ x ∈ vs, x.cells.size = c) ∧ (∀ x ∈ us.map cellsOf, x.length = c) ∧ All2 (fun u (v : Value) => All2 (Rep1 T w H ρ) u v.cells.toList) (us.map cellsOf) vs
  | [], _, _, .nil => ⟨by simp, by simp, .nil⟩
  | u :: us, v :: vs, h, .cons h1 h2 => by
    simp only [partsOk, Bool.and_eq_true] at h
    obtain ⟨a, b, c'⟩ := partsOk_ok h.2 h2
    have hc := cells_rep h1 h.1.1
    have hl := Nat.eq_of_beq_eq_true h.1.2
    have : v.cells.size = c := by have := hc.length; simp at this; omega
    refine ⟨?_, ?_, .cons hc c'⟩
    · intro x hx
      rcases List.mem_cons.1 hx with rfl | hx
      · exact this
      · exact a x hx
    · intro x hx
      rw [List.map_cons] at hx
      rcases List.mem_cons.1 hx with rfl | hx
      · exact hl
      · exact b x hx
/-- Cells laid one element behind the other. -/
theorem flat_at {size : Nat} : ∀ (vs : List Value), (∀ x ∈ vs, x.cells.size = size) → ∀ (i j : Nat) (x : Value), vs[i]? = some x → j < size → (vs.flatMap fun x => x.cells.toList)[i * size + j]? = x.cells.toList[j]?
  | [], _, i, j, x, h, _ => by simp at h
  | y :: vs, hs, 0, j, x, h, hj => by
    simp at h
    subst h
    have := hs y (by simp)
    rw [List.flatMap_cons, Nat.zero_mul, Nat.zero_add, List.getElem?_append_left (by simpa [this] using hj)]
  | y :: vs, hs, i + 1, j, x, h, hj => by
    have hy := hs y (by simp)
    have ih := flat_at vs (fun z hz => hs z (by simp [hz])) i j x (by simpa using h) hj
    rw [List.flatMap_cons, List.getElem?_append_right (by simp [hy, Nat.add_mul]; omega), ← ih]
    congr 1
    simp [hy, Nat.add_mul]
    omega
theorem bslK_ok {t e : TypeId} (hu : P.underlying t = some (.slice e)) {te : TI} (hte : T.look e = some te) (hty : TyR P e te) (hH : HeapR T w H ρ) {len : Nat} {us : List AV} {vs : List Value} {K : AV → Heap → Prop} (h : bslK e te len us H K) (hv : All2 (RepV T w H ρ) us vs) :
    ∃ val w' u' H' ρ', (Instr.buildSlice t len ((vs.zipIdx 0).map fun x => (x.2, x.1)).toArray).run P w = .ok val w' ∧ HeapR T w' H' ρ' ∧ Ext (fun _ => False) (fun _ => False) w H ρ w' H' ρ' ∧ RepV T w' H' ρ' u' val ∧ K u' H' ∧ Keeps (fun _ => False) w w' := by
  unfold bslK at h
  cases hb : Nat.beq us.length len && partsOk te.cells us && Nat.ble (len * te.cells) 16777216 && Nat.ble (len * te.bytes) maxB && Nat.ble len maxB with
  | false => rw [hb] at h; exact h.elim
  | true =>
  rw [hb] at h
  simp only [cond_true] at h
  simp only [Bool.and_eq_true] at hb
  obtain ⟨⟨⟨⟨b1, b2⟩, b3⟩, b4⟩, b5⟩ := hb
  have hlen : us.length = len := Nat.eq_of_beq_eq_true b1
  have hvl : vs.length = len := by rw [← hv.length]; exact hlen
  obtain ⟨p1, p2, p3⟩ := partsOk_ok b2 hv
  have hpos := hty.pos
  obtain ⟨z, hz, hzz, _⟩ := zero_run (w := w) hty
  -- the cells
  have hfill : ∀ cells : Array Value, cells.size = len * te.cells → Instr.fill (fun i => some (i * te.cells, te.cells)) cells ((vs.zipIdx 0).map fun x => (x.2, x.1)) = some (vs.flatMap fun x => x.cells.toList).toArray := by
    intro cells hc
    rw [fill_seq vs 0 cells p1 (by rw [Nat.zero_add, hvl, hc]; exact Nat.le_refl _)]
    rw [Nat.zero_mul, Nat.zero_add, hvl, List.take_zero, List.nil_append, List.drop_eq_nil_of_le (by simp [hc]), List.append_nil]
  have hflat : (vs.flatMap fun x => x.cells.toList).length = len * te.cells := by
    rw [List.length_flatMap, ← hvl]
    clear hfill hvl hlen p3 hv h
    induction vs with
    | nil => simp
    | cons x vs ih =>
      have ih' := ih (fun y hy => p1 y (by simp [hy]))
      have hx := p1 x (by simp)
      simp only [List.map_cons, List.sum_cons, List.length_cons, Array.length_toList] at ih' ⊢
      rw [ih', hx, Nat.add_mul]
      omega
  have hrun : (Instr.buildSlice t len ((vs.zipIdx 0).map fun x => (x.2, x.1)).toArray).run P w = .ok (.slice (some ⟨w.heap.size, 0, none⟩) len len) (w.alloc (.cells (vs.flatMap fun x => x.cells.toList).toArray e)) := by
    have h24 : ¬ (len * te.cells > 2 ^ 24) := by have := Nat.le_of_ble_eq_true b3; omega
    unfold Instr.buildSlice
    simp only [Sem.run_bind, run_underlying hu, Result.andThen_ok, sizeOf_run hty]
    rw [if_neg h24]
    by_cases h0 : len * te.cells = 0
    · rw [if_pos h0]
      simp only [Sem.run_bind, Sem.run_pure, Result.andThen_ok]
      rw [hfill _ (by simp [h0])]
      rfl
    · rw [if_neg h0]
      simp only [Sem.run_bind, Sem.run_pure, Result.andThen_ok, hz]
      rw [hfill _ (by simp)]
      rfl
  have hp := hH.push (o := .arrl e (us.map cellsOf)) (x := some (w.heap.size, 0, len)) (keeps_alloc _ w (.cells (vs.flatMap fun x => x.cells.toList).toArray e)) (by
    rintro b p c ⟨⟩
    rw [alloc_size]
    omega) (fun ex => by
    refine ⟨te, hte, hpos, p2, .inr ⟨w.heap.size, 0, len, _, _, by simp [Go.V.push], by rw [alloc_heap, if_pos rfl], .inl rfl, by simp [hflat], by simp [hlen], by simp [hlen]; exact Nat.le_of_ble_eq_true b4, by simp [hlen]; exact Nat.le_of_ble_eq_true b5, ?_⟩⟩
    intro i x hx j u' hu'
    obtain ⟨y, hy, hall⟩ := p3.at i x hx
    obtain ⟨val, hval, hr⟩ := hall.at j u' hu'
    refine ⟨val, ?_, hr.ext ex .none⟩
    have hj : j < te.cells := by
      have := (List.getElem?_eq_some_iff.1 hval).1
      simpa [p1 y (List.mem_of_getElem? hy)] using this
    have := flat_at vs p1 i j y hy hj
    rw [Nat.zero_add]
    simp only [List.getElem?_toArray]
    rw [this]
    exact hval)
  refine ⟨_, _, .own H.length 0 len, _, _, hrun, hp.1, hp.2, ?_, h, keeps_alloc _ w _⟩
  refine ⟨e, len, te, len, ?_, hte, by omega, .inr ⟨w.heap.size, 0, len, 0, by simp [Go.V.push], Nat.le_refl _, by omega, by simp, rfl⟩⟩
  rw [hget_push, if_pos rfl]
  simp [Obj.len, Obj.elems, hlen]
end
end Go.V


set_option linter.unusedVariables false
set_option linter.unusedSimpArgs false
namespace Go.V
section
variable {P : Program} {T : Ctx} {w w' : World} {H : Heap} {ρ : Places} {u u2 : AV} {v v2 : Value}

/-! ### What names an array is forgotten -/
def killC (k : Nat) (v : AV) : AV := match v with
  | .own j o n => bif Nat.beq j k then .undef else .own j o n
  | .elt j i o => bif Nat.beq j k then .undef else .elt j i o
  | v => v
def killA (k : Nat) (v : AV) : AV := match v with
  | .agg cs => .agg (cs.map (killC k))
  | v => killC k v
def killV (k : Nat) (v : AV) : AV := match v with
  | .tup us => .tup (us.map (killA k))
  | v => killA k v
def killO (k : Nat) (o : Go.V.Obj) : Go.V.Obj := match o with
  | .box t cs => .box t (cs.map (killC k))
  | .arrl t ls => .arrl t (ls.map fun x => x.map (killC k))
  | o => o
def killE (k : Nat) : Env → Env
  | [] => []
  | (s, v) :: r => (s, killV k v) :: killE k r
def killEK (k : Nat) : Env → (Env → Prop) → Prop
  | [], K => K []
  | (s, v) :: r, K => force (killV k v) fun v => killEK k r fun r => K ((s, v) :: r)
theorem killEK_eq {k : Nat} : ∀ {env : Env} {K : Env → Prop}, killEK k env K = K (killE k env)
  | [], _ => rfl
  | (s, v) :: r, K => by simp only [killEK, force_eq, killEK_eq, killE]
def forceO (o : Go.V.Obj) (K : Go.V.Obj → Prop) : Prop := match o with
  | .box t cs => forceL cs fun cs => K (.box t cs)
  | .arr t enc hc l => K (.arr t enc hc l)
  | .arrl t ls => K (.arrl t ls)
  | .map es => K (.map es)
  | .dead => K .dead
theorem forceO_eq {o : Go.V.Obj} {K : Go.V.Obj → Prop} : forceO o K = K o := by cases o <;> first | rfl | exact forceL_eq
def killHK (k : Nat) : Heap → (Heap → Prop) → Prop
  | [], K => K []
  | o :: r, K => forceO (killO k o) fun o => killHK k r fun r => K (o :: r)
theorem killHK_eq {k : Nat} : ∀ {H : Heap} {K : Heap → Prop}, killHK k H K = K (H.map (killO k))
  | [], _ => rfl
  | o :: r, K => by simp only [killHK, forceO_eq, killHK_eq, List.map_cons]

theorem get_kill (k : Nat) : ∀ (env : Env) (s : Nat), get (killE k env) s = killV k (get env s)
  | [], s => rfl
  | (t, v) :: r, s => by
    simp only [killE, get]
    cases Nat.beq t s with
    | true => rfl
    | false => exact get_kill k r s
theorem killC_rep {k : Nat} (h : Rep1 T w H ρ u v) : Rep1 T w H ρ (killC k u) v := by
  cases u <;> try exact h
  · rename_i j o n
    simp only [killC]
    cases Nat.beq j k with
    | true => exact h.one
    | false => exact h
  · rename_i j i o
    simp only [killC]
    cases Nat.beq j k with
    | true => exact h.one
    | false => exact h
theorem killCs_rep {k : Nat} {us : List AV} {vs : List Value} (h : All2 (Rep1 T w H ρ) us vs) : All2 (Rep1 T w H ρ) (us.map (killC k)) vs := by
  induction h with
  | nil => exact .nil
  | cons h _ ih => exact .cons (killC_rep h) ih
theorem killA_rep {k : Nat} (h : RepA T w H ρ u v) : RepA T w H ρ (killA k u) v := by
  by_cases ha : ∃ cs, u = .agg cs
  · obtain ⟨cs, rfl⟩ := ha
    obtain ⟨vs, rfl, hv⟩ := h
    exact ⟨vs, rfl, killCs_rep hv⟩
  · by_cases hu : u = .undef
    · subst hu; exact h
    · have h1 : Rep1 T w H ρ u v := by cases u <;> first | exact h | exact absurd ⟨_, rfl⟩ ha | exact absurd rfl hu
      have : killA k u = killC k u := by cases u <;> first | rfl | exact absurd ⟨_, rfl⟩ ha
      rw [this]
      exact .of1 (killC_rep h1)
theorem killAs_rep {k : Nat} {us : List AV} {vs : List Value} (h : All2 (RepA T w H ρ) us vs) : All2 (RepA T w H ρ) (us.map (killA k)) vs := by
  induction h with
  | nil => exact .nil
  | cons h _ ih => exact .cons (killA_rep h) ih
theorem killV_rep {k : Nat} (h : RepV T w H ρ u v) : RepV T w H ρ (killV k u) v := by
  by_cases ha : ∃ cs, u = .tup cs
  · obtain ⟨cs, rfl⟩ := ha
    obtain ⟨vs, rfl, hv⟩ := h
    exact ⟨vs, rfl, killAs_rep hv⟩
  · have h1 : RepA T w H ρ u v := by cases u <;> first | exact h | exact absurd ⟨_, rfl⟩ ha
    have : killV k u = killA k u := by cases u <;> first | rfl | exact absurd ⟨_, rfl⟩ ha
    rw [this]
    exact .ofA (killA_rep h1)
abbrev Is (k : Nat) : Nat → Prop := fun j => j = k
abbrev No : Nat → Prop := fun _ => False
theorem AvC.none {u : AV} : AvC No u := by cases u <;> simp [AvC]
theorem killC_av {k : Nat} : Av (Is k) No (killC k u) := by
  cases u <;> simp only [killC, Av] <;> first
    | trivial
    | exact id
    | exact ⟨fun _ _ => AvC.none, fun _ _ => AvC.none⟩
    | skip
  · rename_i j o n
    cases h : Nat.beq j k with
    | true => trivial
    | false => exact fun h' => by simp [h'] at h
  · rename_i j o n
    cases h : Nat.beq j k with
    | true => trivial
    | false => exact fun h' => by simp [h'] at h
theorem killA_av {k : Nat} : AvA (Is k) No (killA k u) := by
  by_cases ha : ∃ cs, u = .agg cs
  · obtain ⟨cs, rfl⟩ := ha
    intro x hx
    obtain ⟨y, _, rfl⟩ := List.mem_map.1 hx
    exact killC_av
  · have h := killC_av (u := u) (k := k)
    cases u <;> first | exact absurd ⟨_, rfl⟩ ha | exact h | skip
    · rename_i j o n
      simp only [killC] at h
      simp only [killA, killC]
      revert h
      cases Nat.beq j k <;> exact id
    · rename_i j o n
      simp only [killC] at h
      simp only [killA, killC]
      revert h
      cases Nat.beq j k <;> exact id
theorem killV_av {k : Nat} : AvV (Is k) No (killV k u) := by
  by_cases ha : ∃ cs, u = .tup cs
  · obtain ⟨cs, rfl⟩ := ha
    intro x hx
    obtain ⟨y, _, rfl⟩ := List.mem_map.1 hx
    exact killA_av
  · have h := killA_av (u := u) (k := k)
    cases u <;> first | exact absurd ⟨_, rfl⟩ ha | exact h | skip
    · rename_i j o n
      simp only [killA, killC] at h
      simp only [killV, killA, killC]
      revert h
      cases Nat.beq j k <;> exact id
    · rename_i j o n
      simp only [killA, killC] at h
      simp only [killV, killA, killC]
      revert h
      cases Nat.beq j k <;> exact id
theorem closed_av {M N : Nat → Prop} (h : u.closed = true) : Av M N u := by cases u <;> simp [AV.closed] at h <;> trivial
theorem killO_av {k : Nat} (o : Go.V.Obj) : AvO (Is k) No (killO k o) := by
  cases o with
  | box t cs =>
    intro x hx
    obtain ⟨y, _, rfl⟩ := List.mem_map.1 hx
    exact killC_av
  | arr t enc hc l =>
    intro x _ u hu
    exact closed_av (List.all_eq_true.1 (hc x) u hu)
  | arrl t ls =>
    intro x hx u hu
    obtain ⟨y, _, rfl⟩ := List.mem_map.1 hx
    obtain ⟨z, _, rfl⟩ := List.mem_map.1 hu
    exact killC_av
  | dead => trivial
  | map => trivial
theorem hget_map (f : Go.V.Obj → Go.V.Obj) (hf : f .dead = .dead) (H : Heap) (k : Nat) : hget (H.map f) k = f (hget H k) := by
  unfold hget
  rw [List.getElem?_map]
  cases H[k]? with
  | none => exact hf.symm
  | some o => rfl
theorem killO_live {k : Nat} (o : Go.V.Obj) : (killO k o).live ↔ o.live := by cases o <;> simp [killO, Obj.live]
theorem killO_box {k : Nat} (o : Go.V.Obj) : (killO k o).isBox = o.isBox := by cases o <;> simp [killO, Obj.isBox]
theorem killO_len {k : Nat} (o : Go.V.Obj) : (killO k o).len = o.len := by cases o <;> simp [killO, Obj.len, Obj.elems]
theorem killH_owned {k : Nat} {b : Nat} : OwnedT (H.map (killO k)) ρ b ↔ OwnedT H ρ b := by
  unfold OwnedT
  simp only [hget_map (killO k) rfl, killO_live]
theorem ext_kill {k : Nat} : Ext No No w H ρ w (H.map (killO k)) ρ := by
  refine ⟨Keeps.refl _ _, fun b hb => .inl (killH_owned.1 hb), rfl, fun j _ t n hn => ⟨rfl, n, ?_, Nat.le_refl _⟩, fun j _ n hn => ⟨rfl, ?_⟩⟩
  · rw [hget_map (killO k) rfl, killO_len]; exact hn
  · rw [hget_map (killO k) rfl, killO_box]; exact hn
theorem ext_refl_ {M N : Nat → Prop} : Ext M N w H ρ w H ρ := ⟨Keeps.refl _ _, fun b hb => .inl hb, rfl, fun j _ t n hn => ⟨rfl, n, hn, Nat.le_refl _⟩, fun j _ n hn => ⟨rfl, hn⟩⟩
theorem HeapR.kill {k : Nat} (hH : HeapR T w H ρ) : HeapR T w (H.map (killO k)) ρ := by
  refine ⟨fun j => ?_, ?_, ?_, ?_, hH.flt, hH.glob.ext ext_kill⟩
  · rw [hget_map (killO k) rfl]
    have h := hH.obj j
    have h1 : ObjR T w (H.map (killO k)) ρ j (hget H j) := ObjR.ext (ext_kill (k := k)) h rfl (fun _ _ _ _ => rfl) (by cases hget H j <;> simp only [AvO] <;> intros <;> exact Av.none)
    revert h1
    cases hget H j with
    | box t cs =>
      rintro ⟨b, vs, a1, a2, a3⟩
      exact ⟨b, vs, a1, a2, killCs_rep a3⟩
    | arr t enc hc l => exact id
    | arrl t ls =>
      rintro ⟨ti, a1, a2, a3, a4⟩
      refine ⟨ti, a1, a2, ?_, ?_⟩
      · intro x hx
        obtain ⟨y, hy, rfl⟩ := List.mem_map.1 hx
        rw [List.length_map]
        exact a3 y hy
      · rcases a4 with ⟨h5, h6⟩ | ⟨b, p, c, vs, fr, h5, h6, hun, h7, h8, h9, h10, h11⟩
        · exact .inl ⟨h5, by rw [h6]; rfl⟩
        · refine .inr ⟨b, p, c, vs, fr, h5, h6, hun, h7, by simpa using h8, by simpa using h9, by simpa using h10, fun i x hx j u hu => ?_⟩
          rw [List.getElem?_map, Option.map_eq_some_iff] at hx
          obtain ⟨y, hy, rfl⟩ := hx
          rw [List.getElem?_map, Option.map_eq_some_iff] at hu
          obtain ⟨z, hz, rfl⟩ := hu
          obtain ⟨val, e1, e2⟩ := h11 i y hy j z hz
          exact ⟨val, e1, killC_rep e2⟩
    | dead => exact id
    | map es =>
      rintro ⟨b, ms, ck, a1, a2, a3⟩
      exact ⟨b, ms, ck, a1, a2, a3⟩
  · intro j j' b p c p' c' h1 h2
    rw [hget_map (killO k) rfl, killO_live] at h1 h2
    exact hH.inj j j' b p c p' c' h1 h2
  · intro j b p c h1
    rw [hget_map (killO k) rfl, killO_live] at h1
    exact hH.lt j b p c h1
  · intro j b p c h1
    rw [hget_map (killO k) rfl, killO_live] at h1
    exact hH.fresh j b p c h1
end
end Go.V

