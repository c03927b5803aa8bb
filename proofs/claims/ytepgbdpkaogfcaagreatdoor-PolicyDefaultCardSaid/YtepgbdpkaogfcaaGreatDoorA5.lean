/-
  An own logic of abstract values and what is proved with it: the bench texts V24, V25, V26, V27, V28.
-/
import Derived.Test.YtepgbdpkaogfcaaGreatDoorA4
import Derived.Still
set_option linter.unusedVariables false
set_option linter.unusedSimpArgs false
namespace Go.V
section
variable {P : Program} {T : Ctx} {w w' w1 w2 : World} {H H' H1 H2 : Heap} {ρ ρ' ρ1 ρ2 : Places} {u u0 u2 : AV} {v v2 : Value} {env : Env} {a : Act} {n B : Nat}

/-! ### Regions whose order is open -/
/-- What a soft operation comes to. -/
def SoftOut (T : Ctx) (w : World) (H : Heap) (ρ : Places) (u : AV) (v : Value) (w' : World) : Prop := ∃ ρ', HeapR T w' H ρ' ∧ Ext No No w H ρ w' H ρ' ∧ RepV T w' H ρ' u v
/-- A soft operation whose law is given where it is met. -/
structure SoftX (P : Program) (T : Ctx) (op : Op) (env : Env) (H : Heap) (u : AV) : Prop where
  run : ∀ (w : World) (ρ : Places) (a : Act) (n : Nat) (o : Oper), o.op = op → St T w H ρ env a n → Exec P o a w (SoftOut T w H ρ u)
theorem Ext.refl : Ext No No w H ρ w H ρ := ⟨Keeps.refl _ _, fun _ h => .inl h, rfl, fun k _ t n h => ⟨rfl, n, h, Nat.le_refl _⟩, fun k _ n h => ⟨rfl, h⟩⟩
theorem SoftOut.same {K : AV → Env → Heap → Prop} (hK : ∀ v env, K v env H → v = u0) (hS : St T w H ρ env a n) (hr : RepV T w H ρ u v) (hk : K u env H) : SoftOut T w H ρ u0 v w := by
  have := hK _ _ hk
  subst this
  exact ⟨ρ, hS.heap, .refl, hr⟩
theorem ExtOp.soft {o : Oper} {K : AV → Env → Heap → Prop} (hs : softOp o.op = true) (h : ExtOp P T o.op env H K) (hS : St T w H ρ env a n) (hK : ∀ v env, K v env H → v = u0) (hK2 : ∀ v env H', K v env H' → H' = H) : Exec P o a w (SoftOut T w H ρ u0) :=
  (h.run 0 w ρ a n o rfl hS).mono fun v w' ⟨u, e, H', ρ', k1, k2, k3, k4, k5⟩ => by
    have := hK2 _ _ _ k4
    subst this
    have := hK _ _ k4
    subst this
    exact ⟨ρ', k1.heap, k5 hs rfl, k3⟩
theorem softK_ok (hT : treeOk P T = true) (hS : St T w H ρ env a n) (o : Oper) {K : AV → Env → Heap → Prop} (hK : ∀ v env, K v env H → v = u0) (hK2 : ∀ v env H', K v env H' → H' = H) (hs : softOp o.op = true) (h : opK P T o.op env H K) : Exec P o a w (SoftOut T w H ρ u0) := by
  have hH := hS.heap
  cases ho : o.op with
  | move x =>
    rw [ho] at h
    simp only [opK, force_eq] at h
    exact exec_val (v := a.eval x) (w' := w) (by simp [execOp, ho]) (.same hK hS (ev_rep hS x) h)
  | assign x =>
    rw [ho] at h
    simp only [opK, force_eq] at h
    exact exec_val (v := a.eval x) (w' := w) (by simp [execOp, ho]) (.same hK hS (ev_rep hS x) h)
  | pick c x y =>
    rw [ho] at h
    simp only [opK, force_eq] at h
    obtain ⟨b, hb, hk⟩ := boolK_ok h (ev_rep hS c)
    cases b with
    | true => exact exec_val (v := a.eval x) (w' := w) (by simp [execOp, ho, hb, asBool]) (.same hK hS (ev_rep hS x) (by simpa using hk))
    | false => exact exec_val (v := a.eval y) (w' := w) (by simp [execOp, ho, hb, asBool]) (.same hK hS (ev_rep hS y) (by simpa using hk))
  | alloc t => rw [ho] at hs; cases hs
  | box t x => rw [ho] at hs; cases hs
  | build t parts =>
    rw [ho] at h
    simp only [opK, evL_eq] at h
    split at h
    · rename_i ti hti
      have ht := look_ty hT hti
      have hv : ∀ (l : List (Nat × Operand)), All2 (fun (x : Nat × AV) (y : Nat × Value) => x.1 = y.1 ∧ RepV T w H ρ x.2 y.2) ((l.map (·.1)).zip ((l.map (·.2)).map (ev env))) (l.map fun x => (x.1, a.eval x.2)) := by
        intro l
        induction l with
        | nil => exact .nil
        | cons x r ih => exact .cons ⟨rfl, ev_rep hS x.2⟩ ih
      obtain ⟨val, u', r1, r2, r3⟩ := bldK_ok (P := P) ht (vs := parts.map fun (i, x) => (i, a.eval x)) h (by simpa using hv parts.toList)
      exact exec_val (v := val) (w' := w) (by simp only [execOp, ho, Sem.run_bind, r1, Result.andThen_ok, Sem.run_pure]) (.same hK hS r2 r3)
    · exact h.elim
  | buildSlice t len parts => rw [ho] at hs; cases hs
  | load t x =>
    rw [ho] at h
    simp only [opK] at h
    split at h
    · rename_i ti hti
      obtain ⟨val, u', r1, r2, r3⟩ := loadK_ok (P := P) (look_ty hT hti) hH h (ev_rep hS x)
      exact exec_val (v := val) (w' := w) (by simp only [execOp, ho, Sem.run_bind, r1, Result.andThen_ok, Sem.run_pure]) (.same hK hS r2 r3)
    · exact h.elim
  | store t x y => rw [ho] at hs; cases hs
  | nilCheck x =>
    rw [ho] at h
    simp only [opK, force_eq] at h
    split at h
    · rename_i hq
      obtain ⟨p, hp, hn⟩ := nilq_ok hq (ev_rep hS x)
      cases p with
      | none => simp at hn
      | some p => exact exec_val (v := a.eval x) (w' := w) (by simp [execOp, ho, hp]) (.same hK hS (ev_rep hS x) h)
    · exact h.elim
  | binOp op t x y yt =>
    rw [ho] at h
    simp only [opK] at h
    split at h
    · rename_i ti hti
      split at h
      · obtain ⟨val, u', r1, r2, r3⟩ := bopK_ok (P := P) (look_ty hT hti) h (ev_rep hS x) (ev_rep hS y) x y
        exact exec_val (v := val) (w' := w) (by
          simp only [execOp, ho]
          simp only [Sem.run_bind] at r1 ⊢
          rw [r1]
          rfl) (.same hK hS r2 r3)
      · exact ExtOp.soft hs (by rw [ho]; exact h) hS hK hK2
    · exact h.elim
  | unOp op t x =>
    rw [ho] at h
    simp only [opK] at h
    obtain ⟨val, u', r1, r2, r3⟩ := unK_ok (P := P) h (ev_rep hS x)
    exact exec_val (v := val) (w' := w) (by simp only [execOp, ho, Sem.run_bind, r1, Result.andThen_ok, Sem.run_pure]) (.same hK hS r2 r3)
  | convert s d x =>
    rw [ho] at h
    simp only [opK] at h
    split at h
    · rename_i ts hts
      split at h
      · rename_i td htd
        split at h
        · obtain ⟨val, u', r1, r2, r3⟩ := convK_ok (P := P) (look_ty hT hts) (look_ty hT htd) h (ev_rep hS x)
          exact exec_val (v := val) (w' := w) (by simp only [execOp, ho, Sem.run_bind, r1, Result.andThen_ok, Sem.run_pure]) (.same hK hS r2 r3)
        · exact ExtOp.soft hs (by rw [ho]; exact h) hS hK hK2
      · exact h.elim
    · exact h.elim
  | makeFunc fn first caps =>
    rw [ho] at h
    simp only [opK] at h
    split at h
    · rename_i f
      simp only [evL_eq] at h
      cases hb : (first.toList.map (ev env)).all isBoxV && (caps.toList.map (ev env)).all isBoxV with
      | false => rw [hb] at h; exact h.elim
      | true =>
        rw [hb] at h
        simp only [Bool.and_eq_true] at hb
        refine exec_val (v := .func (.func f) (first.map a.eval) (caps.map a.eval)) (w' := w) (by simp [execOp, ho, Instr.makeFunc]) (.same (u := .fn f _ _) hK hS ?_ h)
        exact ⟨_, _, rfl, by simpa using caps_rep hb.1 (evL_rep hS first.toList), by simpa using caps_rep hb.2 (evL_rep hS caps.toList)⟩
    · exact h.elim
  | slice t x lo hi mx =>
    rw [ho] at h
    simp only [opK] at h
    split at h
    · rename_i ti hti
      have ht := look_ty hT hti
      obtain ⟨lo', e1, h⟩ := ev?_ok hS h
      obtain ⟨hi', e2, h⟩ := ev?_ok hS h
      obtain ⟨mx', e3, h⟩ := ev?_ok hS h
      rw [force_eq] at h
      have key : ∀ (tk : TK), ti.kind = tk → (∀ e, tk = .slice e → ∃ ti, T.look e = some ti) → cutK (H := H) tk (ev env x) lo' hi' mx' (fun v => K v env H) → Exec P o a w (SoftOut T w H ρ u0) := by
        intro tk hk hlk hc
        subst hk
        obtain ⟨val, u', r1, r2, r3⟩ := cutK_ok (P := P) ht (fun e he => let ⟨ti, h⟩ := hlk e he; ⟨ti, h, look_ty hT h⟩) e1 e2 e3 (ev_rep hS x) hc
        exact exec_val (v := val) (w' := w) (by simp only [execOp, ho, Sem.run_bind, r1, Result.andThen_ok, Sem.run_pure]) (.same hK hS r2 r3)
      split at h
      · rename_i hk
        exact key _ hk (by simp) h
      · rename_i e hk
        split at h
        · rename_i te hte
          exact key _ hk (by rintro e' ⟨⟩; exact ⟨te, hte⟩) h
        · exact h.elim
      · exact h.elim
    · exact h.elim
  | fieldAddr t x f =>
    rw [ho] at h
    simp only [opK] at h
    split at h
    · rename_i ti hti
      obtain ⟨val, u', r1, r2, r3⟩ := fieldK_ok (P := P) (look_ty hT hti) h (ev_rep hS x)
      exact exec_val (v := val) (w' := w) (by simp only [execOp, ho, Sem.run_bind, r1, Result.andThen_ok, Sem.run_pure]) (.same hK hS r2 r3)
    · exact h.elim
  | indexAddr t x i =>
    rw [ho] at h
    simp only [opK] at h
    split at h
    · rename_i c b e z hti
      split at h
      · rename_i te hte
        obtain ⟨val, u', r1, r2, r3⟩ := idxK_ok (P := P) (ty_slice (look_ty hT hti) rfl) hte (look_ty hT hte) hH h (ev_rep hS x) (ev_rep hS i)
        exact exec_val (v := val) (w' := w) (by simp only [execOp, ho, Sem.run_bind, r1, Result.andThen_ok, Sem.run_pure]) (.same hK hS r2 r3)
      · exact h.elim
    · exact h.elim
  | index t x i =>
    rw [ho] at h
    simp only [opK] at h
    split at h
    · rename_i c b z hti
      obtain ⟨val, u', r1, r2, r3⟩ := strIdxK_ok (P := P) (ty_str (look_ty hT hti) rfl) h (ev_rep hS x) (ev_rep hS i)
      exact exec_val (v := val) (w' := w) (by simp only [execOp, ho, Sem.run_bind, r1, Result.andThen_ok, Sem.run_pure]) (.same hK hS r2 r3)
    · exact h.elim
  | extract x i =>
    rw [ho] at h
    simp only [opK] at h
    obtain ⟨val, u', r1, r2, r3⟩ := extK_ok (P := P) h (ev_rep hS x)
    exact exec_val (v := val) (w' := w) (by simp only [execOp, ho, Sem.run_bind, r1, Result.andThen_ok, Sem.run_pure]) (.same hK hS r2 r3)
  | call c =>
    rw [ho] at h
    simp only [opK, callK] at h
    have hargs := evL_rep hS c.args.toList
    have hat : (c.args.toList.map a.eval).toArray = c.args.map a.eval := by apply Array.ext'; simp
    split at h
    · rename_i b hcal
      simp only [evL_eq] at h
      have hexec : ∀ (S : Sem Value) (val : Value) (w1 : World), (∀ cs, builtin b c.argTypes o.type cs (c.args.map a.eval) = (do pure (.value (← S)))) → S.run P w = .ok val w1 → (execOp a.eval o).run P w = .ok (.value val) w1 := by
        intro S val w1 hb hs
        simp only [execOp, ho, resolve, hcal, Sem.run_bind, Sem.run_pure, Result.andThen_ok, invoke, hb, hs]
      split at h
      · split at h
        · rename_i t ht
          split at h
          · rename_i x hx
            split at h
            · rename_i ti hti
              cases hl : c.args.toList with
              | nil => rw [hl] at hx; simp at hx
              | cons y r =>
                rw [hl] at hx
                simp only [List.map_cons, List.cons.injEq, List.map_eq_nil_iff] at hx
                obtain ⟨rfl, rfl⟩ := hx
                obtain ⟨val, u', r1, r2, r3⟩ := lenK_ok (P := P) (ty := o.type) (look_ty hT hti) hH h (ev_rep hS y)
                refine exec_val (v := val) (w' := w) (hexec _ val w (fun _ => rfl) ?_) (.same hK hS r2 r3)
                rw [← hat, hl]
                rw [show c.argTypes = #[t] from Array.ext' ht]
                exact r1
            · exact h.elim
          · exact h.elim
        · exact h.elim
      · split at h
        · rename_i t t2 ht
          split at h
          · rename_i x y hx
            split at h
            · rename_i c1 b1 e z1 hti
              split at h
              · rename_i c2 b2 e2 z2 hti2
                split at h
                · rename_i te hte
                  cases hl : c.args.toList with
                  | nil => rw [hl] at hx; simp at hx
                  | cons y1 r =>
                    cases r with
                    | nil => rw [hl] at hx; simp at hx
                    | cons y2 r =>
                    rw [hl] at hx
                    simp only [List.map_cons, List.cons.injEq, List.map_eq_nil_iff] at hx
                    obtain ⟨rfl, rfl, rfl⟩ := hx
                    rw [ho] at hs
                    simp only [softOp, hcal] at hs
                    cases hs
                · exact h.elim
              · exact ExtOp.soft hs (by rw [ho]; exact h) hS hK hK2
            · exact h.elim
          · exact h.elim
        · exact h.elim
      · obtain ⟨val, u', r1, r2, r3⟩ := minmax_ok (P := P) h hargs c.argTypes o.type
        rw [hat] at r1
        exact exec_val (v := val) (w' := w) (hexec _ val w (fun _ => rfl) r1) (.same hK hS r2 r3)
      · obtain ⟨val, u', r1, r2, r3⟩ := minmax_ok (P := P) h hargs c.argTypes o.type
        rw [hat] at r1
        exact exec_val (v := val) (w' := w) (hexec _ val w (fun _ => rfl) r1) (.same hK hS r2 r3)
      · exact ExtOp.soft hs (by rw [ho]; exact h) hS hK hK2
    · rename_i f hcal
      rw [ho] at hs
      simp only [softOp, hcal] at hs
      cases hs
    · exact h.elim
  | _ => exact ExtOp.soft hs (by rw [ho]; rw [ho] at h; exact h) hS hK hK2
end
end Go.V


set_option linter.unusedVariables false
set_option linter.unusedSimpArgs false
namespace Go.V
section
variable {P : Program} {T : Ctx} {w w' w1 w2 : World} {H H' H1 H2 : Heap} {ρ ρ' ρ1 ρ2 : Places} {u u0 u2 : AV} {v v2 : Value} {env : Env} {a : Act} {n B : Nat} {ops : Array Oper} {md : Region.Mode}

/-- The one result of an operation that leaves the heap as it is told. -/
def onlyK (P : Program) (T : Ctx) (op : Op) (env : Env) (H : Heap) (u : AV) : Prop := match op with
  | .call c => (match c.callee with
    | .value f => (match ev env f with
      | .fn g first caps => evL env c.args.toList fun vs => VCall P T g (first ++ vs ++ caps) H fun r mv H' => mv = [] ∧ r = u ∧ H' = H
      | _ => False)
    | _ => (match softOp op with | true => opK P T op env H fun v _ H' => v = u ∧ H' = H | false => False))
  | .buildSlice t len parts => SoftX P T (.buildSlice t len parts) env H u
  | op => (match softOp op with | true => opK P T op env H fun v _ H' => v = u ∧ H' = H | false => False)
theorem onlyK_ok (hT : treeOk P T = true) (hS : St T w H ρ env a n) (o : Oper) (h : onlyK P T o.op env H u) : Exec P o a w (SoftOut T w H ρ u) := by
  have key : (match softOp o.op with | true => opK P T o.op env H fun v _ H' => v = u ∧ H' = H | false => False) → Exec P o a w (SoftOut T w H ρ u) := by
    intro h
    cases hs : softOp o.op with
    | false => rw [hs] at h; exact h.elim
    | true => rw [hs] at h; exact softK_ok hT hS o (fun _ _ h => h.1) (fun _ _ _ h => h.2) hs h
  unfold onlyK at h
  split at h
  · rename_i c ho
    split at h
    · rename_i f hcal
      split at h
      · rename_i g first caps hf
        simp only [evL_eq] at h
        have hr := ev_rep hS f
        rw [hf] at hr
        obtain ⟨fs, cs, e1, e2, e3⟩ := hr
        have hall : All2 (RepV T w H ρ) (first ++ c.args.toList.map (ev env) ++ caps) (fs.toList ++ c.args.toList.map a.eval ++ cs.toList) := ((caps_back e2).append (evL_rep hS c.args.toList)).append (caps_back e3)
        have hc := h.call w ρ _ hS.heap hall
        have harr : (fs.toList ++ c.args.toList.map a.eval ++ cs.toList).toArray = fs ++ c.args.map a.eval ++ cs := by apply Array.ext'; simp
        rw [harr] at hc
        have hrun : (execOp a.eval o).run P w = (callFunc g (fs ++ c.args.map a.eval ++ cs)).run P w := by
          simp only [execOp, ho, resolve, hcal, e1, Deferred.ofValue, Sem.run_bind, Sem.run_pure, Result.andThen_ok, invoke]
        have hfin : ∀ val w', (∃ r mv H' ρ', HeapR T w' H' ρ' ∧ RepV T w' H' ρ' r val ∧ Ext (fun k => k ∈ mv) No w H ρ w' H' ρ' ∧ mv = [] ∧ r = u ∧ H' = H) → SoftOut T w H ρ u val w' := by
          rintro val w' ⟨r, mv, H', ρ', k1, k2, k3, rfl, rfl, rfl⟩
          exact ⟨ρ', k1, ⟨k3.keeps, k3.own, k3.F, fun k _ => k3.arr k (by simp), k3.box⟩, k2⟩
        unfold Exec
        rw [hrun]
        unfold ExecF at hc
        split at hc
        · rename_i e; rw [e]; exact hfin _ _ hc
        · rename_i e; rw [e]; exact hc.mono fun e w' ⟨v, h1, h2⟩ => ⟨v, h1, hfin _ _ h2⟩
        · exact hc.elim
      · exact h.elim
    · rename_i ho' hcal
      exact key h
  · rename_i t len parts ho
    exact h.run w ρ a n o ho hS
  · rename_i op _ _
    exact key h

def slotsOf (op : Op) : List Nat := op.operands.toList.filterMap fun x => match x with | .tmp t => some t | _ => none
/-! What is told of the slots, as a function -/
def nrm : AV → AV
  | .bool true => .tt
  | .bool false => .ff
  | u => u
theorem nrm_rep : RepV T w H ρ (nrm u) v ↔ RepV T w H ρ u v := by
  unfold nrm
  split
  · exact ⟨fun h => by have := rep_tt h; subst this; exact .bool true, fun h => by have := rep_bool h; subst this; exact .tt⟩
  · exact ⟨fun h => by have := rep_ff h; subst this; exact .bool false, fun h => by have := rep_bool h; subst this; exact .ff⟩
  · exact Iff.rfl
abbrev EF := Nat → AV
def putF (dst : Option Tmp) (u : AV) (e : EF) : EF := match dst with
  | some d => fun s => if s = d then nrm u else e s
  | none => e
theorem putF_comm {d1 d2 : Option Tmp} {u1 u2 : AV} {e : EF} (h : ∀ d, d1 = some d → d2 ≠ some d) : putF d1 u1 (putF d2 u2 e) = putF d2 u2 (putF d1 u1 e) := by
  cases d1 <;> cases d2 <;> try rfl
  rename_i x y
  have hxy : y ≠ x := fun h' => h x rfl (by rw [h'])
  funext s
  simp only [putF]
  by_cases h1 : s = x
  · subst h1; rw [if_pos rfl, if_neg (Ne.symm hxy), if_pos rfl]
  · rw [if_neg h1]; by_cases h2 : s = y
    · rw [if_pos h2, if_pos h2]
    · rw [if_neg h2, if_neg h2, if_neg h1]
def fnF (env : Env) : EF := fun s => nrm (get env s)
theorem fnF_put {d : Nat} : fnF ((d, u) :: env) = putF (some d) u (fnF env) := by
  funext s
  simp only [fnF, putF, get]
  cases hb : Nat.beq d s with
  | true => have := Nat.eq_of_beq_eq_true hb; subst this; simp
  | false =>
    have : s ≠ d := by rintro rfl; simp at hb
    rw [if_neg this]; rfl
/-- In whatever state these slots are as told, the operation yields this. -/
def Yld (P : Program) (T : Ctx) (ops : Array Oper) (n : Nat) (H : Heap) (o : Oper) (u : AV) (e : EF) : Prop := ∀ a w ρ, HeapR T w H ρ → a.tmps.size = n → (∀ s, s ∈ o.looksAt ops → RepV T w H ρ (e s) (a.tmps.getD s Go.undef)) →
  (Region.wanted o (yielded ops a.tmps) = true ∧ Exec P o a w (SoftOut T w H ρ u)) ∨ (Region.wanted o (yielded ops a.tmps) = false ∧ u = .tup [])
theorem Yld.of {o : Oper} {e e' : EF} (h : Yld P T ops n H o u e) (he : ∀ s, s ∈ o.looksAt ops → e' s = e s) : Yld P T ops n H o u e' := fun a w ρ h1 h2 h3 => h a w ρ h1 h2 fun s hs => by
  have := h3 s hs
  rwa [he s hs] at this
theorem Yld.put {o : Oper} {e : EF} {dst : Option Tmp} (h : ∀ d, dst = some d → d ∉ o.looksAt ops) : Yld P T ops n H o u (putF dst u2 e) ↔ Yld P T ops n H o u e := by
  have : ∀ s, s ∈ o.looksAt ops → putF dst u2 e s = e s := by
    intro s hs
    cases dst with
    | none => rfl
    | some d =>
      simp only [putF]
      rw [if_neg]
      rintro rfl
      exact h s rfl hs
  exact ⟨fun h => h.of fun s hs => (this s hs).symm, fun h => h.of this⟩
def qF (P : Program) (T : Ctx) (ops : Array Oper) (n : Nat) (H : Heap) (i : Nat) (K : EF → Prop) (e : EF) : Prop := match ops[i]? with
  | none => K e
  | some o => ∃ u, Yld P T ops n H o u e ∧ K (putF o.dst u e)
theorem qF.intro {i : Nat} {o : Oper} {e : EF} {K : EF → Prop} (hi : ops[i]? = some o) (hy : Yld P T ops n H o u e) (hk : K (putF o.dst u e)) : qF P T ops n H i K e := by
  unfold qF; rw [hi]; exact ⟨u, hy, hk⟩
theorem qF.mono {i : Nat} {e : EF} {K K' : EF → Prop} (hk : ∀ e, K e → K' e) (h : qF P T ops n H i K e) : qF P T ops n H i K' e := by
  unfold qF at h ⊢
  split
  · rename_i ho; rw [ho] at h; exact hk _ h
  · rename_i o ho; rw [ho] at h; obtain ⟨u, h1, h2⟩ := h; exact ⟨u, h1, hk _ h2⟩
theorem qF.back {j : Nat} {oi oj : Oper} {e : EF} {K : EF → Prop} (hj : ops[j]? = some oj) (hap : oi.apart ops oj = true) (hy : Yld P T ops n H oi u e) (h : qF P T ops n H j K (putF oi.dst u e)) :
    qF P T ops n H j (fun e' => Yld P T ops n H oi u e' ∧ K (putF oi.dst u e')) e := by
  obtain ⟨h1, h2, h3⟩ := Oper.apart_spec hap
  unfold qF at h ⊢
  rw [hj] at h ⊢
  obtain ⟨u', h4, h5⟩ := h
  refine ⟨u', (Yld.put h1).1 h4, (Yld.put h3).2 hy, ?_⟩
  rw [putF_comm h2]
  exact h5
/-- Whatever order is taken for the first m. -/
def anyF (P : Program) (T : Ctx) (md : Region.Mode) (ops : Array Oper) (n : Nat) (H : Heap) (m : Nat) (F : Array Bool → EF → Prop) : Nat → Array Bool → EF → Prop
  | 0, listed, e => (∀ j, j ∈ Region.ready md ops listed → m ≤ j) ∧ F listed e
  | f + 1, listed, e => Region.ready md ops listed ≠ [] ∧ ∀ i, i ∈ Region.ready md ops listed → qF P T ops n H i (anyF P T md ops n H m F f (listed.setIfInBounds i true)) e
theorem ready_false {i : Nat} {listed : Array Bool} (h : i ∈ Region.ready md ops listed) : listed.getD i false = false := by
  have h0 := (mem_ready.1 h).1
  rcases Nat.lt_or_ge i listed.size with h' | h'
  · simp [h'] at h0 ⊢; exact h0
  · simp [Array.getElem?_eq_none h']
/-- Whatever has come up, what it waits for has, too. -/
def ClosedL (md : Region.Mode) (ops : Array Oper) (listed : Array Bool) : Prop := ∀ j oj, ops[j]? = some oj → listed.getD j false = true → ∀ x, x ∈ oj.after → Region.binds md x = true → listed.getD x.on false = true
theorem ClosedL.set {i : Nat} {listed : Array Bool} (h : ClosedL md ops listed) (hi : i ∈ Region.ready md ops listed) : ClosedL md ops (listed.setIfInBounds i true) := by
  intro j oj hj hl x hx hb
  by_cases hji : j = i
  · subst hji
    obtain ⟨_, o, ho, hall⟩ := mem_ready.1 hi
    rw [hj] at ho
    cases ho
    exact getD_set_true (hall x hx hb)
  · rw [getD_set_ne false (Ne.symm hji)] at hl
    exact getD_set_true (h j oj hj hl x hx hb)
/-- j waits for i, maybe through others. -/
def reach (md : Region.Mode) (ops : Array Oper) (i : Nat) : Nat → Nat → Bool
  | 0, _ => false
  | f + 1, j => (match ops[j]? with | some o => o.after.toList.any (fun e => Region.binds md e && (Nat.beq e.on i || reach md ops i f e.on)) | none => false)
theorem reach_spec {i : Nat} {listed : Array Bool} (hcl : ClosedL md ops listed) : ∀ (f j : Nat), reach md ops i f j = true → (∀ oj, ops[j]? = some oj → ∀ x, x ∈ oj.after → Region.binds md x = true → listed.getD x.on false = true) → listed.getD i false = true
  | 0, j, h, _ => by cases h
  | f + 1, j, h, hj => by
    simp only [reach] at h
    split at h
    · rename_i o ho
      obtain ⟨e, he, hb⟩ := List.any_eq_true.1 h
      simp only [Bool.and_eq_true, Bool.or_eq_true] at hb
      have hl := hj o ho e (by simpa using he) hb.1
      rcases hb.2 with h1 | h1
      · rw [← Nat.eq_of_beq_eq_true h1]; exact hl
      · exact reach_spec hcl f e.on h1 fun oj hoj x hx hbx => hcl e.on oj hoj hl x hx hbx
    · cases h
theorem anyF_first {m i g : Nat} {oi : Oper} {F : Array Bool → EF → Prop} (hi : ops[i]? = some oi) (hhard : ∀ j oj, ops[j]? = some oj → m ≤ j → reach md ops i g j = true) :
    ∀ (f : Nat) (listed : Array Bool) (e : EF), ClosedL md ops listed →
      (∀ j oj, ops[j]? = some oj → j ≠ i → listed.getD j true = false → (∀ x ∈ oj.after, Region.binds md x = true → x.on ≠ i) → oi.apart ops oj = true) →
      i ∈ Region.ready md ops listed → Yld P T ops n H oi u e →
      anyF P T md ops n H m F f (listed.setIfInBounds i true) (putF oi.dst u e) → anyF P T md ops n H m F (f + 1) listed e
  | 0, listed, e, hcl, hfree, hr, hy, h => by
    refine ⟨fun h0 => (by rw [h0] at hr; cases hr), fun j hj => ?_⟩
    by_cases hji : j = i
    · subst hji; exact .intro hi hy h
    · have hm := h.1 j (ready_mono hj hji)
      obtain ⟨_, oj, hoj, hall⟩ := mem_ready.1 hj
      have h1 := reach_spec hcl g j (hhard j oj hoj hm) fun oj' ho' x hx hb => by rw [hoj] at ho'; cases ho'; exact hall x hx hb
      rw [ready_false hr] at h1
      cases h1
  | f + 1, listed, e, hcl, hfree, hr, hy, h => by
    refine ⟨fun h0 => (by rw [h0] at hr; cases hr), fun j hj => ?_⟩
    by_cases hji : j = i
    · subst hji; exact .intro hi hy h
    · have h1 := h.2 j (ready_mono hj hji)
      obtain ⟨hjun, oj, hoj, hall⟩ := mem_ready.1 hj
      have hnot : ∀ x ∈ oj.after, Region.binds md x = true → x.on ≠ i := fun x hx hb heq => by
        have h1 := hall x hx hb
        rw [heq, ready_false hr] at h1
        cases h1
      have h2 := qF.back hoj (hfree j oj hoj hji hjun hnot) hy h1
      refine h2.mono fun e' h3 => ?_
      refine anyF_first hi hhard f (listed.setIfInBounds j true) e' (hcl.set hj) ?_ (ready_mono hr (Ne.symm hji)) h3.1 ?_
      · intro k ok hk hki hun hno
        refine hfree k ok hk hki ?_ hno
        by_cases hjk : j = k
        · subst hjk; exact hjun
        · rw [getD_set_ne true hjk] at hun; exact hun
      · rw [Array.setIfInBounds_comm _ _ hji]
        exact h3.2
/-- The natural order of the first ones. -/
def natF (P : Program) (T : Ctx) (ops : Array Oper) (n : Nat) (H : Heap) : List Oper → (EF → Prop) → EF → Prop
  | [], K, e => K e
  | o :: r, K, e => ∃ u, Yld P T ops n H o u e ∧ natF P T ops n H r K (putF o.dst u e)
def tailB (md : Region.Mode) (ops : Array Oper) : Nat → Nat → Array Bool → Bool
  | 0, _, listed => (Region.ready md ops listed).isEmpty
  | f + 1, k, listed => (match Region.ready md ops listed with | [j] => Nat.beq j k | _ => false) && tailB md ops f (k + 1) (listed.setIfInBounds k true)
def softB (md : Region.Mode) (ops : Array Oper) (m t : Nat) : Nat → Nat → Array Bool → Bool
  | 0, k, listed => (Region.ready md ops listed).all (fun j => Nat.ble m j) && Nat.beq k m && tailB md ops t m listed
  | f + 1, k, listed => (Region.ready md ops listed).contains k && Region.free md ops listed k && softB md ops m t f (k + 1) (listed.setIfInBounds k true)
def hardB (md : Region.Mode) (ops : Array Oper) (m : Nat) : Bool :=
  (List.range ops.size).all fun j => Nat.blt j m || (List.range m).all fun i => reach md ops i ops.size j
theorem hardB_spec {m : Nat} (h : hardB md ops m = true) {i : Nat} (hi : i < m) : ∀ j oj, ops[j]? = some oj → m ≤ j → reach md ops i ops.size j = true := by
  intro j oj hj hm
  have h1 := List.all_eq_true.1 h j (List.mem_range.2 (Array.getElem?_eq_some_iff.1 hj).1)
  simp only [Bool.or_eq_true] at h1
  rcases h1 with h1 | h1
  · have := Nat.le_of_ble_eq_true h1; omega
  · exact List.all_eq_true.1 h1 i (List.mem_range.2 hi)
theorem anyF_lex {m t : Nat} {K : EF → Prop} (hh : hardB md ops m = true) : ∀ (l : List Oper) (k : Nat) (listed : Array Bool) (e : EF), ClosedL md ops listed → (∀ j, j < l.length → l[j]? = ops[k + j]?) → k + l.length = m →
    softB md ops m t l.length k listed = true → natF P T ops n H l K e → anyF P T md ops n H m (fun L e => tailB md ops t m L = true ∧ K e) l.length listed e
  | [], k, listed, e, hcl, hl, hk, hB, h => by
    simp only [List.length_nil, softB, Bool.and_eq_true, List.all_eq_true] at hB
    exact ⟨fun j hj => Nat.le_of_ble_eq_true (hB.1.1 j hj), hB.2, h⟩
  | o :: l, k, listed, e, hcl, hl, hk, hB, h => by
    have h0 : ops[k]? = some o := by simpa using (hl 0 (by simp)).symm
    simp only [List.length_cons, softB, Bool.and_eq_true] at hB
    simp only [List.length_cons] at hk
    obtain ⟨⟨hr, hf⟩, hB'⟩ := hB
    obtain ⟨u, hy, hK⟩ := h
    exact anyF_first h0 (hardB_spec hh (by omega)) l.length listed e hcl (Region.free_spec h0 hf) (by simpa using hr) hy
      (anyF_lex hh l (k + 1) _ _ (hcl.set (by simpa using hr)) (fun j hj => by have := hl (j + 1) (by simpa using hj); simpa [Nat.add_assoc, Nat.add_comm 1 j] using this) (by omega) hB' hK)
/-- One order behind the other. -/
theorem anyF_ok (hdst : ∀ (i : Nat) (o : Oper) (d : Nat), ops[i]? = some o → o.dst = some d → d < n) {m r : Nat} {F : Array Bool → EF → Prop} {Q : Exit → Act → World → Prop} {df : List Deferred} {w0 : World} {ρ0 : Places}
    (hF : ∀ L e a w ρ, F L e → (∀ s, RepV T w H ρ (e s) (a.tmps.getD s Go.undef)) → a.tmps.size = n → HeapR T w H ρ → a.defers = df → Step B w0 H ρ0 w H ρ → wpAny P md ops Q r L a w) :
    ∀ (f : Nat) (listed : Array Bool) (e : EF) (a : Act) (w : World) (ρ : Places), anyF P T md ops n H m F f listed e → (∀ s, RepV T w H ρ (e s) (a.tmps.getD s Go.undef)) → a.tmps.size = n → HeapR T w H ρ → a.defers = df → Step B w0 H ρ0 w H ρ →
      wpAny P md ops Q (f + r) listed a w
  | 0, listed, e, a, w, ρ, h, h1, h2, h3, h4, h5 => by rw [Nat.zero_add]; exact hF _ _ _ _ _ h.2 h1 h2 h3 h4 h5
  | f + 1, listed, e, a, w, ρ, h, h1, h2, h3, h4, h5 => by
    rw [show f + 1 + r = (f + r) + 1 by omega]
    refine ⟨fun h0 => absurd h0 h.1, fun i hi => ?_⟩
    have hq := h.2 i hi
    unfold qF at hq
    unfold wpOp
    split
    · rename_i ho
      rw [ho] at hq
      exact anyF_ok hdst hF f _ _ _ _ _ hq h1 h2 h3 h4 h5
    · rename_i o ho
      rw [ho] at hq
      obtain ⟨u, hy, hk⟩ := hq
      have hd : ∀ v, (a.put o.dst v).defers = df := fun v => by rw [← h4]; cases o.dst <;> rfl
      have hz : ∀ v, (a.put o.dst v).tmps.size = n := fun v => by rw [← h2]; cases o.dst <;> simp [Act.put]
      have hput : ∀ (w' : World) (ρ' : Places) (u : AV) (v : Value), (∀ s, RepV T w' H ρ' (e s) (a.tmps.getD s Go.undef)) → RepV T w' H ρ' u v → ∀ s, RepV T w' H ρ' (putF o.dst u e s) ((a.put o.dst v).tmps.getD s Go.undef) := by
        intro w' ρ' u v g1 g2 s
        cases hds : o.dst with
        | none => exact g1 s
        | some d =>
          simp only [putF, Act.put]
          by_cases hsd : s = d
          · subst hsd
            rw [if_pos rfl, nrm_rep]
            have hlt : s < a.tmps.size := by have := hdst _ _ _ ho hds; omega
            have : (a.tmps.setIfInBounds s v).getD s Go.undef = v := by simp [Array.getD, hlt]
            rw [this]; exact g2
          · rw [if_neg hsd]
            have : (a.tmps.setIfInBounds d v).getD s Go.undef = a.tmps.getD s Go.undef := by
              simp only [Array.getD_eq_getD_getElem?, Array.getElem?_setIfInBounds, if_neg (Ne.symm hsd)]
            rw [this]
            exact g1 s
      rcases hy a w ρ h3 h2 (fun s _ => h1 s) with ⟨hw, hx⟩ | ⟨hw, rfl⟩
      · rw [if_pos hw]
        refine .inl (wp_of_exec ?_)
        have key : ∀ val w', SoftOut T w H ρ u val w' → wpAny P md ops Q (f + r) (listed.setIfInBounds i true) (a.put o.dst val) w' := by
          rintro val w' ⟨ρ', g1, g2, g3⟩
          exact anyF_ok hdst hF f _ _ _ _ _ hk (hput w' ρ' u val (fun s => (h1 s).ext g2 .none) g3) (hz _) g1 (hd _) (h5.trans g2.step)
        unfold Exec at hx ⊢
        split at hx
        · exact key _ _ hx
        · exact key _ _ hx
        · exact hx.mono fun e w' ⟨v, h1, h2⟩ => ⟨v, h1, key _ _ h2⟩
        · exact hx.elim
      · rw [if_neg (by simp [hw])]
        exact anyF_ok hdst hF f _ _ _ _ _ hk (hput w ρ (.tup []) Go.undef h1 ⟨#[], rfl, .nil⟩) (hz _) h3 (hd _) h5
/-- What must come in the natural order. -/
theorem wpOps_tail {Q : Exit → Act → World → Prop} : ∀ (l : List Oper) (k : Nat) (listed : Array Bool) (a : Act) (w : World), (∀ j, l[j]? = ops[k + j]?) → tailB md ops l.length k listed = true → wpList P ops Q l a w → wpAny P md ops Q l.length listed a w
  | [], k, listed, a, w, hl, hB, h => ⟨by simpa [tailB] using hB, h⟩
  | o :: l, k, listed, a, w, hl, hB, h => by
    have h0 : ops[k]? = some o := by simpa using (hl 0).symm
    simp only [List.length_cons, tailB, Bool.and_eq_true] at hB
    obtain ⟨hr, hB⟩ := hB
    split at hr
    · rename_i j hj
      have := Nat.eq_of_beq_eq_true hr
      subst this
      refine ⟨fun h' => (by rw [hj] at h'; cases h'), fun i hi => ?_⟩
      rw [hj] at hi
      simp only [List.mem_singleton] at hi
      subst hi
      have ih : ∀ a w, wpList P ops Q l a w → wpAny P md ops Q l.length (listed.setIfInBounds i true) a w := fun a w h => wpOps_tail l (i + 1) _ a w (fun j => by have := hl (j + 1); simpa [Nat.add_assoc, Nat.add_comm 1 j] using this) hB h
      refine wpOp_mono ih ?_
      unfold wpOp
      rw [h0]
      exact h
    · cases hr
/-- Each operation alone, then what needs its order. -/
def dopsK (P : Program) (T : Ctx) (nt : Nat) (all : List Oper) : List Oper → Env → Heap → (Env → Prop) → Prop
  | [], env, H, K => K env
  | o :: r, env, H, K => guardK all o.guard env
      (fun env => ∃ u, onlyK P T o.op (trimmed (slotsOf o.op) env) H u ∧ putK nt o.dst u env fun env => dopsK P T nt all r env H K)
      (fun env => putK nt o.dst (.tup []) env fun env => dopsK P T nt all r env H K)
theorem get_trimmed' : ∀ (ks : List Nat) (env : Env) (s : Nat), (get (trimmed ks env) s = get env s ∧ s ∈ ks) ∨ get (trimmed ks env) s = .undef
  | [], env, s => .inr rfl
  | k :: ks, env, s => by
    simp only [trimmed, get]
    cases h : Nat.beq k s with
    | true => have := Nat.eq_of_beq_eq_true h; subst this; exact .inl ⟨rfl, by simp⟩
    | false =>
      rcases get_trimmed' ks env s with ⟨h1, h2⟩ | h1
      · exact .inl ⟨h1, by simp [h2]⟩
      · exact .inr h1
theorem slots_looked {o : Oper} {s : Nat} (h : s ∈ slotsOf o.op) : s ∈ o.looksAt ops := List.mem_append_left _ h
theorem yielded_at {all : List Oper} {j d : Nat} {op : Op} {ty : TypeId} {pos : String} {after : Array Edge} {guard : Option (Nat × Bool)} (hj : all[j]? = some ⟨some d, op, ty, pos, after, guard⟩) :
    yielded all.toArray a.tmps j = (match a.tmps.getD d Go.undef with | .bool b => some b | _ => none) := by
  simp only [yielded, List.getElem?_toArray, hj, Option.bind_some]
  by_cases hd : d < a.tmps.size
  · have e1 : a.tmps[d]? = some (a.tmps[d]) := Array.getElem?_eq_getElem hd
    have e2 : a.tmps.getD d Go.undef = a.tmps[d] := by simp [Array.getD, hd]
    rw [e1, e2]
    generalize a.tmps[d] = x
    cases x <;> rfl
  · simp [Array.getD, hd, Go.undef]
/-- Whether an operation is wanted, from what is told. -/
def WantF (T : Ctx) (ops : Array Oper) (H : Heap) (o : Oper) (e : EF) (b : Bool) : Prop := ∀ (a : Act) (w : World) (ρ : Places), (∀ s, s ∈ o.looksAt ops → RepV T w H ρ (e s) (a.tmps.getD s Go.undef)) → Region.wanted o (yielded ops a.tmps) = b
theorem guardF {all : List Oper} {o : Oper} {yes no : Env → Prop} (h : guardK all o.guard env yes no) :
    ∃ env', fnF env' = fnF env ∧ ((WantF T all.toArray H o (fnF env) true ∧ yes env') ∨ (WantF T all.toArray H o (fnF env) false ∧ no env')) := by
  unfold guardK at h
  split at h
  · rename_i hg
    exact ⟨env, rfl, .inl ⟨fun a w ρ _ => by simp [Region.wanted, hg], h⟩⟩
  · rename_i j want hg
    split at h
    · rename_i d op ty pos after guard hj
      rw [opAt_eq] at hj
      have hlook : d ∈ o.looksAt all.toArray := by
        unfold Oper.looksAt
        refine List.mem_append_right _ ?_
        simp [hg, hj]
      have hw : ∀ (a : Act), Region.wanted o (yielded all.toArray a.tmps) = (yielded all.toArray a.tmps j == some want) := fun a => by simp [Region.wanted, hg]
      have hval : ∀ (b : Bool), nrm (get env d) = (match b with | true => .tt | false => .ff) → WantF T all.toArray H o (fnF env) (b == want) := by
        intro b hb a w ρ hr
        have h1 := hr d hlook
        simp only [fnF, hb] at h1
        rw [hw, yielded_at hj]
        cases b with
        | true => rw [rep_tt h1]; cases want <;> rfl
        | false => rw [rep_ff h1]; cases want <;> rfl
      have hput : ∀ (u : AV), nrm u = nrm (get env d) → fnF ((d, u) :: env) = fnF env := by
        intro u hu
        rw [fnF_put]
        funext s
        simp only [putF]
        by_cases hs : s = d
        · subst hs; rw [if_pos rfl, hu]; rfl
        · rw [if_neg hs]
      split at h
      · rename_i hd
        have := hval true (by rw [hd]; rfl)
        cases want with
        | true => exact ⟨env, rfl, .inl ⟨this, h⟩⟩
        | false => exact ⟨env, rfl, .inr ⟨this, h⟩⟩
      · rename_i hd
        have := hval false (by rw [hd]; rfl)
        cases want with
        | true => exact ⟨env, rfl, .inr ⟨this, h⟩⟩
        | false => exact ⟨env, rfl, .inl ⟨this, h⟩⟩
      · rename_i b hd
        cases b with
        | true =>
          have := hval true (by rw [hd]; rfl)
          cases want with
          | true => exact ⟨_, hput .tt (by rw [hd]; rfl), .inl ⟨this, h.yes rfl⟩⟩
          | false => exact ⟨_, hput .tt (by rw [hd]; rfl), .inr ⟨this, h.yes rfl⟩⟩
        | false =>
          have := hval false (by rw [hd]; rfl)
          cases want with
          | true => exact ⟨_, hput .ff (by rw [hd]; rfl), .inr ⟨this, h.no rfl⟩⟩
          | false => exact ⟨_, hput .ff (by rw [hd]; rfl), .inl ⟨this, h.no rfl⟩⟩
      · rename_i hd
        refine ⟨env, rfl, .inr ⟨fun a w ρ hr => ?_, h⟩⟩
        have h1 := hr d hlook
        simp only [fnF, hd] at h1
        obtain ⟨vs, h2, h3⟩ := h1
        rw [hw, yielded_at hj, h2]
        rfl
      · exact h.elim
    · exact h.elim
theorem putK_fn {dst : Option Tmp} {K : Env → Prop} {env0 : Env} (h : putK n dst u env K) (he : fnF env = fnF env0) : ∃ env', fnF env' = putF dst u (fnF env0) ∧ K env' := by
  unfold putK at h
  split at h
  · split at h
    · exact ⟨_, by rw [fnF_put, he], h⟩
    · exact h.elim
  · exact ⟨_, he, h⟩
theorem dopsK_ok (hT : treeOk P T = true) {all : List Oper} : ∀ {l : List Oper} {env : Env} {K : Env → Prop}, dopsK P T n all l env H K → natF P T all.toArray n H l (fun e => ∃ env', fnF env' = e ∧ K env') (fnF env)
  | [], env, K, h => ⟨env, rfl, h⟩
  | o :: r, env, K, h => by
    simp only [dopsK] at h
    obtain ⟨env1, he, hcase⟩ := guardF (T := T) (H := H) h
    rcases hcase with ⟨hw, u, h1, h2⟩ | ⟨hw, h2⟩
    · obtain ⟨env2, h3, h4⟩ := putK_fn h2 he
      refine ⟨u, fun a w ρ hH hn hr => .inl ⟨hw a w ρ hr, ?_⟩, ?_⟩
      · refine onlyK_ok (n := n) hT ⟨fun s => ?_, hn, hH⟩ o h1
        rcases get_trimmed' (slotsOf o.op) env1 s with ⟨g1, g2⟩ | g1
        · rw [g1]
          have := hr s (slots_looked g2)
          rw [← he] at this
          exact nrm_rep.1 this
        · rw [g1]; trivial
      · rw [← h3]; exact dopsK_ok hT h4
    · obtain ⟨env2, h3, h4⟩ := putK_fn h2 he
      refine ⟨.tup [], fun a w ρ hH hn hr => .inr ⟨hw a w ρ hr, rfl⟩, ?_⟩
      rw [← h3]; exact dopsK_ok hT h4
def dstB (n : Nat) (ops : List Oper) : Bool := ops.all fun o => match o.dst with | some d => Nat.blt d n | none => true
def drawB (m n : Nat) (ops : List Oper) : Bool := Nat.ble m ops.length && dstB n ops && hardB .any ops.toArray m && softB .any ops.toArray m (ops.length - m) m 0 (Array.replicate ops.length false)
/-- A region whose order is open: the first m in any order, the others behind all before. -/
theorem WDraw.of (m : Nat) {ops : List Oper} {K : Env → Heap → Prop} (hm : P.follows .mixedOrders = true) (hT : treeOk P T = true) (hB : drawB m n ops = true)
    (h : dopsK P T n ops (ops.take m) env H fun env => opsK P T n ops (ops.drop m) env H K) : WDraw B P T n ops env H K := by
  constructor
  intro w ρ a t Q hS hQ
  simp only [drawB, Bool.and_eq_true] at hB
  obtain ⟨⟨⟨hml, hd⟩, hh⟩, hs⟩ := hB
  have hml := Nat.le_of_ble_eq_true hml
  have hsch : Region.schedule (P.follows .mixedOrders) ops.toArray t = Region.linearise.go .any ops.toArray ops.toArray.size t (Array.replicate ops.toArray.size false) [] := by
    simp only [Region.schedule, hm, Bool.true_or, if_true]
    rfl
  rw [hsch]
  refine wpAny_sound _ _ _ _ _ ?_
  have hlen : (ops.take m).length = m := by simp [hml]
  have hdst : ∀ (i : Nat) (o : Oper) (d : Nat), ops.toArray[i]? = some o → o.dst = some d → d < n := by
    intro i o d hi hd'
    have := List.all_eq_true.1 hd o (List.mem_of_getElem? (by simpa using hi))
    rw [hd'] at this
    simpa using this
  have hlex := anyF_lex (n := n) (H := H) (t := ops.length - m) hh (ops.take m) 0 (Array.replicate ops.length false) (fnF env) (fun j oj hj hl => by simp [Array.getD] at hl) (fun j hj => by
    have : j < m := by omega
    simp [List.getElem?_take, this]) (by omega) (by rw [hlen]; exact hs) (dopsK_ok (n := n) hT h)
  have h0 : Step B w H ρ { w with drawn := w.drawn + 1 } H ρ := ⟨⟨rfl, rfl, rfl, Nat.le_refl _, fun _ _ _ => rfl⟩, fun _ h => .inl h, rfl, fun _ _ _ h => ⟨rfl, h⟩⟩
  obtain ⟨b1, b2⟩ := hS.heap.below (w' := { w with drawn := w.drawn + 1 }) ⟨rfl, rfl, rfl, Nat.le_refl _, fun _ _ _ => rfl⟩
  have hS' := hS.ext b2 (fun _ => .none) b1
  have := anyF_ok (B := B) hdst (r := ops.length - m) (df := a.defers) (w0 := w) (ρ0 := ρ) (Q := Q) (fun L e a' w' ρ' hF h1 h2 h3 h4 h5 => ?_) m _ _ a _ ρ (by rw [hlen] at hlex; exact hlex) (fun s => nrm_rep.2 (hS'.slot s)) hS.size hS'.heap rfl h0
  · have hsz : m + (ops.length - m) = ops.toArray.size := by simp; omega
    rw [hsz] at this
    simpa using this
  · obtain ⟨hL, env', he, hk⟩ := hF
    have hdl : (ops.drop m).length = ops.length - m := by simp
    rw [← hdl]
    refine wpOps_tail (ops.drop m) m L a' w' (fun j => by simp [List.getElem?_drop]) (by rw [hdl]; exact hL) ?_
    refine opsK_ok (B := B) hT hk ⟨fun s => ?_, h2, h3⟩ ?_
    · have := h1 s
      rw [← he] at this
      exact nrm_rep.1 this
    · intro a'' w'' env'' H'' ρ'' g1 g2 g3 g4
      exact hQ a'' w'' env'' H'' ρ'' (g1.trans h4) g2 (h5.trans g3) g4
end
end Go.V


set_option linter.unusedVariables false
set_option linter.unusedSimpArgs false
namespace Go.V
section
variable {P : Program} {T : Ctx} {w w' w1 w2 : World} {H H' Hs Hs' : Heap} {ρ ρ' ρs ρs' : Places} {u u0 u2 : AV} {v v2 : Value} {env : Env} {a : Act} {n B : Nat} {τ : Nat → Nat}

/-! ### A call seen from a larger heap -/
def renP (τ : Nat → Nat) : AV → AV
  | .box k o => .box (τ k) o
  | u => u
def renC (τ : Nat → Nat) : AV → AV
  | .own k off len => .own (τ k) off len
  | .box k o => .box (τ k) o
  | .elt k i o => .elt (τ k) i o
  | .mapr k => .mapr (τ k)
  | .fn f fs cs => .fn f (fs.map (renP τ)) (cs.map (renP τ))
  | u => u
def renA (τ : Nat → Nat) : AV → AV
  | .agg cs => .agg (cs.map (renC τ))
  | u => renC τ u
def renV (τ : Nat → Nat) : AV → AV
  | .tup us => .tup (us.map (renA τ))
  | u => renA τ u
def renO (τ : Nat → Nat) : Go.V.Obj → Go.V.Obj
  | .box t cs => .box t (cs.map (renC τ))
  | .arrl t ls => .arrl t (ls.map fun x => x.map (renC τ))
  | o => o
theorem renO_len (o : Go.V.Obj) : (renO τ o).len = o.len := by cases o <;> simp [renO, Obj.len, Obj.elems]
theorem renO_box (o : Go.V.Obj) : (renO τ o).isBox = o.isBox := by cases o <;> simp [renO, Obj.isBox]
theorem renO_live (o : Go.V.Obj) : (renO τ o).live ↔ o.live := by cases o <;> exact Iff.rfl
theorem renC_closed (h : u.closed = true) : renC τ u = u := by cases u <;> first | rfl | (simp [AV.closed] at h)
/-- From here to there: u is read as u'. -/
structure Carry (w : World) (Ha : Heap) (ρa : Places) (Hb : Heap) (ρb : Places) (σ : Nat → Nat → Prop) : Prop where
  arr : ∀ k k', σ k k' → ∀ t n, (hget Ha k).len = some (t, n) → (hget Hb k').len = some (t, n) ∧ ρb k' = ρa k
  box : ∀ k k', σ k k' → ∀ n, (hget Ha k).isBox = some n → (hget Hb k').isBox = some n ∧ ρb k' = ρa k
  own : ∀ b, Owned Hb ρb b → Owned Ha ρa b
inductive RelP (σ : Nat → Nat → Prop) : AV → AV → Prop
  | box {k k' o : Nat} (h : σ k k') : RelP σ (.box k o) (.box k' o)
  | rptr {cs : List AV} {o : Nat} : RelP σ (.rptr cs o) (.rptr cs o)
  | none {u u' : AV} (h : ∀ k o, u ≠ .box k o) (h' : ∀ k o, u ≠ .rptr k o) : RelP σ u u'
inductive RelC (σ : Nat → Nat → Prop) : AV → AV → Prop
  | own {k k' off len : Nat} (h : σ k k') : RelC σ (.own k off len) (.own k' off len)
  | box {k k' o : Nat} (h : σ k k') : RelC σ (.box k o) (.box k' o)
  | elt {k k' i o : Nat} (h : σ k k') : RelC σ (.elt k i o) (.elt k' i o)
  | mapr {k k' : Nat} (h : σ k k') : RelC σ (.mapr k) (.mapr k')
  | fn {f : FuncId} {fs fs' cs cs' : List AV} (h1 : All2 (RelP σ) fs fs') (h2 : All2 (RelP σ) cs cs') : RelC σ (.fn f fs cs) (.fn f fs' cs')
  | agg {cs cs' : List AV} : RelC σ (.agg cs) (.agg cs')
  | tup {cs cs' : List AV} : RelC σ (.tup cs) (.tup cs')
  | undef : RelC σ .undef .undef
  | anyp : RelC σ .anyp .anyp
  | rptr {cs : List AV} {o : Nat} : RelC σ (.rptr cs o) (.rptr cs o)
  | closed {u : AV} (h : u.closed = true) : RelC σ u u
variable {Ha Hb : Heap} {ρa ρb : Places} {σ : Nat → Nat → Prop}
theorem CapR.carry (e : Carry w Ha ρa Hb ρb σ) {u u' : AV} (hr : RelP σ u u') (h : CapR T w Ha ρa u v) : CapR T w Hb ρb u' v := by
  cases hr with
  | box hs =>
    obtain ⟨b, c, n, h1, h2, h3⟩ := h
    obtain ⟨e1, e2⟩ := e.box _ _ hs _ h2
    exact ⟨b, c, n, e2.trans h1, e1, h3⟩
  | rptr =>
    obtain ⟨b, p, h1, h2, h3, h4⟩ := h
    exact ⟨b, p, h1, h2, fun hb => h3 (e.own b hb), fun j u hj => let ⟨val, e1, e2⟩ := h4 j u hj; ⟨val, e1, e2.anti e.own⟩⟩
  | none hn hn' => cases u <;> first | exact h.elim | exact absurd rfl (hn _ _) | exact absurd rfl (hn' _ _)
theorem caps_carry (e : Carry w Ha ρa Hb ρb σ) : ∀ {us us' : List AV} {vs : List Value}, All2 (RelP σ) us us' → All2 (CapR T w Ha ρa) us vs → All2 (CapR T w Hb ρb) us' vs
  | _, _, _, .nil, .nil => .nil
  | _, _, _, .cons h hs, .cons h' hs' => .cons (h'.carry e h) (caps_carry e hs hs')
theorem Rep1.carry (e : Carry w Ha ρa Hb ρb σ) {u u' : AV} (hr : RelC σ u u') (h : Rep1 T w Ha ρa u v) : Rep1 T w Hb ρb u' v := by
  cases hr with
  | own hs =>
    obtain ⟨t, n, ti, c, h1, h2, h3, h4⟩ := h
    obtain ⟨e1, e2⟩ := e.arr _ _ hs _ _ h1
    refine ⟨t, n, ti, c, e1, h2, h3, ?_⟩
    rw [e2]; exact h4
  | box hs =>
    obtain ⟨b, c, n, h1, h2, h3⟩ := h
    obtain ⟨e1, e2⟩ := e.box _ _ hs _ h2
    exact ⟨b, c, n, e2.trans h1, e1, h3⟩
  | mapr hs =>
    obtain ⟨b, c, n, h1, h2, h3⟩ := h
    obtain ⟨e1, e2⟩ := e.box _ _ hs _ h2
    exact ⟨b, c, n, e2.trans h1, e1, h3⟩
  | elt hs =>
    obtain ⟨t, n, ti, b, p, c, h1, h2, h3, h4, h5⟩ := h
    obtain ⟨e1, e2⟩ := e.arr _ _ hs _ _ h1
    exact ⟨t, n, ti, b, p, c, e1, h2, h3, e2.trans h4, h5⟩
  | fn h1 h2 =>
    obtain ⟨fs, cs, e1, e2, e3⟩ := h
    exact ⟨fs, cs, e1, caps_carry e h1 e2, caps_carry e h2 e3⟩
  | agg => exact h.elim
  | tup => exact h.elim
  | undef => exact h
  | anyp => exact h
  | rptr =>
    obtain ⟨b, p, h1, h2, h3, h4⟩ := h
    exact ⟨b, p, h1, h2, fun hb => h3 (e.own b hb), fun j u hj => let ⟨val, e1, e2⟩ := h4 j u hj; ⟨val, e1, e2.anti e.own⟩⟩
  | closed hc => exact closed_rep1 ((closed_repF h hc).anti e.own) hc
theorem reps_carry (e : Carry w Ha ρa Hb ρb σ) : ∀ {us us' : List AV} {vs : List Value}, All2 (RelC σ) us us' → All2 (Rep1 T w Ha ρa) us vs → All2 (Rep1 T w Hb ρb) us' vs
  | _, _, _, .nil, .nil => .nil
  | _, _, _, .cons h hs, .cons h' hs' => .cons (h'.carry e h) (reps_carry e hs hs')
theorem ArrR.carry (e : Carry w Ha ρa Hb ρb σ) {k k' : Nat} {t : TypeId} {ls ls' : List (List AV)} (hρ : ρb k' = ρa k) (hl : All2 (All2 (RelC σ)) ls ls') (h : ArrR T w Ha ρa k t ls) : ArrR T w Hb ρb k' t ls' := by
  obtain ⟨ti, h1, h2, h3, h4⟩ := h
  have hlen := hl.length
  have hat : ∀ (i : Nat) (x' : List AV), ls'[i]? = some x' → ∃ x, ls[i]? = some x ∧ All2 (RelC σ) x x' := by
    intro i x' hx
    have hi : i < ls.length := by rw [hlen]; exact (List.getElem?_eq_some_iff.1 hx).1
    obtain ⟨y, hy, hr⟩ := hl.at i ls[i] (List.getElem?_eq_getElem hi)
    rw [hx] at hy
    cases hy
    exact ⟨_, List.getElem?_eq_getElem hi, hr⟩
  refine ⟨ti, h1, h2, fun x' hx' => ?_, ?_⟩
  · obtain ⟨i, hi⟩ := List.mem_iff_getElem?.1 hx'
    obtain ⟨x, e1, e2⟩ := hat i x' hi
    rw [← e2.length]
    exact h3 x (List.mem_of_getElem? e1)
  · rw [hρ]
    rcases h4 with ⟨h5, h6⟩ | ⟨b, p, c, vs, fr, h5, h6, hun, h7, h8, h9, h10, h11⟩
    · subst h6
      exact .inl ⟨h5, List.eq_nil_of_length_eq_zero (by rw [← hlen]; rfl)⟩
    · refine .inr ⟨b, p, c, vs, fr, h5, h6, hun, h7, by omega, by rw [← hlen]; exact h9, by omega, fun i x' hx j u' hu => ?_⟩
      obtain ⟨x, e1, e2⟩ := hat i x' hx
      have hj : j < x.length := by rw [e2.length]; exact (List.getElem?_eq_some_iff.1 hu).1
      obtain ⟨y, hy, hr⟩ := e2.at j x[j] (List.getElem?_eq_getElem hj)
      rw [hu] at hy
      cases hy
      obtain ⟨val, g1, g2⟩ := h11 i x e1 j x[j] (List.getElem?_eq_getElem hj)
      exact ⟨val, g1, g2.carry e hr⟩
inductive RelO (σ : Nat → Nat → Prop) : Go.V.Obj → Go.V.Obj → Prop
  | dead : RelO σ .dead .dead
  | box {t : TypeId} {cs cs' : List AV} (h : All2 (RelC σ) cs cs') : RelO σ (.box t cs) (.box t cs')
  | arr {α : Type} {t : TypeId} {enc : α → List AV} {hc : ∀ x, (enc x).all AV.closed = true} {l : List α} : RelO σ (.arr t enc hc l) (.arr t enc hc l)
  | arrl {t : TypeId} {ls ls' : List (List AV)} (h : All2 (All2 (RelC σ)) ls ls') : RelO σ (.arrl t ls) (.arrl t ls')
  | map {es : List (AV × AV)} : RelO σ (.map es) (.map es)
theorem all2_same {α : Type _} {R : α → α → Prop} : ∀ {l : List α}, (∀ x, x ∈ l → R x x) → All2 R l l
  | [], _ => .nil
  | x :: l, h => .cons (h x (by simp)) (all2_same fun y hy => h y (by simp [hy]))
theorem ObjR.carry (e : Carry w Ha ρa Hb ρb σ) {k k' : Nat} {o o' : Go.V.Obj} (ho : RelO σ o o') (hρ : o.live → ρb k' = ρa k) (h : ObjR T w Ha ρa k o) : ObjR T w Hb ρb k' o' := by
  cases ho with
  | dead => trivial
  | box hc =>
    obtain ⟨b, vs, h1, h2, h3⟩ := h
    exact ⟨b, vs, (hρ trivial).trans h1, h2, reps_carry e hc h3⟩
  | map =>
    obtain ⟨b, ms, ck, h1, h2, h3⟩ := h
    refine ⟨b, ms, ck, (hρ trivial).trans h1, h2, h3.mono fun _ _ h => ⟨?_, ?_⟩⟩
    · exact h.1.anti e.own
    · exact h.2.anti e.own
  | arr =>
    rename_i α t enc hc l
    refine ArrR.carry e (hρ trivial) (all2_same fun x hx => all2_same fun u hu => .closed ?_) h
    obtain ⟨y, _, rfl⟩ := List.mem_map.1 hx
    exact List.all_eq_true.1 (hc y) u hu
  | arrl hl => exact ArrR.carry e (hρ trivial) hl h
theorem RepA.carry (e : Carry w Ha ρa Hb ρb σ) {u u' : AV} (hr : (∃ cs cs', u = .agg cs ∧ u' = .agg cs' ∧ All2 (RelC σ) cs cs') ∨ ((¬ ∃ cs, u = .agg cs) ∧ (¬ ∃ cs, u' = .agg cs) ∧ RelC σ u u')) (h : RepA T w Ha ρa u v) : RepA T w Hb ρb u' v := by
  rcases hr with ⟨cs, cs', rfl, rfl, hc⟩ | ⟨h1, h2, hr⟩
  · obtain ⟨vs, e1, e2⟩ := h
    exact ⟨vs, e1, reps_carry e hc e2⟩
  · by_cases hu : u = .undef
    · subst hu; cases hr <;> first | trivial | (rename_i h; cases h)
    · have h' : Rep1 T w Ha ρa u v := by cases u <;> first | exact h | exact absurd ⟨_, rfl⟩ h1 | exact absurd rfl hu
      have h3 := h'.carry e hr
      cases u' <;> first | exact h3 | exact absurd ⟨_, rfl⟩ h2 | trivial
def RelA (σ : Nat → Nat → Prop) (u u' : AV) : Prop := (∃ cs cs', u = .agg cs ∧ u' = .agg cs' ∧ All2 (RelC σ) cs cs') ∨ ((¬ ∃ cs, u = .agg cs) ∧ (¬ ∃ cs, u' = .agg cs) ∧ RelC σ u u')
theorem repAs_carry (e : Carry w Ha ρa Hb ρb σ) : ∀ {us us' : List AV} {vs : List Value}, All2 (RelA σ) us us' → All2 (RepA T w Ha ρa) us vs → All2 (RepA T w Hb ρb) us' vs
  | _, _, _, .nil, .nil => .nil
  | _, _, _, .cons h hs, .cons h' hs' => .cons (h'.carry e h) (repAs_carry e hs hs')
def RelV (σ : Nat → Nat → Prop) (u u' : AV) : Prop := (∃ cs cs', u = .tup cs ∧ u' = .tup cs' ∧ All2 (RelA σ) cs cs') ∨ ((¬ ∃ cs, u = .tup cs) ∧ (¬ ∃ cs, u' = .tup cs) ∧ RelA σ u u')
theorem RepV.carry (e : Carry w Ha ρa Hb ρb σ) {u u' : AV} (hr : RelV σ u u') (h : RepV T w Ha ρa u v) : RepV T w Hb ρb u' v := by
  rcases hr with ⟨cs, cs', rfl, rfl, hc⟩ | ⟨h1, h2, hr⟩
  · obtain ⟨vs, e1, e2⟩ := h
    exact ⟨vs, e1, repAs_carry e hc e2⟩
  · have h' : RepA T w Ha ρa u v := by cases u <;> first | exact h | exact absurd ⟨_, rfl⟩ h1
    have h3 := RepA.carry e hr h'
    cases u' <;> first | exact h3 | exact absurd ⟨_, rfl⟩ h2
end
end Go.V


set_option linter.unusedVariables false
set_option linter.unusedSimpArgs false
namespace Go.V
section
variable {P : Program} {T : Ctx} {w w' w1 w2 : World} {H H' Hs Hs' : Heap} {ρ ρ' ρs ρs' : Places} {u u0 u2 : AV} {v v2 : Value} {env : Env} {a : Act} {n B : Nat} {τ : Nat → Nat} {σ : Nat → Nat → Prop}

theorem relP_up (h : ∀ k, σ k (τ k)) : RelP σ u (renP τ u) := by cases u <;> first | exact .box (h _) | exact .rptr | exact .none (fun _ _ h => by cases h) (fun _ _ h => by cases h)
theorem relP_down (h : ∀ k, σ (τ k) k) : RelP σ (renP τ u) u := by cases u <;> first | exact .box (h _) | exact .rptr | exact .none (fun _ _ h => by cases h) (fun _ _ h => by cases h)
theorem all2_map_r {α β : Type _} {R : α → β → Prop} {f : α → β} (h : ∀ x, R x (f x)) : ∀ (l : List α), All2 R l (l.map f)
  | [] => .nil
  | x :: l => .cons (h x) (all2_map_r h l)
theorem all2_map_l {α β : Type _} {R : β → α → Prop} {f : α → β} (h : ∀ x, R (f x) x) : ∀ (l : List α), All2 R (l.map f) l
  | [] => .nil
  | x :: l => .cons (h x) (all2_map_l h l)
theorem relC_up (h : ∀ k, σ k (τ k)) : RelC σ u (renC τ u) := by
  cases u <;> first | exact .own (h _) | exact .box (h _) | first | exact .elt (h _) | exact .mapr (h _) | exact .fn (all2_map_r (fun _ => relP_up h) _) (all2_map_r (fun _ => relP_up h) _) | exact .agg | exact .tup | exact .undef | exact .anyp | exact .rptr | exact .closed rfl
theorem relC_down (h : ∀ k, σ (τ k) k) : RelC σ (renC τ u) u := by
  cases u <;> first | exact .own (h _) | exact .box (h _) | first | exact .elt (h _) | exact .mapr (h _) | exact .fn (all2_map_l (fun _ => relP_down h) _) (all2_map_l (fun _ => relP_down h) _) | exact .agg | exact .tup | exact .undef | exact .anyp | exact .rptr | exact .closed rfl
theorem renC_agg (h : ¬ ∃ cs, u = .agg cs) : ¬ ∃ cs, renC τ u = .agg cs := by rintro ⟨cs, hc⟩; cases u <;> first | exact h ⟨_, rfl⟩ | cases hc
theorem relA_up (h : ∀ k, σ k (τ k)) : RelA σ u (renA τ u) := by
  by_cases ha : ∃ cs, u = .agg cs
  · obtain ⟨cs, rfl⟩ := ha
    exact .inl ⟨cs, _, rfl, rfl, all2_map_r (fun _ => relC_up h) _⟩
  · have e : renA τ u = renC τ u := by cases u <;> first | rfl | exact absurd ⟨_, rfl⟩ ha
    rw [e]
    exact .inr ⟨ha, renC_agg ha, relC_up h⟩
theorem relA_down (h : ∀ k, σ (τ k) k) : RelA σ (renA τ u) u := by
  by_cases ha : ∃ cs, u = .agg cs
  · obtain ⟨cs, rfl⟩ := ha
    exact .inl ⟨_, cs, rfl, rfl, all2_map_l (fun _ => relC_down h) _⟩
  · have e : renA τ u = renC τ u := by cases u <;> first | rfl | exact absurd ⟨_, rfl⟩ ha
    rw [e]
    exact .inr ⟨renC_agg ha, ha, relC_down h⟩
theorem renA_tup (h : ¬ ∃ cs, u = .tup cs) : ¬ ∃ cs, renA τ u = .tup cs := by rintro ⟨cs, hc⟩; cases u <;> first | exact h ⟨_, rfl⟩ | cases hc
theorem relV_up (h : ∀ k, σ k (τ k)) : RelV σ u (renV τ u) := by
  by_cases ha : ∃ cs, u = .tup cs
  · obtain ⟨cs, rfl⟩ := ha
    exact .inl ⟨cs, _, rfl, rfl, all2_map_r (fun _ => relA_up h) _⟩
  · have e : renV τ u = renA τ u := by cases u <;> first | rfl | exact absurd ⟨_, rfl⟩ ha
    rw [e]
    exact .inr ⟨ha, renA_tup ha, relA_up h⟩
theorem relV_down (h : ∀ k, σ (τ k) k) : RelV σ (renV τ u) u := by
  by_cases ha : ∃ cs, u = .tup cs
  · obtain ⟨cs, rfl⟩ := ha
    exact .inl ⟨_, cs, rfl, rfl, all2_map_l (fun _ => relA_down h) _⟩
  · have e : renV τ u = renA τ u := by cases u <;> first | rfl | exact absurd ⟨_, rfl⟩ ha
    rw [e]
    exact .inr ⟨renA_tup ha, ha, relA_down h⟩
theorem relO_up (h : ∀ k, σ k (τ k)) (o : Go.V.Obj) : RelO σ o (renO τ o) := by
  cases o with
  | box t cs => exact .box (all2_map_r (fun _ => relC_up h) _)
  | arr => exact .arr
  | map => exact .map
  | arrl t ls => exact .arrl (all2_map_r (fun _ => all2_map_r (fun _ => relC_up h) _) _)
  | dead => exact .dead
theorem relO_down (h : ∀ k, σ (τ k) k) (o : Go.V.Obj) : RelO σ (renO τ o) o := by
  cases o with
  | box t cs => exact .box (all2_map_l (fun _ => relC_down h) _)
  | arr => exact .arr
  | map => exact .map
  | arrl t ls => exact .arrl (all2_map_l (fun _ => all2_map_l (fun _ => relC_down h) _) _)
  | dead => exact .dead

/-- Where a small heap's objects lie in the larger one: those of the list, the others behind it. -/
def tau (τl : List Nat) (N : Nat) (k : Nat) : Nat := match τl[k]? with
  | some x => x
  | none => N + (k - τl.length)
/-- The small heap's objects put back. -/
def putBack (f : Go.V.Obj → Go.V.Obj) : List Nat → Heap → Heap → Heap
  | [], Hs, H => H ++ Hs.map f
  | k :: τ, [], H => putBack f τ [] (hset H k .dead)
  | k :: τ, o :: Hs, H => putBack f τ Hs (hset H k (f o))
def idxOf (k : Nat) : List Nat → Nat → Option Nat
  | [], _ => none
  | x :: r, i => if x = k then some i else idxOf k r (i + 1)
theorem putBack_get (f : Go.V.Obj → Go.V.Obj) (hf : f .dead = .dead) : ∀ (τl : List Nat) (Hs H : Heap) (j : Nat), (∀ k, k ∈ τl → k < H.length) → τl.Nodup →
    hget (putBack f τl Hs H) j = if j < H.length then (match idxOf j τl 0 with | some i => f (hget Hs i) | none => hget H j) else f (hget Hs (j - H.length + τl.length))
  | [], Hs, H, j, _, _ => by
    simp only [putBack, idxOf, List.length_nil, Nat.add_zero]
    unfold hget
    by_cases h : j < H.length
    · rw [if_pos h, List.getElem?_append_left h]
    · rw [if_neg h, List.getElem?_append_right (by omega), List.getElem?_map]
      cases Hs[j - H.length]? <;> simp [hf]
  | k :: τ, Hs, H, j, hl, hn => by
    have hk : k < H.length := hl k (by simp)
    have hn' := List.nodup_cons.1 hn
    have shift : ∀ (r : List Nat) (j i : Nat), idxOf j r (i + 1) = (idxOf j r i).map (· + 1) := by
      intro r
      induction r with
      | nil => intro j i; rfl
      | cons x r ih =>
        intro j i
        simp only [idxOf]
        split
        · rfl
        · exact ih j (i + 1)
    have key : ∀ (o : Go.V.Obj) (r : Heap), (hget Hs 0 = o) → (∀ i, hget Hs (i + 1) = hget r i) → hget (putBack f τ r (hset H k (f o))) j = if j < H.length then (match idxOf j (k :: τ) 0 with | some i => f (hget Hs i) | none => hget H j) else f (hget Hs (j - H.length + (k :: τ).length)) := by
      intro o r h0 hr
      have hlen : (hset H k (f o)).length = H.length := by rw [hset_eq]; simp
      rw [putBack_get f hf τ r _ j (fun x hx => by rw [hlen]; exact hl x (by simp [hx])) hn'.2, hlen]
      by_cases hj : j < H.length
      · rw [if_pos hj, if_pos hj]
        simp only [idxOf]
        by_cases hkj : k = j
        · subst hkj
          rw [if_pos rfl]
          have : idxOf k τ 0 = none := by
            have : ∀ (r : List Nat) (i : Nat), k ∉ r → idxOf k r i = none := by
              intro r
              induction r with
              | nil => intro i _; rfl
              | cons x r ih =>
                intro i h
                simp only [List.mem_cons, not_or] at h
                simp only [idxOf]
                rw [if_neg (Ne.symm h.1)]
                exact ih _ h.2
            exact this τ 0 hn'.1
          rw [this]
          simp only
          rw [hget_set _ _ _ _ hk, if_pos rfl, h0]
        · rw [if_neg hkj, shift]
          cases idxOf j τ 0 with
          | none => simp only [Option.map_none]; rw [hget_set _ _ _ _ hk, if_neg (Ne.symm hkj)]
          | some i => simp only [Option.map_some]; rw [hr]
      · rw [if_neg hj, if_neg hj, List.length_cons, ← Nat.add_assoc, hr]
    cases Hs with
    | nil =>
      have := key .dead [] rfl (fun i => rfl)
      rw [hf] at this
      exact this
    | cons o Hs => exact key o Hs rfl (fun i => rfl)
theorem idxOf_some : ∀ {τl : List Nat} {j i0 i : Nat}, idxOf j τl i0 = some i → i0 ≤ i ∧ τl[i - i0]? = some j
  | x :: r, j, i0, i, h => by
    simp only [idxOf] at h
    split at h
    · rename_i hx; cases h; subst hx; simp
    · obtain ⟨h1, h2⟩ := idxOf_some h
      refine ⟨by omega, ?_⟩
      rw [show i - i0 = (i - (i0 + 1)) + 1 by omega]
      simpa using h2
theorem idxOf_at : ∀ {τl : List Nat} {k j i0 : Nat}, τl.Nodup → τl[k]? = some j → idxOf j τl i0 = some (i0 + k)
  | x :: r, 0, j, i0, _, h => by simp at h; subst h; simp [idxOf]
  | x :: r, k + 1, j, i0, hn, h => by
    have hn' := List.nodup_cons.1 hn
    have h' : r[k]? = some j := by simpa using h
    simp only [idxOf]
    rw [if_neg (by rintro rfl; exact hn'.1 (List.mem_of_getElem? h')), idxOf_at hn'.2 h']
    congr 1; omega
/-- Does it name none of these arrays? -/
def offC (ks : List Nat) : AV → Bool
  | .own k _ _ => !(ks.any fun j => Nat.beq j k)
  | .elt k _ _ => !(ks.any fun j => Nat.beq j k)
  | _ => true
def offO (ks : List Nat) : Go.V.Obj → Bool
  | .box _ cs => cs.all (offC ks)
  | .arrl _ ls => ls.all fun x => x.all (offC ks)
  | _ => true
theorem offC_av {ks : List Nat} {M : Nat → Prop} (hM : ∀ k, M k → k ∈ ks) (h : offC ks u = true) : Av M No u := by
  have key : ∀ k, (!(ks.any fun j => Nat.beq j k)) = true → ¬ M k := by
    intro k hk hm
    have := hM k hm
    simp only [Bool.not_eq_true', List.any_eq_false] at hk
    exact hk k this (Nat.beq_refl k)
  cases u <;> first | exact key _ h | trivial | exact fun h => h.elim | exact ⟨fun u _ => by cases u <;> first | trivial | exact id, fun u _ => by cases u <;> first | trivial | exact id⟩
theorem offO_av {ks : List Nat} {M : Nat → Prop} (hM : ∀ k, M k → k ∈ ks) {o : Go.V.Obj} (h : offO ks o = true) : AvO M No o := by
  cases o with
  | box t cs => exact fun u hu => offC_av hM (List.all_eq_true.1 h u hu)
  | arr t enc hc l => exact fun x _ u hu => closed_av (List.all_eq_true.1 (hc x) u hu)
  | arrl t ls => exact fun x hx u hu => offC_av hM (List.all_eq_true.1 (List.all_eq_true.1 h x hx) u hu)
  | dead => trivial
  | map => trivial
def othersOk (τl : List Nat) : Nat → Heap → Bool
  | _, [] => true
  | j, o :: H => ((τl.any fun k => Nat.beq k j) || offO τl o) && othersOk τl (j + 1) H
theorem othersOk_spec {τl : List Nat} : ∀ {H : Heap} {j0 : Nat}, othersOk τl j0 H = true → ∀ j, j0 + j ∉ τl → offO τl (hget H j) = true
  | [], j0, _, j, _ => rfl
  | o :: H, j0, h, j, hj => by
    simp only [othersOk, Bool.and_eq_true, Bool.or_eq_true] at h
    cases j with
    | zero =>
      rcases h.1 with h1 | h1
      · obtain ⟨k, hk, hb⟩ := List.any_eq_true.1 h1
        have := Nat.eq_of_beq_eq_true hb
        subst this
        exact absurd hk hj
      · exact h1
    | succ j => exact othersOk_spec h.2 j (by rw [show j0 + 1 + j = j0 + (j + 1) by omega]; exact hj)
def objsOk (f : Go.V.Obj → Go.V.Obj) (H : Heap) : List Nat → Heap → Prop
  | [], Hs => Hs = []
  | k :: τ, Hs => (match Hs with | o :: r => hget H k = f o ∧ objsOk f H τ r | [] => False)
theorem objsOk_spec {f : Go.V.Obj → Go.V.Obj} {H : Heap} : ∀ {τl : List Nat} {Hs : Heap}, objsOk f H τl Hs → Hs.length = τl.length ∧ ∀ i k, τl[i]? = some k → hget H k = f (hget Hs i)
  | [], _, h => by cases h; exact ⟨rfl, fun i k h => by simp at h⟩
  | k :: τ, [], h => h.elim
  | k :: τ, o :: r, h => by
    obtain ⟨h1, h2⟩ := objsOk_spec h.2
    refine ⟨by simp [h1], fun i j hj => ?_⟩
    cases i with
    | zero => simp at hj; subst hj; exact h.1
    | succ i => exact h2 i j (by simpa using hj)
def allLt (N : Nat) (τl : List Nat) : Bool := τl.all fun k => Nat.blt k N
def nodupB : List Nat → Bool
  | [] => true
  | k :: r => !(r.any fun j => Nat.beq j k) && nodupB r
theorem nodupB_spec : ∀ {l : List Nat}, nodupB l = true → l.Nodup
  | [], _ => List.nodup_nil
  | k :: r, h => by
    simp only [nodupB, Bool.and_eq_true, Bool.not_eq_true', List.any_eq_false] at h
    exact List.nodup_cons.2 ⟨fun hk => h.1 k hk (Nat.beq_refl k), nodupB_spec h.2⟩
/-- A call that is known in a small heap, seen from a larger one: 'τl' tells where the small heap's objects are. -/
theorem VCall.frame (τl : List Nat) {f : FuncId} {args : List AV} {Ks K : AV → List Nat → Heap → Prop} {args' : List AV} (h : VCall P T f args Hs Ks)
    (ha : args' = args.map (renV (tau τl H.length))) (ho : objsOk (renO (tau τl H.length)) H τl Hs) (hl : allLt H.length τl = true) (hn : nodupB τl = true) (hoth : othersOk τl 0 H = true)
    (hk : ∀ r mv Hs', Ks r mv Hs' → K (renV (tau τl H.length) r) (mv.map (tau τl H.length)) (putBack (renO (tau τl H.length)) τl Hs' H)) : VCall P T f args' H K := by
  subst ha
  constructor
  intro w ρ vs hH hv
  obtain ⟨hsl, hobj⟩ := objsOk_spec ho
  have hnd := nodupB_spec hn
  have hlt : ∀ k, k ∈ τl → k < H.length := fun k hk => by
    have := List.all_eq_true.1 hl k hk
    simpa using this
  generalize hτ : tau τl H.length = τ at *
  have τ_at : ∀ i k, τl[i]? = some k → τ i = k := fun i k h => by rw [← hτ]; simp [tau, h]
  have τ_out : ∀ i, τl.length ≤ i → τ i = H.length + (i - τl.length) := fun i h => by rw [← hτ]; simp [tau, List.getElem?_eq_none h]
  have τ_in : ∀ i, i < τl.length → τl[i]? = some (τ i) := fun i h => by
    have := List.getElem?_eq_getElem h
    rw [this, τ_at i _ this]
  have hsmall : ∀ i, hget H (τ i) = renO τ (hget Hs i) := by
    intro i
    by_cases hi : i < τl.length
    · exact hobj i _ (τ_in i hi)
    · rw [τ_out i (by omega), hget_out H _ (by omega), hget_out Hs i (by omega)]; rfl
  have τ_inj : ∀ i j, τ i = τ j → i = j := by
    intro i j h
    by_cases hi : i < τl.length <;> by_cases hj : j < τl.length
    · have h1 := τ_in i hi
      have h2 := τ_in j hj
      have e1 := idxOf_at (i0 := 0) hnd h1
      have e2 := idxOf_at (i0 := 0) hnd h2
      rw [h, e2] at e1
      simp at e1
      exact e1.symm
    · have h1 := hlt _ (List.mem_of_getElem? (τ_in i hi))
      rw [h, τ_out j (by omega)] at h1
      omega
    · have h1 := hlt _ (List.mem_of_getElem? (τ_in j hj))
      rw [← h, τ_out i (by omega)] at h1
      omega
    · rw [τ_out i (by omega), τ_out j (by omega)] at h
      omega
  -- the small state
  let ρs : Places := ⟨fun k => if k < τl.length then ρ (τ k) else none, fun b => ρ.F b ∨ ∃ j p c, j ∉ τl ∧ (hget H j).live ∧ ρ j = some (b, p, c)⟩
  have ρs_at : ∀ k, k < τl.length → ρs k = ρ (τ k) := fun k hk => by show (if k < τl.length then ρ (τ k) else none) = _; rw [if_pos hk]
  have live_in : ∀ k, (hget Hs k).live → k < τl.length := fun k hk => by
    rcases Nat.lt_or_ge k τl.length with h | h
    · exact h
    · rw [hget_out Hs k (by omega)] at hk; exact hk.elim
  have live_of_len : ∀ {Hx : Heap} {k : Nat} {t : TypeId} {m : Nat}, (hget Hx k).len = some (t, m) → (hget Hx k).live := by
    intro Hx k t m h; cases hh : hget Hx k <;> rw [hh] at h <;> first | trivial | (simp [Obj.len, Obj.elems] at h)
  have live_of_box : ∀ {Hx : Heap} {k : Nat} {m : Nat}, (hget Hx k).isBox = some m → (hget Hx k).live := by
    intro Hx k m h; cases hh : hget Hx k <;> rw [hh] at h <;> first | trivial | (simp [Obj.isBox] at h)
  have own_small : ∀ b, OwnedT Hs ρs b → OwnedT H ρ b := by
    rintro b ⟨k, p, c, h1, h2⟩
    have hk := live_in k h1
    rw [ρs_at k hk] at h2
    exact ⟨τ k, p, c, by rw [hsmall, renO_live]; exact h1, h2⟩
  have own_small' : ∀ b, Owned Hs ρs b → Owned H ρ b := by
    rintro b (h | h | ⟨j, p, c, _, h2, h3⟩)
    · exact .inl (own_small b h)
    · exact .inr h
    · exact .inl ⟨j, p, c, h2, h3⟩
  have down : Carry w H ρ Hs ρs (fun k k' => k = τ k') := by
    refine ⟨fun k k' hk t m hm => ?_, fun k k' hk m hm => ?_, own_small'⟩
    · subst hk
      rw [hsmall, renO_len] at hm
      exact ⟨hm, ρs_at _ (live_in _ (live_of_len hm))⟩
    · subst hk
      rw [hsmall, renO_box] at hm
      exact ⟨hm, ρs_at _ (live_in _ (live_of_box hm))⟩
  have heap_s : HeapR T w Hs ρs := by
    refine ⟨fun k => ?_, fun k k' b p c p' c' h1 h2 h3 h4 => ?_, fun k b p c h1 h2 => ?_, fun k b p c h1 h2 => ?_, fun b hb => ?_, fun x hx => ⟨(hH.glob x hx).1, fun h => (hH.glob x hx).2 (own_small' _ h)⟩⟩
    · by_cases hk : k < τl.length
      · have := hH.obj (τ k)
        rw [hsmall] at this
        exact ObjR.carry down (relO_down (τ := τ) (fun _ => rfl) _) (fun _ => ρs_at k hk) this
      · rw [hget_out Hs k (by omega)]; trivial
    · rw [ρs_at k (live_in k h1)] at h3
      rw [ρs_at k' (live_in k' h2)] at h4
      exact τ_inj _ _ (hH.inj _ _ _ _ _ _ _ (by rw [hsmall, renO_live]; exact h1) (by rw [hsmall, renO_live]; exact h2) h3 h4)
    · rw [ρs_at k (live_in k h1)] at h2
      exact hH.lt _ b p c (by rw [hsmall, renO_live]; exact h1) h2
    · rw [ρs_at k (live_in k h1)] at h2
      have hl1 : (hget H (τ k)).live := by rw [hsmall, renO_live]; exact h1
      rintro (h3 | ⟨j, p', c', g1, g2, g3⟩)
      · exact hH.fresh _ b p c hl1 h2 h3
      · have := hH.inj _ _ _ _ _ _ _ hl1 g2 h2 g3
        exact g1 (this ▸ List.mem_of_getElem? (τ_in k (live_in k h1)))
    · rcases hb with h | ⟨j, p, c, _, g2, g3⟩
      · exact hH.flt b h
      · exact hH.lt j b p c g2 g3
  have hvs : All2 (RepV T w Hs ρs) args vs := by
    have : ∀ {us : List AV} {vs : List Value}, All2 (RepV T w H ρ) (us.map (renV τ)) vs → All2 (RepV T w Hs ρs) us vs := by
      intro us
      induction us with
      | nil => intro vs h; cases h; exact .nil
      | cons u us ih => intro vs h; cases h with | cons h1 h2 => exact .cons (RepV.carry down (relV_down (τ := τ) fun _ => rfl) h1) (ih h2)
    exact this hv
  refine (h.call w ρs vs heap_s hvs).mono ?_
  rintro v w' ⟨r, mv, Hs', ρs', h1, h2, h3, h4⟩
  -- the large state
  have hput : ∀ j, hget (putBack (renO τ) τl Hs' H) j = if j < H.length then (match idxOf j τl 0 with | some i => renO τ (hget Hs' i) | none => hget H j) else renO τ (hget Hs' (j - H.length + τl.length)) := fun j => putBack_get (renO τ) rfl τl Hs' H j hlt hnd
  have hput_τ : ∀ i, hget (putBack (renO τ) τl Hs' H) (τ i) = renO τ (hget Hs' i) := by
    intro i
    rw [hput]
    by_cases hi : i < τl.length
    · have h1 := τ_in i hi
      rw [if_pos (hlt _ (List.mem_of_getElem? h1)), idxOf_at hnd h1]
      simp
    · rw [τ_out i (by omega), if_neg (by omega), show H.length + (i - τl.length) - H.length + τl.length = i by omega]
  have cases_j : ∀ j, (∃ i, j = τ i) ∨ (j < H.length ∧ j ∉ τl ∧ hget (putBack (renO τ) τl Hs' H) j = hget H j) := by
    intro j
    by_cases hj : j < H.length
    · cases hi : idxOf j τl 0 with
      | some i =>
        have := (idxOf_some hi).2
        simp only [Nat.sub_zero] at this
        exact .inl ⟨i, (τ_at i j this).symm⟩
      | none =>
        refine .inr ⟨hj, fun hm => ?_, by rw [hput, if_pos hj, hi]⟩
        obtain ⟨i, hi'⟩ := List.mem_iff_getElem?.1 hm
        rw [idxOf_at hnd hi'] at hi
        cases hi
    · exact .inl ⟨j - H.length + τl.length, by rw [τ_out _ (by omega)]; omega⟩
  have τ_not : ∀ i j, j < H.length → j ∉ τl → j ≠ τ i := by
    rintro i j hj hm rfl
    by_cases hi : i < τl.length
    · exact hm (List.mem_of_getElem? (τ_in i hi))
    · rw [τ_out i (by omega)] at hj; omega
  let ρ' : Places := ⟨fun j => if j < H.length then (match idxOf j τl 0 with | some i => ρs' i | none => ρ j) else ρs' (j - H.length + τl.length), ρ.F⟩
  have ρ'_def : ∀ j, ρ' j = if j < H.length then (match idxOf j τl 0 with | some i => ρs' i | none => ρ j) else ρs' (j - H.length + τl.length) := fun _ => rfl
  have ρ'_τ : ∀ i, ρ' (τ i) = ρs' i := by
    intro i
    rw [ρ'_def]
    by_cases hi : i < τl.length
    · have h1 := τ_in i hi
      rw [if_pos (hlt _ (List.mem_of_getElem? h1)), idxOf_at hnd h1]
      simp
    · rw [τ_out i (by omega), if_neg (by omega), show H.length + (i - τl.length) - H.length + τl.length = i by omega]
  have ρ'_o : ∀ j, j < H.length → j ∉ τl → ρ' j = ρ j := by
    intro j hj hm
    rw [ρ'_def, if_pos hj]
    cases hi : idxOf j τl 0 with
    | some i =>
      have := (idxOf_some hi).2
      exact absurd (List.mem_of_getElem? this) hm
    | none => rfl
  have other_F : ∀ j, j < H.length → j ∉ τl → (hget H j).live → ∀ b p c, ρ j = some (b, p, c) → ρs'.F b := fun j hj hm hl b p c hb => by
    rw [h3.F]
    exact .inr ⟨j, p, c, hm, hl, hb⟩
  have own_big : ∀ b, OwnedT (putBack (renO τ) τl Hs' H) ρ' b → OwnedT Hs' ρs' b ∨ ∃ j p c, j < H.length ∧ j ∉ τl ∧ (hget H j).live ∧ ρ j = some (b, p, c) := by
    rintro b ⟨j, p, c, g1, g2⟩
    rcases cases_j j with ⟨i, rfl⟩ | ⟨hj, hm, he⟩
    · rw [hput_τ, renO_live] at g1
      rw [ρ'_τ] at g2
      exact .inl ⟨i, p, c, g1, g2⟩
    · rw [he] at g1
      rw [ρ'_o j hj hm] at g2
      exact .inr ⟨j, p, c, hj, hm, g1, g2⟩
  have up : Carry w' Hs' ρs' (putBack (renO τ) τl Hs' H) ρ' (fun k k' => k' = τ k) := by
    refine ⟨fun k k' hk t m hm => ?_, fun k k' hk m hm => ?_, fun b hb => ?_⟩
    · subst hk; rw [hput_τ, renO_len]; exact ⟨hm, ρ'_τ k⟩
    · subst hk; rw [hput_τ, renO_box]; exact ⟨hm, ρ'_τ k⟩
    · rcases hb with hb | hb
      · rcases own_big b hb with h | ⟨j, p, c, g1, g2, g3, g4⟩
        · exact .inl h
        · exact .inr (other_F j g1 g2 g3 b p c g4)
      · refine .inr ?_
        rw [h3.F]
        exact .inl hb
  have ext : Ext (fun k => k ∈ mv.map τ) No w H ρ w' (putBack (renO τ) τl Hs' H) ρ' := by
    refine ⟨⟨h3.keeps.os, h3.keeps.tape, h3.keeps.output, h3.keeps.size, fun b hb hO => h3.keeps.block b hb fun h => hO (own_small b h)⟩, fun b hb => ?_, rfl, fun k hk t m hm => ?_, fun k _ m hm => ?_⟩
    · rcases own_big b hb with h | ⟨j, p, c, g1, g2, g3, g4⟩
      · rcases h3.own b h with h | h
        · exact .inl (own_small b h)
        · exact .inr h
      · exact .inl ⟨j, p, c, g3, g4⟩
    · rcases cases_j k with ⟨i, rfl⟩ | ⟨hj, hm', he⟩
      · rw [hsmall, renO_len] at hm
        obtain ⟨e1, m', e2, e3⟩ := h3.arr i (fun hi => hk (List.mem_map.2 ⟨i, hi, rfl⟩)) t m hm
        rw [ρ'_τ, hput_τ, renO_len, e1, ρs_at i (live_in i (live_of_len hm))]
        exact ⟨rfl, m', e2, e3⟩
      · rw [ρ'_o k hj hm', he]
        exact ⟨rfl, m, hm, Nat.le_refl _⟩
    · rcases cases_j k with ⟨i, rfl⟩ | ⟨hj, hm', he⟩
      · rw [hsmall, renO_box] at hm
        obtain ⟨e1, e2⟩ := h3.box i id m hm
        rw [ρ'_τ, hput_τ, renO_box, e1, ρs_at i (live_in i (live_of_box hm))]
        exact ⟨rfl, e2⟩
      · rw [ρ'_o k hj hm', he]
        exact ⟨rfl, hm⟩
  have extO : Ext (fun k => k ∈ τl) No w H ρ w' (putBack (renO τ) τl Hs' H) ρ' := by
    refine ⟨ext.keeps, ext.own, ext.F, fun k hk t m hm => ?_, ext.box⟩
    rcases cases_j k with ⟨i, rfl⟩ | ⟨hj, hm', he⟩
    · exfalso
      rw [hsmall, renO_len] at hm
      exact hk (List.mem_of_getElem? (τ_in i (live_in i (live_of_len hm))))
    · rw [ρ'_o k hj hm', he]
      exact ⟨rfl, m, hm, Nat.le_refl _⟩
  refine ⟨renV τ r, mv.map τ, putBack (renO τ) τl Hs' H, ρ', ⟨fun j => ?_, fun j j' b p c p' c' g1 g2 g3 g4 => ?_, fun j b p c g1 g2 => ?_, fun j b p c g1 g2 => ?_, fun b hb => Nat.lt_of_lt_of_le (hH.flt b hb) h3.keeps.size, hH.glob.ext ext⟩, RepV.carry up (relV_up (σ := fun k k' => k' = τ k) (τ := τ) fun _ => rfl) h2, ext, hk _ _ _ h4⟩
  · rcases cases_j j with ⟨i, rfl⟩ | ⟨hj, hm, he⟩
    · rw [hput_τ]
      exact ObjR.carry up (relO_up (σ := fun k k' => k' = τ k) (τ := τ) (fun _ => rfl) _) (fun _ => ρ'_τ i) (h1.obj i)
    · rw [he]
      by_cases hl' : (hget H j).live
      · refine ObjR.ext extO (hH.obj j) (ρ'_o j hj hm) (fun b p c hb => ?_) ?_
        · refine h3.keeps.block b (hH.lt j b p c hl' hb) fun hO => ?_
          obtain ⟨i, p', c', g1, g2⟩ := hO
          exact heap_s.fresh i b p' c' g1 g2 (.inr ⟨j, p, c, hm, hl', hb⟩)
        · exact offO_av (M := fun k => k ∈ τl) (fun _ h => h) (othersOk_spec hoth j (by simpa using hm))
      · cases hh : hget H j <;> rw [hh] at hl' <;> first | trivial | exact absurd trivial hl'
  · rcases cases_j j with ⟨i, rfl⟩ | ⟨hj, hm, he⟩ <;> rcases cases_j j' with ⟨i', rfl⟩ | ⟨hj', hm', he'⟩
    · rw [hput_τ, renO_live] at g1 g2
      rw [ρ'_τ] at g3 g4
      rw [h1.inj _ _ _ _ _ _ _ g1 g2 g3 g4]
    · rw [hput_τ, renO_live] at g1
      rw [he'] at g2
      rw [ρ'_τ] at g3
      rw [ρ'_o j' hj' hm'] at g4
      exact absurd (other_F j' hj' hm' g2 b p' c' g4) (h1.fresh i b p c g1 g3)
    · rw [hput_τ, renO_live] at g2
      rw [he] at g1
      rw [ρ'_τ] at g4
      rw [ρ'_o j hj hm] at g3
      exact absurd (other_F j hj hm g1 b p c g3) (h1.fresh i' b p' c' g2 g4)
    · rw [he] at g1
      rw [he'] at g2
      rw [ρ'_o j hj hm] at g3
      rw [ρ'_o j' hj' hm'] at g4
      exact hH.inj _ _ _ _ _ _ _ g1 g2 g3 g4
  · rcases cases_j j with ⟨i, rfl⟩ | ⟨hj, hm, he⟩
    · rw [hput_τ, renO_live] at g1
      rw [ρ'_τ] at g2
      exact h1.lt i b p c g1 g2
    · rw [he] at g1
      rw [ρ'_o j hj hm] at g2
      exact Nat.lt_of_lt_of_le (hH.lt j b p c g1 g2) h3.keeps.size
  · rcases cases_j j with ⟨i, rfl⟩ | ⟨hj, hm, he⟩
    · rw [hput_τ, renO_live] at g1
      rw [ρ'_τ] at g2
      intro hF
      exact h1.fresh i b p c g1 g2 (by rw [h3.F]; exact .inl hF)
    · rw [he] at g1
      rw [ρ'_o j hj hm] at g2
      exact hH.fresh j b p c g1 g2
end
end Go.V


set_option linter.unusedVariables false
set_option linter.unusedSimpArgs false
namespace Go.V
section
variable {P : Program} {T : Ctx} {w w' : World} {H H' : Heap} {ρ ρ' : Places} {u u0 : AV} {v : Value} {env : Env}
/-! ### Calls, short -/
def isR : AV → Bool
  | .rptr _ _ => true
  | _ => false
theorem isR_frz {H : Heap} {D : Nat → Prop} : ∀ {us : List AV}, us.all isR = true → All2 (FrzP T H D) us us
  | [], _ => .nil
  | u :: us, h => by
    simp only [List.all_cons, Bool.and_eq_true] at h
    refine .cons ?_ (isR_frz h.2)
    cases u <;> first | exact .rptr | (exact absurd h.1 (by simp [isR]))
theorem frz0 {H : Heap} {D : Nat → Prop} : ∀ {us : List AV}, us.all AV.closed = true → All2 (FrzC0 T H D) us us
  | [], _ => .nil
  | u :: us, h => by
    simp only [List.all_cons, Bool.and_eq_true] at h
    exact .cons (.closed h.1) (frz0 h.2)
def clA : AV → Bool
  | .agg cs => cs.all AV.closed
  | .fn _ fs cs => fs.all isR && cs.all isR
  | .rptr _ _ => true
  | u => u.closed
theorem clA_frz {D : Nat → Prop} (h : clA u = true) : FrzA T H D u u := by
  by_cases ha : ∃ cs, u = .agg cs
  · obtain ⟨cs, rfl⟩ := ha
    exact .agg (all2_same fun x hx => .closed (List.all_eq_true.1 h x hx))
  · refine .cell ?_
    unfold clA at h
    split at h
    · exact absurd ⟨_, rfl⟩ ha
    · simp only [Bool.and_eq_true] at h
      exact .fn (isR_frz h.1) (isR_frz h.2)
    · exact .rptr
    · exact .closed h
def clV : AV → Bool
  | .tup us => us.all clA
  | u => clA u
theorem clV_frz {D : Nat → Prop} (h : clV u = true) : FrzV T H D u u := by
  by_cases ha : ∃ cs, u = .tup cs
  · obtain ⟨cs, rfl⟩ := ha
    exact .tup (all2_same fun x hx => clA_frz (List.all_eq_true.1 h x hx))
  · exact .of (clA_frz (by unfold clV at h; split at h <;> first | exact absurd ⟨_, rfl⟩ ha | exact h))
theorem isR_cl : ∀ {us : List AV}, us.all isR = true → us.all clV = true
  | [], _ => rfl
  | u :: us, h => by
    simp only [List.all_cons, Bool.and_eq_true] at h ⊢
    refine ⟨?_, isR_cl h.2⟩
    cases u <;> first | rfl | (exact absurd h.1 (by simp [isR]))
/-- A variable, lent. -/
theorem frzBox {H : Heap} {D : Nat → Prop} {k o : Nat} {t : TypeId} {cs : List AV} (hD : D k) (hk : hget H k = .box t cs) (h0 : cs.all AV.closed = true) : FrzP T H D (.box k o) (.rptr cs o) := .box hD hk (frz0 h0) h0
/-- A call that only computes, of what leads to nothing that may change. -/
theorem VCall.calc {f : FuncId} {args args0 : List AV} {r : AV} {K : AV → List Nat → Heap → Prop} (hr : Ret P T f args0 r) (hc : args0.all clV = true) (he : args = args0) (hk : K r [] H) : VCall P T f args H K := by
  subst he
  exact .pure hr (all2_same fun x hx => clV_frz (List.all_eq_true.1 hc x hx)) hk
theorem Ret.done (h : FrzV T H Yes u u0) : FrzV T H Yes u u0 := h
theorem Ret.congr {f : FuncId} {args : List AV} {r r' : AV} (h : Ret P T f args r) (e : r = r') : Ret P T f args r' := e ▸ h
theorem frzB {D : Nat → Prop} {b b' : Bool} (h : b = b') : FrzV T H D (.bool b) (.bool b') := by subst h; exact .of (.cell (.closed rfl))
theorem frzT {D : Nat → Prop} {b : Bool} (h : b = true) : FrzV T H D .tt (.bool b) := .of (.cell (.tt h))
theorem frzF {D : Nat → Prop} {b : Bool} (h : b = false) : FrzV T H D .ff (.bool b) := .of (.cell (.ff h))
theorem frzE {D : Nat → Prop} {u u' : AV} (hc : clV u = true) (h : u = u') : FrzV T H D u u' := by subst h; exact clV_frz hc
end
end Go.V

