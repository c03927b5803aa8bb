/-
  An own logic of abstract values and what is proved with it: the bench texts V19, V20, V21, V22, V23.
-/
import Derived.Test.YtepgbdpkaogfcaaGreatDoorA3
set_option linter.unusedVariables false
set_option linter.unusedSimpArgs false
namespace Go.V

/-! ### Code -/
inductive Ex where | normal | exit (n : Nat) | ret
abbrev Post := Ex → Env → Heap → Prop
def opAt : List Oper → Nat → Option Oper
  | [], _ => none
  | o :: _, 0 => some o
  | _ :: r, k + 1 => opAt r k
def putK (nt : Nat) (dst : Option Tmp) (v : AV) (env : Env) (K : Env → Prop) : Prop := match dst with
  | some d => (match Nat.blt d nt with | true => K ((d, v) :: env) | false => False)
  | none => K env
def guardK (all : List Oper) (g : Option (Nat × Bool)) (env : Env) (yes no : Env → Prop) : Prop := match g with
  | none => yes env
  | some (j, want) => (match opAt all j with
    | some ⟨some d, _, _, _, _, _⟩ => (match get env d with
      | .tt => (match want with | true => yes env | false => no env)
      | .ff => (match want with | true => no env | false => yes env)
      | .bool b => (match want with
        | true => Br b (yes ((d, .tt) :: env)) (no ((d, .ff) :: env))
        | false => Br b (no ((d, .tt) :: env)) (yes ((d, .ff) :: env)))
      | .tup [] => no env
      | _ => False)
    | _ => False)
def opsK (P : Program) (T : Ctx) (nt : Nat) (all : List Oper) : List Oper → Env → Heap → (Env → Heap → Prop) → Prop
  | [], env, H, K => K env H
  | o :: r, env, H, K => guardK all o.guard env
      (fun env => opK P T o.op env H fun v env H => putK nt o.dst v env fun env => opsK P T nt all r env H K)
      (fun env => putK nt o.dst (.tup []) env fun env => opsK P T nt all r env H K)

/-- Less is known, or it is told otherwise. -/
def Weak (B : Nat) (T : Ctx) (env : Env) (H : Heap) (env' : Env) (H' : Heap) : Prop := ∀ (w : World) (ρ : Places) (a : Act) (n : Nat), St T w H ρ env a n → ∃ ρ', St T w H' ρ' env' a n ∧ Step B w H ρ w H' ρ'
structure WLoop (B : Nat) (T : Ctx) (body : Post → Env → Heap → Prop) (Q : Post) (env : Env) (H : Heap) : Prop where
  go : ∃ (α : Type) (e : α → Env) (h : α → Heap) (good : α → Prop) (m : α → Nat) (x0 : α), good x0 ∧ Weak B T env H (e x0) (h x0) ∧
    ∀ x, good x → body (fun ex env' H' => match ex with
      | .normal => ∃ y, good y ∧ m y < m x ∧ Weak B T env' H' (e y) (h y)
      | ex => Q ex env' H') (e x) (h x)
/-- A region whose order is open. -/
structure WDraw (B : Nat) (P : Program) (T : Ctx) (nt : Nat) (ops : List Oper) (env : Env) (H : Heap) (K : Env → Heap → Prop) : Prop where
  go : ∀ (w : World) (ρ : Places) (a : Act) (t : Nat) (Q : Exit → Act → World → Prop), St T w H ρ env a nt →
    (∀ a' w' env' H' ρ', a'.defers = a.defers → St T w' H' ρ' env' a' nt → Step B w H ρ w' H' ρ' → K env' H' → Q .normal a' w') →
    wpOps P ops.toArray Q (Region.schedule (P.follows .mixedOrders) ops.toArray t) a { w with drawn := w.drawn + 1 }

def tellK (c : Operand) (u : AV) (env : Env) : Env := match c with
  | .tmp d => (d, u) :: env
  | _ => env
def W (P : Program) (T : Ctx) (nt B : Nat) (keep : List Nat) : Code → Post → Env → Heap → Prop
  | .skip, Q, env, H => Q .normal env H
  | .seq a b, Q, env, H => W P T nt B keep a (fun e env H => match e with
    | .normal => W P T nt B keep b Q env H
    | e => Q e env H) env H
  | .cond c x y, Q, env, H => boolK (ev env c) (W P T nt B keep x Q (tellK c .tt env) H) (W P T nt B keep y Q (tellK c .ff env) H)
  | .block id c, Q, env, H => W P T nt B keep c (fun e env H => match e with
    | .exit i => (match Nat.beq i id with | true => Q .normal env H | false => Q (.exit i) env H)
    | e => Q e env H) env H
  | .exit id, Q, env, H => Q (.exit id) env H
  | .ret, Q, env, H => Q .ret env H
  | .region _ ops draw, Q, env, H => (match draw with
    | false => opsK P T nt ops.toList ops.toList env H fun env H => trim keep env fun env => Q .normal env H
    | true => WDraw B P T nt ops.toList env H fun env H => trim keep env fun env => Q .normal env H)
  | .loop c, Q, env, H => WLoop B T (W P T nt B keep c) Q env H
  | _, _, _, _ => False

section
variable {P : Program} {T : Ctx} {w w' w1 w2 : World} {H H' H1 H2 : Heap} {ρ ρ' ρ1 ρ2 : Places} {u u2 : AV} {v v2 : Value} {env : Env} {a : Act} {n B : Nat}

theorem St.put (h : St T w H ρ env a n) {d : Nat} (hd : d < n) (hr : RepV T w H ρ u v) : St T w H ρ ((d, u) :: env) (a.put (some d) v) n := by
  have hs := h.size
  refine ⟨fun s => ?_, by simp [Act.put, hs], h.heap⟩
  simp only [get, Act.put]
  cases hb : Nat.beq d s with
  | true =>
    have := Nat.eq_of_beq_eq_true hb
    subst this
    simp only [cond_true]
    have : (a.tmps.setIfInBounds d v).getD d Go.undef = v := by
      have hlt : d < a.tmps.size := by omega
      simp [Array.getD, hlt]
    rw [this]
    exact hr
  | false =>
    have hne : d ≠ s := by rintro rfl; simp at hb
    simp only [cond_false]
    have : (a.tmps.setIfInBounds d v).getD s Go.undef = a.tmps.getD s Go.undef := by
      simp only [Array.getD_eq_getD_getElem?, Array.getElem?_setIfInBounds, if_neg hne]
    rw [this]
    exact h.slot s
theorem putK_ok {nt : Nat} {dst : Option Tmp} {K : Env → Prop} (h : putK nt dst u env K) (hS : St T w H ρ env a nt) (hr : RepV T w H ρ u v) : ∃ env', St T w H ρ env' (a.put dst v) nt ∧ K env' := by
  unfold putK at h
  split at h
  · rename_i d
    split at h
    · rename_i hd
      exact ⟨_, hS.put (by simpa using hd) hr, h⟩
    · exact h.elim
  · exact ⟨_, hS, h⟩
theorem opAt_eq : ∀ (l : List Oper) (j : Nat), opAt l j = l[j]?
  | [], _ => rfl
  | _ :: _, 0 => rfl
  | _ :: r, j + 1 => by simp [opAt, opAt_eq r j]
/-- A slot known anew, at the very value that it has. -/
theorem St.slotAt (h : St T w H ρ env a n) {d : Nat} (hr : RepV T w H ρ u (a.tmps.getD d Go.undef)) : St T w H ρ ((d, u) :: env) a n :=
  ⟨fun s => by
    simp only [get]
    cases hb : Nat.beq d s with
    | true => have := Nat.eq_of_beq_eq_true hb; subst this; exact hr
    | false => exact h.slot s, h.size, h.heap⟩
theorem guardK_ok {all : List Oper} {o : Oper} {yes no : Env → Prop} (h : guardK all o.guard env yes no) (hS : St T w H ρ env a n) :
    ∃ env', St T w H ρ env' a n ∧ ((Region.wanted o (yielded all.toArray a.tmps) = true ∧ yes env') ∨ (Region.wanted o (yielded all.toArray a.tmps) = false ∧ no env')) := by
  unfold guardK at h
  split at h
  · rename_i hg
    exact ⟨env, hS, .inl ⟨by simp [Region.wanted, hg], h⟩⟩
  · rename_i j want hg
    split at h
    · rename_i d op ty pos after guard hj
      rw [opAt_eq] at hj
      have hy : yielded all.toArray a.tmps j = (match a.tmps.getD d Go.undef with | .bool b => some b | _ => none) := by
        simp only [yielded, List.getElem?_toArray, hj, Option.bind_some]
        by_cases hd : d < a.tmps.size
        · have e1 : a.tmps[d]? = some (a.tmps[d]) := Array.getElem?_eq_getElem hd
          have e2 : a.tmps.getD d Go.undef = a.tmps[d] := by simp [Array.getD, hd]
          rw [e1, e2]
          generalize a.tmps[d] = x
          cases x <;> rfl
        · simp [Array.getD, hd, Go.undef]
      have hw : Region.wanted o (yielded all.toArray a.tmps) = (yielded all.toArray a.tmps j == some want) := by simp [Region.wanted, hg]
      rw [hw, hy]
      have hr := hS.slot d
      split at h
      · rename_i hd
        rw [hd] at hr
        have := rep_tt hr
        rw [this]
        cases want with
        | true => exact ⟨env, hS, .inl ⟨by simp, h⟩⟩
        | false => exact ⟨env, hS, .inr ⟨by simp, h⟩⟩
      · rename_i hd
        rw [hd] at hr
        have := rep_ff hr
        rw [this]
        cases want with
        | true => exact ⟨env, hS, .inr ⟨by simp, h⟩⟩
        | false => exact ⟨env, hS, .inl ⟨by simp, h⟩⟩
      · rename_i b hd
        rw [hd] at hr
        have hv := rep_bool hr
        cases b with
        | true =>
          have hS' : St T w H ρ ((d, .tt) :: env) a n := hS.slotAt (by rw [hv]; exact .tt)
          rw [hv]
          cases want with
          | true => exact ⟨_, hS', .inl ⟨by simp, h.yes rfl⟩⟩
          | false => exact ⟨_, hS', .inr ⟨by simp, h.yes rfl⟩⟩
        | false =>
          have hS' : St T w H ρ ((d, .ff) :: env) a n := hS.slotAt (by rw [hv]; exact .ff)
          rw [hv]
          cases want with
          | true => exact ⟨_, hS', .inr ⟨by simp, h.no rfl⟩⟩
          | false => exact ⟨_, hS', .inl ⟨by simp, h.no rfl⟩⟩
      · rename_i hd
        rw [hd] at hr
        obtain ⟨vs, hv, _⟩ := hr
        rw [hv]
        exact ⟨env, hS, .inr ⟨by simp, h⟩⟩
      · exact h.elim
    · exact h.elim
theorem opsK_ok (hT : treeOk P T = true) {nt : Nat} {all : List Oper} {Q : Exit → Act → World → Prop} : ∀ {l : List Oper} {w : World} {H : Heap} {ρ : Places} {env : Env} {a : Act} {K : Env → Heap → Prop}, opsK P T nt all l env H K → St T w H ρ env a nt →
    (∀ a' w' env' H' ρ', a'.defers = a.defers → St T w' H' ρ' env' a' nt → Step B w H ρ w' H' ρ' → K env' H' → Q .normal a' w') → wpList P all.toArray Q l a w
  | [], w, H, ρ, env, a, K, h, hS, hQ => hQ a w env H ρ rfl hS .refl h
  | o :: r, w, H, ρ, env, a, K, h, hS, hQ => by
    simp only [opsK] at h
    obtain ⟨env1, hS1, hcase⟩ := guardK_ok h hS
    unfold wpList
    rcases hcase with ⟨hw, hyes⟩ | ⟨hw, hno⟩
    · rw [if_pos hw]
      refine .inl (wp_of_exec ?_)
      have hx := opK_ok (B := B) hT hS1 o hyes
      have key : ∀ val w', Out B T w H ρ a nt (fun v env H => putK nt o.dst v env fun env => opsK P T nt all r env H K) val w' → wpList P all.toArray Q r (a.put o.dst val) w' := by
        rintro val w' ⟨u, env2, H2, ρ2, k1, k2, k3, k4⟩
        obtain ⟨env3, k5, k6⟩ := putK_ok k4 k1 k3
        refine opsK_ok hT k6 k5 ?_
        intro a' w'' env' H' ρ' e1 e2 e3 e4
        exact hQ a' w'' env' H' ρ' (e1.trans (by cases o.dst <;> rfl)) e2 (k2.trans e3) e4
      unfold Exec at hx ⊢
      split at hx
      · exact key _ _ hx
      · exact key _ _ hx
      · exact hx.mono fun e w' ⟨v, h1, h2⟩ => ⟨v, h1, key _ _ h2⟩
      · exact hx.elim
    · rw [if_neg (by simp [hw])]
      obtain ⟨env3, k5, k6⟩ := putK_ok (v := Go.undef) hno hS1 ⟨#[], rfl, .nil⟩
      refine opsK_ok hT k6 k5 ?_
      intro a' w'' env' H' ρ' e1 e2 e3 e4
      exact hQ a' w'' env' H' ρ' (e1.trans (by cases o.dst <;> rfl)) e2 e3 e4

def ExR : Exit → Ex → Prop
  | .normal, .normal => True
  | .exit i, .exit j => i = j
  | .ret, .ret => True
  | _, _ => False
theorem ExR.cases {e : Exit} {ex : Ex} (h : ExR e ex) : (e = .normal ∧ ex = .normal) ∨ (∃ i, e = .exit i ∧ ex = .exit i) ∨ (e = .ret ∧ ex = .ret) := by
  cases e <;> cases ex <;> simp only [ExR] at h <;> simp [h]
/-- What code comes to. -/
def Fin (B : Nat) (T : Ctx) (nt : Nat) (Q : Post) (w : World) (H : Heap) (ρ : Places) (df : List Deferred) (e : Exit) (a' : Act) (w' : World) : Prop :=
  ∃ ex env' H' ρ', ExR e ex ∧ a'.defers = df ∧ St T w' H' ρ' env' a' nt ∧ Step B w H ρ w' H' ρ' ∧ Q ex env' H'
theorem Fin.back {nt : Nat} {Q : Post} {df : List Deferred} {e : Exit} (hs : Step B w H ρ w1 H1 ρ1) (h : Fin B T nt Q w1 H1 ρ1 df e a w') : Fin B T nt Q w H ρ df e a w' := by
  obtain ⟨ex, env', H', ρ', h1, h2, h3, h4, h5⟩ := h
  exact ⟨ex, env', H', ρ', h1, h2, h3, hs.trans h4, h5⟩
theorem St.trim (h : St T w H ρ env a n) (ks : List Nat) : St T w H ρ (trimmed ks env) a n :=
  ⟨fun s => by
    rcases get_trimmed ks env s with h' | h'
    · rw [h']; exact h.slot s
    · rw [h']; trivial, h.size, h.heap⟩
theorem W_block {nt : Nat} {Q : Post} {df : List Deferred} {i id : Nat} {env' : Env} {a' : Act} (h2 : a'.defers = df) (h3 : St T w' H' ρ' env' a' nt) (h4 : Step B w H ρ w' H' ρ') (h5 : match Nat.beq i id with | true => Q .normal env' H' | false => Q (.exit i) env' H') :
    Exit.inBlock id (Fin B T nt Q w H ρ df) (.exit i) a' w' := by
  simp only [Exit.inBlock]
  cases hb : Nat.beq i id with
  | true =>
    simp only [hb] at h5
    rw [if_pos (Nat.eq_of_beq_eq_true hb)]
    exact ⟨.normal, env', H', ρ', trivial, h2, h3, h4, h5⟩
  | false =>
    simp only [hb] at h5
    rw [if_neg (by rintro rfl; simp at hb)]
    exact ⟨.exit i, env', H', ρ', rfl, h2, h3, h4, h5⟩
theorem W_ok (hT : treeOk P T = true) {nt : Nat} {keep : List Nat} : ∀ (c : Code) {Q : Post} {env : Env} {H : Heap} {w : World} {ρ : Places} {a : Act}, W P T nt B keep c Q env H → St T w H ρ env a nt → c.wp P (Fin B T nt Q w H ρ a.defers) a w := by
  intro c
  induction c with
  | skip => intro Q env H w ρ a h hS; exact wp_skip ⟨.normal, env, H, ρ, trivial, rfl, hS, .refl, h⟩
  | region id ops draw =>
    intro Q env H w ρ a h hS
    cases draw with
    | false =>
      simp only [W] at h
      apply wp_region_list
      have := opsK_ok (Q := Fin B T nt Q w H ρ a.defers) hT h hS (fun a' w' env' H' ρ' e1 e2 e3 e4 => by
        rw [trim_eq] at e4
        exact ⟨.normal, _, H', ρ', trivial, e1, e2.trim keep, e3, e4⟩)
      simpa using this
    | true =>
      simp only [W] at h
      apply wp_region_draw
      intro t
      have := h.go w ρ a t (Fin B T nt Q w H ρ a.defers) hS (fun a' w' env' H' ρ' e1 e2 e3 e4 => by
        rw [trim_eq] at e4
        exact ⟨.normal, _, H', ρ', trivial, e1, e2.trim keep, e3, e4⟩)
      simpa using this
  | seq x y ihx ihy =>
    intro Q env H w ρ a h hS
    simp only [W] at h
    apply wp_seq
    refine wp_mono (ihx h hS) ?_
    rintro e a' w' ⟨ex, env', H', ρ', h1, h2, h3, h4, h5⟩
    rcases h1.cases with ⟨rfl, rfl⟩ | ⟨i, rfl, rfl⟩ | ⟨rfl, rfl⟩
    · refine wp_mono (ihy h5 h3) ?_
      intro e a'' w'' hf
      rw [h2] at hf
      exact hf.back h4
    · exact ⟨.exit i, env', H', ρ', h1, h2, h3, h4, h5⟩
    · exact ⟨.ret, env', H', ρ', h1, h2, h3, h4, h5⟩
  | cond c x y ihx ihy =>
    intro Q env H w ρ a h hS
    simp only [W] at h
    obtain ⟨b, hb, hk⟩ := boolK_ok h (ev_rep hS c)
    apply wp_cond hb
    have tell : ∀ (u : AV), RepV T w H ρ u (.bool b) → St T w H ρ (tellK c u env) a nt := by
      intro u hu
      cases c <;> first | exact hS | exact hS.slotAt (by have e : a.tmps.getD _ Go.undef = .bool b := hb; rw [e]; exact hu)
    cases b with
    | true => exact ihx (by simpa using hk) (tell _ .tt)
    | false => exact ihy (by simpa using hk) (tell _ .ff)
  | block id c ih =>
    intro Q env H w ρ a h hS
    simp only [W] at h
    apply wp_block
    refine wp_mono (ih h hS) ?_
    rintro e a' w' ⟨ex, env', H', ρ', h1, h2, h3, h4, h5⟩
    rcases h1.cases with ⟨rfl, rfl⟩ | ⟨i, rfl, rfl⟩ | ⟨rfl, rfl⟩
    · exact ⟨.normal, env', H', ρ', h1, h2, h3, h4, h5⟩
    · simp only at h5
      exact W_block h2 h3 h4 h5
    · exact ⟨.ret, env', H', ρ', h1, h2, h3, h4, h5⟩
  | loop c ih =>
    intro Q env H w ρ a h hS
    simp only [W] at h
    obtain ⟨α, e, hh, good, m, x0, g0, wk0, hround⟩ := h.go
    obtain ⟨ρ0, hS0, hst0⟩ := wk0 w ρ a nt hS
    -- the loop, as the machine goes round
    intro b k cs
    have key : ∀ (N : Nat) (x : α) (a' : Act) (w' : World) (ρ' : Places), m x = N → good x → a'.defers = a.defers → St T w' (hh x) ρ' (e x) a' nt → Step B w H ρ w' (hh x) ρ' →
        ∃ ex a'' w'', Fin B T nt Q w H ρ a.defers ex a'' w'' ∧ Arrives P (lone (b.at a' (.code c :: .inLoop c :: k)) cs w') b k cs ex a'' w'' := by
      intro N
      induction N using Nat.strongRecOn with
      | _ N ihN =>
        intro x a' w' ρ' hm hg hd hS' hst
        obtain ⟨ex, a1, w1, ⟨ex', env1, H1, ρ1, k1, k2, k3, k4, k5⟩, harr⟩ := ih (hround x hg) hS' b (.inLoop c :: k) cs
        rcases k1.cases with ⟨rfl, rfl⟩ | ⟨i, rfl, rfl⟩ | ⟨rfl, rfl⟩
        · obtain ⟨y, hy, hlt, hwk⟩ := k5
          obtain ⟨ρ2, hS2, hst2⟩ := hwk w1 ρ1 a1 nt k3
          obtain ⟨ex2, a2, w2, hq2, harr2⟩ := ihN (m y) (hm ▸ hlt) y a1 w1 ρ2 rfl hy (k2.trans hd) hS2 ((hst.trans k4).trans hst2)
          exact ⟨ex2, a2, w2, hq2, .of_steps (Steps.trans harr (.one step_inLoop)) harr2⟩
        · exact ⟨.exit i, a1, w1, ⟨.exit i, env1, H1, ρ1, rfl, k2.trans hd, k3, hst.trans k4, k5⟩, .pass (x := .inLoop c) rfl (fun _ _ => .inl (by simp)) harr⟩
        · exact ⟨.ret, a1, w1, ⟨.ret, env1, H1, ρ1, trivial, k2.trans hd, k3, hst.trans k4, k5⟩, .pass (x := .inLoop c) rfl (fun _ _ => .inl (by simp)) harr⟩
    obtain ⟨ex, a', w', hq, harr⟩ := key (m x0) x0 a w ρ0 rfl g0 rfl hS0 hst0
    exact ⟨ex, a', w', hq, .of_steps (.one step_loop) harr⟩
  | exit id => intro Q env H w ρ a h hS; exact wp_exit ⟨.exit id, env, H, ρ, rfl, rfl, hS, .refl, h⟩
  | ret => intro Q env H w ρ a h hS; exact wp_ret ⟨.ret, env, H, ρ, trivial, rfl, hS, .refl, h⟩
  | _ => intro Q env H w ρ a h hS; exact h.elim
end
end Go.V


set_option linter.unusedVariables false
set_option linter.unusedSimpArgs false
namespace Go.V
section
variable {P : Program} {T : Ctx} {w w' w1 w2 : World} {H H' H1 H2 : Heap} {ρ ρ' ρ1 ρ2 : Places} {u u2 : AV} {v v2 : Value} {env : Env} {a : Act} {n B : Nat}

/-! ### Results -/
def res1K (T : Ctx) (r : ResultVar) (env : Env) (H : Heap) (K : AV → Prop) : Prop := match r with
  | .tmp t => force (get env t) K
  | .cell t ty => (match T.look ty with | some ti => loadK ti (get env t) H K | none => False)
def resL (T : Ctx) : List ResultVar → Env → Heap → (List AV → Prop) → Prop
  | [], _, _, K => K []
  | r :: rs, env, H, K => res1K T r env H fun v => resL T rs env H fun vs => K (v :: vs)
def notTup : AV → Bool | .tup _ => false | _ => true
def resK (T : Ctx) (rs : List ResultVar) (env : Env) (H : Heap) (K : AV → Prop) : Prop := resL T rs env H fun vs => (match vs with
  | [v] => K v
  | vs => (match vs.all notTup with | true => K (.tup vs) | false => False))
def res1 (tmps : Array Value) (r : ResultVar) : Sem Value := match r with
  | .tmp t => pure (tmps.getD t Go.undef)
  | .cell a t => do loadVar t (← asAddr (tmps.getD a Go.undef))
theorem loadK_ptr {ti : TI} {K : AV → Prop} (h : loadK ti u H K) (hr : RepV T w H ρ u v) : ∃ p, v = .pointer (some p) := by
  unfold loadK at h
  split at h <;> simp only [RepV, RepA, Rep1] at hr
  · obtain ⟨b, p, rfl, _⟩ := hr; exact ⟨_, rfl⟩
  · obtain ⟨b, c, n, _, _, rfl⟩ := hr; exact ⟨_, rfl⟩
  · obtain ⟨t', n, ti', b, p, c, _, _, _, _, rfl⟩ := hr; exact ⟨_, rfl⟩
  · exact h.elim
theorem res1_ok (hT : treeOk P T = true) {r : ResultVar} {K : AV → Prop} (h : res1K T r env H K) (hS : St T w H ρ env a n) : ∃ val u, (res1 a.tmps r).run P w = .ok val w ∧ RepV T w H ρ u val ∧ K u := by
  unfold res1K at h
  split at h
  · rename_i t
    rw [force_eq] at h
    exact ⟨_, _, rfl, hS.slot t, h⟩
  · rename_i t ty
    split at h
    · rename_i ti hti
      obtain ⟨p, hp⟩ := loadK_ptr h (hS.slot t)
      obtain ⟨val, u, h1, h2, h3⟩ := loadK_ok (P := P) (look_ty hT hti) hS.heap h (hS.slot t)
      refine ⟨val, u, ?_, h2, h3⟩
      rw [hp] at h1
      simp only [res1, hp, asAddr, Sem.run_bind, Sem.run_pure, Result.andThen_ok]
      simpa [Instr.loadAt, Instr.sureAddr] using h1
    · exact h.elim
theorem resL_ok (hT : treeOk P T = true) (hS : St T w H ρ env a n) : ∀ {rs : List ResultVar} {K : List AV → Prop}, resL T rs env H K → ∃ vals us, (rs.mapM (res1 a.tmps)).run P w = .ok vals w ∧ All2 (RepV T w H ρ) us vals ∧ K us
  | [], K, h => ⟨[], [], by simp, .nil, h⟩
  | r :: rs, K, h => by
    obtain ⟨val, u, h1, h2, h3⟩ := res1_ok hT h hS
    obtain ⟨vals, us, h4, h5, h6⟩ := resL_ok hT hS h3
    exact ⟨val :: vals, u :: us, by rw [List.mapM_cons]; simp only [Sem.run_bind, h1, Result.andThen_ok, h4, Sem.run_pure], .cons h2 h5, h6⟩
theorem all2_tup {us : List AV} {vs : List Value} (h : All2 (RepV T w H ρ) us vs) (hn : us.all notTup = true) : All2 (RepA T w H ρ) us vs := by
  induction h with
  | nil => exact .nil
  | cons h _ ih =>
    simp only [List.all_cons, Bool.and_eq_true] at hn
    refine .cons ?_ (ih hn.2)
    rename_i u v _ _ _
    cases u <;> first | exact h | (simp [notTup] at hn)
theorem resK_ok (hT : treeOk P T = true) (hS : St T w H ρ env a n) {fn : Func} {K : AV → Prop} (h : resK T fn.results.toList env H K) : ∃ val u, (results fn a.tmps).run P w = .ok val w ∧ RepV T w H ρ u val ∧ K u := by
  obtain ⟨vals, us, h1, h2, h3⟩ := resL_ok hT hS h
  have hm : (fn.results.mapM (res1 a.tmps)).run P w = .ok vals.toArray w := by
    have h1' := h1
    rw [← Array.toList_mapM, Sem.run_map] at h1'
    cases hr : (fn.results.mapM (res1 a.tmps)).run P w with
    | ok x w1 =>
      rw [hr] at h1'
      simp only [Result.andThen_ok, Result.ok.injEq] at h1'
      obtain ⟨rfl, rfl⟩ := h1'
      rfl
    | halt x w1 => rw [hr] at h1'; cases h1'
  have hres : (results fn a.tmps).run P w = .ok (if h : vals.toArray.size = 1 then vals.toArray[0] else .tuple vals.toArray) w := by
    unfold results
    refine Eq.trans (congrArg (fun g => Sem.run P (do let vs ← Array.mapM g fn.results; pure (if h : vs.size = 1 then vs[0] else Value.tuple vs)) w) (funext (g := res1 a.tmps) fun r => ?_)) ?_
    · cases r <;> rfl
    · simp only [Sem.run_bind, hm, Result.andThen_ok, Sem.run_pure]
  split at h3
  · rename_i u0
    cases h2 with
    | cons h4 h5 =>
      cases h5
      exact ⟨_, u0, by rw [hres]; rfl, h4, h3⟩
  · rename_i hne
    cases hn : us.all notTup with
    | false => rw [hn] at h3; exact h3.elim
    | true =>
      rw [hn] at h3
      refine ⟨.tuple vals.toArray, .tup us, ?_, ⟨vals.toArray, rfl, by simpa using all2_tup h2 hn⟩, h3⟩
      rw [hres]
      have hl : vals.toArray.size ≠ 1 := by
        intro h1
        have : us.length = 1 := by rw [h2.length]; simpa using h1
        obtain ⟨x, hx⟩ := List.length_eq_one_iff.1 this
        exact hne x hx
      rw [dif_neg hl]

/-! ### A function's contract -/
def argEnv : Nat → List AV → Env
  | _, [] => []
  | i, v :: r => (i, v) :: argEnv (i + 1) r
def arrTok : Nat → Heap → List Nat
  | _, [] => []
  | i, .arr _ _ _ _ :: r => i :: arrTok (i + 1) r
  | i, .arrl _ _ :: r => i :: arrTok (i + 1) r
  | i, _ :: r => arrTok (i + 1) r
theorem arrTok_mem : ∀ (H : Heap) (i k : Nat) (t : TypeId) (m : Nat), (hget H k).len = some (t, m) → i + k ∈ arrTok i H
  | [], i, k, t, m, h => by simp [hget, Obj.len, Obj.elems] at h
  | o :: r, i, 0, t, m, h => by
    have : hget (o :: r) 0 = o := rfl
    rw [this] at h
    cases o <;> simp [Obj.len, Obj.elems] at h <;> simp [arrTok]
  | o :: r, i, k + 1, t, m, h => by
    have : hget (o :: r) (k + 1) = hget r k := rfl
    rw [this] at h
    have ih := arrTok_mem r (i + 1) k t m h
    rw [show i + 1 + k = i + (k + 1) by omega] at ih
    cases o <;> simp [arrTok, ih]
theorem get_argEnv : ∀ (l : List AV) (i s : Nat), get (argEnv i l) s = if s < i then .undef else (l[s - i]?).getD .undef
  | [], i, s => by simp [argEnv, get]
  | v :: r, i, s => by
    simp only [argEnv, get]
    cases hb : Nat.beq i s with
    | true =>
      have := Nat.eq_of_beq_eq_true hb
      subst this
      simp
    | false =>
      have hne : i ≠ s := by rintro rfl; simp at hb
      simp only [cond_false]
      rw [get_argEnv r (i + 1) s]
      by_cases h : s < i
      · rw [if_pos (by omega), if_pos h]
      · rw [if_neg (by omega), if_neg h]
        rw [show s - i = (s - (i + 1)) + 1 by omega]
        rfl
theorem VCall.of_W {f : FuncId} {fn : Func} {c : Code} {nt : Nat} {keep : List Nat} {args : List AV} {K : AV → List Nat → Heap → Prop} (hT : treeOk P T = true) (hf : P.funcs[f]? = some fn) (hn : (fn.name == "runtime.NumGoroutine") = false) (hb : fn.body = some c) (hnt : fn.ntmps = nt)
    (hl : Nat.ble args.length nt = true)
    (h : W P T nt H.length keep c (fun ex env H' => match ex with | .exit _ => False | _ => resK T fn.results.toList env H' fun r => K r (arrTok 0 H) H') (argEnv 0 args) H) : VCall P T f args H K := by
  constructor
  intro w ρ vs hH hv
  have hlen : args.length ≤ nt := Nat.le_of_ble_eq_true hl
  have hvl := hv.length
  unfold ExecF
  have hrun : (callFunc f vs.toArray).run P w = .ok (.enter f vs.toArray) w := by
    have hn' : ¬ fn.name = "runtime.NumGoroutine" := by simpa using hn
    simp [callFunc, hf, hn', hb]
  rw [hrun]
  simp only
  refine calls_of_wp hf hb ?_
  have hS : St T w H ρ (argEnv 0 args) { tmps := vs.toArray ++ Array.replicate (fn.ntmps - vs.toArray.size) Go.undef, defers := [] } nt := by
    refine ⟨fun s => ?_, by simp; omega, hH⟩
    rw [get_argEnv]
    simp only [Nat.not_lt_zero, if_false, Nat.sub_zero]
    cases hs : args[s]? with
    | none => trivial
    | some u =>
      obtain ⟨val, h1, h2⟩ := hv.at s u hs
      have hlt := (List.getElem?_eq_some_iff.1 h1).1
      have : (vs.toArray ++ Array.replicate (fn.ntmps - vs.toArray.size) Go.undef).getD s Go.undef = val := by
        simp only [Array.getD_eq_getD_getElem?]
        rw [Array.getElem?_append_left (by simpa using hlt)]
        simp [h1]
      simp only [Option.getD_some]
      rw [this]
      exact h2
  refine wp_mono (W_ok hT c h hS) ?_
  rintro e a' w' ⟨ex, env', H', ρ', h1, h2, h3, h4, h5⟩
  have fin : (a'.defers = [] ∧ resK T fn.results.toList env' H' fun r => K r (arrTok 0 H) H') → a'.defers = [] ∧ ∃ v, (results fn a'.tmps).run P w' = .ok v w' ∧ ∃ v₁, Ending.returned v = Ending.returned v₁ ∧ ∃ r mv H' ρ', HeapR T w' H' ρ' ∧ RepV T w' H' ρ' r v₁ ∧ Ext (fun k => k ∈ mv) No w H ρ w' H' ρ' ∧ K r mv H' := by
    rintro ⟨hd, hr⟩
    obtain ⟨val, u, r1, r2, r3⟩ := resK_ok hT h3 hr
    refine ⟨hd, val, r1, val, rfl, u, _, H', ρ', h3.heap, r2, ⟨h4.keeps, h4.own, h4.F, fun k hk t m hm => ?_, fun k _ m hm => ?_⟩, r3⟩
    · exact absurd (by simpa using arrTok_mem H 0 k t m hm) hk
    · refine h4.box k ?_ m hm
      by_cases hk : k < H.length
      · exact hk
      · rw [hget_out _ _ (by omega)] at hm; simp [Obj.isBox] at hm
  rcases h1.cases with ⟨rfl, rfl⟩ | ⟨i, rfl, rfl⟩ | ⟨rfl, rfl⟩
  · exact fin ⟨h2, h5⟩
  · exact h5.elim
  · exact fin ⟨h2, h5⟩
end
end Go.V


set_option linter.unusedVariables false
set_option linter.unusedSimpArgs false
namespace Go.V
section
variable {P : Program} {T : Ctx} {w w' w1 w2 : World} {H H' H1 H2 : Heap} {ρ ρ' ρ1 ρ2 : Places} {u u0 u2 : AV} {v v2 : Value} {env : Env} {a : Act} {n B : Nat}

/-! ### Told as what does not change any more -/
/-- A cell of a variable that is lent. -/
inductive FrzC0 (T : Ctx) (H : Heap) (D : Nat → Prop) : AV → AV → Prop
  | closed {u : AV} (h : u.closed = true) : FrzC0 T H D u u
  | arr {α : Type} {t : TypeId} {enc : α → List AV} {hc : ∀ x, (enc x).all AV.closed = true} {l l' : List α} {k off len : Nat} (hD : D k) (hk : hget H k = .arr t enc hc l) (hl : (l.drop off).take len = l') : FrzC0 T H D (.own k off len) (.slt false t enc l')
  | arrl {α : Type} {t : TypeId} {enc : α → List AV} {ls : List (List AV)} {l' : List α} {k off len : Nat} (hD : D k) (hk : hget H k = .arrl t ls) (hc : ∀ x, (enc x).all AV.closed = true) (hl : (ls.drop off).take len = l'.map enc) : FrzC0 T H D (.own k off len) (.slt false t enc l')
inductive FrzP (T : Ctx) (H : Heap) (D : Nat → Prop) : AV → AV → Prop
  | box {k o : Nat} {t : TypeId} {cs cs0 : List AV} (hD : D k) (hk : hget H k = .box t cs) (hc : All2 (FrzC0 T H D) cs cs0) (h0 : cs0.all AV.closed = true) : FrzP T H D (.box k o) (.rptr cs0 o)
  | rptr {cs : List AV} {o : Nat} : FrzP T H D (.rptr cs o) (.rptr cs o)
inductive FrzC (T : Ctx) (H : Heap) (D : Nat → Prop) : AV → AV → Prop
  | closed {u : AV} (h : u.closed = true) : FrzC T H D u u
  | arr {α : Type} {t : TypeId} {enc : α → List AV} {hc : ∀ x, (enc x).all AV.closed = true} {l l' : List α} {k off len : Nat} (hD : D k) (hk : hget H k = .arr t enc hc l) (hl : (l.drop off).take len = l') : FrzC T H D (.own k off len) (.slt false t enc l')
  | arrl {α : Type} {t : TypeId} {enc : α → List AV} {ls : List (List AV)} {l' : List α} {k off len : Nat} (hD : D k) (hk : hget H k = .arrl t ls) (hc : ∀ x, (enc x).all AV.closed = true) (hl : (ls.drop off).take len = l'.map enc) : FrzC T H D (.own k off len) (.slt false t enc l')
  | nils {α : Type} {full : Bool} {t : TypeId} {enc : α → List AV} (ht : (T.look t).isSome = true) (h0 : ∀ ti, T.look t = some ti → 0 < ti.cells) : FrzC T H D .nils (.slt full t enc [])
  | thin {α : Type} {full : Bool} {t : TypeId} {enc : α → List AV} {l : List α} : FrzC T H D (.slt full t enc l) (.slt false t enc l)
  | box {k o : Nat} {t : TypeId} {cs cs0 : List AV} (hD : D k) (hk : hget H k = .box t cs) (hc : All2 (FrzC0 T H D) cs cs0) (h0 : cs0.all AV.closed = true) : FrzC T H D (.box k o) (.rptr cs0 o)
  | fn {f : FuncId} {fs fs0 cs cs0 : List AV} (h1 : All2 (FrzP T H D) fs fs0) (h2 : All2 (FrzP T H D) cs cs0) : FrzC T H D (.fn f fs cs) (.fn f fs0 cs0)
  | rptr {cs : List AV} {o : Nat} : FrzC T H D (.rptr cs o) (.rptr cs o)
  | tt {b : Bool} (h : b = true) : FrzC T H D .tt (.bool b)
  | ff {b : Bool} (h : b = false) : FrzC T H D .ff (.bool b)
inductive FrzA (T : Ctx) (H : Heap) (D : Nat → Prop) : AV → AV → Prop
  | cell {u u0 : AV} (h : FrzC T H D u u0) : FrzA T H D u u0
  | agg {us us0 : List AV} (h : All2 (FrzC T H D) us us0) : FrzA T H D (.agg us) (.agg us0)
inductive FrzV (T : Ctx) (H : Heap) (D : Nat → Prop) : AV → AV → Prop
  | of {u u0 : AV} (h : FrzA T H D u u0) : FrzV T H D u u0
  | tup {us us0 : List AV} (h : All2 (FrzA T H D) us us0) : FrzV T H D (.tup us) (.tup us0)

def bare (F : Nat → Prop) : Places := ⟨fun _ => none, F⟩
theorem owned_bare {F : Nat → Prop} {b : Nat} : Owned [] (bare F) b ↔ F b := by
  constructor
  · rintro (⟨k, p, c, h, h'⟩ | h)
    · cases h'
    · exact h
  · exact .inr
theorem RepF.anti {O O' : Nat → Prop} (h : RepF T w O u v) (ho : ∀ b, O' b → O b) : RepF T w O' u v :=
  h.keeps (O1 := fun _ => False) (Keeps.refl _ _) (fun _ h => h.elim) (fun b hb => .inl (ho b hb))
theorem RepE.anti {O O' : Nat → Prop} (h : RepE T w O u v) (ho : ∀ b, O' b → O b) : RepE T w O' u v := by
  cases u <;> simp only [RepE] at h ⊢ <;> first
    | exact RepF.anti h ho
    | (obtain ⟨vs, h1, h2⟩ := h; exact ⟨vs, h1, h2.mono fun _ _ h => RepF.anti h ho⟩)
theorem closed_repF (h : Rep1 T w H ρ u v) (hc : u.closed = true) : RepF T w (Owned H ρ) u v := by cases u <;> first | exact h | (simp [AV.closed] at hc)
theorem closed_rep1 (h : RepF T w (Owned H ρ) u v) (hc : u.closed = true) : Rep1 T w H ρ u v := h.rep1
/-- The blocks that others must not touch, where the tokens of D are let go. -/
structure Frees (H : Heap) (ρ : Places) (D F : Nat → Prop) : Prop where
  own : ∀ b, F b → Owned H ρ b
  free : ∀ b, F b → ∀ k p c, D k → (hget H k).live → ρ k ≠ some (b, p, c)
theorem FrzC.rep {D F : Nat → Prop} (hf : Frees H ρ D F) (hH : HeapR T w H ρ) (h : FrzC T H D u u0) (hr : Rep1 T w H ρ u v) : Rep1 T w [] (bare F) u0 v := by
  have hO : ∀ b, Owned [] (bare F) b → Owned H ρ b := fun b hb => hf.own b (owned_bare.1 hb)
  have arr : ∀ {α : Type} {t : TypeId} {enc : α → List AV} {k off len : Nat} {ls : List (List AV)} {l' : List α} {v : Value}, D k → (hget H k).elems = some (t, ls) → ArrR T w H ρ k t ls → (∀ x, (enc x).all AV.closed = true) → (ls.drop off).take len = l'.map enc → Rep1 T w H ρ (.own k off len) v → Rep1 T w [] (bare F) (.slt false t enc l') v := by
    intro α t enc k off len ls l' v hD hel hA hc hl hr
    obtain ⟨t', n, ti', c, h3, h4, h5, h6⟩ := hr
    have hlen : (hget H k).len = some (t, ls.length) := by simp [Obj.len, hel]
    rw [hlen] at h3
    cases h3
    obtain ⟨ti, b1, b2, b3, b4⟩ := hA
    rw [h4] at b1
    cases b1
    have hll : l'.length = len := by
      have := congrArg List.length hl
      simp at this
      omega
    have hlive : (hget H k).live := by revert hel; cases hget H k <;> simp [Obj.elems, Obj.live]
    have hsz : ∀ x, x ∈ l' → (enc x).length = ti'.cells := by
      intro x hx
      apply b3
      have : enc x ∈ (ls.drop off).take len := by rw [hl]; exact List.mem_map.2 ⟨x, hx, rfl⟩
      exact List.mem_of_mem_drop (List.mem_of_mem_take this)
    rcases b4 with ⟨b5, b6⟩ | ⟨b, p, cap, cur, fr, b5, b6, bun, b7, b8, b9, b10, b11⟩
    · rcases h6 with ⟨h7, h8, a0, rfl⟩ | ⟨b, p, cap, o, h7, _⟩
      · have : l' = [] := List.eq_nil_of_length_eq_zero (by omega)
        subst this
        exact RepF.rep1 (.slt false t enc [] a0 0 ti' (fun _ _ => Go.undef) h4 (by simp) b2 (by simp) (by simp) (by simp) (by simp) (by simp) (by simp))
      · rw [b5] at h7; cases h7
    · rcases h6 with ⟨h7, _⟩ | ⟨b', p', cap', o, h7, h8, h9, h10, rfl⟩
      · rw [b5] at h7; cases h7
      · rw [b5] at h7
        cases h7
        have hlx : ∀ i x, l'[i]? = some x → ls[off + i]? = some (enc x) := by
          intro i x hx
          have e1 : (l'.map enc)[i]? = some (enc x) := by simp [hx]
          rw [← hl, List.getElem?_take] at e1
          split at e1
          · rw [List.getElem?_drop] at e1; exact e1
          · cases e1
        subst hll
        refine RepF.rep1 (.slt false t enc l' _ c ti' (fun i j => (cur[p + ((off + i) * ti'.cells + j)]?).getD Go.undef) h4 hsz b2 ?_ ?_ h8 (by simp) ?_ ?_)
        · exact Nat.le_trans (Nat.mul_le_mul_right _ (by omega)) b9
        · omega
        · intro hne
          have hpos : 0 < l'.length := List.length_pos_iff.2 hne
          refine ⟨b, o, rfl, fun hb => hf.free b (owned_bare.1 hb) k p cap hD hlive b5, fun i hi j hj => ?_⟩
          rw [h10 (by omega)]
          obtain ⟨x, hx⟩ : ∃ x, l'[i]? = some x := ⟨_, List.getElem?_eq_getElem hi⟩
          have hj' : j < (enc x).length := by rw [hsz x (List.mem_of_getElem? hx)]; exact hj
          obtain ⟨u, hu⟩ : ∃ u, (enc x)[j]? = some u := ⟨_, List.getElem?_eq_getElem hj'⟩
          obtain ⟨val, e1, _⟩ := b11 _ _ (hlx i x hx) j u hu
          simp only [World.cell?, b6, e1, Option.getD_some]
          have : p + off * ti'.cells + (i * ti'.cells + j) = p + ((off + i) * ti'.cells + j) := by rw [Nat.add_mul]; omega
          rw [this, e1]
          simp
        · intro i x hx j u hu
          obtain ⟨val, e1, e2⟩ := b11 _ _ (hlx i x hx) j u hu
          rw [e1]
          exact (closed_repF e2 (List.all_eq_true.1 (hc x) u (List.mem_of_getElem? hu))).anti hO
  have hc0 : ∀ {u u0 : AV} {v : Value}, FrzC0 T H D u u0 → Rep1 T w H ρ u v → Rep1 T w [] (bare F) u0 v := by
    intro u u0 v h hr
    cases h with
    | closed hc => exact ((closed_repF hr hc).anti hO).rep1
    | arr hD hk hl =>
      rename_i α t enc hc l l' k off len
      have hA := hH.obj k
      rw [hk] at hA
      exact arr hD (by rw [hk]; rfl) hA hc (by rw [← List.map_drop, ← List.map_take, hl]) hr
    | arrl hD hk hc hl =>
      rename_i α t enc ls l' k off len
      have hA := hH.obj k
      rw [hk] at hA
      exact arr hD (by rw [hk]; rfl) hA hc hl hr
  have hbx : ∀ {k o : Nat} {t : TypeId} {cs cs0 : List AV} {v : Value}, D k → hget H k = .box t cs → All2 (FrzC0 T H D) cs cs0 → cs0.all AV.closed = true → Rep1 T w H ρ (.box k o) v → ∃ b p, v = .pointer (some ⟨b, p + o, none⟩) ∧ b < w.heap.size ∧ ¬ Owned [] (bare F) b ∧ ∀ j u, cs0[j]? = some u → ∃ val, w.cell? ⟨b, p + j, none⟩ = some val ∧ RepF T w (Owned [] (bare F)) u val := by
    rintro k o t cs cs0 v hD hk hcs h0 ⟨b, c, n, h1, h2, rfl⟩
    have hobj := hH.obj k
    rw [hk] at hobj
    obtain ⟨b', vs, e1, e2, e3⟩ := hobj
    rw [h1] at e1
    cases e1
    have hlive : (hget H k).live := by rw [hk]; trivial
    refine ⟨b, 0, by rw [Nat.zero_add], hH.lt k b 0 _ hlive h1, fun hb => hf.free b (owned_bare.1 hb) k 0 _ hD hlive h1, fun j u hj => ?_⟩
    have hj' : j < cs.length := by rw [hcs.length]; exact (List.getElem?_eq_some_iff.1 hj).1
    obtain ⟨val, g1, g2⟩ := e3.at j cs[j] (List.getElem?_eq_getElem hj')
    obtain ⟨u', g3, g4⟩ := hcs.at j cs[j] (List.getElem?_eq_getElem hj')
    rw [hj] at g3
    cases g3
    refine ⟨val, by simp only [World.cell?, e2]; simpa using g1, closed_repF (hc0 g4 g2) (List.all_eq_true.1 h0 u (List.mem_of_getElem? hj))⟩
  have hcp : ∀ {us us0 : List AV} {vs : List Value}, All2 (FrzP T H D) us us0 → All2 (CapR T w H ρ) us vs → All2 (CapR T w [] (bare F)) us0 vs := by
    intro us us0 vs h1 h2
    induction h1 generalizing vs with
    | nil => cases h2; exact .nil
    | cons h _ ih =>
      cases h2 with
      | cons g gs =>
        refine .cons ?_ (ih gs)
        cases h with
        | box hD hk hcs h0 => exact hbx hD hk hcs h0 g
        | rptr =>
          obtain ⟨b, p, rfl, h1, h2, h3⟩ := g
          exact ⟨b, p, rfl, h1, fun hb => h2 (hO b hb), fun j u hj => let ⟨val, e1, e2⟩ := h3 j u hj; ⟨val, e1, e2.anti hO⟩⟩
  cases h with
  | closed hc => exact ((closed_repF hr hc).anti hO).rep1
  | tt hb => subst hb; cases hr; exact .bool true
  | ff hb => subst hb; cases hr; exact .bool false
  | arr hD hk hl =>
    rename_i α t enc hc l l' k off len
    have hobj := hH.obj k
    rw [hk] at hobj
    exact arr hD (by rw [hk]; rfl) hobj hc (by rw [← List.map_drop, ← List.map_take, hl]) hr
  | arrl hD hk hc hl =>
    rename_i α t enc ls l' k off len
    have hobj := hH.obj k
    rw [hk] at hobj
    exact arr hD (by rw [hk]; rfl) hobj hc hl hr
  | nils ht h0 =>
    have : v = .slice none 0 0 := rep_nils (RepV.of1 hr)
    subst this
    obtain ⟨ti, hti⟩ := Option.isSome_iff_exists.1 ht
    exact RepF.rep1 (.slt _ _ _ [] none 0 ti (fun _ _ => Go.undef) hti (by simp) (h0 ti hti) (by simp) (by simp) (by simp) (by simp) (by simp) (by simp))
  | thin =>
    have hr' : RepF T w (Owned H ρ) _ v := hr
    obtain ⟨a, c, ti, vs, rfl, hti, hsz, hc0, hbb, hl, hlc, hff, ha, hrr⟩ := rep_slt (RepV.of1 hr)
    exact RepF.rep1 ((RepF.slt false _ _ _ a c ti vs hti hsz hc0 hbb hl hlc (by simp) ha hrr).anti hO)
  | box hD hk hcs h0 => exact hbx hD hk hcs h0 hr
  | fn h1 h2 =>
    obtain ⟨fs, cs, rfl, g1, g2⟩ := hr
    exact ⟨fs, cs, rfl, hcp h1 g1, hcp h2 g2⟩
  | rptr =>
    obtain ⟨b, p, rfl, h1, h2, h3⟩ := hr
    refine ⟨b, p, rfl, h1, fun hb => h2 (hO b hb), fun j u hj => ?_⟩
    obtain ⟨val, e1, e2⟩ := h3 j u hj
    exact ⟨val, e1, e2.anti hO⟩
theorem all2_map {α β γ : Type _} {R : α → β → Prop} {R' : γ → β → Prop} {S : α → γ → Prop} {l : List α} {m : List β} {l' : List γ} (h : All2 R l m) (hs : All2 S l l') (hr : ∀ a b c, S a c → R a b → R' c b) : All2 R' l' m := by
  induction h generalizing l' with
  | nil => cases hs; exact .nil
  | cons h _ ih =>
    cases hs with
    | cons h1 h2 => exact .cons (hr _ _ _ h1 h) (ih h2)
theorem FrzA.rep {D F : Nat → Prop} (hf : Frees H ρ D F) (hH : HeapR T w H ρ) (h : FrzA T H D u u0) (hr : RepA T w H ρ u v) : RepA T w [] (bare F) u0 v := by
  cases h with
  | cell h =>
    have h1 : Rep1 T w H ρ u v := by
      cases u <;> first | exact hr | (cases h; done) | skip
      all_goals (cases h; rename_i hc; simp [AV.closed] at hc)
    exact .of1 (h.rep hf hH h1)
  | agg h =>
    obtain ⟨vs, rfl, hv⟩ := hr
    exact ⟨vs, rfl, all2_map hv h fun _ _ _ h1 h2 => h1.rep hf hH h2⟩
theorem FrzV.rep {D F : Nat → Prop} (hf : Frees H ρ D F) (hH : HeapR T w H ρ) (h : FrzV T H D u u0) (hr : RepV T w H ρ u v) : RepV T w [] (bare F) u0 v := by
  cases h with
  | of h =>
    have h1 : RepA T w H ρ u v := by
      cases u <;> first | exact hr | skip
      cases h
      rename_i h
      cases h
      rename_i hc
      simp [AV.closed] at hc
    exact .ofA (h.rep hf hH h1)
  | tup h =>
    obtain ⟨vs, rfl, hv⟩ := hr
    exact ⟨vs, rfl, all2_map hv h fun _ _ _ h1 h2 => h1.rep hf hH h2⟩
end
end Go.V


set_option linter.unusedVariables false
set_option linter.unusedSimpArgs false
namespace Go.V
section
variable {P : Program} {T : Ctx} {w w' w1 w2 : World} {H H' H1 H2 : Heap} {ρ ρ' ρ1 ρ2 : Places} {u u0 u2 : AV} {v v2 : Value} {env : Env} {a : Act} {n B : Nat}

abbrev Yes : Nat → Prop := fun _ => True
/-- A function that only computes: called with these it hands back this. -/
def Ret (P : Program) (T : Ctx) (f : FuncId) (args : List AV) (r : AV) : Prop := VCall P T f args [] fun r' _ H' => FrzV T H' Yes r' r

theorem heapR_bare {F : Nat → Prop} (hF : ∀ b, F b → b < w.heap.size) (hg : ∀ x, x ∈ T.globs → w.cell? x.1 = some x.2 ∧ ¬ F x.1.block) : HeapR T w [] (bare F) :=
  ⟨fun k => by rw [hget_out _ _ (Nat.zero_le _)]; trivial, fun k k' b p c p' c' h => by rw [hget_out _ _ (Nat.zero_le _)] at h; exact h.elim, fun k b p c h => by rw [hget_out _ _ (Nat.zero_le _)] at h; exact h.elim,
    fun k b p c h => by rw [hget_out _ _ (Nat.zero_le _)] at h; exact h.elim, hF, fun x hx => ⟨(hg x hx).1, fun h => (hg x hx).2 (owned_bare.1 h)⟩⟩
theorem hget_nil (k : Nat) : hget [] k = .dead := rfl
/-- Out of a bare state into a fuller one. -/
theorem Rep1.fill {F : Nat → Prop} (h : Rep1 T w [] (bare F) u v) (hF : ∀ b, Owned H ρ b → F b) : Rep1 T w H ρ u v := by
  have hO : ∀ b, Owned H ρ b → Owned [] (bare F) b := fun b hb => owned_bare.2 (hF b hb)
  have hcap : ∀ {us : List AV} {vs : List Value}, All2 (CapR T w [] (bare F)) us vs → All2 (CapR T w H ρ) us vs := by
    intro us vs h
    induction h with
    | nil => exact .nil
    | cons h _ _ =>
      rename_i u _ _ _ _ _
      refine .cons ?_ (by assumption)
      cases u <;> simp only [CapR] at h ⊢
      · obtain ⟨b, c, n, h, _⟩ := h
        cases h
      · obtain ⟨b, p, h1, h2, h3, h4⟩ := h
        exact ⟨b, p, h1, h2, fun hb => h3 (hO b hb), fun j u hj => let ⟨val, e1, e2⟩ := h4 j u hj; ⟨val, e1, e2.anti hO⟩⟩
  cases u <;> first
    | exact RepF.anti h hO
    | exact h
    | skip
  · obtain ⟨t, n, ti, c, h, _⟩ := h; cases h
  · obtain ⟨b, c, n, h, _⟩ := h; cases h
  · obtain ⟨t, n, ti, b, p, c, h, _⟩ := h; cases h
  · obtain ⟨b, p, h1, h2, h3, h4⟩ := h
    exact ⟨b, p, h1, h2, fun hb => h3 (hO b hb), fun j u hj => let ⟨val, e1, e2⟩ := h4 j u hj; ⟨val, e1, e2.anti hO⟩⟩
  · obtain ⟨fs, cs, h1, h2, h3⟩ := h
    exact ⟨fs, cs, h1, hcap h2, hcap h3⟩
  · obtain ⟨b, c, n, h, _⟩ := h; cases h
theorem RepA.fill {F : Nat → Prop} (h : RepA T w [] (bare F) u v) (hF : ∀ b, Owned H ρ b → F b) : RepA T w H ρ u v := by
  cases u <;> simp only [RepA] at h ⊢ <;> first
    | exact Rep1.fill (H := H) (ρ := ρ) h hF
    | (obtain ⟨vs, h1, h2⟩ := h; exact ⟨vs, h1, h2.mono fun _ _ h => h.fill hF⟩)
theorem RepV.fill {F : Nat → Prop} (h : RepV T w [] (bare F) u v) (hF : ∀ b, Owned H ρ b → F b) : RepV T w H ρ u v := by
  cases u <;> simp only [RepV] at h ⊢ <;> first
    | exact RepA.fill (H := H) (ρ := ρ) h hF
    | (obtain ⟨vs, h1, h2⟩ := h; exact ⟨vs, h1, h2.mono fun _ _ h => h.fill hF⟩)
theorem HeapR.below (hH : HeapR T w H ρ) (hk : Keeps (fun _ => False) w w') : HeapR T w' H ρ ∧ Ext No No w H ρ w' H ρ := by
  have e : Ext No No w H ρ w' H ρ := ⟨⟨hk.os, hk.tape, hk.output, hk.size, fun b hb _ => hk.block b hb id⟩, fun b hb => .inl hb, rfl, fun k _ t n hn => ⟨rfl, n, hn, Nat.le_refl _⟩, fun k _ n hn => ⟨rfl, hn⟩⟩
  refine ⟨⟨fun k => ?_, hH.inj, fun k b p c h h' => Nat.lt_of_lt_of_le (hH.lt k b p c h h') hk.size, hH.fresh, fun b hb => Nat.lt_of_lt_of_le (hH.flt b hb) hk.size, hH.glob.ext e⟩, e⟩
  by_cases hl : (hget H k).live
  · refine ObjR.ext e (hH.obj k) rfl (fun b p c hb => hk.block b (hH.lt k b p c hl hb) id) ?_
    unfold AvO
    split <;> first | trivial | (intros; exact Av.none)
  · cases hh : hget H k <;> rw [hh] at hl <;> first | trivial | exact absurd trivial hl
/-- What a call that only computes comes to, the tokens of D let go while it runs. -/
theorem Ret.run {f : FuncId} {args args0 : List AV} {r : AV} {D F : Nat → Prop} (hr : Ret P T f args0 r) (hH : HeapR T w H ρ) (hf : Frees H ρ D F) (ha : All2 (FrzV T H D) args args0) {vs : List Value} (hv : All2 (RepV T w H ρ) args vs) :
    ExecF P f vs.toArray w fun v w' => Keeps (fun _ => False) w w' ∧ RepV T w' [] (bare F) r v := by
  have hFlt : ∀ b, F b → b < w.heap.size := by
    intro b hb
    rcases hf.own b hb with ⟨k, p, c, h1, h2⟩ | h
    · exact hH.lt k b p c h1 h2
    · exact hH.flt b h
  refine (hr.call w (bare F) vs (heapR_bare hFlt fun x hx => ⟨(hH.glob x hx).1, fun h => (hH.glob x hx).2 (hf.own _ h)⟩) (all2_map hv ha fun _ _ _ h1 h2 => h1.rep hf hH h2)).mono ?_
  rintro v w' ⟨r', mv, H', ρ', h1, h2, h3, h4⟩
  have hnone : ∀ b, ¬ OwnedT [] (bare F) b := by rintro b ⟨k, p, c, h, h'⟩; cases h'
  refine ⟨⟨h3.keeps.os, h3.keeps.tape, h3.keeps.output, h3.keeps.size, fun b hb _ => h3.keeps.block b hb (hnone b)⟩, ?_⟩
  refine h4.rep ⟨fun b hb => .inr (by rw [h3.F]; exact hb), fun b hb k p c _ hl h => ?_⟩ h1 h2
  have := h1.fresh k b p c hl h
  rw [h3.F] at this
  exact this hb
theorem VCall.pure {f : FuncId} {args args0 : List AV} {r : AV} {K : AV → List Nat → Heap → Prop} (hr : Ret P T f args0 r) (ha : All2 (FrzV T H No) args args0) (hk : K r [] H) : VCall P T f args H K := by
  constructor
  intro w ρ vs hH hv
  refine (hr.run (F := Owned H ρ) hH ⟨fun _ h => h, fun _ _ _ _ _ h => h.elim⟩ ha hv).mono ?_
  rintro v w' ⟨h1, h2⟩
  obtain ⟨e1, e2⟩ := hH.below h1
  exact ⟨r, [], H, ρ, e1, h2.fill fun _ h => h, ⟨e2.keeps, e2.own, e2.F, fun k _ => e2.arr k id, e2.box⟩, hk⟩
def scalarC : AV → Bool
  | .tt | .ff | .bool _ | .int _ _ | .str _ | .nils | .nilp | .nilfn | .nilm => true
  | _ => false
def scalarV : AV → Bool
  | .agg cs => cs.all scalarC
  | .tup us => us.all fun u => match u with | .agg cs => cs.all scalarC | u => scalarC u
  | u => scalarC u
theorem scalarC_rep {F : Nat → Prop} (hs : scalarC u = true) (h : Rep1 T w [] (bare F) u v) : Rep1 T w H ρ u v := by
  cases u <;> first | (simp [scalarC] at hs; done) | (cases h <;> constructor <;> assumption)
theorem scalars_rep {F : Nat → Prop} : ∀ {us : List AV} {vs : List Value}, us.all scalarC = true → All2 (Rep1 T w [] (bare F)) us vs → All2 (Rep1 T w H ρ) us vs
  | [], _, _, .nil => .nil
  | u :: us, _, h, .cons h1 h2 => by
    simp only [List.all_cons, Bool.and_eq_true] at h
    exact .cons (scalarC_rep h.1 h1) (scalars_rep h.2 h2)
theorem scalarV_rep {F : Nat → Prop} (hs : scalarV u = true) (h : RepV T w [] (bare F) u v) : RepV T w H ρ u v := by
  have hA : ∀ {u : AV} {v : Value}, (match u with | .agg cs => cs.all scalarC | u => scalarC u) = true → RepA T w [] (bare F) u v → RepA T w H ρ u v := by
    intro u v hs h
    cases u <;> simp only [RepA] at h ⊢ <;> first
      | (simp [scalarC] at hs; done)
      | exact scalarC_rep (H := H) (ρ := ρ) (F := F) hs h
      | (obtain ⟨vs, h1, h2⟩ := h; exact ⟨vs, h1, scalars_rep hs h2⟩)
  have hAs : ∀ {us : List AV} {vs : List Value}, us.all (fun u => match u with | .agg cs => cs.all scalarC | u => scalarC u) = true → All2 (RepA T w [] (bare F)) us vs → All2 (RepA T w H ρ) us vs := by
    intro us vs hs h
    induction h with
    | nil => exact .nil
    | cons h _ ih =>
      simp only [List.all_cons, Bool.and_eq_true] at hs
      exact .cons (hA hs.1 h) (ih hs.2)
  cases u <;> simp only [RepV, RepA] at h ⊢ <;> first
    | (simp [scalarV, scalarC] at hs; done)
    | exact scalarC_rep (H := H) (ρ := ρ) (F := F) hs h
    | (obtain ⟨vs, h1, h2⟩ := h; exact ⟨vs, h1, scalars_rep hs h2⟩)
    | (obtain ⟨vs, h1, h2⟩ := h; exact ⟨vs, h1, hAs hs h2⟩)
/-- Arrays are lent to a call whose result leads to none of them. -/
theorem VCall.lend {f : FuncId} {args args0 : List AV} {r : AV} {K : AV → List Nat → Heap → Prop} (hr : Ret P T f args0 r) (ha : All2 (FrzV T H Yes) args args0) (hs : scalarV r = true) (hk : K r [] H) : VCall P T f args H K := by
  constructor
  intro w ρ vs hH hv
  refine (hr.run (F := ρ.F) hH ⟨fun _ h => .inr h, fun b hb k p c _ hl h => hH.fresh k b p c hl h hb⟩ ha hv).mono ?_
  rintro v w' ⟨h1, h2⟩
  obtain ⟨e1, e2⟩ := hH.below h1
  exact ⟨r, [], H, ρ, e1, scalarV_rep hs h2, ⟨e2.keeps, e2.own, e2.F, fun k _ => e2.arr k id, e2.box⟩, hk⟩
theorem hset_dead_len (H : Heap) (k : Nat) : (hset H k .dead).length = H.length := by rw [hset_eq]; simp
theorem hget_hset_dead (H : Heap) (k j : Nat) : hget (hset H k .dead) j = if j = k then .dead else hget H j := by
  by_cases hk : k < H.length
  · exact hget_set H k .dead j hk
  · rw [hset_eq, List.set_eq_of_length_le (by omega)]
    by_cases h : j = k
    · subst h; rw [if_pos rfl, hget_out _ _ (by omega)]
    · rw [if_neg h]
theorem AvO.mono' {M M' : Nat → Prop} {o : Go.V.Obj} (h : AvO M No o) (hm : ∀ k, M' k → M k) : AvO M' No o := by
  have : ∀ {u : AV}, Av M No u → Av M' No u := by
    intro u h
    cases u <;> first | exact fun h' => h (hm _ h') | exact h
  cases o <;> simp only [AvO] at h ⊢ <;> first | trivial | (intro x hx; exact this (h x hx)) | (intro x hx u hu; exact this (h x hx u hu))
/-- An array is given away. -/
theorem VCall.give (k : Nat) {f : FuncId} {args args0 : List AV} {r : AV} {K : AV → List Nat → Heap → Prop} (hr : Ret P T f args0 r) (ha : All2 (FrzV T H (Is k)) args args0) (hb : (hget H k).isBox = none) (hk : K r [k] (hset (H.map (killO k)) k .dead)) : VCall P T f args H K := by
  constructor
  intro w ρ vs hH hv
  refine (hr.run (F := fun b => Owned H ρ b ∧ ∀ p c, (hget H k).live → ρ k ≠ some (b, p, c)) hH ⟨fun _ h => h.1, fun b hb j p c hj hl h => by subst hj; exact hb.2 p c hl h⟩ ha hv).mono ?_
  rintro v w' ⟨h1, h2⟩
  obtain ⟨e1, e2⟩ := hH.below h1
  have e3 := e1.kill (k := k)
  have hd : ∀ j, hget (hset (H.map (killO k)) k .dead) j = if j = k then .dead else killO k (hget H j) := by
    intro j
    rw [hget_hset_dead, hget_map (killO k) rfl]
  have hlive : ∀ j, (hget (hset (H.map (killO k)) k .dead) j).live → j ≠ k ∧ (hget H j).live := by
    intro j hj
    rw [hd] at hj
    by_cases h : j = k
    · rw [if_pos h] at hj; exact hj.elim
    · rw [if_neg h, killO_live] at hj; exact ⟨h, hj⟩
  have hown : ∀ b, Owned (hset (H.map (killO k)) k .dead) ρ b → Owned H ρ b ∧ ∀ p c, (hget H k).live → ρ k ≠ some (b, p, c) := by
    rintro b (⟨j, p, c, g1, g2⟩ | g)
    · obtain ⟨g3, g4⟩ := hlive j g1
      exact ⟨.inl ⟨j, p, c, g4, g2⟩, fun p' c' hl h => g3 (hH.inj _ _ _ _ _ _ _ g4 hl g2 h)⟩
    · exact ⟨.inr g, fun p c hl h => hH.fresh k b p c hl h g⟩
  have ext : Ext (Is k) No w' (H.map (killO k)) ρ w' (hset (H.map (killO k)) k .dead) ρ := by
    refine ⟨Keeps.refl _ _, fun b hb => .inl ?_, rfl, fun j hj t m hm => ⟨rfl, m, ?_, Nat.le_refl _⟩, fun j _ m hm => ⟨rfl, ?_⟩⟩
    · obtain ⟨j, p, c, g1, g2⟩ := hb
      refine ⟨j, p, c, ?_, g2⟩
      rw [hget_map (killO k) rfl, killO_live]
      exact (hlive j g1).2
    · rw [hd, if_neg hj]
      rw [hget_map (killO k) rfl] at hm
      exact hm
    · rw [hget_map (killO k) rfl, killO_box] at hm
      have hj : j ≠ k := by rintro rfl; rw [hb] at hm; cases hm
      rw [hd, if_neg hj, killO_box]
      exact hm
  have heap : HeapR T w' (hset (H.map (killO k)) k .dead) ρ := by
    refine ⟨fun j => ?_, fun j j' b p c p' c' g1 g2 => ?_, fun j b p c g1 => ?_, fun j b p c g1 => ?_, e1.flt, e3.glob.ext ext⟩
    · rw [hd]
      by_cases hj : j = k
      · rw [if_pos hj]; trivial
      · rw [if_neg hj]
        have := e3.obj j
        rw [hget_map (killO k) rfl] at this
        exact ObjR.ext ext this rfl (fun _ _ _ _ => rfl) (killO_av _)
    · exact e1.inj j j' b p c p' c' (hlive j g1).2 (hlive j' g2).2
    · exact e1.lt j b p c (hlive j g1).2
    · exact e1.fresh j b p c (hlive j g1).2
  refine ⟨r, [k], _, ρ, heap, h2.fill hown, ?_, hk⟩
  have e4 : Ext (fun j => j ∈ [k]) No w H ρ w' (hset (H.map (killO k)) k .dead) ρ := by
    refine ⟨e2.keeps, fun b hb => ?_, rfl, fun j hj t m hm => ⟨rfl, m, ?_, Nat.le_refl _⟩, fun j _ m hm => ⟨rfl, ?_⟩⟩
    · obtain ⟨j, p, c, g1, g2⟩ := hb
      exact .inl ⟨j, p, c, (hlive j g1).2, g2⟩
    · rw [hd, if_neg (by simpa using hj), killO_len]; exact hm
    · have hj : j ≠ k := by rintro rfl; rw [hb] at hm; cases hm
      rw [hd, if_neg hj, killO_box]; exact hm
  exact e4

/-! ### To know less -/
theorem Weak.refl : Weak B T env H env H := fun w ρ a n h => ⟨ρ, h, .refl⟩
theorem Weak.trans {e1 e2 : Env} (h : Weak B T env H e1 H1) (h' : Weak B T e1 H1 e2 H2) : Weak B T env H e2 H2 := fun w ρ a n hS => by
  obtain ⟨ρ1, h1, h2⟩ := h w ρ a n hS
  obtain ⟨ρ2, h3, h4⟩ := h' w ρ1 a n h1
  exact ⟨ρ2, h3, h2.trans h4⟩
theorem Weak.trim (ks : List Nat) : Weak B T env H (trimmed ks env) H := fun w ρ a n h => ⟨ρ, h.trim ks, .refl⟩
def tokLt (m : Nat) : AV → Bool
  | .own k _ _ => Nat.blt k m
  | .elt k _ _ => Nat.blt k m
  | .box k _ => Nat.blt k m
  | .mapr k => Nat.blt k m
  | .fn _ fs cs => (fs.all fun u => match u with | .box k _ => Nat.blt k m | _ => true) && (cs.all fun u => match u with | .box k _ => Nat.blt k m | _ => true)
  | _ => true
def tokLtV (m : Nat) : AV → Bool
  | .agg cs => cs.all (tokLt m)
  | .tup _ => false
  | u => tokLt m u
def tokLtO (m : Nat) : Go.V.Obj → Bool
  | .box _ cs => cs.all (tokLt m)
  | .arr _ _ _ _ => true
  | .arrl _ ls => ls.all fun x => x.all (tokLt m)
  | .map _ => true
  | .dead => true
abbrev Ge (m : Nat) : Nat → Prop := fun k => m ≤ k
theorem tokLt_av {m : Nat} (h : tokLt m u = true) : Av (Ge m) (Ge m) u := by
  have hC : ∀ {u : AV}, (match u with | .box k _ => Nat.blt k m | _ => true) = true → AvC (Ge m) u := by
    intro u h
    cases u <;> first | trivial | (simp at h; exact fun h' : m ≤ _ => by omega)
  cases u <;> first
    | trivial
    | (simp only [tokLt] at h; exact fun h' : m ≤ _ => by simp at h; omega)
    | (simp only [tokLt, Bool.and_eq_true, List.all_eq_true] at h; exact ⟨fun u hu => hC (h.1 u hu), fun u hu => hC (h.2 u hu)⟩)
theorem hget_take (H : Heap) (m k : Nat) : hget (H.take m) k = if k < m then hget H k else .dead := by
  unfold hget
  rw [List.getElem?_take]
  split <;> rfl
/-- The objects from m on are forgotten. -/
theorem Weak.drop (m : Nat) (hB : Nat.ble B m = true) (he : env.all (fun x => tokLtV m x.2) = true) (hh : (H.take m).all (tokLtO m) = true) : Weak B T env H env (H.take m) := by
  intro w ρ a n hS
  have hBm : B ≤ m := Nat.le_of_ble_eq_true hB
  have hlive : ∀ k, (hget (H.take m) k).live → k < m ∧ (hget H k).live := by
    intro k hk
    rw [hget_take] at hk
    split at hk
    · exact ⟨by assumption, hk⟩
    · exact hk.elim
  have e : Ext (Ge m) (Ge m) w H ρ w (H.take m) ρ := by
    refine ⟨Keeps.refl _ _, fun b hb => .inl ?_, rfl, fun k hk t i hi => ⟨rfl, i, ?_, Nat.le_refl _⟩, fun k hk i hi => ⟨rfl, ?_⟩⟩
    · obtain ⟨k, p, c, h1, h2⟩ := hb; exact ⟨k, p, c, (hlive k h1).2, h2⟩
    · rw [hget_take, if_pos (by simpa using hk)]; exact hi
    · rw [hget_take, if_pos (by simpa using hk)]; exact hi
  have hav : ∀ s, AvV (Ge m) (Ge m) (get env s) := by
    intro s
    have : ∀ env : Env, env.all (fun x => tokLtV m x.2) = true → tokLtV m (get env s) = true := by
      intro env
      induction env with
      | nil => intro _; rfl
      | cons x r ih =>
        obtain ⟨t, v⟩ := x
        intro h
        simp only [List.all_cons, Bool.and_eq_true] at h
        simp only [get]
        cases Nat.beq t s with
        | true => exact h.1
        | false => exact ih h.2
    have h := this env he
    by_cases ha : ∃ cs, get env s = .agg cs
    · obtain ⟨cs, hcs⟩ := ha
      rw [hcs] at h ⊢
      intro u hu
      exact tokLt_av (List.all_eq_true.1 h u hu)
    · have ht : ¬ ∃ cs, get env s = .tup cs := by rintro ⟨cs, hcs⟩; rw [hcs] at h; cases h
      rw [AvV_iff ht, AvA_iff ha]
      apply tokLt_av
      revert h
      generalize get env s = u at ha ht
      intro h
      cases u <;> first | exact h | exact absurd ⟨_, rfl⟩ ha | exact absurd ⟨_, rfl⟩ ht
  have heap : HeapR T w (H.take m) ρ := by
    refine ⟨fun k => ?_, fun k k' b p c p' c' h1 h2 => hS.heap.inj k k' b p c p' c' (hlive k h1).2 (hlive k' h2).2, fun k b p c h1 => hS.heap.lt k b p c (hlive k h1).2, fun k b p c h1 => hS.heap.fresh k b p c (hlive k h1).2, hS.heap.flt, hS.heap.glob.ext e⟩
    rw [hget_take]
    split
    · rename_i hk
      refine ObjR.ext e (hS.heap.obj k) rfl (fun _ _ _ _ => rfl) ?_
      by_cases hkl : k < H.length
      · have hmem : hget H k ∈ H.take m := by
          unfold hget
          rw [List.getElem?_eq_getElem hkl]
          simp only [Option.getD_some]
          exact List.mem_of_getElem? (i := k) (by rw [List.getElem?_take, if_pos hk, List.getElem?_eq_getElem hkl])
        have h := List.all_eq_true.1 hh _ hmem
        revert h
        cases hget H k with
        | box t cs => intro h u hu; exact tokLt_av (List.all_eq_true.1 h u hu)
        | arr t enc hc l => intro _ x _ u hu; exact closed_av (List.all_eq_true.1 (hc x) u hu)
        | arrl t ls => intro h x hx u hu; exact tokLt_av (List.all_eq_true.1 (List.all_eq_true.1 h x hx) u hu)
        | dead => intro _; trivial
        | map => intro _; trivial
      · rw [hget_out _ _ (by omega)]; trivial
    · trivial
  exact ⟨ρ, hS.ext e hav heap, ⟨e.keeps, e.own, rfl, fun k hk i hi => e.box k (by show ¬ m ≤ k; omega) i hi⟩⟩
/-- The nil slice of a slot is an array without elements. -/
theorem Weak.nil {α : Type} (s : Nat) (t : TypeId) (enc : α → List AV) (hc : ∀ x, (enc x).all AV.closed = true) (hg : get env s = .nils) (ht : ∃ ti, T.look t = some ti ∧ 0 < ti.cells) : Weak B T env H ((s, .own (List.length H) 0 0) :: env) (H ++ [.arr t enc hc []]) := by
  intro w ρ a n hS
  obtain ⟨ti, hti, h0⟩ := ht
  have hv := hS.slot s
  rw [hg] at hv
  have hv' := rep_nils hv
  obtain ⟨h1, h2⟩ := hS.heap.push (o := .arr t enc hc []) (x := none) (Keeps.refl _ w) (by simp) (fun e => ⟨ti, hti, h0, by simp, .inl ⟨by simp [push], rfl⟩⟩)
  refine ⟨_, (hS.ext h2 (fun _ => .none) h1).slotAt ?_, h2.step⟩
  rw [hv']
  exact ⟨t, 0, ti, 0, by rw [hget_push, if_pos rfl]; rfl, hti, by simp, .inl ⟨by simp [push], rfl, none, rfl⟩⟩
/-- An array is told as one of encoded elements. -/
theorem Weak.retype {α : Type} (k : Nat) (t : TypeId) (enc : α → List AV) (hc : ∀ x, (enc x).all AV.closed = true) (l : List α) (hk : hget H k = .arrl t (l.map enc)) : Weak B T env H env (hset H k (.arr t enc hc l)) := by
  intro w ρ a n hS
  have hlive : (hget H k).live := by rw [hk]; trivial
  have hobj := hS.heap.obj k
  rw [hk] at hobj
  obtain ⟨h1, h2⟩ := hS.heap.upd (k := k) (o' := .arr t enc hc l) (x := ρ k) (M := No) (w' := w) hlive (Keeps.refl _ _) (fun b p c h => ⟨hS.heap.lt k b p c hlive h, .inl ⟨p, c, h⟩⟩) (fun m hm => by rw [hk] at hm; cases hm) (fun _ t' m hm => by
    rw [hk] at hm
    cases hm
    exact ⟨rfl, _, rfl, Nat.le_refl _⟩) (fun j _ => by cases hget H j <;> simp only [AvO] <;> intros <;> exact Av.none) (fun e => by
    rw [upd_self] at e ⊢
    exact ObjR.ext (o := .arrl t (l.map enc)) e hobj rfl (fun _ _ _ _ => rfl) (by intro _ _ _ _; exact Av.none))
  rw [upd_self] at h1 h2
  exact ⟨ρ, hS.ext h2 (fun _ => .none) h1, h2.step⟩
end
end Go.V


set_option linter.unusedVariables false
set_option linter.unusedSimpArgs false
namespace Go.V
section
variable {P : Program} {T : Ctx} {w w' : World} {H H' : Heap} {ρ ρ' : Places} {u : AV} {v : Value} {env env' : Env} {a : Act} {n B : Nat}
/-! ### Slots told again -/
def Sub (env : Env) : Env → Prop
  | [] => True
  | (s, v) :: r => get env s = v ∧ Sub env r
theorem Sub.get : ∀ {env' : Env}, Sub env env' → ∀ s, get env' s = get env s ∨ get env' s = .undef
  | [], _, s => .inr rfl
  | (t, v) :: r, h, s => by
    simp only [Go.V.get]
    cases hb : Nat.beq t s with
    | true => have := Nat.eq_of_beq_eq_true hb; subst this; exact .inl h.1.symm
    | false => exact Sub.get h.2 s
theorem Weak.slots (h : Sub env env') : Weak B T env H env' H := fun w ρ a n hS =>
  ⟨ρ, ⟨fun s => by
    rcases h.get s with h | h <;> rw [h]
    · exact hS.slot s
    · trivial, hS.size, hS.heap⟩, .refl⟩
/-- Round a loop: the slots kept, the objects from m on forgotten, the heap told again. -/
theorem Weak.back (m : Nat) (h : Sub env env') (hB : Nat.ble B m = true) (he : env'.all (fun x => tokLtV m x.2) = true) (hh : (H.take m).all (tokLtO m) = true) (hH : H.take m = H') : Weak B T env H env' H' := by
  subst hH
  exact (Weak.slots h).trans (Weak.drop m hB he hh)
theorem Weak.back' (m : Nat) (hB : Nat.ble B m = true) (he : env'.all (fun x => tokLtV m x.2) = true) (hh : (H.take m).all (tokLtO m) = true) (h : Sub env env') (hH : H.take m = H') : Weak B T env H env' H' := Weak.back m h hB he hh hH
end
end Go.V

