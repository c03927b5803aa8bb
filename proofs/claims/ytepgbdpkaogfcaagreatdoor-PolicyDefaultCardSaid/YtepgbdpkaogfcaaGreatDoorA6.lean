/-
  An own logic of abstract values and what is proved with it: the bench texts V29, V30, V31, V32, V33.
-/
import Derived.Test.YtepgbdpkaogfcaaGreatDoorA5
import Derived.Laws.LoneSync
import Derived.Lib.Builder
import Derived.Lib.UnsafeStr
import Derived.MapKept
set_option linter.unusedVariables false
set_option linter.unusedSimpArgs false
namespace Go.V
/-! ### Code, with what is left told as a list -/
inductive Frame : Type 1 where
  | seq (c : Code)
  | block (id : Nat)
  | loop (R : Env → Heap → Prop)
section
variable {P : Program} {T : Ctx} {nt B : Nat} {keep : List Nat}
/-- What code comes to, wherever it is run. -/
def SemW (P : Program) (T : Ctx) (nt B : Nat) (c : Code) (Q : Post) (env : Env) (H : Heap) : Prop :=
  ∀ (w : World) (ρ : Places) (a : Act), St T w H ρ env a nt → c.wp P (Fin B T nt Q w H ρ a.defers) a w
/-- What is asked behind this. -/
def stackQ (P : Program) (T : Ctx) (nt B : Nat) : List Frame → Post → Post
  | [], Q => Q
  | .seq c :: fs, Q => fun e env H => match e with
    | .normal => SemW P T nt B c (stackQ P T nt B fs Q) env H
    | e => stackQ P T nt B fs Q e env H
  | .block id :: fs, Q => fun e env H => match e with
    | .exit i => (match Nat.beq i id with | true => stackQ P T nt B fs Q .normal env H | false => stackQ P T nt B fs Q (.exit i) env H)
    | e => stackQ P T nt B fs Q e env H
  | .loop R :: fs, Q => fun e env H => match e with
    | .normal => R env H
    | e => stackQ P T nt B fs Q e env H
/-- This code, then that. -/
structure Run (P : Program) (T : Ctx) (nt B : Nat) (keep : List Nat) (c : Code) (fs : List Frame) (Q : Post) (env : Env) (H : Heap) : Prop where
  go : SemW P T nt B c (stackQ P T nt B fs Q) env H
/-- A loop. -/
structure Loops (P : Program) (T : Ctx) (nt B : Nat) (keep : List Nat) (c : Code) (fs : List Frame) (Q : Post) (env : Env) (H : Heap) : Prop where
  go : SemW P T nt B (.loop c) (stackQ P T nt B fs Q) env H
/-- A region whose order is open. -/
structure Drawn (P : Program) (T : Ctx) (nt B : Nat) (keep : List Nat) (ops : List Oper) (fs : List Frame) (Q : Post) (env : Env) (H : Heap) : Prop where
  go : WDraw B P T nt ops env H fun env H => stackQ P T nt B fs Q .normal (trimmed keep env) H
/-- Behind this: what comes next. -/
def popK (P : Program) (T : Ctx) (nt B : Nat) (keep : List Nat) : List Frame → Post → Ex → Env → Heap → Prop
  | [], Q, e, env, H => Q e env H
  | f :: fs, Q, e, env, H => match f with
    | .seq c => (match e with
      | .normal => Run P T nt B keep c fs Q env H
      | e => popK P T nt B keep fs Q e env H)
    | .block id => (match e with
      | .exit i => (match Nat.beq i id with | true => popK P T nt B keep fs Q .normal env H | false => popK P T nt B keep fs Q (.exit i) env H)
      | e => popK P T nt B keep fs Q e env H)
    | .loop R => (match e with
      | .normal => R env H
      | e => popK P T nt B keep fs Q e env H)
theorem popK_ok : ∀ {fs : List Frame} {Q : Post} {e : Ex} {env : Env} {H : Heap}, popK P T nt B keep fs Q e env H → stackQ P T nt B fs Q e env H := by
  intro fs
  induction fs with
  | nil => exact fun h => h
  | cons f fs ih =>
    intro Q e env H h
    cases f with
    | seq c =>
      cases e with
      | normal => exact (show Run P T nt B keep c fs Q env H from h).go
      | exit i => exact ih h
      | ret => exact ih h
    | block id =>
      cases e with
      | normal => exact ih h
      | exit i =>
        simp only [popK] at h
        simp only [stackQ]
        cases hb : Nat.beq i id with
        | true => rw [hb] at h; exact ih h
        | false => rw [hb] at h; exact ih h
      | ret => exact ih h
    | loop R =>
      cases e with
      | normal => exact h
      | exit i => exact ih h
      | ret => exact ih h
/-- The next piece of code. -/
def headK (P : Program) (T : Ctx) (nt B : Nat) (keep : List Nat) : Code → List Frame → Post → Env → Heap → Prop
  | .skip, fs, Q, env, H => popK P T nt B keep fs Q .normal env H
  | .seq a b, fs, Q, env, H => headK P T nt B keep a (.seq b :: fs) Q env H
  | .cond c x y, fs, Q, env, H => boolK (ev env c) (Run P T nt B keep x fs Q (tellK c .tt env) H) (Run P T nt B keep y fs Q (tellK c .ff env) H)
  | .block id c, fs, Q, env, H => headK P T nt B keep c (.block id :: fs) Q env H
  | .exit id, fs, Q, env, H => popK P T nt B keep fs Q (.exit id) env H
  | .ret, fs, Q, env, H => popK P T nt B keep fs Q .ret env H
  | .region _ ops draw, fs, Q, env, H => (match draw with
    | false => opsK P T nt ops.toList ops.toList env H fun env H => trim keep env fun env => popK P T nt B keep fs Q .normal env H
    | true => Drawn P T nt B keep ops.toList fs Q env H)
  | .loop c, fs, Q, env, H => Loops P T nt B keep c fs Q env H
  | _, _, _, _, _ => False
theorem headK_ok (hT : treeOk P T = true) : ∀ (c : Code) {fs : List Frame} {Q : Post} {env : Env} {H : Heap}, headK P T nt B keep c fs Q env H → SemW P T nt B c (stackQ P T nt B fs Q) env H := by
  intro c
  induction c with
  | skip => intro fs Q env H h w ρ a hS; exact wp_skip ⟨.normal, env, H, ρ, trivial, rfl, hS, .refl, popK_ok h⟩
  | region id ops draw =>
    intro fs Q env H h w ρ a hS
    cases draw with
    | false =>
      simp only [headK] at h
      apply wp_region_list
      have := opsK_ok (Q := Fin B T nt (stackQ P T nt B fs Q) w H ρ a.defers) hT h hS (fun a' w' env' H' ρ' e1 e2 e3 e4 => by
        rw [trim_eq] at e4
        exact ⟨.normal, _, H', ρ', trivial, e1, e2.trim keep, e3, popK_ok e4⟩)
      simpa using this
    | true =>
      have h' : Drawn P T nt B keep ops.toList fs Q env H := h
      apply wp_region_draw
      intro t
      have := h'.go.go w ρ a t (Fin B T nt (stackQ P T nt B fs Q) w H ρ a.defers) hS (fun a' w' env' H' ρ' e1 e2 e3 e4 => ⟨.normal, _, H', ρ', trivial, e1, e2.trim keep, e3, e4⟩)
      simpa using this
  | seq x y ihx ihy =>
    intro fs Q env H h w ρ a hS
    apply wp_seq
    refine wp_mono (ihx (show headK P T nt B keep x (.seq y :: fs) Q env H from h) w ρ a hS) ?_
    rintro e a' w' ⟨ex, env', H', ρ', h1, h2, h3, h4, h5⟩
    rcases h1.cases with ⟨rfl, rfl⟩ | ⟨i, rfl, rfl⟩ | ⟨rfl, rfl⟩
    · have h5' : SemW P T nt B y (stackQ P T nt B fs Q) env' H' := h5
      refine wp_mono (h5' w' ρ' a' h3) ?_
      intro e a'' w'' hf
      rw [h2] at hf
      exact hf.back h4
    · exact ⟨.exit i, env', H', ρ', h1, h2, h3, h4, h5⟩
    · exact ⟨.ret, env', H', ρ', h1, h2, h3, h4, h5⟩
  | cond c x y ihx ihy =>
    intro fs Q env H h w ρ a hS
    simp only [headK] at h
    obtain ⟨b, hb, hk⟩ := boolK_ok h (ev_rep hS c)
    apply wp_cond hb
    have tell : ∀ (u : AV), RepV T w H ρ u (.bool b) → St T w H ρ (tellK c u env) a nt := by
      intro u hu
      cases c <;> first | exact hS | exact hS.slotAt (by have e : a.tmps.getD _ Go.undef = .bool b := hb; rw [e]; exact hu)
    cases b with
    | true => exact (show Run P T nt B keep x fs Q (tellK c .tt env) H by simpa using hk).go w ρ a (tell _ .tt)
    | false => exact (show Run P T nt B keep y fs Q (tellK c .ff env) H by simpa using hk).go w ρ a (tell _ .ff)
  | block id c ih =>
    intro fs Q env H h w ρ a hS
    apply wp_block
    refine wp_mono (ih (show headK P T nt B keep c (.block id :: fs) Q env H from h) w ρ a hS) ?_
    rintro e a' w' ⟨ex, env', H', ρ', h1, h2, h3, h4, h5⟩
    rcases h1.cases with ⟨rfl, rfl⟩ | ⟨i, rfl, rfl⟩ | ⟨rfl, rfl⟩
    · exact ⟨.normal, env', H', ρ', h1, h2, h3, h4, h5⟩
    · simp only [stackQ] at h5
      exact W_block h2 h3 h4 h5
    · exact ⟨.ret, env', H', ρ', h1, h2, h3, h4, h5⟩
  | loop c ih => intro fs Q env H h; exact (show Loops P T nt B keep c fs Q env H from h).go
  | exit id => intro fs Q env H h w ρ a hS; exact wp_exit ⟨.exit id, env, H, ρ, rfl, rfl, hS, .refl, popK_ok h⟩
  | ret => intro fs Q env H h w ρ a hS; exact wp_ret ⟨.ret, env, H, ρ, trivial, rfl, hS, .refl, popK_ok h⟩
  | _ => intro fs Q env H h w ρ a hS; exact h.elim
theorem Run.run {c : Code} {fs : List Frame} {Q : Post} {env : Env} {H : Heap} (hT : treeOk P T = true) (h : headK P T nt B keep c fs Q env H) : Run P T nt B keep c fs Q env H := ⟨headK_ok hT c h⟩
theorem Drawn.of (m : Nat) {ops : List Oper} {fs : List Frame} {Q : Post} {env : Env} {H : Heap} (hm : P.follows .mixedOrders = true) (hT : treeOk P T = true) (hB : drawB m nt ops = true)
    (h : dopsK P T nt ops (ops.take m) env H fun env => opsK P T nt ops (ops.drop m) env H fun env H => trim keep env fun env => popK P T nt B keep fs Q .normal env H) : Drawn P T nt B keep ops fs Q env H := by
  constructor
  obtain ⟨go⟩ := WDraw.of (B := B) m hm hT hB h
  refine ⟨fun w ρ a t Q' hS hQ => go w ρ a t Q' hS fun a' w' env' H' ρ' e1 e2 e3 e4 => hQ a' w' env' H' ρ' e1 e2 e3 ?_⟩
  rw [trim_eq] at e4
  exact popK_ok e4
/-- A loop: its states 'e', 'h' over data of which 'good' holds, 'm' going down. -/
theorem Loops.of {α : Type} (e : α → Env) (h : α → Heap) (good : α → Prop) (m : α → Nat) (x0 : α) {c : Code} {fs : List Frame} {Q : Post} {env : Env} {H : Heap} (g0 : good x0) (wk0 : Weak B T env H (e x0) (h x0))
    (hround : ∀ x, good x → Run P T nt B keep c (.loop (fun env' H' => ∃ y, good y ∧ m y < m x ∧ Weak B T env' H' (e y) (h y)) :: fs) Q (e x) (h x)) : Loops P T nt B keep c fs Q env H := by
  constructor
  intro w ρ a hS
  obtain ⟨ρ0, hS0, hst0⟩ := wk0 w ρ a nt hS
  intro b k cs
  have key : ∀ (N : Nat) (x : α) (a' : Act) (w' : World) (ρ' : Places), m x = N → good x → a'.defers = a.defers → St T w' (h x) ρ' (e x) a' nt → Step B w H ρ w' (h x) ρ' →
      ∃ ex a'' w'', Fin B T nt (stackQ P T nt B fs Q) w H ρ a.defers ex a'' w'' ∧ Arrives P (lone (b.at a' (.code c :: .inLoop c :: k)) cs w') b k cs ex a'' w'' := by
    intro N
    induction N using Nat.strongRecOn with
    | _ N ihN =>
      intro x a' w' ρ' hm hg hd hS' hst
      obtain ⟨ex, a1, w1, ⟨ex', env1, H1, ρ1, k1, k2, k3, k4, k5⟩, harr⟩ := (hround x hg).go w' ρ' a' hS' b (.inLoop c :: k) cs
      rcases k1.cases with ⟨rfl, rfl⟩ | ⟨i, rfl, rfl⟩ | ⟨rfl, rfl⟩
      · obtain ⟨y, hy, hlt, hwk⟩ := k5
        obtain ⟨ρ2, hS2, hst2⟩ := hwk w1 ρ1 a1 nt k3
        obtain ⟨ex2, a2, w2, hq2, harr2⟩ := ihN (m y) (hm ▸ hlt) y a1 w1 ρ2 rfl hy (k2.trans hd) hS2 ((hst.trans k4).trans hst2)
        exact ⟨ex2, a2, w2, hq2, .of_steps (Steps.trans harr (.one step_inLoop)) harr2⟩
      · exact ⟨.exit i, a1, w1, ⟨.exit i, env1, H1, ρ1, rfl, k2.trans hd, k3, hst.trans k4, k5⟩, .pass (x := .inLoop c) rfl (fun _ _ => .inl (by simp)) harr⟩
      · exact ⟨.ret, a1, w1, ⟨.ret, env1, H1, ρ1, trivial, k2.trans hd, k3, hst.trans k4, k5⟩, .pass (x := .inLoop c) rfl (fun _ _ => .inl (by simp)) harr⟩
  obtain ⟨ex, a', w', hq, harr⟩ := key (m x0) x0 a w ρ0 rfl g0 rfl hS0 hst0
  exact ⟨ex, a', w', hq, .of_steps (.one step_loop) harr⟩
/-- At a function's end. -/
def endQ (T : Ctx) (rs : List ResultVar) (H0 : Heap) (K : AV → List Nat → Heap → Prop) : Post := fun ex env H => match ex with
  | .exit _ => False
  | _ => resK T rs env H fun r => K r (arrTok 0 H0) H
variable {w w' w1 w2 : World} {H H' H1 H2 : Heap} {ρ ρ' ρ1 ρ2 : Places} {u u2 : AV} {v v2 : Value} {env : Env} {a : Act} {n : Nat}
theorem VCall.of_run {f : FuncId} {fn : Func} {c : Code} {nt : Nat} {keep : List Nat} {args : List AV} {K : AV → List Nat → Heap → Prop} (hT : treeOk P T = true) (hf : P.funcs[f]? = some fn) (hn : (fn.name == "runtime.NumGoroutine") = false) (hb : fn.body = some c) (hnt : fn.ntmps = nt)
    (hl : Nat.ble args.length nt = true)
    (h : Run P T nt H.length keep c [] (endQ T fn.results.toList H K) (argEnv 0 args) H) : VCall P T f args H K := by
  constructor
  intro w ρ vs hH hv
  have hlen : args.length ≤ nt := Nat.le_of_ble_eq_true hl
  have hvl := hv.length
  unfold ExecF
  have hrun : (callFunc f vs.toArray).run P w = .ok (.enter f vs.toArray) w := by
    have hn' : ¬ fn.name = "runtime.NumGoroutine" := by simpa using hn
    simp [callFunc, hf, hn', hb]
  rw [hrun]
  simp only
  refine calls_of_wp hf hb ?_
  have hS : St T w H ρ (argEnv 0 args) { tmps := vs.toArray ++ Array.replicate (fn.ntmps - vs.toArray.size) Go.undef, defers := [] } nt := by
    refine ⟨fun s => ?_, by simp; omega, hH⟩
    rw [get_argEnv]
    simp only [Nat.not_lt_zero, if_false, Nat.sub_zero]
    cases hs : args[s]? with
    | none => trivial
    | some u =>
      obtain ⟨val, h1, h2⟩ := hv.at s u hs
      have hlt := (List.getElem?_eq_some_iff.1 h1).1
      have : (vs.toArray ++ Array.replicate (fn.ntmps - vs.toArray.size) Go.undef).getD s Go.undef = val := by
        simp only [Array.getD_eq_getD_getElem?]
        rw [Array.getElem?_append_left (by simpa using hlt)]
        simp [h1]
      simp only [Option.getD_some]
      rw [this]
      exact h2
  refine wp_mono (h.go w ρ _ hS) ?_
  rintro e a' w' ⟨ex, env', H', ρ', h1, h2, h3, h4, h5⟩
  have fin : (a'.defers = [] ∧ resK T fn.results.toList env' H' fun r => K r (arrTok 0 H) H') → a'.defers = [] ∧ ∃ v, (results fn a'.tmps).run P w' = .ok v w' ∧ ∃ v₁, Ending.returned v = Ending.returned v₁ ∧ ∃ r mv H' ρ', HeapR T w' H' ρ' ∧ RepV T w' H' ρ' r v₁ ∧ Ext (fun k => k ∈ mv) No w H ρ w' H' ρ' ∧ K r mv H' := by
    rintro ⟨hd, hr⟩
    obtain ⟨val, u, r1, r2, r3⟩ := resK_ok hT h3 hr
    refine ⟨hd, val, r1, val, rfl, u, _, H', ρ', h3.heap, r2, ⟨h4.keeps, h4.own, h4.F, fun k hk t m hm => ?_, fun k _ m hm => ?_⟩, r3⟩
    · exact absurd (by simpa using arrTok_mem H 0 k t m hm) hk
    · refine h4.box k ?_ m hm
      by_cases hk : k < H.length
      · exact hk
      · rw [hget_out _ _ (by omega)] at hm; simp [Obj.isBox] at hm
  rcases h1.cases with ⟨rfl, rfl⟩ | ⟨i, rfl, rfl⟩ | ⟨rfl, rfl⟩
  · exact fin ⟨h2, by simpa only [stackQ, endQ] using h5⟩
  · exact (show False by simp only [stackQ, endQ] at h5).elim
  · exact fin ⟨h2, by simpa only [stackQ, endQ] using h5⟩
end
end Go.V


set_option linter.unusedVariables false
set_option linter.unusedSimpArgs false
namespace Go.V
section
variable {P : Program} {T : Ctx} {w w' : World} {H H' : Heap} {ρ ρ' : Places} {u u0 : AV} {v : Value} {env : Env} {a : Act} {n : Nat} {K : AV → Env → Heap → Prop}
/-! ### Operations, each by a law of its own -/
theorem ExtOp.val {op : Op} (u : AV) (h : ∀ (w : World) (ρ : Places) (a : Act) (n : Nat) (o : Oper), o.op = op → St T w H ρ env a n → ∃ v, (execOp a.eval o).run P w = .ok (.value v) w ∧ RepV T w H ρ u v) (hk : K u env H) : ExtOp P T op env H K := by
  constructor
  intro B w ρ a n o ho hS
  obtain ⟨v, h1, h2⟩ := h w ρ a n o ho hS
  exact exec_val h1 ⟨u, env, H, ρ, hS, .refl, h2, hk, fun _ _ => Ext.refl⟩
theorem ExtOp.mkmap {t : TypeId} (hk : K (.mapr (List.length H)) env (H ++ [.map []])) : ExtOp P T (.makeMap t none) env H K := by
  constructor
  intro B w ρ a n o ho hS
  have hrun : (execOp a.eval o).run P w = .ok (.value (.map (some w.heap.size))) (w.alloc (.map #[] 0)) := by
    simp only [execOp, ho, Option.map_none, Instr.makeMap, Sem.run_bind, Sem.run_pure]
    rfl
  obtain ⟨h1, h2⟩ := hS.heap.push (o := .map []) (x := some (w.heap.size, 0, 1)) (keeps_alloc _ w (.map #[] 0)) (by
    rintro b p c ⟨⟩
    rw [alloc_size]
    omega) (fun e => ⟨w.heap.size, #[], 0, by simp [push], by rw [alloc_heap, if_pos rfl], .nil⟩)
  refine exec_val hrun ⟨_, env, _, _, hS.ext h2 (fun _ => .none) h1, h2.step, ?_, hk, fun _ e => absurd e (by simp)⟩
  exact ⟨w.heap.size, 1, 0, by simp [push], by rw [hget_push, if_pos rfl]; rfl, rfl⟩
/-- A map of integers. -/
def encI (l : List (Int × AV)) : List (AV × AV) := l.map fun y => (.int .i64 y.1, y.2)
def findI (m : Int) : List (Int × AV) → Option AV
  | [] => none
  | y :: r => if y.1 = m then some y.2 else findI m r
theorem findNow_int {O : Nat → Prop} {m : Int} : ∀ {l : List (Int × AV)} {es : List MapEntry} {i : Nat}, All2 (RepM T w O) (encI l) es →
    (findI m l = none ∧ Instr.findNow (.int .i64) (.int .i64 m) es i = some none) ∨ (∃ u v j, findI m l = some u ∧ RepE T w O u v ∧ Instr.findNow (.int .i64) (.int .i64 m) es i = some (some (j, v)))
  | [], _, i, .nil => .inl ⟨rfl, rfl⟩
  | y :: l, e :: es, i, .cons h hs => by
    obtain ⟨h1, h2⟩ := h
    have hk : e.key = .int .i64 y.1 := by
      have : RepF T w O (.int .i64 y.1) e.key := h1
      generalize e.key = kk at this
      cases this
      rfl
    by_cases hy : y.1 = m
    · right
      exact ⟨y.2, e.val, i, by simp [findI, hy], h2, by simp [Instr.findNow, Instr.sameNow, hk, hy]⟩
    · have hne : ¬ m = y.1 := fun h => hy h.symm
      have hbq : (m == y.1) = false := by simp [hne]
      rcases findNow_int (m := m) (l := l) (es := es) (i := i + 1) hs with ⟨g1, g2⟩ | ⟨u, v, j, g1, g2, g3⟩
      · left
        exact ⟨by simp [findI, hy, g1], by simp [Instr.findNow, Instr.sameNow, hk, hbq, g2]⟩
      · right
        exact ⟨u, v, j, by simp [findI, hy, g1], g2, by simp [Instr.findNow, Instr.sameNow, hk, hbq, g3]⟩
theorem RepE.repA (h : RepE T w (Owned H ρ) u v) : RepA T w H ρ u v := by
  cases u <;> simp only [RepE] at h <;> first
    | exact RepA.of1 (RepF.rep1 h)
    | (obtain ⟨vs, h1, h2⟩ := h; exact ⟨vs, h1, h2.mono fun _ _ h => RepF.rep1 h⟩)
theorem rep_mapr {k : Nat} (h : RepV T w H ρ (.mapr k) v) : ∃ b c n, ρ k = some (b, 0, c) ∧ (hget H k).isBox = some n ∧ v = .map (some b) := h
theorem ExtOp.lookI {t kt et : TypeId} {x i : Operand} {k : Nat} {l : List (Int × AV)} {m : Int} {j : TypeInfo} {zc : Array Value} {zs : List AV} (ht : P.underlying t = some (.map kt et)) (hkt : P.underlying kt = some (.int .i64))
    (hz : P.info? et = some j) (hzc : j.zero = some (.agg zc)) (hzs : zeqs zs zc.toList = true)
    (hx : ev env x = .mapr k) (hi : ev env i = .int .i64 m) (hH : hget H k = .map (encI l))
    (hk : K (match findI m l with | some u => .tup [u, .tt] | none => .tup [.agg zs, .ff]) env H) : ExtOp P T (.lookup t x i true) env H K := by
  refine .val _ ?_ hk
  intro w ρ a n o ho hS
  have hrx := ev_rep hS x
  rw [hx] at hrx
  have hri := rep_int (by have := ev_rep hS i; rwa [hi] at this)
  obtain ⟨b, c, n', h1, _, h3⟩ := rep_mapr hrx
  have hobj := hS.heap.obj k
  rw [hH] at hobj
  obtain ⟨b', ms, ck, e1, e2, e3⟩ := hobj
  rw [h1] at e1
  cases e1
  have hzero : (zeroValue et).run P w = .ok (.agg zc) w := by simp [zeroValue, typeInfo, hz, hzc]
  have hchk : (Instr.checkKey ms.isEmpty 10000 kt (.int .i64 m)).run P w = .ok () w := by
    show (Instr.checkKey ms.isEmpty (9999 + 1) kt (.int .i64 m)).run P w = .ok () w
    unfold Instr.checkKey
    simp [run_underlying hkt]
  rcases findNow_int (m := m) (i := 0) e3 with ⟨g1, g2⟩ | ⟨u, val, q, g1, g2, g3⟩
  · refine ⟨.tuple #[.agg zc, .bool false], ?_, ?_⟩
    · simp [execOp, ho, h3, hri, Instr.lookup, run_underlying ht, MapKept.run_getObj_map e2, hchk, Instr.findKey, run_underlying hkt, g2, hzero]
    · rw [g1]
      exact ⟨_, rfl, .cons ⟨zc, rfl, (zeqs_rep hzs).mono fun _ _ h => RepF.rep1 h⟩ (.cons RepF.ff .nil)⟩
  · refine ⟨.tuple #[val, .bool true], ?_, ?_⟩
    · simp [execOp, ho, h3, hri, Instr.lookup, run_underlying ht, MapKept.run_getObj_map e2, hchk, Instr.findKey, run_underlying hkt, g3]
    · rw [g1]
      exact ⟨_, rfl, .cons g2.repA (.cons RepF.tt .nil)⟩
/-- May it be an element of a map? -/
def entOk : AV → Bool
  | .agg cs => cs.all AV.closed
  | u => u.closed
theorem entOk_rep (h : entOk u = true) (hr : RepV T w H ρ u v) : RepE T w (Owned H ρ) u v := by
  cases u <;> first
    | exact closed_repF hr h
    | (simp [entOk, AV.closed] at h; done)
    | skip
  obtain ⟨vs, h1, h2⟩ := hr
  refine ⟨vs, h1, ?_⟩
  have h' := List.all_eq_true.1 h
  clear h1 h
  revert h'
  generalize vs.toList = l at h2
  intro h'
  induction h2 with
  | nil => exact .nil
  | cons g _ ih => exact .cons (closed_repF g (h' _ (by simp))) (ih fun x hx => h' x (by simp [hx]))
theorem ExtOp.putI {t kt et : TypeId} {x i y : Operand} {k : Nat} {l : List (Int × AV)} {m : Int} {u : AV} (ht : P.underlying t = some (.map kt et)) (hkt : P.underlying kt = some (.int .i64))
    (hx : ev env x = .mapr k) (hi : ev env i = .int .i64 m) (hy : ev env y = u) (hu : entOk u = true) (hH : hget H k = .map (encI l)) (hf : findI m l = none)
    (hk : K .undef env (hset H k (.map (encI (l ++ [(m, u)]))))) : ExtOp P T (.mapUpdate t x i y) env H K := by
  constructor
  intro B w ρ a n o ho hS
  have hrx := ev_rep hS x
  rw [hx] at hrx
  have hri := rep_int (by have := ev_rep hS i; rwa [hi] at this)
  have hry := ev_rep hS y
  rw [hy] at hry
  obtain ⟨b, c, n', h1, h2, h3⟩ := rep_mapr hrx
  have hobj := hS.heap.obj k
  rw [hH] at hobj
  obtain ⟨b', ms, ck, e1, e2, e3⟩ := hobj
  have e1' := e1
  rw [h1] at e1
  cases e1
  have hlive : (hget H k).live := by rw [hH]; trivial
  have hchk : (Instr.checkKey false 10000 kt (.int .i64 m)).run P w = .ok () w := by
    show (Instr.checkKey false (9999 + 1) kt (.int .i64 m)).run P w = .ok () w
    unfold Instr.checkKey
    simp [run_underlying hkt]
  have hnone : Instr.findNow (.int .i64) (.int .i64 m) ms.toList 0 = some none := by
    rcases findNow_int (m := m) (i := 0) e3 with ⟨g1, g2⟩ | ⟨u, val, q, g1, g2, g3⟩
    · exact g2
    · rw [hf] at g1; cases g1
  let o' : Go.Obj := .map (ms.push { key := .int .i64 m, val := a.eval y, born := ck }) (ck + 1)
  let w' : World := { w with heap := w.heap.setIfInBounds b o' }
  have hblt : b < w.heap.size := hS.heap.lt k b 0 _ hlive h1
  have hrun : (execOp a.eval o).run P w = .ok .skip w' := by
    simp [execOp, ho, h3, hri, Instr.mapUpdate, run_underlying ht, MapKept.run_getObj_map e2, hchk, Instr.findKey, run_underlying hkt, hnone, MapKept.run_setObj_map _ e2, w', o']
  have hkeep : Keeps (fun b' => ∃ p c, ρ k = some (b', p, c)) w w' := by
    refine ⟨rfl, rfl, rfl, by simp [w'], fun b' hb' hn => ?_⟩
    have hne : ¬ b = b' := by rintro rfl; exact hn ⟨_, _, h1⟩
    simp [w', Array.getElem?_setIfInBounds, hne]
  have hu' := hS.heap.upd (k := k) (o' := .map (encI (l ++ [(m, u)]))) (x := ρ k) (M := No) (w' := w') hlive hkeep (by
      intro b' p c hb'
      exact ⟨by have := hS.heap.lt k b' p c hlive hb'; simpa [w'] using this, .inl ⟨p, c, hb'⟩⟩) (by
      intro n hn
      rw [hH] at hn
      exact ⟨rfl, hn⟩) (by
      intro _ t n hn
      rw [hH] at hn
      simp [Obj.len, Obj.elems] at hn) (by
      intro j _
      cases hget H j <;> simp only [AvO] <;> intros <;> exact Av.none) (by
      intro e
      refine ⟨b, ms.push { key := .int .i64 m, val := a.eval y, born := ck }, ck + 1, by rw [upd_same]; exact e1', by simp [w', o', hblt], ?_⟩
      rw [Array.toList_push, show encI (l ++ [(m, u)]) = encI l ++ encI [(m, u)] by simp [encI]]
      rw [show encI (l ++ [(m, u)]) = encI l ++ encI [(m, u)] by simp [encI]] at e
      refine .append (e3.mono fun _ _ h => h.ext e) (.cons ⟨?_, (entOk_rep hu hry).ext e⟩ .nil)
      exact RepF.int _ _)
  rw [upd_self] at hu'
  exact exec_skip hrun ⟨.undef, env, _, ρ, hS.ext hu'.2 (fun _ => .none) hu'.1, hu'.2.step, trivial, hk, fun _ e => by rw [e]; rw [e] at hu'; exact hu'.2⟩
end
end Go.V


set_option linter.unusedVariables false
set_option linter.unusedSimpArgs false
namespace Go.V
section
variable {P : Program} {T : Ctx} {w w' : World} {H H' : Heap} {ρ ρ' : Places} {u u0 : AV} {v : Value} {env : Env} {a : Act} {n : Nat} {K : AV → Env → Heap → Prop}
/-! ### Pointers -/
theorem ext_any {M : Nat → Prop} (e : Ext No No w H ρ w' H' ρ') : Ext M No w H ρ w' H' ρ' := ⟨e.keeps, e.own, e.F, fun k _ => e.arr k id, e.box⟩
theorem box_cell {k o : Nat} {t : TypeId} {cs : List AV} (hH : HeapR T w H ρ) (hk : hget H k = .box t cs) (h : RepV T w H ρ (.box k o) v) : ∃ b, v = .pointer (some ⟨b, o, none⟩) ∧ ρ k = some (b, 0, 1) ∧ w.shape? b = some (t, cs.length) ∧ ∃ vs, w.heap[b]? = some (.cells vs t (0, 0)) ∧ All2 (Rep1 T w H ρ) cs vs.toList := by
  obtain ⟨b, c, n, h1, h2, rfl⟩ := h
  have hobj := hH.obj k
  rw [hk] at hobj
  obtain ⟨b', vs, e1, e2, e3⟩ := hobj
  rw [h1] at e1
  cases e1
  refine ⟨b, rfl, h1, ?_, vs, e2, e3⟩
  have := e3.length
  simp only [World.shape?, e2]
  simp [this]
theorem ExtOp.toU {s d t0 : TypeId} {x : Operand} {k o : Nat} {t : TypeId} {cs : List AV} {j : TypeInfo} (hs : P.underlying s = some (.pointer t0)) (hd : P.underlying d = some .unsafePointer) (hj : P.info? t0 = some j) (hz : j.size ≠ 0)
    (hx : ev env x = .box k o) (hk : hget H k = .box t cs) (ho : o < cs.length) (hK : K (.box k o) env H) : ExtOp P T (.convert s d x) env H K := by
  refine .val _ ?_ hK
  intro w ρ a n op hop hS
  have hr := ev_rep hS x
  rw [hx] at hr
  obtain ⟨b, h1, h2, h3, _⟩ := box_cell hS.heap hk hr
  refine ⟨a.eval x, ?_, hr⟩
  rw [h1]
  simp only [execOp, hop, h1, Sem.run_bind, Lib.run_to_unsafe w ⟨b, o, none⟩ hs hd hj hz h3 ho, Result.andThen_ok, Sem.run_pure]
theorem ExtOp.fromU {s d t0 : TypeId} {x : Operand} {k o : Nat} {t : TypeId} {cs : List AV} {j : TypeInfo} (hs : P.underlying s = some .unsafePointer) (hd : P.underlying d = some (.pointer t0)) (hj : P.info? t0 = some j)
    (hx : ev env x = .box k o) (hk : hget H k = .box t cs) (hl : liesAt P P.depth t (cs.length / P.cellsOf t) o t0 1 = true) (hK : K (.box k o) env H) : ExtOp P T (.convert s d x) env H K := by
  refine .val _ ?_ hK
  intro w ρ a n op hop hS
  have hr := ev_rep hS x
  rw [hx] at hr
  obtain ⟨b, h1, h2, h3, _⟩ := box_cell hS.heap hk hr
  refine ⟨a.eval x, ?_, hr⟩
  rw [h1]
  simp only [execOp, hop, h1, Sem.run_bind, Lib.run_from_unsafe w ⟨b, o, none⟩ hs hd hj h3 hl, Result.andThen_ok, Sem.run_pure]
theorem ExtOp.neqSame {t t0 yt : TypeId} {x y : Operand} {k o : Nat} {j : TypeInfo} (hs : P.underlying t = some (.pointer t0)) (hj : P.info? t0 = some j)
    (hx : ev env x = .box k o) (hy : ev env y = .box k o) (hK : K .ff env H) : ExtOp P T (.binOp .neq t x y yt) env H K := by
  refine .val _ ?_ hK
  intro w ρ a n op hop hS
  have hr := ev_rep hS x
  rw [hx] at hr
  have hr2 := ev_rep hS y
  rw [hy] at hr2
  obtain ⟨b, c, m, h1, h2, h3⟩ := hr
  obtain ⟨b', c', m', h4, h5, h6⟩ := hr2
  rw [h1] at h4
  cases h4
  refine ⟨.bool false, ?_, RepF.ff⟩
  simp only [execOp, hop, h3, h6, eqGuard_at_pointer, Sem.run_bind, Sem.run_pure, Result.andThen_ok, Lib.run_neq_ptr_same w ⟨b, o, none⟩ hs hj]
/-- A function that hands back its argument. -/
theorem VCall.same {f : FuncId} {fn : Func} {K : AV → List Nat → Heap → Prop} (hf : P.funcs[f]? = some fn) (hname : (fn.name == "runtime.NumGoroutine") = false) (hb : fn.body.isNone = true) (hn : Extern.findNext fn = none) (he : Extern.find fn = some Extern.AbiNoEscape.same) (hk : K u [] H) : VCall P T f [u] H K := by
  constructor
  intro w ρ vs hH hv
  cases hv with
  | cons h hs =>
    cases hs
    unfold ExecF
    have hrun : ∀ v, (callFunc f #[v]).run P w = .ok (.value v) w := fun v => by
      rw [run_callFunc_extern hf hname hb hn he]
      rfl
    rename_i v
    have : (callFunc f [v].toArray).run P w = .ok (.value v) w := hrun v
    rw [this]
    exact ⟨u, [], H, ρ, hH, h, ext_any (Ext.refl (w := w)), hk⟩
/-! ### A cell of a variable, written -/
theorem all2_set {α β : Type _} {R : α → β → Prop} {x : α} {y : β} : ∀ {l : List α} {m : List β}, All2 R l m → R x y → ∀ o, All2 R (l.set o x) (m.set o y)
  | _, _, .nil, _, _ => .nil
  | _, _, .cons _ gs, h, 0 => .cons h gs
  | _, _, .cons g gs, h, o + 1 => .cons g (all2_set gs h o)
theorem box_set {k o b : Nat} {t : TypeId} {cs : List AV} {vs : Array Value} (hH : HeapR T w H ρ) (hk : hget H k = .box t cs) (hρ : ρ k = some (b, 0, 1)) (hb : w.heap[b]? = some (.cells vs t (0, 0))) (hc : All2 (Rep1 T w H ρ) cs vs.toList) (hr : Rep1 T w H ρ u v) :
    HeapR T (w.setCell ⟨b, o, none⟩ v) (hset H k (.box t (cs.set o u))) ρ ∧ Ext No No w H ρ (w.setCell ⟨b, o, none⟩ v) (hset H k (.box t (cs.set o u))) ρ := by
  have e1 := setCell_eq_setRow w b o vs t (0, 0) v hb
  rw [e1]
  have hlive : (hget H k).live := by rw [hk]; trivial
  have hu := hH.upd (k := k) (o' := .box t (cs.set o u)) (x := ρ k) (M := No) (w' := w.setRow b (vs.setIfInBounds o v)) hlive (by
      refine ⟨rfl, rfl, rfl, by rw [setRow_size]; omega, fun b' hb' hn => setRow_other w b b' _ ?_⟩
      rintro rfl
      exact hn ⟨_, _, hρ⟩) (by
      intro b' p c hb'
      rw [setRow_size]
      exact ⟨hH.lt k b' p c hlive hb', .inl ⟨p, c, hb'⟩⟩) (by
      intro n hn
      rw [hk] at hn
      exact ⟨rfl, by simpa [Obj.isBox] using hn⟩) (by
      intro _ t' n hn
      rw [hk] at hn
      simp [Obj.len, Obj.elems] at hn) (by
      intro j _
      cases hget H j <;> simp only [AvO] <;> intros <;> exact Av.none) (by
      intro e
      refine ⟨b, _, by rw [upd_same]; exact hρ, setRow_heap w b vs _ t (0, 0) hb, ?_⟩
      rw [Array.toList_setIfInBounds]
      exact all2_set (Rep1.exts e (fun _ _ => Av.none) hc) (hr.ext e Av.none) o)
  rw [upd_self] at hu
  exact hu
/-! ### sync/atomic -/
theorem int_cell {k o : Nat} {kd : IntKind} {x : Int} {cs : List AV} {vs : Array Value} {b : Nat} {t : TypeId} (hb : w.heap[b]? = some (.cells vs t (0, 0))) (hc : All2 (Rep1 T w H ρ) cs vs.toList) (ho : cs[o]? = some (.int kd x)) : w.cell? ⟨b, o, none⟩ = some (.int kd x) ∧ w.frozen? ⟨b, o, none⟩ = false := by
  obtain ⟨val, h1, h2⟩ := hc.at o _ ho
  have : val = .int kd x := rep_int (RepV.of1 h2)
  subst this
  refine ⟨?_, by simp [World.frozen?, hb]⟩
  simp only [World.cell?, hb]
  simpa using h1
variable {Kc : AV → List Nat → Heap → Prop}
theorem VCall.aload {f : FuncId} {fn : Func} {kd : IntKind} {x : Int} {k o : Nat} {t : TypeId} {cs : List AV} (hf : P.funcs[f]? = some fn) (hname : (fn.name == "runtime.NumGoroutine") = false) (hb : fn.body.isNone = true) (hn : Extern.findNext fn = none) (he : Extern.find fn = some (Extern.Atomic.loadT (.int kd)))
    (hk : hget H k = .box t cs) (ho : cs[o]? = some (.int kd x)) (hK : Kc (.int kd x) [] H) : VCall P T f [.box k o] H Kc := by
  constructor
  intro w ρ vs hH hv
  cases hv with
  | cons h hs =>
    cases hs
    obtain ⟨b, rfl, h2, h3, cur, h4, h5⟩ := box_cell hH hk h
    obtain ⟨c1, c2⟩ := int_cell (k := k) h4 h5 ho
    have hrun := run_call_load hf hname hb hn kd he c1
    unfold ExecF
    rw [hrun]
    exact ⟨.int kd x, [], H, ρ, hH, RepF.int _ _, ext_any (Ext.refl (w := w)), hK⟩
theorem VCall.astore {f : FuncId} {fn : Func} {kd : IntKind} {x y : Int} {k o : Nat} {t : TypeId} {cs : List AV} (hf : P.funcs[f]? = some fn) (hname : (fn.name == "runtime.NumGoroutine") = false) (hb : fn.body.isNone = true) (hn : Extern.findNext fn = none) (he : Extern.find fn = some Extern.Atomic.storeT)
    (hk : hget H k = .box t cs) (ho : cs[o]? = some (.int kd x)) (hK : Kc (.tup []) [] (hset H k (.box t (cs.set o (.int kd y))))) : VCall P T f [.box k o, .int kd y] H Kc := by
  constructor
  intro w ρ vs hH hv
  cases hv with
  | cons h hs =>
  cases hs with
  | cons h' hs =>
    cases hs
    have := rep_int h'
    subst this
    obtain ⟨b, rfl, h2, h3, cur, h4, h5⟩ := box_cell hH hk h
    obtain ⟨c1, c2⟩ := int_cell (k := k) h4 h5 ho
    have hrun := run_call_store hf hname hb hn he (k := kd) (y := y) c1 c2
    unfold ExecF
    rw [hrun]
    obtain ⟨g1, g2⟩ := box_set (o := o) (u := .int kd y) (v := .int kd y) hH hk h2 h4 h5 (RepF.int _ _)
    exact ⟨.tup [], [], _, ρ, g1, ⟨#[], rfl, .nil⟩, ext_any g2, hK⟩
theorem VCall.aadd {f : FuncId} {fn : Func} {kd : IntKind} {x y s : Int} {k o : Nat} {t : TypeId} {cs : List AV} (hf : P.funcs[f]? = some fn) (hname : (fn.name == "runtime.NumGoroutine") = false) (hb : fn.body.isNone = true) (hn : Extern.findNext fn = none) (he : Extern.find fn = some (Extern.Atomic.update (Op.intArith .add) kd true))
    (hs : ∀ w, (Op.intArith .add kd x y).run P w = .ok (.int kd s) w)
    (hk : hget H k = .box t cs) (ho : cs[o]? = some (.int kd x)) (hK : Kc (.int kd s) [] (hset H k (.box t (cs.set o (.int kd s))))) : VCall P T f [.box k o, .int kd y] H Kc := by
  constructor
  intro w ρ vs hH hv
  cases hv with
  | cons h hs' =>
  cases hs' with
  | cons h' hs' =>
    cases hs'
    have := rep_int h'
    subst this
    obtain ⟨b, rfl, h2, h3, cur, h4, h5⟩ := box_cell hH hk h
    obtain ⟨c1, c2⟩ := int_cell (k := k) h4 h5 ho
    have hrun := run_call_add hf hname hb hn kd he c1 c2 (hs w)
    unfold ExecF
    rw [hrun]
    obtain ⟨g1, g2⟩ := box_set (o := o) (u := .int kd s) (v := .int kd s) hH hk h2 h4 h5 (RepF.int _ _)
    exact ⟨.int kd s, [], _, ρ, g1, RepF.int _ _, ext_any g2, hK⟩
theorem VCall.acas {f : FuncId} {fn : Func} {kd : IntKind} {x y : Int} {k o : Nat} {t : TypeId} {cs : List AV} (hf : P.funcs[f]? = some fn) (hname : (fn.name == "runtime.NumGoroutine") = false) (hb : fn.body.isNone = true) (hn : Extern.findNext fn = none) (he : Extern.find fn = some (Extern.Atomic.casT (.int kd)))
    (hk : hget H k = .box t cs) (ho : cs[o]? = some (.int kd x)) (hK : Kc .tt [] (hset H k (.box t (cs.set o (.int kd y))))) : VCall P T f [.box k o, .int kd x, .int kd y] H Kc := by
  constructor
  intro w ρ vs hH hv
  cases hv with
  | cons h hs =>
  cases hs with
  | cons h' hs =>
  cases hs with
  | cons h'' hs =>
    cases hs
    have := rep_int h'
    subst this
    have := rep_int h''
    subst this
    obtain ⟨b, rfl, h2, h3, cur, h4, h5⟩ := box_cell hH hk h
    obtain ⟨c1, c2⟩ := int_cell (k := k) h4 h5 ho
    have hrun := run_call_cas_hit hf hname hb hn kd he (y := y) c1 c2
    unfold ExecF
    rw [hrun]
    obtain ⟨g1, g2⟩ := box_set (o := o) (u := .int kd y) (v := .int kd y) hH hk h2 h4 h5 (RepF.int _ _)
    exact ⟨.tt, [], _, ρ, g1, RepF.tt, ext_any g2, hK⟩
theorem VCall.mark0 {f : FuncId} {fn : Func} (hf : P.funcs[f]? = some fn) (hname : (fn.name == "runtime.NumGoroutine") = false) (hb : fn.body.isNone = true) (hn : Extern.findNext fn = none) (m : Mark) (he : Extern.find fn = some (fun _ => do mark m; Pure.pure Extern.Race.none_)) (hK : Kc (.tup []) [] H) : VCall P T f [] H Kc := by
  constructor
  intro w ρ vs hH hv
  cases hv
  have hrun := run_call_mark0 hf hname hb hn m he w
  unfold ExecF
  rw [hrun]
  exact ⟨.tup [], [], _, ρ, hH, ⟨#[], rfl, .nil⟩, ext_any (Ext.refl (w := w)), hK⟩
theorem VCall.marked {f : FuncId} {fn : Func} {k o : Nat} (hf : P.funcs[f]? = some fn) (hname : (fn.name == "runtime.NumGoroutine") = false) (hb : fn.body.isNone = true) (hn : Extern.findNext fn = none) (m : Addr → Mark) (he : Extern.find fn = some (Extern.Race.marked m)) (hK : Kc (.tup []) [] H) : VCall P T f [.box k o] H Kc := by
  constructor
  intro w ρ vs hH hv
  cases hv with
  | cons h hs =>
    cases hs
    obtain ⟨b, c, m', h1, h2, rfl⟩ := h
    have hrun := run_call_marked hf hname hb hn m he ⟨b, o, none⟩ w
    unfold ExecF
    rw [hrun]
    exact ⟨.tup [], [], _, ρ, hH, ⟨#[], rfl, .nil⟩, ext_any (Ext.refl (w := w)), hK⟩
end
end Go.V


set_option linter.unusedVariables false
set_option linter.unusedSimpArgs false
namespace Go.V
section
variable {P : Program} {T : Ctx} {w w' : World} {H H' : Heap} {ρ ρ' : Places} {u u0 : AV} {v : Value} {env : Env} {a : Act} {n : Nat} {K : AV → Env → Heap → Prop}
/-! ### Bytes of a text -/
def encB (c : UInt8) : List AV := [.int .u8 c.toNat]
theorem hc_B : ∀ x, (encB x).all AV.closed = true := fun _ => rfl
theorem ExtOp.appS {t t2 e : TypeId} {te : TI} {x y : Operand} {s : List UInt8} (hu : P.underlying t = some (.slice e)) (h2 : P.underlying t2 = some .string) (hT : treeOk P T = true) (hte : T.look e = some te) (h1 : te.cells = 1) (hy : ev env y = .str s)
    (hk : appY e te (ev env x) (s.map encB) env H K) : ExtOp P T (.call ⟨.builtin .append, #[x, y], #[t, t2]⟩) env H K := by
  constructor
  intro B w ρ a n o ho hS
  have hry := ev_rep hS y
  rw [hy] at hry
  obtain ⟨h3, h4⟩ := rep_str hry
  have hl : Lib.strCells (bs s) = s.map fun b => Value.int .u8 b.toNat := rfl
  have hsz : (bs s).size = s.length := rfl
  have hsrc : SourceX P w te.cells (a.eval y) (s.map encB).length (s.map fun b => Value.int .u8 b.toNat) := by
    refine .inr ⟨by simp [h1], bs s, h3, by simp [hsz], hl.symm⟩
  have hcells : Cells T w H ρ te.cells (s.map encB) (s.map fun b => Value.int .u8 b.toNat) := by
    refine ⟨by simp [h1], ?_, ?_⟩
    · intro x hx
      obtain ⟨c, _, rfl⟩ := List.mem_map.1 hx
      rw [h1]; rfl
    · intro i x hx j u hu
      rw [List.getElem?_map, Option.map_eq_some_iff] at hx
      obtain ⟨c, hc, rfl⟩ := hx
      have hj : j = 0 := by
        have := (List.getElem?_eq_some_iff.1 hu).1
        simp [encB] at this
        exact this
      subst hj
      simp [encB] at hu
      subst hu
      exact ⟨.int .u8 c.toNat, by simp [h1, hc], RepF.int _ _⟩
  obtain ⟨val, w', H', ρ', env', u', r1, r2, r3, r4, r5⟩ := appY_ok (P := P) (B := B) (tt := o.type) hu hte (look_ty hT hte) h2 (.inl rfl) hS hsrc hcells hk (ev_rep hS x)
  refine exec_val (v := val) (w' := w') ?_ ⟨u', env', H', ρ', r2, r3, r4, r5, fun h => by cases h⟩
  simp only [execOp, ho, resolve, Sem.run_bind, Sem.run_pure, Result.andThen_ok, invoke, List.map_toArray, List.map_cons, List.map_nil]
  show Sem.run P (do pure (Next.value (← Builtin.append_ #[t, t2] o.type #[a.eval x, a.eval y]))) w = _
  simp only [Sem.run_bind, r1, Result.andThen_ok, Sem.run_pure]
theorem ExtOp.appS0 {t t2 e : TypeId} {te : TI} {x y : Operand} (hu : P.underlying t = some (.slice e)) (h2 : P.underlying t2 = some .string) (hT : treeOk P T = true) (hte : T.look e = some te) (hx : ev env x = .nils) (hy : ev env y = .str [])
    (hk : K .nils env H) : ExtOp P T (.call ⟨.builtin .append, #[x, y], #[t, t2]⟩) env H K := by
  refine .val _ ?_ hk
  intro w ρ a n o ho hS
  have hry := ev_rep hS y
  rw [hy] at hry
  have hrx := ev_rep hS x
  rw [hx] at hrx
  have h3 := rep_nils hrx
  obtain ⟨h4, _⟩ := rep_str hry
  have hsz := sizeOf_run (w := w) (look_ty hT hte)
  refine ⟨.slice none 0 0, ?_, RepF.nils⟩
  simp only [execOp, ho, resolve, Sem.run_bind, Sem.run_pure, Result.andThen_ok, invoke, List.map_toArray, List.map_cons, List.map_nil]
  show Sem.run P (do pure (Next.value (← Builtin.append_ #[t, t2] o.type #[a.eval x, a.eval y]))) w = _
  rw [h3, h4]
  simp [Builtin.append_, run_underlying hu, run_underlying h2, hsz, Builtin.lenOf, bs, ByteArray.size, Builtin.firstCells]
theorem ExtOp.sdataNil {t : TypeId} {x : Operand} (hx : ev env x = .nils) (hK : K .anyp env H) : ExtOp P T (.call ⟨.builtin .unsafeSliceData, #[x], #[t]⟩) env H K := by
  refine .val _ ?_ hK
  intro w ρ a n o ho hS
  have hr := ev_rep hS x
  rw [hx] at hr
  have h1 := rep_nils hr
  refine ⟨.pointer none, ?_, none, rfl⟩
  simp only [execOp, ho, resolve, Sem.run_bind, Sem.run_pure, Result.andThen_ok, invoke, List.map_toArray, List.map_cons, List.map_nil]
  show Sem.run P (do pure (Next.value (← Builtin.unsafeSliceData_ #[t] o.type #[a.eval x]))) w = _
  rw [h1]
  simp only [Sem.run_bind, Lib.run_unsafeSliceData_nil, Result.andThen_ok, Sem.run_pure]
theorem ExtOp.sdata {t : TypeId} {x : Operand} {k off len : Nat} {te : TI} {e : TypeId} (hx : ev env x = .own k off len) (h0 : 0 < len) (hl : (hget H k).len = some (e, off + len)) (hte : T.look e = some te) (hK : K (.elt k off 0) env H) : ExtOp P T (.call ⟨.builtin .unsafeSliceData, #[x], #[t]⟩) env H K := by
  refine .val _ ?_ hK
  intro w ρ a n o ho hS
  have hr := ev_rep hS x
  rw [hx] at hr
  obtain ⟨t', m, ti, c, h1, h2, h3, h4⟩ := hr
  rcases h4 with ⟨_, h5, _⟩ | ⟨b, p, cap, o', h5, h6, h7, h8, h9⟩
  · omega
  · refine ⟨.pointer (some ⟨b, o', none⟩), ?_, t', m, ti, b, p, cap, h1, h2, by omega, h5, ?_⟩
    · simp only [execOp, ho, resolve, Sem.run_bind, Sem.run_pure, Result.andThen_ok, invoke, List.map_toArray, List.map_cons, List.map_nil]
      show Sem.run P (do pure (Next.value (← Builtin.unsafeSliceData_ #[t] o.type #[a.eval x]))) w = _
      rw [h9]
      simp only [Sem.run_bind, Lib.run_unsafeSliceData_row (P := P) w #[t] o.type ⟨b, o', none⟩ len c (by omega), Result.andThen_ok, Sem.run_pure]
    · rw [h8 (by omega), Nat.add_zero]
theorem liesAt_bytesO {e : TypeId} (hc : P.cellsOf e = 1) (count o n : Nat) (hn : o + n ≤ count) : liesAt P P.depth e count o e n = true := by
  have hd : P.depth = (2 * (P.types.size + Made.depth) + 1) + 1 := rfl
  rw [hd]
  simp only [liesAt, Bool.or_eq_true]
  left
  rw [hd]
  simp [rowAt, hc, hn, sameLayout, Nat.mod_one]
theorem run_unsafeString_at (w : World) (pt it ty e : TypeId) (hp : P.underlying pt = some (.pointer e)) (hc : P.cellsOf e = 1) (g o cells : Nat) (hsh : w.shape? g = some (e, cells)) (l : List UInt8) (h0 : l ≠ []) (hn : o + l.length ≤ cells) (h63 : l.length ≤ 9223372036854775807)
    (hcell : ∀ j x, l[j]? = some x → w.cell? ((⟨g, o, none⟩ : Addr).add j) = some (.int .u8 x.toNat)) :
    (Builtin.unsafeString_ #[pt, it] ty #[.pointer (some ⟨g, o, none⟩), .int .i64 l.length]).run P w = .ok (.string ⟨l.toArray⟩) (w.freeze ⟨g, o, none⟩ l.length) := by
  have hl : l.length ≠ 0 := by simpa using h0
  have hlb := Lib.run_loadBytes (P := P) w l ⟨g, o, none⟩ .empty hcell
  have hlies := liesAt_bytesO (P := P) hc (cells / P.cellsOf e) o l.length (by rw [hc]; simpa using hn)
  have h63' : ¬ (9223372036854775807 : Int) < (l.length : Int) := by omega
  have hdef : Builtin.unsafeString_ #[pt, it] ty #[.pointer (some ⟨g, o, none⟩), .int .i64 l.length] =
      (do
        let n ← asInt (.int .i64 l.length)
        if n < 0 then runtimePanic (.error "unsafe.String: len out of range")
        if n > IntKind.i64.max then unsupported (.unsafePointer "String: a length above the largest int")
        if n = 0 then pure (.string .empty)
        else if ← variablesAt ⟨g, o, none⟩ (← elemOf pt) n.toNat then do
          let s ← loadBytes ⟨g, o, none⟩ .empty n.toNat
          freeze ⟨g, o, none⟩ n.toNat
          pure (.string s)
        else unsupported (.unsafePointer "String: not so many bytes at ptr")) := rfl
  rw [hdef]
  have hmax : IntKind.i64.max = 9223372036854775807 := rfl
  have hneg : ¬ (l.length : Int) < 0 := by omega
  simp [asInt, asIntOf, hmax, h63', hneg, hl, variablesAt, hsh, elemOf, run_underlying hp, hlies, hlb]
theorem ExtOp.ustr0 {pt it : TypeId} {x y : Operand} (hx : ev env x = .anyp) (hy : ev env y = .int .i64 0) (hK : K (.str []) env H) : ExtOp P T (.call ⟨.builtin .unsafeString, #[x, y], #[pt, it]⟩) env H K := by
  refine .val _ ?_ hK
  intro w ρ a n o ho hS
  have hr := ev_rep hS x
  rw [hx] at hr
  obtain ⟨p, hp⟩ := hr
  have hr2 := ev_rep hS y
  rw [hy] at hr2
  have h2 := rep_int hr2
  refine ⟨.string .empty, ?_, RepF.str [] (by simp [maxS])⟩
  simp only [execOp, ho, resolve, Sem.run_bind, Sem.run_pure, Result.andThen_ok, invoke, List.map_toArray, List.map_cons, List.map_nil]
  show Sem.run P (do pure (Next.value (← Builtin.unsafeString_ #[pt, it] o.type #[a.eval x, a.eval y]))) w = _
  rw [hp, h2]
  simp only [Sem.run_bind, Lib.run_unsafeString_none, Result.andThen_ok, Sem.run_pure]
/-- An array goes out of the heap, its block being changed as may be. -/
theorem HeapR.out {k : Nat} (hH : HeapR T w H ρ) (hl : (hget H k).live) (hb : (hget H k).isBox = none) (hk : Keeps (fun b => ∃ p c, ρ k = some (b, p, c)) w w') :
    HeapR T w' (hset (H.map (killO k)) k .dead) ρ ∧ Ext (Is k) No w H ρ w' (hset (H.map (killO k)) k .dead) ρ := by
  have e3 := hH.kill (k := k)
  have hd : ∀ j, hget (hset (H.map (killO k)) k .dead) j = if j = k then .dead else killO k (hget H j) := by
    intro j
    rw [hget_hset_dead, hget_map (killO k) rfl]
  have hlive : ∀ j, (hget (hset (H.map (killO k)) k .dead) j).live → j ≠ k ∧ (hget H j).live := by
    intro j hj
    rw [hd] at hj
    by_cases h : j = k
    · rw [if_pos h] at hj; exact hj.elim
    · rw [if_neg h, killO_live] at hj; exact ⟨h, hj⟩
  have hkt : Keeps (OwnedT H ρ) w w' := ⟨hk.os, hk.tape, hk.output, hk.size, fun b hb' hn => hk.block b hb' fun ⟨p, c, h⟩ => hn ⟨k, p, c, hl, h⟩⟩
  have hown : ∀ b, OwnedT (hset (H.map (killO k)) k .dead) ρ b → OwnedT H ρ b := by
    rintro b ⟨j, p, c, g1, g2⟩
    exact ⟨j, p, c, (hlive j g1).2, g2⟩
  have ext1 : Ext (Is k) No w H ρ w' (hset (H.map (killO k)) k .dead) ρ := by
    refine ⟨hkt, fun b hb' => .inl (hown b hb'), rfl, fun j hj t m hm => ⟨rfl, m, ?_, Nat.le_refl _⟩, fun j _ m hm => ⟨rfl, ?_⟩⟩
    · rw [hd, if_neg hj, killO_len]; exact hm
    · have hj : j ≠ k := by rintro rfl; rw [hb] at hm; cases hm
      rw [hd, if_neg hj, killO_box]; exact hm
  have ext2 : Ext (Is k) No w (H.map (killO k)) ρ w' (hset (H.map (killO k)) k .dead) ρ := by
    refine ⟨⟨hkt.os, hkt.tape, hkt.output, hkt.size, fun b hb' hn => hkt.block b hb' fun h => hn (killH_owned.2 h)⟩, fun b hb' => .inl (killH_owned.2 (hown b hb')), rfl, fun j hj t m hm => ⟨rfl, m, ?_, Nat.le_refl _⟩, fun j _ m hm => ⟨rfl, ?_⟩⟩
    · rw [hget_map (killO k) rfl, killO_len] at hm
      rw [hd, if_neg hj, killO_len]; exact hm
    · rw [hget_map (killO k) rfl, killO_box] at hm
      have hj : j ≠ k := by rintro rfl; rw [hb] at hm; cases hm
      rw [hd, if_neg hj, killO_box]; exact hm
  refine ⟨⟨fun j => ?_, fun j j' b p c p' c' g1 g2 => ?_, fun j b p c g1 g2 => ?_, fun j b p c g1 => ?_, fun b h => Nat.lt_of_lt_of_le (hH.flt b h) hk.size, hH.glob.ext ext1⟩, ext1⟩
  · by_cases hj : j = k
    · rw [hd, if_pos hj]; trivial
    · by_cases hjl : (hget H j).live
      · have h1 := e3.obj j
        rw [hget_map (killO k) rfl] at h1
        have h2 := ObjR.ext ext2 h1 rfl (fun b p c hbj => hk.block b (hH.lt j b p c hjl hbj) (by
          rintro ⟨p', c', h⟩
          exact hj (hH.inj _ _ _ _ _ _ _ hjl hl hbj h))) (killO_av _)
        rw [hd, if_neg hj]
        exact h2
      · rw [hd, if_neg hj]
        cases hh : hget H j <;> rw [hh] at hjl <;> first | trivial | exact absurd trivial hjl
  · exact hH.inj j j' b p c p' c' (hlive j g1).2 (hlive j' g2).2
  · exact Nat.lt_of_lt_of_le (hH.lt j b p c (hlive j g1).2 g2) hk.size
  · exact hH.fresh j b p c (hlive j g1).2
theorem keeps_freeze (w : World) (ad : Addr) (n : Nat) : Keeps (fun b => b = ad.block) w (w.freeze ad n) := by
  unfold World.freeze
  split
  · exact Keeps.refl _ _
  · refine ⟨rfl, rfl, rfl, by simp, fun b _ hn => ?_⟩
    have hne : ¬ ad.block = b := fun h => hn h.symm
    simp [Array.getElem?_modify, hne]
theorem ExtOp.ustr {pt it e : TypeId} {x y : Operand} {k m : Nat} {te : TI} {l : List UInt8} (hp : P.underlying pt = some (.pointer e)) (hc : P.cellsOf e = 1) (hT : treeOk P T = true) (hte : T.look e = some te) (h1 : te.cells = 1) (hx : ev env x = .elt k 0 0) (hy : ev env y = .int .i64 m) (hm : m = l.length) (h0 : l ≠ [])
    (hk : (hget H k).elems = some (e, l.map encB))
    (hK : K (.str l) (killE k env) (hset (H.map (killO k)) k .dead)) : ExtOp P T (.call ⟨.builtin .unsafeString, #[x, y], #[pt, it]⟩) env H K := by
  constructor
  intro B w ρ a n o ho hS
  have hr := ev_rep hS x
  rw [hx] at hr
  have hr2 := ev_rep hS y
  rw [hy] at hr2
  have h2 := rep_int hr2
  obtain ⟨t', m', ti, b, p, c, g1, g2, g3, g4, g5⟩ := hr
  have hlen := elems_len hk
  rw [hlen] at g1
  cases g1
  have hobj := hS.heap.obj k
  have hlive : (hget H k).live := by revert hk; cases hget H k <;> simp [Obj.elems, Obj.live]
  have hbox : (hget H k).isBox = none := by revert hk; cases hget H k <;> simp [Obj.elems, Obj.isBox]
  have hA : ArrR T w H ρ k e (l.map encB) := by
    revert hobj hk
    cases hget H k <;> simp [Obj.elems, ObjR]
    · rintro rfl h; rw [h]; exact id
    · rintro rfl rfl; exact id
  obtain ⟨ti', a1, a2, a3, a4⟩ := hA
  rw [hte] at a1 g2
  cases a1
  cases g2
  rcases a4 with ⟨a5, _⟩ | ⟨b', p', cap, vs, fr, a5, a6, aun, a7, a8, a9, a10, a11⟩
  · rw [g4] at a5; cases a5
  rw [g4] at a5
  cases a5
  rw [List.length_map] at a8 a9 a10
  rw [h1] at a7
  have hsh : w.shape? b = some (e, vs.size) := by simp [World.shape?, a6]
  have hcell : ∀ j x, l[j]? = some x → w.cell? ((⟨b, p, none⟩ : Addr).add j) = some (.int .u8 x.toNat) := by
    intro j x hj
    obtain ⟨val, e1, e2⟩ := a11 j (encB x) (by simp [hj]) 0 (.int .u8 x.toNat) rfl
    have : val = .int .u8 x.toNat := rep_int (RepV.of1 e2)
    subst this
    rw [add_none]
    simp only [World.cell?, a6]
    rw [h1, Nat.mul_one, Nat.add_zero] at e1
    simpa using e1
  have hrun := run_unsafeString_at (P := P) w pt it o.type e hp hc b p vs.size hsh l h0 (by omega) (by simp [maxB] at a10; omega) hcell
  have hkeep : Keeps (fun b' => ∃ p c, ρ k = some (b', p, c)) w (w.freeze ⟨b, p, none⟩ l.length) := by
    have := keeps_freeze w ⟨b, p, none⟩ l.length
    exact ⟨this.os, this.tape, this.output, this.size, fun b' hb' hn => this.block b' hb' (by rintro rfl; exact hn ⟨_, _, g4⟩)⟩
  obtain ⟨k1, k2⟩ := hS.heap.out hlive hbox hkeep
  refine exec_val (v := .string ⟨l.toArray⟩) (w' := w.freeze ⟨b, p, none⟩ l.length) ?_ ⟨.str l, killE k env, _, ρ, ?_, (k2.step), ?_, hK, fun _ he => ?_⟩
  · simp only [execOp, ho, resolve, Sem.run_bind, Sem.run_pure, Result.andThen_ok, invoke, List.map_toArray, List.map_cons, List.map_nil]
    show Sem.run P (do pure (Next.value (← Builtin.unsafeString_ #[pt, it] o.type #[a.eval x, a.eval y]))) w = _
    rw [g5, h2, hm]
    simp only [Nat.zero_mul, Nat.add_zero]
    simp only [Sem.run_bind, hrun, Result.andThen_ok, Sem.run_pure]
  · exact ⟨fun s => by rw [get_kill]; exact (killV_rep (hS.slot s)).ext k2 killV_av, hS.size, k1⟩
  · exact RepF.str l (by simp [maxB, maxS] at *; omega)
  · exfalso
    have : hget (hset (H.map (killO k)) k .dead) k = hget H k := by rw [he]
    rw [hget_hset_dead, if_pos rfl] at this
    rw [← this] at hlive
    exact hlive
end
end Go.V


set_option linter.unusedVariables false
set_option linter.unusedSimpArgs false
namespace Go.V
section
variable {P : Program} {T : Ctx} {w w' : World} {H H' : Heap} {ρ ρ' : Places} {u u0 : AV} {v : Value} {env env' : Env} {a : Act} {n B nt : Nat} {keep : List Nat}
/-! ### The heap told anew -/
theorem Run.weak {c : Code} {fs : List Frame} {Q : Post} (hw : Weak B T env H env' H') (h : Run P T nt B keep c fs Q env' H') : Run P T nt B keep c fs Q env H := by
  constructor
  intro w ρ a hS
  obtain ⟨ρ', h1, h2⟩ := hw w ρ a nt hS
  exact wp_mono (h.go w ρ' a h1) fun e a' w' hf => hf.back h2
def SubR (τ : Nat → Nat) (env : Env) : Env → Prop
  | [] => True
  | (s, v) :: r => get env s = renV τ v ∧ SubR τ env r
theorem SubR.get {τ : Nat → Nat} : ∀ {env' : Env}, SubR τ env env' → ∀ s, get env s = renV τ (get env' s) ∨ get env' s = .undef
  | [], _, s => .inr rfl
  | (t, v) :: r, h, s => by
    simp only [Go.V.get]
    cases hb : Nat.beq t s with
    | true =>
      have := Nat.eq_of_beq_eq_true hb
      subst this
      exact .inl h.1
    | false => exact SubR.get h.2 s
def prefB (τl : List Nat) : Nat → Bool
  | 0 => true
  | B + 1 => prefB τl B && (match τl[B]? with | some k => Nat.beq k B | none => false)
theorem prefB_spec {τl : List Nat} : ∀ {B : Nat}, prefB τl B = true → ∀ k, k < B → τl[k]? = some k
  | 0, _, k, h => by omega
  | B + 1, h, k, hk => by
    simp only [prefB, Bool.and_eq_true] at h
    by_cases hkB : k = B
    · subst hkB
      have := h.2
      split at this
      · rename_i x hx; rw [hx, Nat.eq_of_beq_eq_true this]
      · cases this
    · exact prefB_spec h.1 k (by omega)
/-- Some of the heap's objects, told in another order; the others are forgotten. -/
theorem Weak.perm (τl : List Nat) (hB : prefB τl B = true) (hl : allLt H.length τl = true) (hn : nodupB τl = true) (hs : SubR (tau τl H.length) env env') (ho : objsOk (renO (tau τl H.length)) H τl H') : Weak B T env H env' H' := by
  intro w ρ a n hS
  obtain ⟨hlen, hobj⟩ := objsOk_spec ho
  have hnd := nodupB_spec hn
  have hpre := prefB_spec hB
  have hlt : ∀ k, k ∈ τl → k < H.length := fun k hk => by
    have := List.all_eq_true.1 hl k hk
    simpa using this
  generalize hτ : tau τl H.length = τ at *
  have τ_at : ∀ i k, τl[i]? = some k → τ i = k := fun i k h => by rw [← hτ]; simp [tau, h]
  have τ_out : ∀ i, τl.length ≤ i → H.length ≤ τ i := fun i h => by rw [← hτ]; simp [tau, List.getElem?_eq_none h]
  have τ_in : ∀ i, i < τl.length → τl[i]? = some (τ i) := fun i h => by
    have := List.getElem?_eq_getElem h
    rw [this, τ_at i _ this]
  have hsmall : ∀ i, hget H (τ i) = renO τ (hget H' i) := by
    intro i
    by_cases hi : i < τl.length
    · exact hobj i _ (τ_in i hi)
    · rw [hget_out H _ (τ_out i (by omega)), hget_out H' i (by omega)]; rfl
  let ρb : Places := ⟨fun i => if i < τl.length then ρ (τ i) else none, ρ.F⟩
  have hρb : ∀ i, i < τl.length → ρb i = ρ (τ i) := fun i hi => if_pos hi
  have hlive : ∀ i, (hget H' i).live → i < τl.length ∧ (hget H (τ i)).live := by
    intro i hi
    have h1 : i < τl.length := by
      apply Classical.byContradiction
      intro h
      rw [hget_out H' i (by omega)] at hi
      exact hi
    exact ⟨h1, by rw [hsmall, renO_live]; exact hi⟩
  have hown : ∀ b, Owned H' ρb b → Owned H ρ b := by
    rintro b (⟨i, p, c, g1, g2⟩ | g)
    · obtain ⟨g3, g4⟩ := hlive i g1
      rw [hρb i g3] at g2
      exact .inl ⟨τ i, p, c, g4, g2⟩
    · exact .inr g
  have e : Carry w H ρ H' ρb (fun k k' => τ k' = k) := by
    refine ⟨?_, ?_, hown⟩
    · rintro k k' rfl t m hm
      have hk : k' < τl.length := by
        apply Classical.byContradiction
        intro h
        rw [hget_out H _ (τ_out k' (by omega))] at hm
        simp [Obj.len, Obj.elems] at hm
      rw [hsmall, renO_len] at hm
      exact ⟨hm, hρb k' hk⟩
    · rintro k k' rfl m hm
      have hk : k' < τl.length := by
        apply Classical.byContradiction
        intro h
        rw [hget_out H _ (τ_out k' (by omega))] at hm
        simp [Obj.isBox] at hm
      rw [hsmall, renO_box] at hm
      exact ⟨hm, hρb k' hk⟩
  have hinj : ∀ i j, i < τl.length → j < τl.length → τ i = τ j → i = j := by
    intro i j hi hj h
    have h1 := τ_in i hi
    have h2 := τ_in j hj
    have e1 := idxOf_at (i0 := 0) hnd h1
    have e2 := idxOf_at (i0 := 0) hnd h2
    rw [h, e2] at e1
    simp at e1
    omega
  have heap : HeapR T w H' ρb := by
    refine ⟨fun i => ?_, fun i j b p c p' c' g1 g2 g3 g4 => ?_, fun i b p c g1 g2 => ?_, fun i b p c g1 g2 => ?_, hS.heap.flt, fun x hx => ⟨(hS.heap.glob x hx).1, fun h => (hS.heap.glob x hx).2 (hown _ h)⟩⟩
    · by_cases hi : (hget H' i).live
      · obtain ⟨h1, h2⟩ := hlive i hi
        have := hS.heap.obj (τ i)
        rw [hsmall] at this
        exact ObjR.carry e (relO_down (σ := fun k k' => τ k' = k) (τ := τ) (fun k => rfl) _) (fun _ => hρb i h1) this
      · cases hh : hget H' i <;> rw [hh] at hi <;> first | trivial | exact absurd trivial hi
    · obtain ⟨h1, h2⟩ := hlive i g1
      obtain ⟨h3, h4⟩ := hlive j g2
      rw [hρb i h1] at g3
      rw [hρb j h3] at g4
      exact hinj i j h1 h3 (hS.heap.inj _ _ _ _ _ _ _ h2 h4 g3 g4)
    · obtain ⟨h1, h2⟩ := hlive i g1
      rw [hρb i h1] at g2
      exact hS.heap.lt _ _ _ _ h2 g2
    · obtain ⟨h1, h2⟩ := hlive i g1
      rw [hρb i h1] at g2
      exact hS.heap.fresh _ _ _ _ h2 g2
  refine ⟨ρb, ⟨fun s => ?_, hS.size, heap⟩, ⟨Keeps.refl _ _, fun b hb => ?_, rfl, fun k hk m hm => ?_⟩⟩
  · rcases hs.get s with h | h
    · have := hS.slot s
      rw [h] at this
      exact RepV.carry e (relV_down (σ := fun k k' => τ k' = k) (τ := τ) fun k => rfl) this
    · rw [h]; trivial
  · obtain ⟨i, p, c, g1, g2⟩ := hb
    obtain ⟨g3, g4⟩ := hlive i g1
    rw [hρb i g3] at g2
    exact .inl ⟨τ i, p, c, g4, g2⟩
  · have h1 := hpre k hk
    have h2 : k < τl.length := (List.getElem?_eq_some_iff.1 h1).1
    have h3 := τ_at k k h1
    rw [← h3, hsmall, renO_box] at hm
    exact ⟨by rw [hρb k h2, h3], hm⟩
end
end Go.V

