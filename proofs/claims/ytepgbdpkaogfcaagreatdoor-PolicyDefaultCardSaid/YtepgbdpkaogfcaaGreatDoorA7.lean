/-
  An own logic of abstract values and what is proved with it: the bench texts V34, V35, V36, V37, V38.
-/
import Derived.Test.YtepgbdpkaogfcaaGreatDoorA6
import Derived.Defers
set_option linter.unusedVariables false
set_option linter.unusedSimpArgs false
namespace Go.V
section
variable {P : Program} {T : Ctx} {w w' : World} {H H' : Heap} {ρ ρ' : Places} {u u0 : AV} {v : Value} {env env' : Env} {a : Act} {n B nt : Nat} {keep : List Nat}
theorem scalarC_av {M N : Nat → Prop} (h : scalarC u = true) : Av M N u := by cases u <;> first | trivial | (simp [scalarC] at h; done)
theorem scalarV_av {M N : Nat → Prop} (h : scalarV u = true) : AvV M N u := by
  have hA : ∀ {u : AV}, (match u with | .agg cs => cs.all scalarC | u => scalarC u) = true → AvA M N u := by
    intro u h
    cases u <;> first
      | trivial
      | (simp [scalarC] at h; done)
      | exact fun x hx => scalarC_av (List.all_eq_true.1 h x hx)
  cases u <;> first
    | trivial
    | (simp [scalarV, scalarC] at h; done)
    | exact fun x hx => scalarC_av (List.all_eq_true.1 h x hx)
    | exact fun x hx => hA (List.all_eq_true.1 h x hx)
theorem tokO_av {m : Nat} {o : Go.V.Obj} (h : tokLtO m o = true) : AvO (Ge m) (Ge m) o := by
  cases o with
  | box t cs => exact fun u hu => tokLt_av (List.all_eq_true.1 h u hu)
  | arr t enc hc l => exact fun x _ u hu => closed_av (List.all_eq_true.1 (hc x) u hu)
  | arrl t ls => exact fun x hx u hu => tokLt_av (List.all_eq_true.1 (List.all_eq_true.1 h x hx) u hu)
  | map es => trivial
  | dead => trivial
/-- What a call has left behind is forgotten. -/
theorem VCall.take {f : FuncId} {args : List AV} {K : AV → List Nat → Heap → Prop} (m : Nat) (hm : H.length ≤ m)
    (h : VCall P T f args H (fun r mv H' => scalarV r = true ∧ (H'.take m).all (tokLtO m) = true ∧ K r mv (H'.take m))) : VCall P T f args H K := by
  constructor
  intro w ρ vs h1 h2
  refine (h.call w ρ vs h1 h2).mono ?_
  rintro v w' ⟨r, mv, H', ρ', g1, g2, g3, g4, g5, g6⟩
  have hlive : ∀ k, (hget (H'.take m) k).live → k < m ∧ (hget H' k).live := by
    intro k hk
    rw [hget_take] at hk
    split at hk
    · exact ⟨by assumption, hk⟩
    · exact hk.elim
  have e : Ext (Ge m) (Ge m) w' H' ρ' w' (H'.take m) ρ' := by
    refine ⟨Keeps.refl _ _, fun b hb => .inl ?_, rfl, fun k hk t i hi => ⟨rfl, i, ?_, Nat.le_refl _⟩, fun k hk i hi => ⟨rfl, ?_⟩⟩
    · obtain ⟨k, p, c, h1, h2⟩ := hb; exact ⟨k, p, c, (hlive k h1).2, h2⟩
    · rw [hget_take, if_pos (by simpa using hk)]; exact hi
    · rw [hget_take, if_pos (by simpa using hk)]; exact hi
  have heap : HeapR T w' (H'.take m) ρ' := by
    refine ⟨fun k => ?_, fun k k' b p c p' c' h1 h2 => g1.inj k k' b p c p' c' (hlive k h1).2 (hlive k' h2).2, fun k b p c h1 => g1.lt k b p c (hlive k h1).2, fun k b p c h1 => g1.fresh k b p c (hlive k h1).2, g1.flt, g1.glob.ext e⟩
    rw [hget_take]
    split
    · rename_i hk
      refine ObjR.ext e (g1.obj k) rfl (fun _ _ _ _ => rfl) ?_
      by_cases hkl : k < H'.length
      · have hmem : hget H' k ∈ H'.take m := by
          unfold hget
          rw [List.getElem?_eq_getElem hkl]
          simp only [Option.getD_some]
          exact List.mem_of_getElem? (i := k) (by rw [List.getElem?_take, if_pos hk, List.getElem?_eq_getElem hkl])
        exact tokO_av (List.all_eq_true.1 g5 _ hmem)
      · rw [hget_out _ _ (by omega)]; trivial
    · trivial
  have hin : ∀ k, (∃ t i, (hget H k).len = some (t, i)) ∨ (∃ i, (hget H k).isBox = some i) → k < m := by
    intro k hk
    apply Classical.byContradiction
    intro hge
    rw [hget_out H k (by omega)] at hk
    simp [Obj.len, Obj.elems, Obj.isBox] at hk
  refine ⟨r, mv, _, ρ', heap, g2.ext e (scalarV_av g4), ⟨g3.keeps, fun b hb => ?_, g3.F, fun k hk t i hi => ?_, fun k hk i hi => ?_⟩, g6⟩
  · obtain ⟨k, p, c, k1, k2⟩ := hb
    exact g3.own b ⟨k, p, c, (hlive k k1).2, k2⟩
  · rw [hget_take, if_pos (hin k (.inl ⟨t, i, hi⟩))]
    exact g3.arr k hk t i hi
  · rw [hget_take, if_pos (hin k (.inr ⟨i, hi⟩))]
    exact g3.box k hk i hi
/-- The nil slice of a variable is an array without elements. -/
theorem Weak.nilBox {α : Type} (k i : Nat) {tb : TypeId} {cs : List AV} (t : TypeId) (enc : α → List AV) (hc : ∀ x, (enc x).all AV.closed = true) (hk : hget H k = .box tb cs) (hi : cs[i]? = some .nils) (ht : ∃ ti, T.look t = some ti ∧ 0 < ti.cells) :
    Weak B T env H env (hset H k (.box tb (cs.set i (.own (List.length H) 0 0))) ++ [.arr t enc hc []]) := by
  intro w ρ a n hS
  obtain ⟨ti, hti, h0⟩ := ht
  obtain ⟨h1, h2⟩ := hS.heap.push (o := .arr t enc hc []) (x := none) (Keeps.refl _ w) (by simp) (fun e => ⟨ti, hti, h0, by simp, .inl ⟨by simp [push], rfl⟩⟩)
  have hlt : k < H.length := live_lt (by rw [hk]; trivial)
  have hk' : hget (H ++ [.arr t enc hc []]) k = .box tb cs := by rw [hget_push, if_neg (by omega)]; exact hk
  have hlive : (hget (H ++ [.arr t enc hc []]) k).live := by rw [hk']; trivial
  have hobj := h1.obj k
  rw [hk'] at hobj
  obtain ⟨b, vs, e1, e2, e3⟩ := hobj
  obtain ⟨h3, h4⟩ := h1.upd (k := k) (o' := .box tb (cs.set i (.own (List.length H) 0 0))) (x := push H ρ none k) (M := No) (w' := w) hlive (Keeps.refl _ _) (fun b' p c h => ⟨h1.lt k b' p c hlive h, .inl ⟨p, c, h⟩⟩)
    (fun m hm => by rw [hk'] at hm; exact ⟨rfl, by simpa [Obj.isBox] using hm⟩) (fun _ t' m hm => by rw [hk'] at hm; simp [Obj.len, Obj.elems] at hm)
    (fun j _ => by cases hget (H ++ [.arr t enc hc []]) j <;> simp only [AvO] <;> intros <;> exact Av.none) (fun e => by
      refine ⟨b, vs, by rw [upd_same]; exact e1, e2, ?_⟩
      obtain ⟨val, g1, g2⟩ := e3.at i _ hi
      have hval := rep_nils (RepV.of1 g2)
      subst hval
      have hvs : vs.toList = vs.toList.set i (.slice none 0 0) := by
        apply List.ext_getElem?
        intro j
        rw [List.getElem?_set]
        by_cases hij : i = j
        · subst hij
          rw [if_pos rfl, if_pos (List.getElem?_eq_some_iff.1 g1).1, g1]
        · rw [if_neg hij]
      rw [hvs]
      refine all2_set (Rep1.exts e (fun _ _ => Av.none) e3) ?_ i
      have hne : H.length ≠ k := by omega
      have hgetl : hget (hset (H ++ [.arr t enc hc []]) k (.box tb (cs.set i (.own H.length 0 0)))) H.length = .arr t enc hc [] := by
        rw [hget_set _ _ _ _ (by simp; omega), if_neg hne, hget_push, if_pos rfl]
      refine ⟨t, 0, ti, 0, by rw [hgetl]; rfl, hti, by simp, .inl ⟨?_, rfl, none, rfl⟩⟩
      simp [upd, hne, push])
  have heq : hset (H ++ [.arr t enc hc []]) k (.box tb (cs.set i (.own H.length 0 0))) = hset H k (.box tb (cs.set i (.own H.length 0 0))) ++ [.arr t enc hc []] := by
    rw [hset_eq, hset_eq, List.set_append_left _ _ hlt]
  rw [heq] at h3 h4
  exact ⟨_, (hS.ext h2 (fun _ => .none) h1).ext h4 (fun _ => .none) h3, h2.step.trans h4.step⟩
end
end Go.V


set_option linter.unusedVariables false
set_option linter.unusedSimpArgs false
namespace Go.V
section
variable {P : Program} {T : Ctx} {w w' : World} {H H' : Heap} {ρ ρ' : Places} {u u0 : AV} {v : Value} {env env' : Env} {a : Act} {n B nt : Nat} {keep : List Nat}
/-- A slice made of elements that lead nowhere: told as one that does not change. -/
theorem SoftX.bslt {α : Type} (enc : α → List AV) (l : List α) (hc : ∀ x, (enc x).all AV.closed = true) {t len : Nat} {parts : Array (Nat × Operand)} {c b e : Nat} {z : List AV} {te : TI} (hT : treeOk P T = true) (ht : T.look t = some ⟨c, b, .slice e, z⟩) (hte : T.look e = some te)
    (hidx : idxOk 0 parts.toList = true) {us : List AV} (hus : (parts.toList.map (·.2)).map (ev env) = us)
    (hb : (Nat.beq us.length len && partsOk te.cells us && Nat.ble (len * te.cells) 16777216 && Nat.ble (len * te.bytes) maxB && Nat.ble len maxB) = true) (hl : us.map cellsOf = l.map enc) : SoftX P T (.buildSlice t len parts) env H (.slt false e enc l) := by
  constructor
  intro w ρ a n o ho hS
  have htt := look_ty hT ht
  have hty := look_ty hT hte
  have hlen : us.length = len := by
    simp only [Bool.and_eq_true] at hb
    exact Nat.eq_of_beq_eq_true hb.1.1.1.1
  have hbs : bslK e te len us H (fun u H' => u = .own (List.length H) 0 len ∧ H' = H ++ [.arrl e (us.map cellsOf)]) := by
    unfold bslK
    rw [hb]
    exact ⟨rfl, rfl⟩
  obtain ⟨val, w', u', H', ρ', r1, r2, r3, r4, ⟨rfl, rfl⟩, r6⟩ := bslK_ok (P := P) (ty_slice htt rfl) hte hty hS.heap hbs (by have := evL_rep hS (parts.toList.map (·.2)); rw [hus] at this; exact this)
  have hz := idxOk_zip hidx a.eval
  have he : (parts.map fun (i, x) => (i, a.eval x)) = ((((parts.toList.map (·.2)).map a.eval).zipIdx 0).map fun x => (x.2, x.1)).toArray := by
    apply Array.ext'
    simpa [Function.comp_def] using hz
  refine exec_val (v := val) (w' := w') ?_ ?_
  · simp only [execOp, ho, Sem.run_bind]
    rw [he, r1]
    rfl
  obtain ⟨k1, k2⟩ := hS.heap.below r6
  refine ⟨ρ, k1, k2, ?_⟩
  have hget : Go.V.hget (H ++ [.arrl e (us.map cellsOf)]) H.length = .arrl e (us.map cellsOf) := by rw [hget_push, if_pos rfl]
  have hfr : Frees (H ++ [.arrl e (us.map cellsOf)]) ρ' (Is H.length) (Owned H ρ) := by
    refine ⟨fun b hb => ?_, fun b hb k p c hk hlv h => ?_⟩
    · rcases hb with ⟨j, p, c, g1, g2⟩ | g
      · have hj : j < H.length := by
          apply Classical.byContradiction
          intro hge
          rw [hget_out H j (by omega)] at g1
          exact g1
        refine .inl ⟨j, p, c, by rw [hget_push, if_neg (by omega)]; exact g1, ?_⟩
        have harr : ρ' j = ρ j := by
          cases hh : Go.V.hget H j with
          | box t cs => exact (r3.box j id cs.length (by rw [hh]; rfl)).1
          | map es => exact (r3.box j id 0 (by rw [hh]; rfl)).1
          | arr t en hc l => exact (r3.arr j id t l.length (by rw [hh]; simp [Obj.len, Obj.elems])).1
          | arrl t ls => exact (r3.arr j id t ls.length (by rw [hh]; simp [Obj.len, Obj.elems])).1
          | dead => rw [hh] at g1; exact g1.elim
        rw [harr]; exact g2
      · exact .inr (by rw [r3.F]; exact g)
    · subst hk
      have hlt : b < w.heap.size := by
        rcases hb with ⟨j, p', c', g1, g2⟩ | g
        · exact hS.heap.lt j b p' c' g1 g2
        · exact hS.heap.flt b g
      rcases hb with ⟨j, p', c', g1, g2⟩ | g
      · have hj : j < H.length := by
          apply Classical.byContradiction
          intro hge
          rw [hget_out H j (by omega)] at g1
          exact g1
        have harr : ρ' j = ρ j := by
          cases hh : Go.V.hget H j with
          | box t cs => exact (r3.box j id cs.length (by rw [hh]; rfl)).1
          | map es => exact (r3.box j id 0 (by rw [hh]; rfl)).1
          | arr t en hc l => exact (r3.arr j id t l.length (by rw [hh]; simp [Obj.len, Obj.elems])).1
          | arrl t ls => exact (r3.arr j id t ls.length (by rw [hh]; simp [Obj.len, Obj.elems])).1
          | dead => rw [hh] at g1; exact g1.elim
        have := r2.inj H.length j b p c p' c' hlv (by rw [hget_push, if_neg (by omega)]; exact g1) h (by rw [harr]; exact g2)
        omega
      · exact r2.fresh H.length b p c hlv h (by rw [r3.F]; exact g)
  have hfz : FrzC T (H ++ [.arrl e (us.map cellsOf)]) (Is H.length) (.own H.length 0 len) (.slt false e enc l) := .arrl rfl hget hc (by rw [List.drop_zero, hl, List.take_of_length_le (by rw [← hlen, List.length_map]; have := congrArg List.length hl; simp at this; omega)])
  have h1 := hfz.rep hfr r2 r4
  exact RepV.of1 (h1.fill (H := H) (ρ := ρ) fun _ h => h)
end
end Go.V


set_option linter.unusedVariables false
set_option linter.unusedSimpArgs false
namespace Go.V
section
variable {P : Program} {T : Ctx} {w w' w1 w2 : World} {H H' H1 H2 : Heap} {ρ ρ' ρ1 ρ2 : Places} {u u0 u2 : AV} {v v2 : Value} {env env0 env' : Env} {a : Act} {n B nt : Nat} {keep : List Nat} {md : Region.Mode}
/-! ### A region whose first operation may come late -/
def stayV (B : Nat) : AV → Bool
  | .box k _ => Nat.blt k B
  | .mapr k => Nat.blt k B
  | u => scalarC u
theorem stay_step (h : stayV B u = true) (hr : RepV T w H ρ u v) (hs : Step B w H ρ w' H' ρ') : RepV T w' H' ρ' u v := by
  cases u
  case box =>
    obtain ⟨b, c, m, h1, h2, h3⟩ := hr
    obtain ⟨e1, e2⟩ := hs.box _ (by simpa [stayV] using h) _ h2
    exact ⟨b, c, m, e1.trans h1, e2, h3⟩
  case mapr =>
    obtain ⟨b, c, m, h1, h2, h3⟩ := hr
    obtain ⟨e1, e2⟩ := hs.box _ (by simpa [stayV] using h) _ h2
    exact ⟨b, c, m, e1.trans h1, e2, h3⟩
  all_goals first
    | (simp [stayV, scalarC] at h; done)
    | (cases hr <;> constructor <;> assumption)
theorem Step.less {B' : Nat} (h : Step B w H ρ w' H' ρ') (hb : B' ≤ B) : Step B' w H ρ w' H' ρ' := ⟨h.keeps, h.own, h.F, fun k hk => h.box k (by omega)⟩
def loopK (P : Program) (T : Ctx) (n : Nat) (all : List Oper) (o0 : Oper) (u0 : AV) (env0 : Env) (rest : List Oper) (K : Env → Heap → Prop) : List Oper → Env → Heap → Prop
  | [], env, H => onlyK P T o0.op (trimmed (slotsOf o0.op) env0) H u0 ∧ putK n o0.dst u0 env fun env => opsK P T n all rest env H K
  | o :: r, env, H => (onlyK P T o0.op (trimmed (slotsOf o0.op) env0) H u0 ∧ putK n o0.dst u0 env fun env => opsK P T n all (o :: (r ++ rest)) env H K) ∧
      guardK all o.guard env (fun env => opK P T o.op env H fun v env H => putK n o.dst v env fun env => loopK P T n all o0 u0 env0 rest K r env H) (fun env => putK n o.dst (.tup []) env fun env => loopK P T n all o0 u0 env0 rest K r env H)
/-- What the loose operation looks at is as it was. -/
def LInv (T : Ctx) (w : World) (H : Heap) (ρ : Places) (o0 : Oper) (env0 : Env) (a : Act) : Prop := ∀ s, s ∈ slotsOf o0.op → RepV T w H ρ (get env0 s) (a.tmps.getD s Go.undef)
theorem loose_run (hT : treeOk P T = true) {o0 : Oper} (hI : LInv T w H ρ o0 env0 a) (hn : a.tmps.size = n) (hH : HeapR T w H ρ) (h : onlyK P T o0.op (trimmed (slotsOf o0.op) env0) H u0) : Exec P o0 a w (SoftOut T w H ρ u0) := by
  refine onlyK_ok (n := n) hT ⟨fun s => ?_, hn, hH⟩ o0 h
  rcases get_trimmed' (slotsOf o0.op) env0 s with ⟨g1, g2⟩ | g1
  · rw [g1]; exact hI s g2
  · rw [g1]; trivial
theorem put_other {o : Oper} {s : Nat} (h : ∀ d, o.dst = some d → d ≠ s) (val : Value) : (a.put o.dst val).tmps.getD s Go.undef = a.tmps.getD s Go.undef := by
  cases hd : o.dst with
  | none => rfl
  | some d => simp only [Act.put, Array.getD_eq_getD_getElem?, Array.getElem?_setIfInBounds, if_neg (h d hd)]
theorem tailL {i0 : Nat} (hT : treeOk P T = true) {all : List Oper} {o0 : Oper} {Q : Exit → Act → World → Prop} {K : Env → Heap → Prop} {B1 : Nat} {w0 : World} {H0 : Heap} {ρ0 : Places} {df : List Deferred} {rest : List Oper} (hB1 : B ≤ B1) (h0 : all[i0]? = some o0) (hg : o0.guard = none)
    (hst : ∀ s, s ∈ slotsOf o0.op → stayV B1 (get env0 s) = true)
    (hQ : ∀ a' w' env' H' ρ', a'.defers = df → St T w' H' ρ' env' a' n → Step B w0 H0 ρ0 w' H' ρ' → K env' H' → Q .normal a' w') :
    ∀ (l : List Oper) (k : Nat) (listed : Array Bool) (a : Act) (w : World) (ρ : Places) (H : Heap) (env : Env), i0 < k →
      (∀ j, (l ++ rest)[j]? = all[k + j]?) → (∀ o, o ∈ l → ∀ d, o.dst = some d → d ∉ slotsOf o0.op) →
      (∀ o, rest[0]? = some o → reach md all.toArray i0 all.length (k + l.length) = true) →
      tailB md all.toArray (l.length + rest.length) k (listed.setIfInBounds i0 true) = true → listed.getD i0 false = false → ClosedL md all.toArray listed → i0 ∈ Region.ready md all.toArray listed →
      loopK P T n all o0 u0 env0 rest K l env H → St T w H ρ env a n → LInv T w H ρ o0 env0 a → a.defers = df → Step B w0 H0 ρ0 w H ρ →
      wpAny P md all.toArray Q (l.length + rest.length + 1) listed a w := by
  intro l
  induction l with
  | nil =>
    intro k listed a w ρ H env hk hl hdst hre hB hl0 hcl hr0 hloop hS hI hdf hstep
    simp only [List.length_nil, Nat.zero_add, Nat.add_zero] at hB hre ⊢
    simp only [List.nil_append] at hl
    refine ⟨fun h => (by rw [h] at hr0; cases hr0), fun i hi => ?_⟩
    by_cases hi0 : i = i0
    · subst hi0
      obtain ⟨g1, g2⟩ := hloop
      have hx := loose_run hT hI hS.size hS.heap g1
      unfold wpOp
      rw [List.getElem?_toArray, h0]
      simp only
      rw [if_pos (by simp [Region.wanted, hg])]
      refine .inl (wp_of_exec (hx.mono ?_))
      rintro val w' ⟨ρ', k1, k2, k3⟩
      obtain ⟨env3, k5, k6⟩ := putK_ok g2 (hS.ext k2 (fun _ => .none) k1) k3
      refine wpOps_tail rest k _ _ w' (fun j => by simpa using hl j) hB (opsK_ok (B := B) hT k6 k5 ?_)
      intro a' w'' env' H' ρ'' e1 e2 e3 e4
      exact hQ a' w'' env' H' ρ'' (e1.trans ((by cases o0.dst <;> rfl : (a.put o0.dst val).defers = a.defers).trans hdf)) e2 ((hstep.trans k2.step).trans e3) e4
    · exfalso
      have h1 := ready_mono hi hi0
      cases rest with
      | nil =>
        simp only [List.length_nil, tailB] at hB
        rw [List.isEmpty_iff.1 hB] at h1
        cases h1
      | cons o r =>
        simp only [List.length_cons, tailB, Bool.and_eq_true] at hB
        have h2 := hB.1
        split at h2
        · rename_i j hj
          have := Nat.eq_of_beq_eq_true h2
          subst this
          rw [hj] at h1
          simp only [List.mem_singleton] at h1
          subst h1
          obtain ⟨_, oj, hoj, hall⟩ := mem_ready.1 hi
          have h3 := reach_spec hcl all.length i (hre o rfl) fun oj' ho' x hx hb => by rw [hoj] at ho'; cases ho'; exact hall x hx hb
          rw [hl0] at h3
          cases h3
        · cases h2
  | cons o r ih =>
    intro k listed a w ρ H env hk hl hdst hre hB hl0 hcl hr0 hloop hS hI hdf hstep
    obtain ⟨⟨g1, g2⟩, g3⟩ := hloop
    have hlen : (o :: r).length + rest.length = (r.length + rest.length) + 1 := by simp; omega
    rw [hlen] at hB ⊢
    refine ⟨fun h => (by rw [h] at hr0; cases hr0), fun i hi => ?_⟩
    by_cases hi0 : i = i0
    · subst hi0
      have hx := loose_run hT hI hS.size hS.heap g1
      unfold wpOp
      rw [List.getElem?_toArray, h0]
      simp only
      rw [if_pos (by simp [Region.wanted, hg])]
      refine .inl (wp_of_exec (hx.mono ?_))
      rintro val w' ⟨ρ', k1, k2, k3⟩
      obtain ⟨env3, k5, k6⟩ := putK_ok g2 (hS.ext k2 (fun _ => .none) k1) k3
      have hlr : (o :: (r ++ rest)).length = r.length + rest.length + 1 := by simp
      have := wpOps_tail (P := P) (Q := Q) (o :: (r ++ rest)) k (listed.setIfInBounds _ true) (a.put o0.dst val) w' (fun j => by simpa using hl j) (by rw [hlr]; exact hB) (opsK_ok (B := B) hT k6 k5 fun a' w'' env' H' ρ'' e1 e2 e3 e4 =>
        hQ a' w'' env' H' ρ'' (e1.trans ((by cases o0.dst <;> rfl : (a.put o0.dst val).defers = a.defers).trans hdf)) e2 ((hstep.trans k2.step).trans e3) e4)
      rw [hlr] at this
      exact this
    · have h1 := ready_mono hi hi0
      simp only [tailB, Bool.and_eq_true] at hB
      obtain ⟨hB1', hB2⟩ := hB
      have hik : i = k := by
        split at hB1'
        · rename_i j hj
          have := Nat.eq_of_beq_eq_true hB1'
          subst this
          rw [hj] at h1
          simpa using h1
        · cases hB1'
      subst hik
      have hoi : all[i]? = some o := by have := hl 0; simpa using this.symm
      have hok : ∀ (val : Value) (w2 : World) (ρ2 : Places) (H2 : Heap) (env3 : Env), loopK P T n all o0 u0 env0 rest K r env3 H2 → St T w2 H2 ρ2 env3 (a.put o.dst val) n → Step B1 w H ρ w2 H2 ρ2 → wpAny P md all.toArray Q (r.length + rest.length + 1) (listed.setIfInBounds i true) (a.put o.dst val) w2 := by
        intro val w2 ρ2 H2 env3 j1 j2 j3
        refine ih (i + 1) _ _ w2 ρ2 H2 env3 (by omega) (fun j => by have := hl (j + 1); simpa [Nat.add_assoc, Nat.add_comm 1 j] using this) (fun o' ho' => hdst o' (by simp [ho'])) (fun o' ho' => ?_) ?_ ?_ (hcl.set hi) (ready_mono hr0 (Ne.symm hi0)) j1 j2 ?_ ((by cases o.dst <;> rfl : (a.put o.dst val).defers = a.defers).trans hdf) (hstep.trans (j3.less hB1))
        · have := hre o' ho'
          rw [show i + 1 + r.length = i + (o :: r).length by simp; omega]
          exact this
        · rw [Array.setIfInBounds_comm _ _ hi0]; exact hB2
        · rw [getD_set_ne false hi0]; exact hl0
        · intro s hs
          rw [put_other (fun d hd => by rintro rfl; exact hdst o (by simp) _ hd hs)]
          exact stay_step (hst s hs) (hI s hs) j3
      obtain ⟨env1, hS1, hcase⟩ := guardK_ok g3 hS
      unfold wpOp
      rw [List.getElem?_toArray, hoi]
      simp only
      rcases hcase with ⟨hw, hyes⟩ | ⟨hw, hno⟩
      · rw [if_pos hw]
        refine .inl (wp_of_exec ((opK_ok (B := B1) hT hS1 o hyes).mono ?_))
        rintro val w' ⟨u, env2, H2, ρ2, k1, k2, k3, k4⟩
        obtain ⟨env3, k5, k6⟩ := putK_ok k4 k1 k3
        exact hok val w' ρ2 H2 env3 k6 k5 k2
      · rw [if_neg (by simp [hw])]
        obtain ⟨env3, k5, k6⟩ := putK_ok (v := Go.undef) hno hS1 ⟨#[], rfl, .nil⟩
        exact hok Go.undef w ρ H env3 k6 k5 .refl
variable {ops : Array Oper}
theorem softL {i0 : Nat} (hT : treeOk P T = true) (hdst : ∀ (i : Nat) (o : Oper) (d : Nat), ops[i]? = some o → o.dst = some d → d < n) {m r d0 : Nat} {o0 : Oper} {F : Array Bool → EF → Prop} {Q : Exit → Act → World → Prop} {df : List Deferred} {w0 : World} {ρ0 : Places}
    (h0 : ops[i0]? = some o0) (hg : o0.guard = none) (hd0 : o0.dst = some d0) (hon : onlyK P T o0.op (trimmed (slotsOf o0.op) env0) H u0)
    (hap : ∀ i o, ops[i]? = some o → i ≠ i0 → (d0 ∉ o.looksAt ops ∧ (∀ d, o.dst = some d → d ≠ d0 ∧ d ∉ slotsOf o0.op)) ∨ reach md ops i0 ops.size i = true)
    (hF : ∀ L e a w ρ, F L e → (∀ s, RepV T w H ρ (e s) (a.tmps.getD s Go.undef)) → a.tmps.size = n → HeapR T w H ρ → a.defers = df → Step B w0 H ρ0 w H ρ → wpAny P md ops Q r L a w)
    (hF2 : ∀ L e a w ρ, F (L.setIfInBounds i0 true) e → (∀ s, s ≠ d0 → RepV T w H ρ (e s) (a.tmps.getD s Go.undef)) → a.tmps.size = n → HeapR T w H ρ → a.defers = df → Step B w0 H ρ0 w H ρ → LInv T w H ρ o0 env0 a → L.getD i0 false = false → ClosedL md ops L → i0 ∈ Region.ready md ops L → wpAny P md ops Q (r + 1) L a w) :
    ∀ (f : Nat) (listed : Array Bool) (e : EF) (a : Act) (w : World) (ρ : Places), anyF P T md ops n H m F f (listed.setIfInBounds i0 true) e → e d0 = nrm u0 → (∀ s, s ≠ d0 → RepV T w H ρ (e s) (a.tmps.getD s Go.undef)) → a.tmps.size = n → HeapR T w H ρ → a.defers = df → Step B w0 H ρ0 w H ρ →
      LInv T w H ρ o0 env0 a → listed.getD i0 false = false → ClosedL md ops listed → i0 ∈ Region.ready md ops listed → wpAny P md ops Q (f + r + 1) listed a w
  | 0, listed, e, a, w, ρ, h, he, h1, h2, h3, h4, h5, h6, h7, h8, h9 => by
    rw [Nat.zero_add]
    exact hF2 _ _ _ _ _ h.2 h1 h2 h3 h4 h5 h6 h7 h8 h9
  | f + 1, listed, e, a, w, ρ, h, he, h1, h2, h3, h4, h5, h6, h7, h8, h9 => by
    rw [show f + 1 + r + 1 = (f + r + 1) + 1 by omega]
    refine ⟨fun hh => (by rw [hh] at h9; cases h9), fun i hi => ?_⟩
    have hput : ∀ (o : Oper) (i : Nat), ops[i]? = some o → ∀ (w' : World) (ρ' : Places) (u : AV) (v : Value) (s : Nat), ((∀ d, o.dst = some d → d ≠ s) → RepV T w' H ρ' (e s) (a.tmps.getD s Go.undef)) → RepV T w' H ρ' u v → RepV T w' H ρ' (putF o.dst u e s) ((a.put o.dst v).tmps.getD s Go.undef) := by
      intro o i ho w' ρ' u v s g1 g2
      cases hds : o.dst with
      | none => exact g1 (by simp [hds])
      | some d =>
        simp only [putF, Act.put]
        by_cases hsd : s = d
        · subst hsd
          rw [if_pos rfl, nrm_rep]
          have hlt : s < a.tmps.size := by have := hdst _ _ _ ho hds; omega
          have : (a.tmps.setIfInBounds s v).getD s Go.undef = v := by simp [Array.getD, hlt]
          rw [this]; exact g2
        · rw [if_neg hsd]
          have : (a.tmps.setIfInBounds d v).getD s Go.undef = a.tmps.getD s Go.undef := by
            simp only [Array.getD_eq_getD_getElem?, Array.getElem?_setIfInBounds, if_neg (Ne.symm hsd)]
          rw [this]
          exact g1 (by intro d' hd'; rw [hds] at hd'; cases hd'; exact Ne.symm hsd)
    by_cases hi0 : i = i0
    · subst hi0
      have hx := loose_run hT h6 h2 h3 hon
      unfold wpOp
      rw [h0]
      simp only
      rw [if_pos (by simp [Region.wanted, hg])]
      refine .inl (wp_of_exec (hx.mono ?_))
      rintro val w' ⟨ρ', k1, k2, k3⟩
      rw [show f + r + 1 = (f + 1) + r by omega]
      refine anyF_ok hdst hF (f + 1) _ e _ w' ρ' h (fun s => ?_) (by rw [← h2]; cases o0.dst <;> simp [Act.put]) k1 ((by cases o0.dst <;> rfl : (a.put o0.dst val).defers = a.defers).trans h4) (h5.trans k2.step)
      by_cases hs : s = d0
      · subst hs
        have hlt : s < a.tmps.size := by have := hdst _ _ _ h0 hd0; omega
        have : (a.put o0.dst val).tmps.getD s Go.undef = val := by rw [hd0]; simp [Act.put, Array.getD, hlt]
        rw [this, he]
        exact nrm_rep.2 k3
      · rw [put_other (fun d hd => by rw [hd0] at hd; cases hd; exact Ne.symm hs)]
        exact (h1 s hs).ext k2 .none
    · have hi1 := ready_mono hi hi0
      have hq := h.2 i hi1
      unfold qF at hq
      unfold wpOp
      obtain ⟨_, o, ho, hall⟩ := mem_ready.1 hi
      have hnr : ¬ reach md ops i0 ops.size i = true := by
        intro hr
        have := reach_spec h8 ops.size i hr fun oj' ho' x hx hb => by rw [ho] at ho'; cases ho'; exact hall x hx hb
        rw [h7] at this
        cases this
      obtain ⟨p1, p2⟩ := (hap i o ho hi0).resolve_right hnr
      rw [ho] at hq ⊢
      simp only at hq ⊢
      obtain ⟨u, hy, hk⟩ := hq
      have hd : ∀ v, (a.put o.dst v).defers = df := fun v => by rw [← h4]; cases o.dst <;> rfl
      have hz : ∀ v, (a.put o.dst v).tmps.size = n := fun v => by rw [← h2]; cases o.dst <;> simp [Act.put]
      have he' : putF o.dst u e d0 = nrm u0 := by
        rw [← he]
        cases hds : o.dst with
        | none => rfl
        | some d => simp only [putF]; rw [if_neg (Ne.symm (p2 d hds).1)]
      have hcomm : (listed.setIfInBounds i0 true).setIfInBounds i true = (listed.setIfInBounds i true).setIfInBounds i0 true := Array.setIfInBounds_comm _ _ (Ne.symm hi0)
      rw [hcomm] at hk
      have hnext : ∀ (val : Value) (w' : World) (ρ' : Places), (∀ s, s ≠ d0 → RepV T w' H ρ' (e s) (a.tmps.getD s Go.undef)) → LInv T w' H ρ' o0 env0 a → HeapR T w' H ρ' → RepV T w' H ρ' u val → Step B w H ρ w' H ρ' → wpAny P md ops Q (f + r + 1) (listed.setIfInBounds i true) (a.put o.dst val) w' := by
        intro val w' ρ' q1 q2 q3 q4 q5
        refine softL hT hdst h0 hg hd0 hon hap hF hF2 f _ _ _ w' ρ' hk he' (fun s hs => hput o i ho w' ρ' u val s (fun _ => q1 s hs) q4) (hz _) q3 (hd _) (h5.trans q5) ?_ (by rw [getD_set_ne false hi0]; exact h7) (h8.set hi) (ready_mono h9 (Ne.symm hi0))
        intro s hs
        rw [put_other (fun d hd => by rintro rfl; exact (p2 d hd).2 hs)]
        exact q2 s hs
      have hlook : ∀ s, s ∈ o.looksAt ops → RepV T w H ρ (e s) (a.tmps.getD s Go.undef) := fun s hs => h1 s (by rintro rfl; exact p1 hs)
      rcases hy a w ρ h3 h2 hlook with ⟨hw, hx⟩ | ⟨hw, rfl⟩
      · rw [if_pos hw]
        refine .inl (wp_of_exec (hx.mono ?_))
        rintro val w' ⟨ρ', k1, k2, k3⟩
        exact hnext val w' ρ' (fun s hs => (h1 s hs).ext k2 .none) (fun s hs => (h6 s hs).ext k2 .none) k1 k3 k2.step
      · rw [if_neg (by simp [hw])]
        exact hnext Go.undef w ρ h1 h6 h3 ⟨#[], rfl, .nil⟩ .refl
def softI (md : Region.Mode) (ops : Array Oper) (m t : Nat) : List Nat → Array Bool → Bool
  | [], listed => (Region.ready md ops listed).all (fun j => Nat.ble m j) && tailB md ops t m listed
  | k :: ks, listed => (Region.ready md ops listed).contains k && Region.free md ops listed k && softI md ops m t ks (listed.setIfInBounds k true)
theorem anyF_lex' {m t : Nat} {K : EF → Prop} : ∀ (ks : List Nat) (l : List Oper) (listed : Array Bool) (e : EF), (∀ i, i ∈ ks → ∀ j oj, ops[j]? = some oj → m ≤ j → reach md ops i ops.size j = true) → ClosedL md ops listed → l.map some = ks.map (fun k => ops[k]?) →
    softI md ops m t ks listed = true → natF P T ops n H l K e → anyF P T md ops n H m (fun L e => tailB md ops t m L = true ∧ K e) ks.length listed e
  | [], l, listed, e, hh, hcl, hl, hB, h => by
    simp only [softI, Bool.and_eq_true, List.all_eq_true] at hB
    have : l = [] := by simpa using hl
    subst this
    exact ⟨fun j hj => Nat.le_of_ble_eq_true (hB.1 j hj), hB.2, h⟩
  | k :: ks, [], listed, e, hh, hcl, hl, hB, h => by simp at hl
  | k :: ks, o :: l, listed, e, hh, hcl, hl, hB, h => by
    simp only [List.map_cons, List.cons.injEq] at hl
    have h0 : ops[k]? = some o := hl.1.symm
    simp only [softI, Bool.and_eq_true] at hB
    obtain ⟨⟨hr, hf⟩, hB'⟩ := hB
    obtain ⟨u, hy, hK⟩ := h
    exact anyF_first h0 (hh k (by simp)) ks.length listed e hcl (Region.free_spec h0 hf) (by simpa using hr) hy
      (anyF_lex' ks l _ _ (fun i hi => hh i (by simp [hi])) (hcl.set (by simpa using hr)) hl.2 hB' hK)
def softIx (m i0 : Nat) : List Nat := (List.range m).filter fun i => !(Nat.beq i i0)
def softOps (m i0 : Nat) (ops : List Oper) : List Oper := (softIx m i0).filterMap fun i => ops[i]?
/-- May this region be walked so: the first operation loose, those up to m in any order, q behind them that do not wait for the first? -/
def drawLB (i0 m q n : Nat) (ops : List Oper) : Bool := match ops[i0]? with
  | none => false
  | some o0 => (match o0.dst with
    | none => false
    | some d0 => Nat.blt i0 m && Nat.beq ((softIx m i0).length + 1) m && Nat.ble (m + q) ops.length && dstB n ops && o0.guard.isNone && o0.after.toList.all (fun e => !(Region.binds .any e)) &&
      (List.range ops.length).all (fun j => Nat.blt j m || (List.range m).all fun i => Nat.beq i i0 || reach .any ops.toArray i ops.length j) &&
      softI .any ops.toArray m (ops.length - m) (softIx m i0) ((Array.replicate ops.length false).setIfInBounds i0 true) &&
      (List.range ops.length).all (fun j => Nat.beq j i0 || (match ops[j]? with
        | some o => (Nat.blt j (m + q) && !((o.looksAt ops.toArray).contains d0) && (match o.dst with | some d => !(Nat.beq d d0) && !((slotsOf o0.op).contains d) | none => true)) || (Nat.ble (m + q) j && reach .any ops.toArray i0 ops.length j)
        | none => true)))
theorem WDraw.ofL (i0 m q : Nat) {o0 : Oper} {ops : List Oper} {B1 : Nat} {K : Env → Heap → Prop} (u0 : AV) (h0 : ops[i0]? = some o0) (hm : P.follows .mixedOrders = true) (hT : treeOk P T = true) (hB : drawLB i0 m q n ops = true) (hB1 : B ≤ B1)
    (hst : ∀ s, s ∈ slotsOf o0.op → stayV B1 (get env s) = true) (hon : onlyK P T o0.op (trimmed (slotsOf o0.op) env) H u0)
    (h : putK n o0.dst u0 env fun env1 => dopsK P T n ops (softOps m i0 ops) env1 H fun env2 => opsK P T n ops (ops.drop m) env2 H K ∧
      ∀ d0, o0.dst = some d0 → loopK P T n ops o0 u0 env ((ops.drop m).drop q) K ((ops.drop m).take q) ((d0, .undef) :: env2) H) : WDraw B P T n ops env H K := by
  constructor
  intro w ρ a t Q hS hQ
  have hB' := hB
  unfold drawLB at hB'
  rw [h0] at hB'
  simp only at hB'
  split at hB'
  · cases hB'
  rename_i d0 hd0
  simp only [Bool.and_eq_true] at hB'
  obtain ⟨⟨⟨⟨⟨⟨⟨⟨hm1, hcnt⟩, hmq⟩, hd⟩, hg⟩, haft⟩, hhard⟩, hs⟩, hap⟩ := hB'
  have hm1 : i0 < m := by simpa using hm1
  have hcnt := Nat.eq_of_beq_eq_true hcnt
  have hmq := Nat.le_of_ble_eq_true hmq
  have hg' : o0.guard = none := by cases hgg : o0.guard with | none => rfl | some _ => rw [hgg] at hg; cases hg
  have hsch : Region.schedule (P.follows .mixedOrders) ops.toArray t = Region.linearise.go .any ops.toArray ops.toArray.size t (Array.replicate ops.toArray.size false) [] := by
    simp only [Region.schedule, hm, Bool.true_or, if_true]
    rfl
  rw [hsch]
  refine wpAny_sound _ _ _ _ _ ?_
  have hdst : ∀ (i : Nat) (o : Oper) (d : Nat), ops.toArray[i]? = some o → o.dst = some d → d < n := by
    intro i o d hi hd'
    have := List.all_eq_true.1 hd o (List.mem_of_getElem? (by simpa using hi))
    rw [hd'] at this
    simpa using this
  have hsz : 0 < ops.length := by omega
  have hreach : ∀ j oj, ops.toArray[j]? = some oj → m + q ≤ j → reach .any ops.toArray i0 ops.toArray.size j = true := by
    intro j oj hj hmj
    have hjl : j < ops.length := by simpa using (Array.getElem?_eq_some_iff.1 hj).1
    have h1 := List.all_eq_true.1 hap j (List.mem_range.2 hjl)
    rw [show ops[j]? = some oj by simpa using hj] at h1
    simp only [Bool.or_eq_true, Bool.and_eq_true] at h1
    rcases h1 with h1 | h1 | h1
    · have := Nat.eq_of_beq_eq_true h1; omega
    · have := h1.1.1; simp at this; omega
    · simpa using h1.2
  have hapart : ∀ i o, ops.toArray[i]? = some o → i ≠ i0 → (d0 ∉ o.looksAt ops.toArray ∧ (∀ d, o.dst = some d → d ≠ d0 ∧ d ∉ slotsOf o0.op)) ∨ reach .any ops.toArray i0 ops.toArray.size i = true := by
    intro i o ho hi
    have hil : i < ops.length := by simpa using (Array.getElem?_eq_some_iff.1 ho).1
    have h1 := List.all_eq_true.1 hap i (List.mem_range.2 hil)
    rw [show ops[i]? = some o by simpa using ho] at h1
    simp only [Bool.or_eq_true, Bool.and_eq_true] at h1
    rcases h1 with h1 | h1 | h1
    · exact absurd (Nat.eq_of_beq_eq_true h1) hi
    · left
      refine ⟨fun hh => ?_, fun d hdd => ?_⟩
      · have := h1.1.2
        simp [hh] at this
      · have := h1.2
        rw [hdd] at this
        simp only [Bool.and_eq_true, Bool.not_eq_true'] at this
        refine ⟨fun hh => ?_, fun hh => ?_⟩
        · rw [hh, Nat.beq_refl] at this; cases this.1
        · have h2 := this.2; simp [hh] at h2
    · right; simpa using h1.2
  have hcl0 : ClosedL .any ops.toArray (Array.replicate ops.length false) := fun j oj hj hl => by simp [Array.getD] at hl
  have hr0 : i0 ∈ Region.ready .any ops.toArray (Array.replicate ops.length false) := by
    refine mem_ready.2 ⟨by simp [Array.getD, show i0 < ops.length by omega], o0, by simpa using h0, fun x hx hb => ?_⟩
    have := List.all_eq_true.1 haft x (by simpa using hx)
    rw [hb] at this
    cases this
  have h00 : Step B w H ρ { w with drawn := w.drawn + 1 } H ρ := ⟨⟨rfl, rfl, rfl, Nat.le_refl _, fun _ _ _ => rfl⟩, fun _ h => .inl h, rfl, fun _ _ _ h => ⟨rfl, h⟩⟩
  obtain ⟨b1, b2⟩ := hS.heap.below (w' := { w with drawn := w.drawn + 1 }) ⟨rfl, rfl, rfl, Nat.le_refl _, fun _ _ _ => rfl⟩
  have hS' := hS.ext b2 (fun _ => .none) b1
  rw [hd0] at h
  have hd0n : d0 < n := hdst i0 o0 d0 (by simpa using h0) hd0
  have hput : dopsK P T n ops (softOps m i0 ops) ((d0, u0) :: env) H (fun env2 => opsK P T n ops (ops.drop m) env2 H K ∧ ∀ d1, some d0 = some d1 → loopK P T n ops o0 u0 env ((ops.drop m).drop q) K ((ops.drop m).take q) ((d1, .undef) :: env2) H) := by
    unfold putK at h
    simp only at h
    split at h
    · exact h
    · exact h.elim
  have hixlt : ∀ k, k ∈ softIx m i0 → k < m := fun k hk => by
    have := (List.mem_filter.1 hk).1
    simpa using this
  have hsel : (softOps m i0 ops).map some = (softIx m i0).map (fun k => ops.toArray[k]?) := by
    unfold softOps
    revert hixlt
    generalize softIx m i0 = ks
    intro hks
    induction ks with
    | nil => rfl
    | cons k ks ih =>
      have hk := hks k (by simp)
      have hko : ops[k]? = some ops[k] := List.getElem?_eq_getElem (by omega)
      rw [List.filterMap_cons, hko]
      simp only [List.map_cons, List.getElem?_toArray, hko]
      rw [ih fun k hk => hks k (by simp [hk])]
      simp
  have hlex := anyF_lex' (n := n) (H := H) (t := ops.length - m) (md := .any) (ops := ops.toArray) (m := m) (softIx m i0) (softOps m i0 ops) ((Array.replicate ops.length false).setIfInBounds i0 true) (fnF ((d0, u0) :: env)) (fun i hi j oj hj hmj => by
    have hjl : j < ops.length := by simpa using (Array.getElem?_eq_some_iff.1 hj).1
    have h1 := List.all_eq_true.1 hhard j (List.mem_range.2 hjl)
    simp only [Bool.or_eq_true] at h1
    rcases h1 with h1 | h1
    · simp at h1; omega
    · have h2 := List.all_eq_true.1 h1 i (List.mem_range.2 (hixlt i hi))
      simp only [Bool.or_eq_true] at h2
      rcases h2 with h2 | h2
      · have hne := (List.mem_filter.1 hi).2
        rw [h2] at hne
        cases hne
      · simpa using h2) (hcl0.set hr0) hsel hs (dopsK_ok (n := n) hT hput)
  have hrl : (ops.drop m).length = ops.length - m := by simp
  have := softL (B := B) (T := T) (P := P) (env0 := env) hT hdst (r := ops.length - m) (df := a.defers) (w0 := w) (ρ0 := ρ) (Q := Q) (by simpa using h0) hg' hd0 hon hapart
    (fun L e a' w' ρ' hF h1 h2 h3 h4 h5 => ?_) (fun L e a' w' ρ' hF h1 h2 h3 h4 h5 h6 h7 h8 h9 => ?_) (softIx m i0).length (Array.replicate ops.length false) _ a _ ρ hlex (by rw [fnF_put]; simp [putF]) (fun s hs => ?_) hS.size hS'.heap rfl h00 ?_ (by simp [Array.getD, hsz]) hcl0 hr0
  · have hsz2 : (softIx m i0).length + (ops.length - m) + 1 = ops.toArray.size := by simp; omega
    rw [hsz2] at this
    simpa using this
  · obtain ⟨hL, env', he, hk, _⟩ := hF
    rw [← hrl]
    refine wpOps_tail (ops.drop m) m L a' w' (fun j => by simp [List.getElem?_drop]) (by rw [hrl]; exact hL) ?_
    refine opsK_ok (B := B) hT hk ⟨fun s => ?_, h2, h3⟩ ?_
    · have := h1 s
      rw [← he] at this
      exact nrm_rep.1 this
    · intro a'' w'' env'' H'' ρ'' g1 g2 g3 g4
      exact hQ a'' w'' env'' H'' ρ'' (g1.trans h4) g2 (h5.trans g3) g4
  · obtain ⟨hL, env', he, _, hk⟩ := hF
    have hql : ((ops.drop m).take q).length = q := by simp; omega
    have hqr : ((ops.drop m).drop q).length = ops.length - m - q := by simp; omega
    have hqq : ((ops.drop m).take q).length + ((ops.drop m).drop q).length = ops.length - m := by rw [hql, hqr]; omega
    rw [← hqq]
    refine tailL (B := B) (B1 := B1) (w0 := w) (H0 := H) (ρ0 := ρ) (df := a.defers) hT hB1 h0 hg' hst (fun a'' w'' env'' H'' ρ'' g1 g2 g3 g4 => hQ a'' w'' env'' H'' ρ'' g1 g2 g3 g4) ((ops.drop m).take q) m L a' w' ρ' H ((d0, .undef) :: env') (by omega) (fun j => by rw [List.take_append_drop]; simp [List.getElem?_drop]) ?_ ?_ (by rw [hqq]; exact hL) h7 h8 h9 (hk d0 rfl) ⟨fun s => ?_, h2, h3⟩ h6 h4 h5
    · intro o ho d hd hin
      obtain ⟨j, hj⟩ := List.getElem?_of_mem ho
      rw [List.getElem?_take] at hj
      split at hj
      · rename_i hjq
        rw [List.getElem?_drop] at hj
        have hjm : ops.toArray[m + j]? = some o := by simpa using hj
        rcases hapart (m + j) o hjm (by omega) with ⟨_, h2'⟩ | hr
        · exact (h2' d hd).2 hin
        · have h1' := List.all_eq_true.1 hap (m + j) (List.mem_range.2 (by simpa using (Array.getElem?_eq_some_iff.1 hjm).1))
          rw [hj] at h1'
          simp only [Bool.or_eq_true, Bool.and_eq_true] at h1'
          rcases h1' with h1' | h1' | h1'
          · have := Nat.eq_of_beq_eq_true h1'; omega
          · have h3' := h1'.2
            rw [hd] at h3'
            simp only [Bool.and_eq_true, Bool.not_eq_true'] at h3'
            have h4' := h3'.2
            simp [hin] at h4'
          · have := Nat.le_of_ble_eq_true h1'.1; omega
      · cases hj
    · intro o ho
      rw [hql]
      have hj : ops.toArray[m + q]? = some o := by
        rw [List.drop_drop, List.getElem?_drop] at ho
        simpa using ho
      simpa using hreach (m + q) o hj (Nat.le_refl _)
    · simp only [get]
      cases hb : Nat.beq d0 s with
      | true => trivial
      | false =>
        have hne : s ≠ d0 := by rintro rfl; simp at hb
        have := h1 s hne
        rw [← he] at this
        exact nrm_rep.1 this
  · have h1 := hS'.slot s
    have h2 : fnF ((d0, u0) :: env) s = nrm (get env s) := by
      rw [fnF_put]; simp only [putF]; rw [if_neg hs]; rfl
    rw [h2]
    exact nrm_rep.2 h1
  · intro s hs
    exact hS'.slot s
theorem Drawn.ofL (i0 m q : Nat) {o0 : Oper} {ops : List Oper} {B1 : Nat} {fs : List Frame} {Q : Post} (u0 : AV) (h0 : ops[i0]? = some o0) (hm : P.follows .mixedOrders = true) (hT : treeOk P T = true) (hB : drawLB i0 m q nt ops = true) (hB1 : B ≤ B1)
    (hst : (slotsOf o0.op).all (fun s => stayV B1 (get env s)) = true) (hon : onlyK P T o0.op (trimmed (slotsOf o0.op) env) H u0)
    (h : putK nt o0.dst u0 env fun env1 => dopsK P T nt ops (softOps m i0 ops) env1 H fun env2 => opsK P T nt ops (ops.drop m) env2 H (fun env H => trim keep env fun env => popK P T nt B keep fs Q .normal env H) ∧
      ∀ d0, o0.dst = some d0 → loopK P T nt ops o0 u0 env ((ops.drop m).drop q) (fun env H => trim keep env fun env => popK P T nt B keep fs Q .normal env H) ((ops.drop m).take q) ((d0, .undef) :: env2) H) : Drawn P T nt B keep ops fs Q env H := by
  constructor
  obtain ⟨go⟩ := WDraw.ofL (B := B) (B1 := B1) i0 m q u0 h0 hm hT hB hB1 (fun s hs => List.all_eq_true.1 hst s hs) hon h
  refine ⟨fun w ρ a t Q' hS hQ => go w ρ a t Q' hS fun a' w' env' H' ρ' e1 e2 e3 e4 => hQ a' w' env' H' ρ' e1 e2 e3 ?_⟩
  rw [trim_eq] at e4
  exact popK_ok e4
end
end Go.V


set_option linter.unusedVariables false
set_option linter.unusedSimpArgs false
namespace Go.V
section
variable {P : Program} {T : Ctx} {w w' w1 w2 : World} {H H' H1 H2 : Heap} {ρ ρ' ρ1 ρ2 : Places} {u u0 u2 : AV} {v v2 : Value} {env env0 env' : Env} {a : Act} {n B nt : Nat} {keep : List Nat}
/-! ### Deferred calls -/
structure DCall (P : Program) (T : Ctx) (f : FuncId) (args : List AV) (H : Heap) (K : Heap → Prop) : Prop where
  call : ∀ w ρ vs (u : FrameMode), HeapR T w H ρ → All2 (RepV T w H ρ) args vs → CallsD P f vs.toArray u w fun e u' w' => u' = u ∧ ∃ v, e = .returned v ∧ ∃ (mv : List Nat) (H' : Heap) (ρ' : Places), HeapR T w' H' ρ' ∧ Ext (fun k => k ∈ mv) No w H ρ w' H' ρ' ∧ K H'
theorem DCall.of_run {f : FuncId} {fn : Func} {c : Code} {nt : Nat} {keep : List Nat} {args : List AV} {K : Heap → Prop} (hT : treeOk P T = true) (hf : P.funcs[f]? = some fn) (hb : fn.body = some c) (hnt : fn.ntmps = nt)
    (hl : Nat.ble args.length nt = true)
    (h : Run P T nt H.length keep c [] (endQ T fn.results.toList H fun _ _ H => K H) (argEnv 0 args) H) : DCall P T f args H K := by
  constructor
  intro w ρ vs u hH hv
  have hlen : args.length ≤ nt := Nat.le_of_ble_eq_true hl
  have hvl := hv.length
  have hS : St T w H ρ (argEnv 0 args) { tmps := vs.toArray ++ Array.replicate (fn.ntmps - vs.toArray.size) Go.undef, defers := [] } nt := by
    refine ⟨fun s => ?_, by simp; omega, hH⟩
    rw [get_argEnv]
    simp only [Nat.not_lt_zero, if_false, Nat.sub_zero]
    cases hs : args[s]? with
    | none => trivial
    | some u =>
      obtain ⟨val, h1, h2⟩ := hv.at s u hs
      have hlt := (List.getElem?_eq_some_iff.1 h1).1
      have : (vs.toArray ++ Array.replicate (fn.ntmps - vs.toArray.size) Go.undef).getD s Go.undef = val := by
        simp only [Array.getD_eq_getD_getElem?]
        rw [Array.getElem?_append_left (by simpa using hlt)]
        simp [h1]
      simp only [Option.getD_some]
      rw [this]
      exact h2
  refine callsD_of_wp hf hb ?_
  refine wp_mono (h.go w ρ _ hS) ?_
  rintro e a' w' ⟨ex, env', H', ρ', h1, h2, h3, h4, h5⟩
  have fin : (a'.defers = [] ∧ resK T fn.results.toList env' H' fun r => K H') → a'.defers = [] ∧ ∃ v, (results fn a'.tmps).run P w' = .ok v w' ∧ ∃ v₁, Ending.returned v = Ending.returned v₁ ∧ ∃ (mv : List Nat) (H' : Heap) (ρ' : Places), HeapR T w' H' ρ' ∧ Ext (fun k => k ∈ mv) No w H ρ w' H' ρ' ∧ K H' := by
    rintro ⟨hd, hr⟩
    obtain ⟨val, u, r1, r2, r3⟩ := resK_ok hT h3 hr
    refine ⟨hd, val, r1, val, rfl, arrTok 0 H, H', ρ', h3.heap, ⟨h4.keeps, h4.own, h4.F, fun k hk t m hm => ?_, fun k _ m hm => ?_⟩, r3⟩
    · exact absurd (by simpa using arrTok_mem H 0 k t m hm) hk
    · refine h4.box k ?_ m hm
      by_cases hk : k < H.length
      · exact hk
      · rw [hget_out _ _ (by omega)] at hm; simp [Obj.isBox] at hm
  rcases h1.cases with ⟨rfl, rfl⟩ | ⟨i, rfl, rfl⟩ | ⟨rfl, rfl⟩
  · exact fin ⟨h2, by simpa only [stackQ, endQ] using h5⟩
  · exact (show False by simp only [stackQ, endQ] at h5).elim
  · exact fin ⟨h2, by simpa only [stackQ, endQ] using h5⟩
/-- Operations in order, others behind them. -/
theorem opsK_app (hT : treeOk P T = true) {nt : Nat} {all : List Oper} {Q : Exit → Act → World → Prop} {r' : List Oper} : ∀ {l : List Oper} {w : World} {H : Heap} {ρ : Places} {env : Env} {a : Act} {K : Env → Heap → Prop}, opsK P T nt all l env H K → St T w H ρ env a nt →
    (∀ a' w' env' H' ρ', a'.defers = a.defers → St T w' H' ρ' env' a' nt → Step B w H ρ w' H' ρ' → K env' H' → wpList P all.toArray Q r' a' w') → wpList P all.toArray Q (l ++ r') a w
  | [], w, H, ρ, env, a, K, h, hS, hQ => hQ a w env H ρ rfl hS .refl h
  | o :: r, w, H, ρ, env, a, K, h, hS, hQ => by
    simp only [opsK] at h
    obtain ⟨env1, hS1, hcase⟩ := guardK_ok h hS
    rw [List.cons_append]
    unfold wpList
    rcases hcase with ⟨hw, hyes⟩ | ⟨hw, hno⟩
    · rw [if_pos hw]
      refine .inl (wp_of_exec ((opK_ok (B := B) hT hS1 o hyes).mono ?_))
      rintro val w' ⟨u, env2, H2, ρ2, k1, k2, k3, k4⟩
      obtain ⟨env3, k5, k6⟩ := putK_ok k4 k1 k3
      refine opsK_app hT k6 k5 ?_
      intro a' w'' env' H' ρ' e1 e2 e3 e4
      exact hQ a' w'' env' H' ρ' (e1.trans (by cases o.dst <;> rfl)) e2 (k2.trans e3) e4
    · rw [if_neg (by simp [hw])]
      obtain ⟨env3, k5, k6⟩ := putK_ok (v := Go.undef) hno hS1 ⟨#[], rfl, .nil⟩
      refine opsK_app hT k6 k5 ?_
      intro a' w'' env' H' ρ' e1 e2 e3 e4
      exact hQ a' w'' env' H' ρ' (e1.trans (by cases o.dst <;> rfl)) e2 e3 e4
end
end Go.V


set_option linter.unusedVariables false
set_option linter.unusedSimpArgs false
namespace Go.V
section
variable {P : Program} {T : Ctx} {w w' w1 w2 : World} {H H' H1 H2 : Heap} {ρ ρ' ρ1 ρ2 : Places} {u u0 u2 : AV} {v v2 : Value} {env env0 env' E : Env} {a : Act} {n B nt : Nat} {keep : List Nat} {Q : Exit → Act → World → Prop}
/-! ### Code that defers, piece by piece -/
theorem stepRun {c1 c2 : Code} (h : Run P T nt B keep c1 [] (fun ex env' H' => ex = .normal ∧ env' = E ∧ H' = H1) env H) (hS : St T w H ρ env a nt)
    (k : ∀ a' w' ρ', a'.defers = a.defers → St T w' H1 ρ' E a' nt → Step B w H ρ w' H1 ρ' → c2.wp P Q a' w') : (c1.seq c2).wp P Q a w := by
  apply wp_seq
  refine wp_mono (h.go w ρ a hS) ?_
  rintro e a' w' ⟨ex, env', H', ρ', h1, h2, h3, h4, h5⟩
  simp only [stackQ] at h5
  obtain ⟨rfl, rfl, rfl⟩ := h5
  rcases h1.cases with ⟨rfl, _⟩ | ⟨i, _, h⟩ | ⟨_, h⟩
  · exact k a' w' ρ' h2 h3 h4
  · cases h
  · cases h
theorem lastRun {c1 : Code} (h : Run P T nt B keep c1 [] (fun ex env' H' => ex = .normal ∧ env' = E ∧ H' = H1) env H) (hS : St T w H ρ env a nt)
    (k : ∀ a' w' ρ', a'.defers = a.defers → St T w' H1 ρ' E a' nt → Step B w H ρ w' H1 ρ' → Q .normal a' w') : c1.wp P Q a w := by
  refine wp_mono (h.go w ρ a hS) ?_
  rintro e a' w' ⟨ex, env', H', ρ', h1, h2, h3, h4, h5⟩
  simp only [stackQ] at h5
  obtain ⟨rfl, rfl, rfl⟩ := h5
  rcases h1.cases with ⟨rfl, _⟩ | ⟨i, _, h⟩ | ⟨_, h⟩
  · exact k a' w' ρ' h2 h3 h4
  · cases h
  · cases h
theorem stepDefer (hT : treeOk P T = true) {c2 : Code} {id : Nat} {ops : Array Oper} {od : Oper} {c : Call} {f : FuncId} {us : List AV} (n0 : Nat) (hod : ops.toList[n0]? = some od) (hlen : ops.toList.length = n0 + 1) (h1 : od.op = .defer c) (h2 : od.dst = none) (h3 : od.guard = none) (hc : c.callee = .value (.func f))
    (hk : opsK P T nt ops.toList (ops.toList.take n0) env H (fun env' H' => H' = H ∧ c.args.toList.map (ev env') = us ∧ Sub env' E)) (hS : St T w H ρ env a nt)
    (k : ∀ a' w' ρ' (vs : List Value), a'.defers = { target := .fn (.func f) #[], args := vs.toArray } :: a.defers → All2 (RepV T w' H ρ') us vs → St T w' H ρ' E a' nt → Step B w H ρ w' H ρ' → c2.wp P Q a' w') : ((Code.region id ops false).seq c2).wp P Q a w := by
  have hops : ops.toList = ops.toList.take n0 ++ [od] := by
    have h1 := (List.getElem?_eq_some_iff.1 hod)
    obtain ⟨h1, h2⟩ := h1
    rw [← h2, List.take_append_getElem, List.take_of_length_le (by omega)]
  apply wp_seq
  apply wp_region_list
  rw [hops]
  have := opsK_app (B := B) (r' := [od]) (Q := Exit.then (c2.wp P Q) Q) hT hk hS ?_
  · simpa using this
  · rintro a' w' env' H' ρ' e1 e2 e3 ⟨rfl, e5, e6⟩
    unfold wpList
    rw [if_pos (by simp [Region.wanted, h3])]
    refine .inl ?_
    unfold Oper.wp
    have hrun : (execOp a'.eval od).run P w' = .ok (.defer { target := .fn (.func f) #[], args := c.args.map a'.eval }) w' := by
      simp [execOp, h1, resolve, hc, Deferred.ofValue, Act.eval]
    rw [hrun, Oper.upon_defer, h2]
    show c2.wp P Q { a' with defers := _ :: a'.defers } w'
    have hat : (c.args.toList.map a'.eval).toArray = c.args.map a'.eval := by apply Array.ext'; simp
    refine k _ w' ρ' (c.args.toList.map a'.eval) (by rw [hat, ← e1]) (by rw [← e5]; exact evL_rep e2 _) ?_ e3
    refine ⟨fun s => ?_, e2.size, e2.heap⟩
    rcases e6.get s with h | h <;> rw [h]
    · exact e2.slot s
    · trivial
/-- A deferred call, let in. -/
theorem leaves_d {fn : Func} {tmps : Array Value} {R : Ending → World → Prop} {ds : List Deferred} {f : FuncId} {fnf : Func} {c : Code} {vs : List Value} {args : List AV} {K : Heap → Prop} (hf : P.funcs[f]? = some fnf) (hn : (fnf.name == "runtime.NumGoroutine") = false) (hb : fnf.body = some c) (hd : DCall P T f args H K)
    (hH : HeapR T w H ρ) (hv : All2 (RepV T w H ρ) args vs) (k : ∀ (w' : World) (H' : Heap) (ρ' : Places) (mv : List Nat), HeapR T w' H' ρ' → Ext (fun k => k ∈ mv) No w H ρ w' H' ρ' → K H' → Leaves P fn tmps R ds .returning w') :
    Leaves P fn tmps R ({ target := .fn (.func f) #[], args := vs.toArray } :: ds) .returning w := by
  have hinv : (invoke (.fn (.func f) #[]) vs.toArray).run P w = .ok (.enter f vs.toArray) w := by
    have hn' : ¬ fnf.name = "runtime.NumGoroutine" := by simpa using hn
    simp [invoke, callFunc, hf, hn', hb]
  refine leaves_cons (by simp) hinv ((hd.call w ρ vs .returning hH hv).mono ?_)
  rintro e u' w' ⟨rfl, v, rfl, mv, H', ρ', k1, k2, k3⟩
  exact k w' H' ρ' mv k1 k2 k3
theorem st_args {args : List AV} {vs : List Value} (hH : HeapR T w H ρ) (hv : All2 (RepV T w H ρ) args vs) (hl : args.length ≤ nt) : St T w H ρ (argEnv 0 args) { tmps := vs.toArray ++ Array.replicate (nt - vs.toArray.size) Go.undef, defers := [] } nt := by
  have hvl := hv.length
  refine ⟨fun s => ?_, by simp; omega, hH⟩
  rw [get_argEnv]
  simp only [Nat.not_lt_zero, if_false, Nat.sub_zero]
  cases hs : args[s]? with
  | none => trivial
  | some u =>
    obtain ⟨val, h1, h2⟩ := hv.at s u hs
    have hlt := (List.getElem?_eq_some_iff.1 h1).1
    have : (vs.toArray ++ Array.replicate (nt - vs.toArray.size) Go.undef).getD s Go.undef = val := by
      simp only [Array.getD_eq_getD_getElem?]
      rw [Array.getElem?_append_left (by simpa using hlt)]
      simp [h1]
    simp only [Option.getD_some]
    rw [this]
    exact h2
theorem stays_step {us : List AV} {vs : List Value} (h : us.all (stayV B) = true) (hr : All2 (RepV T w H ρ) us vs) (hs : Step B w H ρ w' H' ρ') : All2 (RepV T w' H' ρ') us vs := by
  induction hr with
  | nil => exact .nil
  | cons g _ ih =>
    simp only [List.all_cons, Bool.and_eq_true] at h
    exact .cons (stay_step h.1 g hs) (ih h.2)
end
end Go.V

