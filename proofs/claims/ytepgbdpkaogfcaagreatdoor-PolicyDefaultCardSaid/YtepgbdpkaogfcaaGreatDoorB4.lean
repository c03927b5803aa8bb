/-
  An own logic of abstract values and what is proved with it: the bench texts P10, P11, P12.
-/
import Derived.Test.YtepgbdpkaogfcaaGreatDoorB3
open Go Go.V Go.Proofs
namespace Go.V
set_option linter.unusedVariables false
set_option linter.unusedSimpArgs false
set_option maxRecDepth 100000
theorem VCall.cast {f : FuncId} {args : List AV} {H H' : Heap} {K : AV → List Nat → Heap → Prop} (h : H = H') (hv : VCall P TT f args H' K) : VCall P TT f args H K := h ▸ hv
theorem s_createDef (x : Fac) (p : TP) (h3 : p.h ≠ 3) (hc : checkP p = 0) (hn : p.name = [100, 101, 102, 97, 117, 108, 116]) (hh : hasN p.name x.ps = false) (hd : x.done = 0) (hi : x.is = false) (hl : x.ps.length < 1000) : VCall P TT 5 [.box 0 0, .agg (encTP p)] (FH true x 0) fun r mv H' => r = .tup [.int .i64 x.ps.length, .int .i64 0] ∧ mv = [2] ∧ H' = FH true { x with ps := x.ps ++ [p], df := x.ps.length, is := true, done := 1 } 0 := by
  have hch := s_checkP p h3
  rw [hc] at hch
  have hlet : ∀ c, c ∈ p.name → isLetter c = true := by rw [hn]; decide
  obtain ⟨ps, vals, last, done, is, df⟩ := x
  simp only at hd hi hh hl
  subst hd
  subst hi
  refine .take 3 (Nat.le_refl _) ?_
  refine VCall.of_run (keep := [0, 1, 2, 3, 4, 5, 6, 7, 8, 12, 20, 29, 73]) tt_ok Tryz.func5 rfl rfl Tryz.ntmps5 rfl ?_
  repeat (refine .run tt_ok ?_; conv => whnf)
  repeat' first | (refine Br.mk (fun h => absurd h (by decide)) (fun _ => ?_); (conv => whnf); repeat (refine .run tt_ok ?_; conv => whnf)) | (refine Br.mk (fun _ => ?_) (fun h => absurd h (by decide)); (conv => whnf); repeat (refine .run tt_ok ?_; conv => whnf)) | (refine Ob.mk (by first | decide | (simp [InI]; done) | (simp only [InI, maxB, maxS] at *; omega)) ?_; (conv => whnf); repeat (refine .run tt_ok ?_; conv => whnf)) | (refine .calc (hch) rfl rfl ?_; (conv => whnf); repeat (refine .run tt_ok ?_; conv => whnf)) | fail
  refine .lend (s_has p ps) (.cons (.of (.cell (.arr trivial rfl (by simp)))) (.cons (.of (.cell (.fn .nil (.cons (frzBox trivial rfl rfl) .nil)))) .nil)) rfl ?_
  (conv => whnf); repeat (refine .run tt_ok ?_; conv => whnf)
  refine .of 8 rfl tt_ok (by decide +kernel) ?_
  (conv => whnf)
  repeat' first | (refine ⟨_, by (conv => whnf); exact ⟨rfl, rfl⟩, ?_⟩; (conv => whnf); repeat (refine .run tt_ok ?_; conv => whnf)) | (refine ⟨_, by (conv => whnf); exact ⟨fun _ => ⟨rfl, rfl⟩⟩, ?_⟩; (conv => whnf); repeat (refine .run tt_ok ?_; conv => whnf)) | (refine ⟨_, by (conv => whnf); exact .calc (s_allows p.name (isB true) hlet (by simp [isB])) rfl rfl ⟨rfl, rfl, rfl⟩, ?_⟩; (conv => whnf); repeat (refine .run tt_ok ?_; conv => whnf)) | fail
  refine ⟨fun h4 => ?_, fun h4 => ?_⟩
  · exfalso
    simp [hn] at h4
  · (conv => whnf); repeat (refine .run tt_ok ?_; conv => whnf)
    repeat' (apply Br.mk <;> intro h5 <;> (conv => whnf) <;> repeat (refine .run tt_ok ?_; conv => whnf))
    all_goals first | (exfalso; simp_all; done) | skip
    all_goals (refine ⟨fun h6 => ?_⟩; (conv => whnf); repeat (refine .run tt_ok ?_; conv => whnf))
    all_goals (refine .of 10 rfl tt_ok (by decide +kernel) ?_)
    all_goals (conv => whnf)
    all_goals (repeat' first | (refine ⟨_, by (conv => whnf); exact ⟨rfl, rfl⟩, ?_⟩; (conv => whnf); repeat (refine .run tt_ok ?_; conv => whnf)) | (refine ⟨_, by (conv => whnf); exact .calc (s_ruled0 _) rfl rfl ⟨rfl, rfl, rfl⟩, ?_⟩; (conv => whnf); repeat (refine .run tt_ok ?_; conv => whnf)) | fail)
    all_goals (refine .ofL 0 7 1 (B1 := 5) (.box 0 0) rfl rfl tt_ok (by decide +kernel) (by simp [FH]) rfl (by (conv => whnf); exact ⟨rfl, rfl⟩) ?_)
    all_goals (conv => whnf)
    all_goals (repeat' first | (refine ⟨_, by (conv => whnf); exact ⟨rfl, rfl⟩, ?_⟩; (conv => whnf)) | fail)
    all_goals (refine ⟨.slt false 36 encTP [p], by (conv => whnf); exact .bslt encTP [p] hc_TP tt_ok rfl rfl rfl rfl rfl rfl, ?_⟩)
    all_goals (conv => whnf)
    all_goals (refine ⟨?_, ?_⟩)
    all_goals first
      | (intro d0 hd0; cases hd0; (conv => whnf); refine ⟨⟨by (conv => whnf); exact ⟨rfl, rfl⟩, ?_⟩, ?_⟩)
      | skip
    all_goals (conv => whnf)
    all_goals (refine ⟨[p], rfl, ⟨⟨by simp only [maxB, List.length_singleton] at hl ⊢; omega, by simp only [maxB, List.length_singleton] at hl ⊢; omega⟩, ?_⟩⟩)
    all_goals (conv => whnf)
    all_goals first
      | (refine ⟨by (conv => whnf); exact ⟨rfl, rfl⟩, ?_⟩; (conv => whnf))
      | skip
    all_goals (repeat (refine .run tt_ok ?_; conv => whnf))
    all_goals (apply Br.mk <;> intro h8 <;> (conv => whnf) <;> repeat (refine .run tt_ok ?_; conv => whnf))
    all_goals first
      | (exfalso; simp [hn] at h8; done)
      | skip
    all_goals (refine VCall.cast (H' := HO true ⟨ps ++ [p], vals, last, 0, false, df⟩ p ps.length 0) ?_ ?_)
    all_goals first
      | (simp [HO, FH, facC, hset, isB, encTP, rule0, conf0]; done)
      | skip
    all_goals (refine (s_do ⟨ps ++ [p], vals, last, 0, false, df⟩ p ps.length rfl rfl).mono ?_)
    all_goals (rintro r mv H' ⟨rfl, rfl, rfl⟩; (conv => whnf); repeat (refine .run tt_ok ?_; conv => whnf))
    all_goals (refine endC rfl rfl rfl ?_)
    all_goals (simp [HO, FH, facC, hset, isB]; done)
end Go.V



open Go Go.V Go.Proofs
namespace Go.V
set_option linter.unusedVariables false
set_option linter.unusedSimpArgs false
set_option maxRecDepth 100000
theorem VCall.fh {f : FuncId} {args : List AV} {r0 : AV} {tw : Bool} {x x' : Fac} {p : TP} {K : AV → List Nat → Heap → Prop} (h : VCall P TT f args (FH tw x 0) (fun r mv H' => r = r0 ∧ mv = [2] ∧ H' = FH tw x' 0))
    (ha : args = args.map (renV (tau [0, 1, 2] 4))) (hr : renV (tau [0, 1, 2] 4) r0 = r0) (hk : K r0 [2] (FH tw x' 0 ++ [.box 36 (encTP p)])) : VCall P TT f args (FH tw x 0 ++ [.box 36 (encTP p)]) K := by
  refine VCall.frame [0, 1, 2] h ha ?_ rfl rfl ?_ ?_
  · obtain ⟨ps, vals, last, done, is, df⟩ := x
    cases tw <;> cases is <;> exact ⟨rfl, rfl, rfl, rfl⟩
  · obtain ⟨ps, vals, last, done, is, df⟩ := x
    cases tw <;> cases is <;> rfl
  · rintro r mv H' ⟨rfl, rfl, rfl⟩
    have e : putBack (renO (tau [0, 1, 2] (List.length (FH tw x 0 ++ [.box 36 (encTP p)])))) [0, 1, 2] (FH tw x' 0) (FH tw x 0 ++ [.box 36 (encTP p)]) = FH tw x' 0 ++ [.box 36 (encTP p)] := by
      obtain ⟨ps, vals, last, done, is, df⟩ := x'
      cases tw <;> cases is <;> rfl
    rw [e]
    exact (show K (renV (tau [0, 1, 2] 4) r) [2] _ by rw [hr]; exact hk)
theorem tp_look : ∃ ti, TT.look 36 = some ti ∧ 0 < ti.cells := ⟨_, rfl, by show 0 < 31; decide⟩
def x0 : Fac := ⟨[], [], 0, 0, false, 0⟩
theorem w0 (tw : Bool) {env : Env} : Weak 0 TT env [.box 61 (facC (isB tw) .nils 1 0 0 0 .ff 0), .map []] env (FH tw x0 0) :=
  Weak.nilBox (H := [.box 61 (facC (isB tw) .nils 1 0 0 0 .ff 0), .map []]) (tb := 61) (cs := facC (isB tw) .nils 1 0 0 0 .ff 0) 0 5 36 encTP hc_TP rfl rfl tp_look
def pA : TP := ⟨[97], 2, 0, 0⟩
def xA : Fac := { x0 with ps := [pA] }
def xB : Fac := afterMake xA 1 [38, 108, 116, 59]
theorem s_fixed : Ret P TT 8 [] (.bool true) := by
  refine VCall.of_run (keep := [0, 1, 2, 3, 4, 5, 6, 7, 8, 9, 11, 13, 15, 17, 19, 21, 24, 28]) tt_ok Tryz.func8 rfl rfl Tryz.ntmps8 rfl ?_
  repeat (refine .run tt_ok ?_; conv => whnf)
  refine (s_new false).mono ?_
  rintro r mv H' ⟨rfl, rfl, o, rfl⟩
  (conv => whnf)
  refine .weak (env' := [(1, .box 0 0)]) (H' := [.box 61 (facC .ff .nils 1 0 0 0 .ff 0), .map []]) (.perm [2, 1] rfl rfl rfl ⟨rfl, trivial⟩ ⟨rfl, rfl, rfl⟩) ?_
  refine .weak (w0 false) ?_
  repeat (refine .run tt_ok ?_; conv => whnf)
  repeat' first | (refine Br.mk (fun h => absurd h (by decide)) (fun _ => ?_); (conv => whnf); repeat (refine .run tt_ok ?_; conv => whnf)) | (refine Br.mk (fun _ => ?_) (fun h => absurd h (by decide)); (conv => whnf); repeat (refine .run tt_ok ?_; conv => whnf)) | (refine Ob.mk (by first | decide | (simp [InI]; done) | (simp only [InI, maxB, maxS] at *; omega)) ?_; (conv => whnf); repeat (refine .run tt_ok ?_; conv => whnf)) | fail
  refine .fh (p := pA) (s_createNew false x0 pA (by decide) (by decide) (by decide) (by decide) (.inl rfl) (by decide) (by decide)) rfl rfl ?_
  (conv => whnf); repeat (refine .run tt_ok ?_; conv => whnf)
  refine .fh (p := pA) (s_make false xA 0 1 [60] [38, 108, 116, 59] (by decide) (by decide) rfl (s_applied false xA 0 1 2 [60] [38, 108, 116, 59] 0 pA rfl (s_rule pA 1) (s_apply2 [60] (by decide)))) rfl rfl ?_
  (conv => whnf); repeat (refine .run tt_ok ?_; conv => whnf)
  refine .fh (p := pA) (s_value1 false xB 1 1 [38, 108, 116, 59] rfl) rfl rfl ?_
  (conv => whnf); repeat (refine .run tt_ok ?_; conv => whnf)
  refine .fh (p := pA) (s_createDup false xB pA (by decide) (by decide) (by decide) (by decide) rfl (.inl rfl)) rfl rfl ?_
  (conv => whnf); repeat (refine .run tt_ok ?_; conv => whnf)
  refine .fh (p := pA) (s_createName false xB ⟨[], 0, 0, 0⟩ (by decide) (by decide) rfl) rfl rfl ?_
  (conv => whnf); repeat (refine .run tt_ok ?_; conv => whnf)
  refine .fh (p := pA) (s_makeNo false xB 0 2 [120] [] 163 (by decide) (s_applied false xB 0 2 0 [120] [] 163 pA rfl (s_rule pA 2) (s_apply0 [120]))) rfl rfl ?_
  (conv => whnf); repeat (refine .run tt_ok ?_; conv => whnf)
  refine .fh (p := pA) (s_makeNo false xB 1 1 [120] [] 164 (by decide) (s_appliedNo false xB 1 1 [120] (.inr (by decide)))) rfl rfl ?_
  (conv => whnf); repeat (refine .run tt_ok ?_; conv => whnf)
  refine .fh (p := pA) (s_tryNo false xB 1 [120] rfl) rfl rfl ?_
  (conv => whnf); repeat (refine .run tt_ok ?_; conv => whnf)
  refine .fh (p := pA) (s_default false xB) rfl rfl ?_
  (conv => whnf); repeat (refine .run tt_ok ?_; conv => whnf)
  refine .fh (p := pA) (s_value0 false xB 2 rfl) rfl rfl ?_
  (conv => whnf); repeat (refine .run tt_ok ?_; conv => whnf)
  repeat' first | (refine Br.mk (fun h => absurd h (by decide)) (fun _ => ?_); (conv => whnf); repeat (refine .run tt_ok ?_; conv => whnf)) | (refine Br.mk (fun _ => ?_) (fun h => absurd h (by decide)); (conv => whnf); repeat (refine .run tt_ok ?_; conv => whnf)) | (refine Ob.mk (by first | decide | (simp [InI]; done) | (simp only [InI, maxB, maxS] at *; omega)) ?_; (conv => whnf); repeat (refine .run tt_ok ?_; conv => whnf)) | fail
  refine .fh (p := pA) (s_policies false xB) rfl rfl ?_
  (conv => whnf); repeat (refine .run tt_ok ?_; conv => whnf)
  repeat' first | (refine Br.mk (fun h => absurd h (by decide)) (fun _ => ?_); (conv => whnf); repeat (refine .run tt_ok ?_; conv => whnf)) | (refine Br.mk (fun _ => ?_) (fun h => absurd h (by decide)); (conv => whnf); repeat (refine .run tt_ok ?_; conv => whnf)) | (refine Ob.mk (by first | decide | (simp [InI]; done) | (simp only [InI, maxB, maxS] at *; omega)) ?_; (conv => whnf); repeat (refine .run tt_ok ?_; conv => whnf)) | fail
  refine .fh (p := pA) (s_made false xB) rfl rfl ?_
  (conv => whnf); repeat (refine .run tt_ok ?_; conv => whnf)
  repeat' first | (refine Br.mk (fun h => absurd h (by decide)) (fun _ => ?_); (conv => whnf); repeat (refine .run tt_ok ?_; conv => whnf)) | (refine Br.mk (fun _ => ?_) (fun h => absurd h (by decide)); (conv => whnf); repeat (refine .run tt_ok ?_; conv => whnf)) | (refine Ob.mk (by first | decide | (simp [InI]; done) | (simp only [InI, maxB, maxS] at *; omega)) ?_; (conv => whnf); repeat (refine .run tt_ok ?_; conv => whnf)) | fail
  refine .calc (s_checkP ⟨[], 0, 2, 0⟩ (by decide)) rfl rfl ?_
  (conv => whnf); repeat (refine .run tt_ok ?_; conv => whnf)
  exact frzB (by decide)
end Go.V



open Go Go.V Go.Proofs
namespace Go.V
set_option linter.unusedVariables false
set_option linter.unusedSimpArgs false
set_option maxRecDepth 100000
def pa : TP := ⟨[97], 0, 0, 0⟩
def pb : TP := ⟨[98], 0, 0, 0⟩
def pd : TP := ⟨[100, 101, 102, 97, 117, 108, 116], 0, 0, 0⟩
def x1 (i : Nat) : Fac := ⟨List.replicate i pa, [], 0, 0, false, 0⟩
def x2 (k j : Nat) : Fac := ⟨List.replicate k pa ++ pd :: List.replicate j pb, [], 0, 1, true, k⟩
theorem and7 (a : Int) : ∃ n : Nat, n ≤ 7 ∧ IntKind.i64.wrap ↑(BitVec.ofInt IntKind.i64.bits a &&& BitVec.ofInt IntKind.i64.bits 7).toNat = n := by
  have h : (BitVec.ofInt IntKind.i64.bits a &&& BitVec.ofInt IntKind.i64.bits 7).toNat ≤ 7 := by
    rw [BitVec.toNat_and]
    exact Nat.le_trans Nat.and_le_right (by decide)
  exact ⟨_, h, wrap_id (by omega) (by omega)⟩
theorem e1 (i : Nat) : ({ (x1 i) with ps := (x1 i).ps ++ [pa] } : Fac) = x1 (i + 1) := by simp [x1, List.replicate_succ']
theorem e2 (i : Nat) : ({ (x1 i) with ps := (x1 i).ps ++ [pd], df := (x1 i).ps.length, is := true, done := 1 } : Fac) = x2 i 0 := by simp [x1, x2]
theorem e3 (i j : Nat) : ({ (x2 i j) with ps := (x2 i j).ps ++ [pb] } : Fac) = x2 i (j + 1) := by simp [x2, List.replicate_succ']
theorem s_policyDefault (a b : Int) : Ret P TT 3 [.int .i64 a, .int .i64 b] (.bool true) := by
  refine VCall.of_run (keep := [0, 1, 4, 5, 6, 7, 9, 10, 11, 12, 14, 15, 16, 20, 25, 45, 58]) tt_ok Tryz.func3 rfl rfl Tryz.ntmps3 rfl ?_
  repeat (refine .run tt_ok ?_; conv => whnf)
  refine (s_new true).mono ?_
  rintro r mv H' ⟨rfl, rfl, o, rfl⟩
  (conv => whnf)
  refine .weak (env' := [(0, .int .i64 a), (1, .int .i64 b), (5, .box 0 0)]) (H' := [.box 61 (facC .tt .nils 1 0 0 0 .ff 0), .map []]) (.perm [2, 1] rfl rfl rfl ⟨rfl, rfl, rfl, trivial⟩ ⟨rfl, rfl, rfl⟩) ?_
  refine .weak (w0 true) ?_
  repeat (refine .run tt_ok ?_; conv => whnf)
  repeat' first | (refine Br.mk (fun h => absurd h (by decide)) (fun _ => ?_); (conv => whnf); repeat (refine .run tt_ok ?_; conv => whnf)) | (refine Br.mk (fun _ => ?_) (fun h => absurd h (by decide)); (conv => whnf); repeat (refine .run tt_ok ?_; conv => whnf)) | (refine Ob.mk (by first | decide | (simp [InI]; done) | (simp only [InI, maxB, maxS] at *; omega)) ?_; (conv => whnf); repeat (refine .run tt_ok ?_; conv => whnf)) | fail
  obtain ⟨k, hk, ek⟩ := and7 a
  rw [ek]
  refine .of (fun i : Nat => [(0, .int .i64 a), (1, .int .i64 b), (5, .box 0 0), (6, .int .i64 k), (7, .int .i64 i)]) (fun i => FH true (x1 i) 0) (fun i => i ≤ k) (fun i => k - i) 0 (Nat.zero_le _) (.slots ⟨rfl, rfl, rfl, rfl, rfl, trivial⟩) ?_
  intro i hi
  repeat (refine .run tt_ok ?_; conv => whnf)
  refine ⟨fun h1 => ?_, fun h1 => ?_⟩
  · have hik : i < k := by simpa using h1
    (conv => whnf); repeat (refine .run tt_ok ?_; conv => whnf)
    refine (s_createNew true (x1 i) pa (by decide) (by decide) (by decide) (by decide) (.inr rfl) (by decide) (by simp [x1]; omega)).mono ?_
    rintro r mv H' ⟨rfl, rfl, rfl⟩
    (conv => whnf); repeat (refine .run tt_ok ?_; conv => whnf)
    refine ⟨by simp only [InI, maxB, maxS, List.length_append, List.length_cons, List.length_nil, decide_eq_true_eq, decide_eq_false_iff_not] at *; omega, ?_⟩
    (conv => whnf); repeat (refine .run tt_ok ?_; conv => whnf)
    refine ⟨i + 1, hik, by omega, ?_⟩
    simp only [e1 i]
    exact .slots ⟨rfl, rfl, rfl, rfl, rfl, trivial⟩
  · have hik : i = k := by simp at h1; omega
    subst hik
    (conv => whnf); repeat (refine .run tt_ok ?_; conv => whnf)
    refine (s_default true (x1 i)).mono ?_
    rintro r mv H' ⟨rfl, rfl, rfl⟩
    (conv => whnf); repeat (refine .run tt_ok ?_; conv => whnf)
    refine (s_createDef (x1 i) pd (by decide) (by decide) rfl (by simp [x1, hasN, pa, pd]) rfl rfl (by simp [x1]; omega)).mono ?_
    rintro r mv H' ⟨rfl, rfl, rfl⟩
    (conv => whnf); repeat (refine .run tt_ok ?_; conv => whnf)
    simp only [e2 i]
    refine .of (fun j : Nat => [(0, .int .i64 a), (1, .int .i64 b), (5, .box 0 0), (6, .int .i64 i), (9, .ff), (10, .int .i64 i), (11, .int .i64 0), (12, .int .i64 j)]) (fun j => FH true (x2 i j) 0) (fun j => ∀ m : Nat, IntKind.i64.wrap ↑(BitVec.ofInt IntKind.i64.bits b &&& BitVec.ofInt IntKind.i64.bits 7).toNat = m → j ≤ m) (fun j => 8 - j) 0 (fun _ _ => Nat.zero_le _) (.slots ⟨rfl, rfl, rfl, rfl, rfl, by (conv => lhs; whnf); simp [x1], rfl, rfl, trivial⟩) ?_
    intro j hj
    obtain ⟨m, hm, em⟩ := and7 b
    have hj := hj m em
    repeat (refine .run tt_ok ?_; conv => whnf)
    rw [em]
    refine ⟨fun h2 => ?_, fun h2 => ?_⟩
    · have hjm : j < m := by simpa using h2
      (conv => whnf); repeat (refine .run tt_ok ?_; conv => whnf)
      refine (s_createNew true (x2 i j) pb (by decide) (by decide) (by decide) (by decide) (.inr rfl) (by decide) (by simp [x2]; omega)).mono ?_
      rintro r mv H' ⟨rfl, rfl, rfl⟩
      rw [e3 i j]
      (conv => whnf); repeat (refine .run tt_ok ?_; conv => whnf)
      refine (s_createDup true (x2 i (j + 1)) pd (by decide) (by decide) (by decide) (by decide) (by simp [hasN, x2, pd]) (.inr rfl)).mono ?_
      rintro r mv H' ⟨rfl, rfl, rfl⟩
      (conv => whnf); repeat (refine .run tt_ok ?_; conv => whnf)
      repeat' first | (refine Br.mk (fun h => absurd h (by decide)) (fun _ => ?_); (conv => whnf); repeat (refine .run tt_ok ?_; conv => whnf)) | (refine Br.mk (fun _ => ?_) (fun h => absurd h (by decide)); (conv => whnf); repeat (refine .run tt_ok ?_; conv => whnf)) | (refine Ob.mk (by first | decide | (simp [InI]; done) | (simp only [InI, maxB, maxS] at *; omega)) ?_; (conv => whnf); repeat (refine .run tt_ok ?_; conv => whnf)) | fail
      exact ⟨j + 1, fun m' em' => by omega, by omega, .slots ⟨rfl, rfl, rfl, rfl, rfl, rfl, rfl, rfl, trivial⟩⟩
    · have hjm : j = m := by simp at h2; omega
      subst hjm
      (conv => whnf); repeat (refine .run tt_ok ?_; conv => whnf)
      refine (s_default true (x2 i j)).mono ?_
      rintro r mv H' ⟨rfl, rfl, rfl⟩
      (conv => whnf); repeat (refine .run tt_ok ?_; conv => whnf)
      repeat' first | (refine Br.mk (fun h => absurd h (by decide)) (fun _ => ?_); (conv => whnf); repeat (refine .run tt_ok ?_; conv => whnf)) | (refine Br.mk (fun _ => ?_) (fun h => absurd h (by decide)); (conv => whnf); repeat (refine .run tt_ok ?_; conv => whnf)) | (refine Ob.mk (by first | decide | (simp [InI]; done) | (simp only [InI, maxB, maxS] at *; omega)) ?_; (conv => whnf); repeat (refine .run tt_ok ?_; conv => whnf)) | fail
      refine ⟨fun _ => ?_, fun h => absurd h (by simp)⟩
      (conv => whnf); repeat (refine .run tt_ok ?_; conv => whnf)
      refine ⟨fun _ => ?_, fun h => absurd h (by simp [x2])⟩
      (conv => whnf); repeat (refine .run tt_ok ?_; conv => whnf)
      refine (s_policies true (x2 i j)).mono ?_
      rintro r mv H' ⟨rfl, rfl, rfl⟩
      (conv => whnf); repeat (refine .run tt_ok ?_; conv => whnf)
      repeat' first | (refine Br.mk (fun h => absurd h (by decide)) (fun _ => ?_); (conv => whnf); repeat (refine .run tt_ok ?_; conv => whnf)) | (refine Br.mk (fun _ => ?_) (fun h => absurd h (by decide)); (conv => whnf); repeat (refine .run tt_ok ?_; conv => whnf)) | (refine Ob.mk (by first | decide | (simp [InI]; done) | (simp only [InI, maxB, maxS] at *; omega)) ?_; (conv => whnf); repeat (refine .run tt_ok ?_; conv => whnf)) | fail
      rw [em]
      repeat' first | (refine Br.mk (fun h => absurd h (by decide)) (fun _ => ?_); (conv => whnf); repeat (refine .run tt_ok ?_; conv => whnf)) | (refine Br.mk (fun _ => ?_) (fun h => absurd h (by decide)); (conv => whnf); repeat (refine .run tt_ok ?_; conv => whnf)) | (refine Ob.mk (by first | decide | (simp [InI]; done) | (simp only [InI, maxB, maxS] at *; omega)) ?_; (conv => whnf); repeat (refine .run tt_ok ?_; conv => whnf)) | fail
      refine ⟨fun _ => ?_, fun h => absurd h (by simp [x2]; omega)⟩
      (conv => whnf); repeat (refine .run tt_ok ?_; conv => whnf)
      refine .calc s_fixed rfl rfl ?_
      (conv => whnf); repeat (refine .run tt_ok ?_; conv => whnf)
      exact frzB rfl
end Go.V


