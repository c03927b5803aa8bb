/-
  An own logic of abstract values and what is proved with it: the bench texts P4, P5, P6, P7.
-/
import Derived.Test.YtepgbdpkaogfcaaGreatDoorB1
import Derived.Test.YtepgbdpkaogfcaaGreatDoorA6
import Derived.Test.YtepgbdpkaogfcaaGreatDoorA7
open Go Go.V Go.Proofs
namespace Go.V
set_option linter.unusedVariables false
set_option linter.unusedSimpArgs false
set_option maxRecDepth 100000
/-! ### strings.Builder -/
def bldH (u : Bool) (l : Str) : Heap := match l with
  | [] => [.box 159 [match u with | true => .box 0 0 | false => .nilp, .nils]]
  | c :: r => [.box 159 [.box 0 0, .own 1 0 (r.length + 1)], .arrl 5 ((c :: r).map encB)]
def mvB (l : Str) : List Nat := match l with | [] => [] | _ :: _ => [1]
theorem b_ptr : P.underlying 156 = some (.pointer 159) := by kernel_rfl
theorem b_unsafe : P.underlying 131 = some .unsafePointer := by kernel_rfl
noncomputable def b_info : TypeInfo := (P.info? 159).get!
theorem b_info_ok : P.info? 159 = some b_info := by kernel_rfl
theorem b_size : b_info.size = 2 := by kernel_rfl
theorem b_lies : liesAt P P.depth 159 (2 / P.cellsOf 159) 0 159 1 = true := by kernel_rfl
theorem s_noEscape {H : Heap} {u : AV} {K : AV → List Nat → Heap → Prop} (hk : K u [] H) : VCall P TT 154 [u] H K :=
  VCall.same Tryz.func154 (by kernel_rfl) (by kernel_rfl) (by kernel_rfl) (by kernel_rfl) hk
theorem s_copyCheck (u : Bool) (l : Str) (hu : l ≠ [] → u = true) : VCall P TT 134 [.box 0 0] (bldH u l) fun r mv H' => r = .tup [] ∧ mv = mvB l ∧ H' = bldH true l := by
  cases l with
  | nil =>
    cases u with
    | false =>
      refine VCall.of_run (keep := [0, 6, 19]) tt_ok Tryz.func134 rfl rfl Tryz.ntmps134 rfl ?_
      repeat (refine .run tt_ok ?_; conv => whnf)
      refine .toU (cs := [.nilp, .nils]) (t := 159) b_ptr b_unsafe b_info_ok (by rw [b_size]; decide) rfl rfl (by decide) ?_
      (conv => whnf); repeat (refine .run tt_ok ?_; conv => whnf)
      refine s_noEscape ?_
      (conv => whnf); repeat (refine .run tt_ok ?_; conv => whnf)
      refine .fromU (cs := [.nilp, .nils]) (t := 159) b_unsafe b_ptr b_info_ok rfl rfl b_lies ?_
      (conv => whnf); repeat (refine .run tt_ok ?_; conv => whnf)
      exact ⟨rfl, rfl, rfl⟩
    | true =>
      refine VCall.of_run (keep := [0, 6, 19]) tt_ok Tryz.func134 rfl rfl Tryz.ntmps134 rfl ?_
      repeat (refine .run tt_ok ?_; conv => whnf)
      refine .neqSame b_ptr b_info_ok rfl rfl ?_
      (conv => whnf); repeat (refine .run tt_ok ?_; conv => whnf)
      exact ⟨rfl, rfl, rfl⟩
  | cons c r =>
    have := hu (by simp)
    subst this
    refine VCall.of_run (keep := [0, 6, 19]) tt_ok Tryz.func134 rfl rfl Tryz.ntmps134 rfl ?_
    repeat (refine .run tt_ok ?_; conv => whnf)
    refine .neqSame b_ptr b_info_ok rfl rfl ?_
    (conv => whnf); repeat (refine .run tt_ok ?_; conv => whnf)
    exact ⟨rfl, rfl, rfl⟩
theorem b_slice : P.underlying 157 = some (.slice 5) := by kernel_rfl
theorem b_str : P.underlying 9 = some .string := by kernel_rfl
theorem map_killB (k : Nat) (l : Str) : (l.map encB).map (fun x => x.map (killC k)) = l.map encB := by
  rw [List.map_map]
  rfl
theorem bld_app (c : UInt8) (r s : Str) : hset (hset [.box 159 [.box 0 0, .undef], .arrl 5 (((c :: r).map encB).map fun x => x.map (killC 1))] 1 (.arrl 5 (((((c :: r).map encB).map fun x => x.map (killC 1)).drop 0).take (r.length + 1) ++ (s.map encB).map fun x => x.map (killC 1)))) 0 (.box 159 [.box 0 0, .own 1 0 (r.length + 1 + (s.map encB).length)]) = bldH true (c :: r ++ s) := by
  rw [map_killB, map_killB]
  have : ((c :: r).map encB).take (r.length + 1) = (c :: r).map encB := List.take_of_length_le (by simp)
  simp only [List.drop_zero, this, ← List.map_append]
  simp [bldH, hset]
  omega
theorem s_writeString (u : Bool) (l s : Str) (hu : l ≠ [] → u = true) (hf : Fits (l.length + s.length) 1) : VCall P TT 115 [.box 0 0, .str s] (bldH u l) fun r mv H' => (∃ r', r = .tup [.int .i64 s.length, r']) ∧ mv = mvB l ∧ H' = bldH true (l ++ s) := by
  refine VCall.of_run (keep := [0, 1, 4, 5]) tt_ok Tryz.func115 rfl rfl Tryz.ntmps115 rfl ?_
  repeat (refine .run tt_ok ?_; conv => whnf)
  refine (s_copyCheck u l hu).mono ?_
  rintro r mv H' ⟨rfl, rfl, rfl⟩
  cases l with
  | nil =>
    (conv => whnf); repeat (refine .run tt_ok ?_; conv => whnf)
    cases s with
    | nil =>
      refine .appS0 b_slice b_str tt_ok rfl rfl rfl ?_
      (conv => whnf); repeat (refine .run tt_ok ?_; conv => whnf)
      refine ⟨fun hs => ?_⟩
      (conv => whnf); repeat (refine .run tt_ok ?_; conv => whnf)
      exact ⟨⟨_, rfl⟩, rfl, rfl⟩
    | cons d s =>
      refine .appS b_slice b_str tt_ok rfl rfl rfl ?_
      (conv => whnf)
      refine ⟨by simpa using hf, ?_⟩
      (conv => whnf); repeat (refine .run tt_ok ?_; conv => whnf)
      refine ⟨fun hs => ?_⟩
      (conv => whnf); repeat (refine .run tt_ok ?_; conv => whnf)
      exact ⟨⟨_, rfl⟩, rfl, by simp [bldH, hset]⟩
  | cons c r =>
    (conv => whnf); repeat (refine .run tt_ok ?_; conv => whnf)
    refine .appS b_slice b_str tt_ok rfl rfl rfl ?_
    (conv => whnf)
    refine ⟨by simpa using hf, ?_⟩
    (conv => whnf); repeat (refine .run tt_ok ?_; conv => whnf)
    refine ⟨fun hs => ?_⟩
    (conv => whnf); repeat (refine .run tt_ok ?_; conv => whnf)
    exact ⟨⟨_, rfl⟩, rfl, bld_app _ _ _⟩
theorem bld_app2 (c : UInt8) (r : Str) (b : UInt8) : (hget (hset (hset [.box 159 [.box 0 0, .undef], .arrl 5 (((c :: r).map encB).map fun x => x.map (killC 1)), .arrl 5 (([AV.int .u8 b.toNat].map cellsOf).map fun x => x.map (killC 1))] 1 (.arrl 5 (((((c :: r).map encB).map fun x => x.map (killC 1)).drop 0).take (r.length + 1) ++ (([[AV.int .u8 b.toNat]].drop 0).take 1).map fun x => x.map (killC 1)))) 0 (.box 159 [.box 0 0, .own 1 0 (r.length + 1 + 1)])) 0) = renO (tau [0, 1] 3) (.box 159 [.box 0 0, .own 1 0 ((r ++ [b]).length + 1)]) := by
  simp [hset, hget, renO, renC, tau]
theorem bld_app3 (c : UInt8) (r : Str) (b : UInt8) : (hget (hset (hset [.box 159 [.box 0 0, .undef], .arrl 5 (((c :: r).map encB).map fun x => x.map (killC 1)), .arrl 5 (([AV.int .u8 b.toNat].map cellsOf).map fun x => x.map (killC 1))] 1 (.arrl 5 (((((c :: r).map encB).map fun x => x.map (killC 1)).drop 0).take (r.length + 1) ++ (([[AV.int .u8 b.toNat]].drop 0).take 1).map fun x => x.map (killC 1)))) 0 (.box 159 [.box 0 0, .own 1 0 (r.length + 1 + 1)])) 1) = renO (tau [0, 1] 3) (.arrl 5 ((c :: (r ++ [b])).map encB)) := by
  have h1 : ((c :: r).map encB).map (fun x => x.map (killC 1)) = (c :: r).map encB := map_killB _ _
  have h2 : ((c :: r).map encB).take (r.length + 1) = (c :: r).map encB := List.take_of_length_le (by simp)
  rw [h1]
  simp only [List.drop_zero, h2]
  simp [hset, hget, renO, renC, encB, killC]
theorem s_writeByte (u : Bool) (l : Str) (b : UInt8) (hu : l ≠ [] → u = true) (hf : Fits (l.length + 1) 1) : VCall P TT 117 [.box 0 0, .int .u8 b.toNat] (bldH u l) fun r mv H' => mv = mvB l ∧ H' = bldH true (l ++ [b]) := by
  refine VCall.of_run (keep := [0, 1, 4]) tt_ok Tryz.func117 rfl rfl Tryz.ntmps117 rfl ?_
  repeat (refine .run tt_ok ?_; conv => whnf)
  refine (s_copyCheck u l hu).mono ?_
  rintro r mv H' ⟨rfl, rfl, rfl⟩
  cases l with
  | nil =>
    (conv => whnf); repeat (refine .run tt_ok ?_; conv => whnf)
    refine ⟨by simpa using hf, ?_⟩
    (conv => whnf)
    refine .weak (env' := []) (H' := bldH true [b]) (.perm [0, 2] rfl rfl rfl trivial ⟨rfl, rfl, rfl⟩) ?_
    repeat (refine .run tt_ok ?_; conv => whnf)
    exact ⟨rfl, rfl⟩
  | cons c r =>
    (conv => whnf); repeat (refine .run tt_ok ?_; conv => whnf)
    refine ⟨by simpa using hf, ?_⟩
    (conv => whnf)
    refine .weak (env' := []) (H' := bldH true (c :: r ++ [b])) (.perm [0, 1] rfl rfl rfl trivial ⟨bld_app2 _ _ _, bld_app3 _ _ _, rfl⟩) ?_
    repeat (refine .run tt_ok ?_; conv => whnf)
    exact ⟨rfl, rfl⟩
theorem bld_len (c : UInt8) (r : Str) : (hget (bldH true (c :: r)) 1).len = some (5, 0 + (r.length + 1)) := by
  simp [bldH, hget, Obj.len, Obj.elems]
theorem s_string (u : Bool) (l : Str) (hu : l ≠ [] → u = true) : VCall P TT 118 [.box 0 0] (bldH u l) fun r mv H' => r = .str l ∧ mv = mvB l := by
  cases l with
  | nil =>
    refine VCall.of_run (keep := [0, 2]) tt_ok Tryz.func118 rfl rfl Tryz.ntmps118 rfl ?_
    repeat (refine .run tt_ok ?_; conv => whnf)
    refine .of 10 rfl tt_ok (by decide +kernel) ?_
    (conv => whnf)
    repeat' first | (refine ⟨_, by (conv => whnf); exact ⟨rfl, rfl⟩, ?_⟩; (conv => whnf); repeat (refine .run tt_ok ?_; conv => whnf)) | (refine ⟨_, by (conv => whnf); exact ⟨fun _ => ⟨rfl, rfl⟩⟩, ?_⟩; (conv => whnf); repeat (refine .run tt_ok ?_; conv => whnf)) | (refine ⟨_, by (conv => whnf); exact .sdataNil rfl ⟨rfl, rfl⟩, ?_⟩; (conv => whnf); repeat (refine .run tt_ok ?_; conv => whnf)) | fail
    refine .ustr0 rfl rfl ?_
    (conv => whnf); repeat (refine .run tt_ok ?_; conv => whnf)
    exact ⟨rfl, rfl⟩
  | cons c r =>
    have := hu (by simp)
    subst this
    refine VCall.of_run (keep := [0, 2]) tt_ok Tryz.func118 rfl rfl Tryz.ntmps118 rfl ?_
    repeat (refine .run tt_ok ?_; conv => whnf)
    refine .of 10 rfl tt_ok (by decide +kernel) ?_
    (conv => whnf)
    repeat' first | (refine ⟨_, by (conv => whnf); exact ⟨rfl, rfl⟩, ?_⟩; (conv => whnf); repeat (refine .run tt_ok ?_; conv => whnf)) | (refine ⟨_, by (conv => whnf); exact ⟨fun _ => ⟨rfl, rfl⟩⟩, ?_⟩; (conv => whnf); repeat (refine .run tt_ok ?_; conv => whnf)) | (refine ⟨_, by (conv => whnf); exact .sdata rfl (by omega) (bld_len _ _) rfl ⟨rfl, rfl⟩, ?_⟩; (conv => whnf); repeat (refine .run tt_ok ?_; conv => whnf)) | fail
    refine .ustr (l := c :: r) (pt := 179) (e := 5) (by kernel_rfl) (by kernel_rfl) tt_ok rfl rfl rfl rfl rfl (by simp) rfl ?_
    (conv => whnf); repeat (refine .run tt_ok ?_; conv => whnf)
    exact ⟨rfl, rfl⟩
end Go.V



open Go Go.V Go.Proofs
namespace Go.V
set_option linter.unusedVariables false
set_option linter.unusedSimpArgs false
set_option maxRecDepth 100000
theorem VCall.more {f : FuncId} {args : List AV} {H : Heap} {K : AV → List Nat → Heap → Prop} (mv' : List Nat) (h : VCall P TT f args H (fun r mv H' => (∀ k, k ∈ mv → k ∈ mv') ∧ K r mv' H')) : VCall P TT f args H K := by
  constructor
  intro w ρ vs h1 h2
  refine (h.call w ρ vs h1 h2).mono ?_
  rintro v w' ⟨r, mv, H', ρ', a, b, c, d, e⟩
  exact ⟨r, mv', H', ρ', a, b, ⟨c.keeps, c.own, c.F, fun k hk => c.arr k fun h => hk (d k h), c.box⟩, e⟩
theorem mvB_sub (l : Str) : ∀ k, k ∈ mvB l → k ∈ [1] := by cases l <;> simp [mvB]
theorem s_writeString' (u : Bool) (l s : Str) (hu : l ≠ [] → u = true) (hf : Fits (l.length + s.length) 1) : VCall P TT 115 [.box 0 0, .str s] (bldH u l) fun r mv H' => (∃ r', r = .tup [.int .i64 s.length, r']) ∧ mv = [1] ∧ H' = bldH true (l ++ s) :=
  .more [1] ((s_writeString u l s hu hf).mono fun r mv H' ⟨h1, h2, h3⟩ => ⟨h2 ▸ mvB_sub l, h1, rfl, h3⟩)
theorem s_writeByte' (u : Bool) (l : Str) (b : UInt8) (hu : l ≠ [] → u = true) (hf : Fits (l.length + 1) 1) : VCall P TT 117 [.box 0 0, .int .u8 b.toNat] (bldH u l) fun r mv H' => mv = [1] ∧ H' = bldH true (l ++ [b]) :=
  .more [1] ((s_writeByte u l b hu hf).mono fun r mv H' ⟨h2, h3⟩ => ⟨h2 ▸ mvB_sub l, rfl, h3⟩)
theorem prefix_eq : ∀ (p s : Str), p.isPrefixOf s = decide (s.take p.length = p)
  | [], s => by simp
  | a :: p, [] => by simp
  | a :: p, b :: s => by
    rw [List.isPrefixOf, prefix_eq p s]
    by_cases h : a = b
    · subst h; simp
    · have : ¬ b = a := fun e => h e.symm
      simp [h, this]
theorem s_hasPrefix0 (s p : Str) : Ret P TT 135 [.str s, .str p] (.bool (p.isPrefixOf s)) := by
  refine VCall.of_run (keep := [0, 1, 4]) tt_ok Tryz.func135 rfl rfl Tryz.ntmps135 rfl ?_
  repeat (refine .run tt_ok ?_; conv => whnf)
  refine ⟨fun h1 => ?_⟩
  (conv => whnf); repeat (refine .run tt_ok ?_; conv => whnf)
  refine ⟨fun h2 => ?_⟩
  (conv => whnf); repeat (refine .run tt_ok ?_; conv => whnf)
  refine ⟨fun h3 => ?_, fun h3 => ?_⟩
  · (conv => whnf); repeat (refine .run tt_ok ?_; conv => whnf)
    refine ⟨fun h4 => ?_⟩
    (conv => whnf); repeat (refine .run tt_ok ?_; conv => whnf)
    refine ⟨⟨by omega, by simpa using h3⟩, ?_⟩
    (conv => whnf); repeat (refine .run tt_ok ?_; conv => whnf)
    exact frzB (by rw [prefix_eq]; simp)
  · (conv => whnf); repeat (refine .run tt_ok ?_; conv => whnf)
    exact frzF (by rw [prefix_eq]; simp at h3 ⊢; intro h; have := congrArg List.length h; simp at this; omega)
theorem s_hasPrefix (s p : Str) : Ret P TT 116 [.str s, .str p] (.bool (p.isPrefixOf s)) := by
  refine VCall.of_run (keep := [0, 1, 4]) tt_ok Tryz.func116 rfl rfl Tryz.ntmps116 rfl ?_
  repeat (refine .run tt_ok ?_; conv => whnf)
  refine .calc (s_hasPrefix0 s p) rfl rfl ?_
  (conv => whnf); repeat (refine .run tt_ok ?_; conv => whnf)
  exact frzB rfl
theorem s_rule (p : TP) (k : Int) : Ret P TT 51 [.agg (encTP p), .int .i64 k] (if k = 1 then .tup [.agg (rule0 p.h), .tt] else if k = 2 then .tup [.agg (rule0 p.s), .tt] else if k = 3 then .tup [.agg (rule0 p.u), .tt] else .tup [.agg (rule0 0), .ff]) := by
  refine VCall.of_run (keep := [0, 1, 2, 4, 5, 6, 7, 11, 15]) tt_ok Tryz.func51 rfl rfl Tryz.ntmps51 rfl ?_
  repeat (refine .run tt_ok ?_; conv => whnf)
  repeat' first | (refine Br.mk (fun h => absurd h (by decide)) (fun h => ?_); (conv => whnf); repeat (refine .run tt_ok ?_; conv => whnf)) | (refine Br.mk (fun h => ?_) (fun h => absurd h (by decide)); (conv => whnf); repeat (refine .run tt_ok ?_; conv => whnf)) | (apply Br.mk <;> intro h <;> (try (have h' := of_decide_eq_true h; subst h')) <;> (conv => whnf) <;> repeat (refine .run tt_ok ?_; conv => whnf)) | fail
  all_goals exact frzE rfl (by simp_all [rule0, conf0])
theorem s_string' (u : Bool) (l : Str) (hu : l ≠ [] → u = true) : VCall P TT 118 [.box 0 0] (bldH u l) fun r mv H' => r = .str l ∧ mv = [1] :=
  .more [1] ((s_string u l hu).mono fun r mv H' ⟨h2, h3⟩ => ⟨h3 ▸ mvB_sub l, h2, rfl⟩)
def esc1 (q : Bool) (c : UInt8) : Str := if c.toNat = 38 then [38, 97, 109, 112, 59] else if c.toNat = 60 then [38, 108, 116, 59] else if c.toNat = 62 then [38, 103, 116, 59] else if c.toNat = 34 ∧ q = true then [38, 113, 117, 111, 116, 59] else [c]
/-- A text, written out. -/
def escT (q : Bool) : Str → Str
  | [] => []
  | [c] => esc1 q c
  | c :: d :: r => if c = 194 ∧ d = 160 then [38, 110, 98, 115, 112, 59] ++ escT q r else esc1 q c ++ escT q (d :: r)
theorem escT_cons (q : Bool) (c : UInt8) (r : Str) (h : [194, 160].isPrefixOf (c :: r) = false) : escT q (c :: r) = esc1 q c ++ escT q r := by
  cases r with
  | nil => simp [escT]
  | cons d r =>
    have : ¬ (c = 194 ∧ d = 160) := by
      rintro ⟨rfl, rfl⟩
      simp [List.isPrefixOf] at h
    simp [escT, this]
theorem escT_hard (q : Bool) (r : Str) : escT q (194 :: 160 :: r) = [38, 110, 98, 115, 112, 59] ++ escT q r := by simp [escT]
theorem not_hard {c : UInt8} {r : Str} {k : Nat} (h : c.toNat = k) (hk : k ≠ 194) : [194, 160].isPrefixOf (c :: r) = false := by
  have : ¬ (194 : UInt8) = c := by rintro rfl; exact hk h.symm
  simp [List.isPrefixOf, this]
theorem hard_is {c : UInt8} {r : Str} (h : [194, 160].isPrefixOf (c :: r) = true) : ∃ r2, c = 194 ∧ r = 160 :: r2 := by
  cases r with
  | nil => simp [List.isPrefixOf] at h
  | cons d r =>
    simp [List.isPrefixOf] at h
    exact ⟨r, h.1.symm, by rw [← h.2]⟩
theorem s_written (s : Str) (q : Bool) (hs : 6 * s.length ≤ maxB) : Ret P TT 88 [.str s, .bool q] (.str (escT q s)) := by
  refine VCall.of_run (keep := [0, 1, 4, 5, 6, 10, 17, 23, 29, 35, 44]) tt_ok Tryz.func88 rfl rfl Tryz.ntmps88 rfl ?_
  repeat (refine .run tt_ok ?_; conv => whnf)
  refine .of (fun x : Str × Str × Str => [(0, .str s), (1, .bool q), (5, .box 0 0), (6, .int .i64 x.1.length)]) (fun x => bldH (decide (x.2.1 ≠ [])) x.2.1) (fun x => x.1 ++ x.2.2 = s ∧ escT q s = x.2.1 ++ escT q x.2.2 ∧ x.2.1.length ≤ 6 * x.1.length) (fun x => x.2.2.length) ([], [], s) ⟨rfl, rfl, by simp⟩ (.slots ⟨rfl, rfl, rfl, rfl, trivial⟩) ?_
  rintro ⟨p, o, r⟩ ⟨rfl, he, hl⟩
  simp only at he hl
  cases r with
  | nil =>
    repeat (refine .run tt_ok ?_; conv => whnf)
    refine ⟨fun h1 => ?_⟩
    (conv => whnf); repeat (refine .run tt_ok ?_; conv => whnf)
    refine ⟨fun h => absurd (of_decide_eq_true h) (by simp), fun h => ?_⟩
    (conv => whnf); repeat (refine .run tt_ok ?_; conv => whnf)
    refine (s_string' _ o (by simp)).mono ?_
    rintro r mv H' ⟨rfl, rfl⟩
    (conv => whnf); repeat (refine .run tt_ok ?_; conv => whnf)
    exact frzE rfl (by rw [he]; simp [escT])
  | cons c r =>
    have hlen : 6 * p.length + 6 ≤ maxB := by simp at hs; omega
    have hw : ∀ (x : Str), x.length ≤ 6 → Fits (o.length + x.length) 1 := fun x hx => ⟨by omega, by omega⟩
    have next : ∀ (x : Str), esc1 q c = x → [194, 160].isPrefixOf (c :: r) = false → x.length ≤ 6 → x ≠ [] → ((p ++ [c]) ++ r = p ++ c :: r ∧ escT q (p ++ c :: r) = (o ++ x) ++ escT q r ∧ (o ++ x).length ≤ 6 * (p ++ [c]).length) := by
      intro x h1 h2 h3 h4
      refine ⟨by simp, ?_, by simp; omega⟩
      rw [he, escT_cons q c r h2, h1]; simp
    have hdrop : List.drop ((p.length : Int)).toNat (p ++ c :: r) = c :: r := by simp
    have back : ∀ (x : Str), esc1 q c = x → [194, 160].isPrefixOf (c :: r) = false → x.length ≤ 6 → x ≠ [] → ∀ {e1 : Env}, Sub e1 [(0, .str (p ++ c :: r)), (1, .bool q), (5, .box 0 0), (6, .int .i64 (p ++ [c]).length)] → ∃ y : Str × Str × Str, (y.1 ++ y.2.2 = p ++ c :: r ∧ escT q (p ++ c :: r) = y.2.1 ++ escT q y.2.2 ∧ y.2.1.length ≤ 6 * y.1.length) ∧ y.2.2.length < (c :: r).length ∧ Weak 0 TT e1 (bldH true (o ++ x)) [(0, .str (p ++ c :: r)), (1, .bool q), (5, .box 0 0), (6, .int .i64 y.1.length)] (bldH (decide (y.2.1 ≠ [])) y.2.1) := by
      intro x h1 h2 h3 h4 e1 hs1
      refine ⟨(p ++ [c], o ++ x, r), next x h1 h2 h3 h4, by simp, ?_⟩
      have : decide (o ++ x ≠ []) = true := by simp [h4]
      simp only [this]
      exact .slots hs1
    repeat (refine .run tt_ok ?_; conv => whnf)
    refine ⟨fun h1 => ?_⟩
    (conv => whnf); repeat (refine .run tt_ok ?_; conv => whnf)
    refine ⟨fun h => ?_, fun h => absurd (of_decide_eq_false h) (by simp; omega)⟩
    (conv => whnf); repeat (refine .run tt_ok ?_; conv => whnf)
    refine ⟨⟨by simp, by simp; omega⟩, ⟨fun x' => ⟨fun hx => ?_⟩⟩⟩
    simp at hx; subst hx
    (conv => whnf); repeat (refine .run tt_ok ?_; conv => whnf)
    refine ⟨fun h2 => ?_, fun h2 => ?_⟩
    · (conv => whnf); repeat (refine .run tt_ok ?_; conv => whnf)
      refine (s_writeString' _ o _ (by simp) (hw _ (by decide))).mono ?_
      rintro r' mv H' ⟨⟨r2, rfl⟩, rfl, rfl⟩
      (conv => whnf); repeat (refine .run tt_ok ?_; conv => whnf)
      refine ⟨by simp only [InI, maxB, maxS, List.length_append, List.length_cons, List.length_nil, decide_eq_true_eq, decide_eq_false_iff_not] at *; omega, ?_⟩
      (conv => whnf); repeat (refine .run tt_ok ?_; conv => whnf)
      have h2' : c.toNat = 38 := by simp at h2; omega
      exact back _ (by simp [esc1, h2']) (not_hard h2' (by decide)) (by decide) (by simp) ⟨rfl, rfl, rfl, by (conv => lhs; whnf); simp, trivial⟩
    have g2 : ¬ c.toNat = 38 := by simp at h2; omega
    (conv => whnf); repeat (refine .run tt_ok ?_; conv => whnf)
    refine ⟨⟨by simp, by simp; omega⟩, ⟨fun x' => ⟨fun hx => ?_⟩⟩⟩
    simp at hx; subst hx
    (conv => whnf); repeat (refine .run tt_ok ?_; conv => whnf)
    refine ⟨fun h3 => ?_, fun h3 => ?_⟩
    · (conv => whnf); repeat (refine .run tt_ok ?_; conv => whnf)
      refine (s_writeString' _ o _ (by simp) (hw _ (by decide))).mono ?_
      rintro r' mv H' ⟨⟨r2, rfl⟩, rfl, rfl⟩
      (conv => whnf); repeat (refine .run tt_ok ?_; conv => whnf)
      refine ⟨by simp only [InI, maxB, maxS, List.length_append, List.length_cons, List.length_nil, decide_eq_true_eq, decide_eq_false_iff_not] at *; omega, ?_⟩
      (conv => whnf); repeat (refine .run tt_ok ?_; conv => whnf)
      have h2' : c.toNat = 60 := by simp at h3; omega
      exact back _ (by simp [esc1, h2']) (not_hard h2' (by decide)) (by decide) (by simp) ⟨rfl, rfl, rfl, by (conv => lhs; whnf); simp, trivial⟩
    have g3 : ¬ c.toNat = 60 := by simp at h3; omega
    (conv => whnf); repeat (refine .run tt_ok ?_; conv => whnf)
    refine ⟨⟨by simp, by simp; omega⟩, ⟨fun x' => ⟨fun hx => ?_⟩⟩⟩
    simp at hx; subst hx
    (conv => whnf); repeat (refine .run tt_ok ?_; conv => whnf)
    refine ⟨fun h4 => ?_, fun h4 => ?_⟩
    · (conv => whnf); repeat (refine .run tt_ok ?_; conv => whnf)
      refine (s_writeString' _ o _ (by simp) (hw _ (by decide))).mono ?_
      rintro r' mv H' ⟨⟨r2, rfl⟩, rfl, rfl⟩
      (conv => whnf); repeat (refine .run tt_ok ?_; conv => whnf)
      refine ⟨by simp only [InI, maxB, maxS, List.length_append, List.length_cons, List.length_nil, decide_eq_true_eq, decide_eq_false_iff_not] at *; omega, ?_⟩
      (conv => whnf); repeat (refine .run tt_ok ?_; conv => whnf)
      have h2' : c.toNat = 62 := by simp at h4; omega
      exact back _ (by simp [esc1, h2']) (not_hard h2' (by decide)) (by decide) (by simp) ⟨rfl, rfl, rfl, by (conv => lhs; whnf); simp, trivial⟩
    have g4 : ¬ c.toNat = 62 := by simp at h4; omega
    (conv => whnf); repeat (refine .run tt_ok ?_; conv => whnf)
    refine ⟨⟨by simp, by simp; omega⟩, ⟨fun x' => ⟨fun hx => ?_⟩⟩⟩
    simp at hx; subst hx
    (conv => whnf); repeat (refine .run tt_ok ?_; conv => whnf)
    apply Br.mk <;> intro h5 <;> (conv => whnf) <;> repeat (refine .run tt_ok ?_; conv => whnf)
    · apply Br.mk <;> intro h6 <;> (conv => whnf) <;> repeat (refine .run tt_ok ?_; conv => whnf)
      · refine (s_writeString' _ o _ (by simp) (hw _ (by decide))).mono ?_
        rintro r' mv H' ⟨⟨r2, rfl⟩, rfl, rfl⟩
        (conv => whnf); repeat (refine .run tt_ok ?_; conv => whnf)
        refine ⟨by simp only [InI, maxB, maxS, List.length_append, List.length_cons, List.length_nil, decide_eq_true_eq, decide_eq_false_iff_not] at *; omega, ?_⟩
        (conv => whnf); repeat (refine .run tt_ok ?_; conv => whnf)
        have h2' : c.toNat = 34 := by simp at h5; omega
        exact back _ (by simp [esc1, h2', h6]) (not_hard h2' (by decide)) (by decide) (by simp) ⟨rfl, rfl, rfl, by (conv => lhs; whnf); simp, trivial⟩
      · have g5 : ¬ (c.toNat = 34 ∧ q = true) := by simp [h6]
        refine ⟨⟨by simp, by simp; omega⟩, ?_⟩
        (conv => whnf); repeat (refine .run tt_ok ?_; conv => whnf)
        refine .calc (s_hasPrefix _ _) rfl rfl ?_
        (conv => whnf); repeat (refine .run tt_ok ?_; conv => whnf)
        refine ⟨fun h7 => ?_, fun h7 => ?_⟩
        · rw [hdrop] at h7
          obtain ⟨r2, rfl, rfl⟩ := hard_is h7
          (conv => whnf); repeat (refine .run tt_ok ?_; conv => whnf)
          refine (s_writeString' _ o _ (by simp) (hw _ (by decide))).mono ?_
          rintro r' mv H' ⟨⟨r3, rfl⟩, rfl, rfl⟩
          (conv => whnf); repeat (refine .run tt_ok ?_; conv => whnf)
          refine ⟨by simp only [InI, maxB, maxS, List.length_append, List.length_cons, List.length_nil, decide_eq_true_eq, decide_eq_false_iff_not] at *; omega, ?_⟩
          (conv => whnf); repeat (refine .run tt_ok ?_; conv => whnf)
          refine ⟨by simp only [InI, maxB, maxS, List.length_append, List.length_cons, List.length_nil, decide_eq_true_eq, decide_eq_false_iff_not] at *; omega, ?_⟩
          (conv => whnf); repeat (refine .run tt_ok ?_; conv => whnf)
          refine ⟨(p ++ [194, 160], o ++ [38, 110, 98, 115, 112, 59], r2), ⟨by simp, by rw [he, escT_hard]; simp, by simp; omega⟩, by simp; omega, ?_⟩
          have hd1 : decide (o ++ [38, 110, 98, 115, 112, 59] ≠ []) = true := by simp
          simp only [hd1]
          exact .slots ⟨rfl, rfl, rfl, by (conv => lhs; whnf); simp; omega, trivial⟩
        · rw [hdrop] at h7
          (conv => whnf); repeat (refine .run tt_ok ?_; conv => whnf)
          refine ⟨⟨by simp, by simp; omega⟩, ⟨fun x' => ⟨fun hx => ?_⟩⟩⟩
          simp at hx; subst hx
          (conv => whnf); repeat (refine .run tt_ok ?_; conv => whnf)
          refine (s_writeByte' _ o c (by simp) ⟨by omega, by omega⟩).mono ?_
          rintro r' mv H' ⟨rfl, rfl⟩
          (conv => whnf); repeat (refine .run tt_ok ?_; conv => whnf)
          refine ⟨by simp only [InI, maxB, maxS, List.length_append, List.length_cons, List.length_nil, decide_eq_true_eq, decide_eq_false_iff_not] at *; omega, ?_⟩
          (conv => whnf); repeat (refine .run tt_ok ?_; conv => whnf)
          exact back [c] (by simp only [esc1, g2, g3, g4, g5, if_false]) h7 (by simp) (by simp) ⟨rfl, rfl, rfl, by (conv => lhs; whnf); simp, trivial⟩
    · have g5 : ¬ (c.toNat = 34 ∧ q = true) := by simp at h5; intro h; omega
      refine ⟨⟨by simp, by simp; omega⟩, ?_⟩
      (conv => whnf); repeat (refine .run tt_ok ?_; conv => whnf)
      refine .calc (s_hasPrefix _ _) rfl rfl ?_
      (conv => whnf); repeat (refine .run tt_ok ?_; conv => whnf)
      refine ⟨fun h7 => ?_, fun h7 => ?_⟩
      · rw [hdrop] at h7
        obtain ⟨r2, rfl, rfl⟩ := hard_is h7
        (conv => whnf); repeat (refine .run tt_ok ?_; conv => whnf)
        refine (s_writeString' _ o _ (by simp) (hw _ (by decide))).mono ?_
        rintro r' mv H' ⟨⟨r3, rfl⟩, rfl, rfl⟩
        (conv => whnf); repeat (refine .run tt_ok ?_; conv => whnf)
        refine ⟨by simp only [InI, maxB, maxS, List.length_append, List.length_cons, List.length_nil, decide_eq_true_eq, decide_eq_false_iff_not] at *; omega, ?_⟩
        (conv => whnf); repeat (refine .run tt_ok ?_; conv => whnf)
        refine ⟨by simp only [InI, maxB, maxS, List.length_append, List.length_cons, List.length_nil, decide_eq_true_eq, decide_eq_false_iff_not] at *; omega, ?_⟩
        (conv => whnf); repeat (refine .run tt_ok ?_; conv => whnf)
        refine ⟨(p ++ [194, 160], o ++ [38, 110, 98, 115, 112, 59], r2), ⟨by simp, by rw [he, escT_hard]; simp, by simp; omega⟩, by simp; omega, ?_⟩
        have hd1 : decide (o ++ [38, 110, 98, 115, 112, 59] ≠ []) = true := by simp
        simp only [hd1]
        exact .slots ⟨rfl, rfl, rfl, by (conv => lhs; whnf); simp; omega, trivial⟩
      · rw [hdrop] at h7
        (conv => whnf); repeat (refine .run tt_ok ?_; conv => whnf)
        refine ⟨⟨by simp, by simp; omega⟩, ⟨fun x' => ⟨fun hx => ?_⟩⟩⟩
        simp at hx; subst hx
        (conv => whnf); repeat (refine .run tt_ok ?_; conv => whnf)
        refine (s_writeByte' _ o c (by simp) ⟨by omega, by omega⟩).mono ?_
        rintro r' mv H' ⟨rfl, rfl⟩
        (conv => whnf); repeat (refine .run tt_ok ?_; conv => whnf)
        refine ⟨by simp only [InI, maxB, maxS, List.length_append, List.length_cons, List.length_nil, decide_eq_true_eq, decide_eq_false_iff_not] at *; omega, ?_⟩
        (conv => whnf); repeat (refine .run tt_ok ?_; conv => whnf)
        exact back [c] (by simp only [esc1, g2, g3, g4, g5, if_false]) h7 (by simp) (by simp) ⟨rfl, rfl, rfl, by (conv => lhs; whnf); simp, trivial⟩
end Go.V



open Go Go.V Go.Proofs
namespace Go.V
set_option linter.unusedVariables false
set_option linter.unusedSimpArgs false
set_option maxRecDepth 100000
/-! ### The factory -/
def facC (tw pol : AV) (mp : Nat) (last done mst : Int) (is : AV) (df : Int) : List AV := [.ff, .ff, .nils, .tt, tw, pol, .mapr mp, .int .i64 last, .int .u32 done, .int .i32 mst, .int .u32 0, is, .int .i64 df]
structure Fac where
  ps : List TP
  vals : List (Int × AV)
  last : Int
  done : Int
  is : Bool
  df : Int
def isB (b : Bool) : AV := match b with | true => .tt | false => .ff
def FH (tw : Bool) (x : Fac) (mst : Int) : Heap := [.box 61 (facC (isB tw) (.own 2 0 x.ps.length) 1 x.last x.done mst (isB x.is) x.df), .map (encI x.vals), .arr 36 encTP hc_TP x.ps]
theorem s_new (tw : Bool) : VCall P TT 4 [.agg (guardC .ff .ff .tt (isB tw))] [] fun r mv H' => r = .box 2 0 ∧ mv = [] ∧ ∃ o, H' = [o, .map [], .box 61 (facC (isB tw) .nils 1 0 0 0 .ff 0)] := by
  cases tw
  · refine VCall.of_run (keep := [0, 1, 2]) tt_ok Tryz.func4 rfl rfl Tryz.ntmps4 rfl ?_
    repeat (refine .run tt_ok ?_; conv => whnf)
    repeat' first | (refine Br.mk (fun h => absurd h (by decide)) (fun _ => ?_); (conv => whnf); repeat (refine .run tt_ok ?_; conv => whnf)) | (refine Br.mk (fun _ => ?_) (fun h => absurd h (by decide)); (conv => whnf); repeat (refine .run tt_ok ?_; conv => whnf)) | (refine Ob.mk (by first | decide | (simp [InI]; done) | (simp only [InI, maxB, maxS] at *; omega)) ?_; (conv => whnf); repeat (refine .run tt_ok ?_; conv => whnf)) | (refine .calc (s_clone0) rfl rfl ?_; (conv => whnf); repeat (refine .run tt_ok ?_; conv => whnf)) | fail
    refine .mkmap ?_
    (conv => whnf); repeat (refine .run tt_ok ?_; conv => whnf)
    exact ⟨rfl, rfl, _, rfl⟩
  · refine VCall.of_run (keep := [0, 1, 2]) tt_ok Tryz.func4 rfl rfl Tryz.ntmps4 rfl ?_
    repeat (refine .run tt_ok ?_; conv => whnf)
    repeat' first | (refine Br.mk (fun h => absurd h (by decide)) (fun _ => ?_); (conv => whnf); repeat (refine .run tt_ok ?_; conv => whnf)) | (refine Br.mk (fun _ => ?_) (fun h => absurd h (by decide)); (conv => whnf); repeat (refine .run tt_ok ?_; conv => whnf)) | (refine Ob.mk (by first | decide | (simp [InI]; done) | (simp only [InI, maxB, maxS] at *; omega)) ?_; (conv => whnf); repeat (refine .run tt_ok ?_; conv => whnf)) | (refine .calc (s_clone0) rfl rfl ?_; (conv => whnf); repeat (refine .run tt_ok ?_; conv => whnf)) | fail
    refine .mkmap ?_
    (conv => whnf); repeat (refine .run tt_ok ?_; conv => whnf)
    exact ⟨rfl, rfl, _, rfl⟩
theorem s_policies (tw : Bool) (x : Fac) : VCall P TT 7 [.box 0 0] (FH tw x 0) fun r mv H' => r = .int .i64 x.ps.length ∧ mv = [2] ∧ H' = FH tw x 0 := by
  refine VCall.of_run (keep := [0, 2]) tt_ok Tryz.func7 rfl rfl Tryz.ntmps7 rfl ?_
  repeat (refine .run tt_ok ?_; conv => whnf)
  refine ⟨fun h => ?_⟩
  (conv => whnf); repeat (refine .run tt_ok ?_; conv => whnf)
  exact ⟨rfl, rfl, rfl⟩
theorem s_default (tw : Bool) (x : Fac) : VCall P TT 6 [.box 0 0] (FH tw x 0) fun r mv H' => r = .tup [.int .i64 x.df, isB x.is] ∧ mv = [2] ∧ H' = FH tw x 0 := by
  obtain ⟨ps, vals, last, done, is, df⟩ := x
  cases is
  · refine VCall.of_run (keep := [0, 2, 3]) tt_ok Tryz.func6 rfl rfl Tryz.ntmps6 rfl ?_
    repeat (refine .run tt_ok ?_; conv => whnf)
    refine .of 10 rfl tt_ok (by decide +kernel) ?_
    (conv => whnf)
    repeat' first | (refine ⟨_, by (conv => whnf); exact ⟨rfl, rfl⟩, ?_⟩; (conv => whnf); repeat (refine .run tt_ok ?_; conv => whnf)) | (refine ⟨_, by (conv => whnf); exact ⟨fun _ => ⟨rfl, rfl⟩⟩, ?_⟩; (conv => whnf); repeat (refine .run tt_ok ?_; conv => whnf)) | fail
    exact ⟨rfl, rfl, rfl⟩
  · refine VCall.of_run (keep := [0, 2, 3]) tt_ok Tryz.func6 rfl rfl Tryz.ntmps6 rfl ?_
    repeat (refine .run tt_ok ?_; conv => whnf)
    refine .of 10 rfl tt_ok (by decide +kernel) ?_
    (conv => whnf)
    repeat' first | (refine ⟨_, by (conv => whnf); exact ⟨rfl, rfl⟩, ?_⟩; (conv => whnf); repeat (refine .run tt_ok ?_; conv => whnf)) | (refine ⟨_, by (conv => whnf); exact ⟨fun _ => ⟨rfl, rfl⟩⟩, ?_⟩; (conv => whnf); repeat (refine .run tt_ok ?_; conv => whnf)) | fail
    exact ⟨rfl, rfl, rfl⟩
theorem s_i64load (tw : Bool) (x : Fac) : VCall P TT 30 [.box 0 7] (FH tw x 0) fun r mv H' => r = .int .i64 x.last ∧ mv = [2] ∧ H' = FH tw x 0 := by
  refine VCall.of_run (keep := [0, 2]) tt_ok Tryz.func30 rfl rfl Tryz.ntmps30 rfl ?_
  repeat (refine .run tt_ok ?_; conv => whnf)
  refine .aload Tryz.func54 (by kernel_rfl) (by kernel_rfl) (by kernel_rfl) (by kernel_rfl) rfl rfl ?_
  (conv => whnf); repeat (refine .run tt_ok ?_; conv => whnf)
  exact ⟨rfl, rfl, rfl⟩
theorem s_made (tw : Bool) (x : Fac) : VCall P TT 20 [.box 0 0] (FH tw x 0) fun r mv H' => r = .int .i64 x.last ∧ mv = [2] ∧ H' = FH tw x 0 := by
  refine VCall.of_run (keep := [0, 2]) tt_ok Tryz.func20 rfl rfl Tryz.ntmps20 rfl ?_
  repeat (refine .run tt_ok ?_; conv => whnf)
  refine (s_i64load tw x).mono ?_
  rintro r mv H' ⟨rfl, rfl, rfl⟩
  (conv => whnf); repeat (refine .run tt_ok ?_; conv => whnf)
  exact ⟨rfl, rfl, rfl⟩
theorem wrap_id {n : Int} (h : -9223372036854775808 ≤ n) (h2 : n ≤ 9223372036854775807) : IntKind.i64.wrap n = n := by
  have hb : IntKind.i64.bits = 64 := rfl
  have hs : IntKind.i64.signed = true := rfl
  simp only [IntKind.wrap, hb, hs]
  simp
  omega
theorem tokFH (tw : Bool) (x : Fac) (mst : Int) : (FH tw x mst).all (tokLtO 3) = true := by
  obtain ⟨ps, vals, last, done, is, df⟩ := x
  cases tw <;> cases is <;> rfl
theorem s_i64add (tw : Bool) (x : Fac) (h : 0 ≤ x.last) (h2 : x.last < maxB) : VCall P TT 29 [.box 0 7, .int .i64 1] (FH tw x 0) fun r mv H' => r = .int .i64 (x.last + 1) ∧ mv = [2] ∧ H' = FH tw { x with last := x.last + 1 } 0 := by
  refine VCall.of_run (keep := [0, 1, 4]) tt_ok Tryz.func29 rfl rfl Tryz.ntmps29 rfl ?_
  repeat (refine .run tt_ok ?_; conv => whnf)
  refine .aadd (s := x.last + 1) Tryz.func53 (by kernel_rfl) (by kernel_rfl) (by kernel_rfl) (by kernel_rfl) ?_ rfl rfl ?_
  · intro w
    have : IntKind.i64.wrap (x.last + 1) = x.last + 1 := wrap_id (by omega) (by simp only [maxB] at h2; omega)
    simp [Op.intArith, this]
  (conv => whnf); repeat (refine .run tt_ok ?_; conv => whnf)
  exact ⟨rfl, rfl, rfl⟩
theorem m_type : P.underlying 43 = some (.map 3 83) := by kernel_rfl
theorem m_int : P.underlying 3 = some (.int .i64) := by kernel_rfl
noncomputable def m_info : TypeInfo := (P.info? 83).get!
theorem m_info_ok : P.info? 83 = some m_info := by kernel_rfl
theorem m_zero : m_info.zero = some (.agg #[.int .i64 0, .string ⟨#[]⟩]) := by kernel_rfl
theorem s_value0 (tw : Bool) (x : Fac) (m : Int) (hf : findI m x.vals = none) : VCall P TT 18 [.box 0 0, .int .i64 m] (FH tw x 0) fun r mv H' => r = .tup [.int .i64 0, .str [], .ff] ∧ mv = [2] ∧ H' = FH tw x 0 := by
  refine .take 3 (Nat.le_refl _) ?_
  refine VCall.of_run (keep := [0, 1, 4, 5, 6, 7, 8]) tt_ok Tryz.func18 rfl rfl Tryz.ntmps18 rfl ?_
  repeat (refine .run tt_ok ?_; conv => whnf)
  refine .lookI (zs := [.int .i64 0, .str []]) m_type m_int m_info_ok m_zero rfl rfl rfl rfl ?_
  rw [hf]
  (conv => whnf); repeat (refine .run tt_ok ?_; conv => whnf)
  refine .of 8 rfl tt_ok (by decide +kernel) ?_
  (conv => whnf)
  repeat' first | (refine ⟨_, by (conv => whnf); exact ⟨rfl, rfl⟩, ?_⟩; (conv => whnf); repeat (refine .run tt_ok ?_; conv => whnf)) | (refine ⟨_, by (conv => whnf); exact ⟨fun _ => ⟨rfl, rfl⟩⟩, ?_⟩; (conv => whnf); repeat (refine .run tt_ok ?_; conv => whnf)) | fail
  exact ⟨rfl, tokFH tw x 0, rfl, rfl, rfl⟩
theorem s_value1 (tw : Bool) (x : Fac) (m k : Int) (t : Str) (hf : findI m x.vals = some (.agg [.int .i64 k, .str t])) : VCall P TT 18 [.box 0 0, .int .i64 m] (FH tw x 0) fun r mv H' => r = .tup [.int .i64 k, .str t, .tt] ∧ mv = [2] ∧ H' = FH tw x 0 := by
  refine .take 3 (Nat.le_refl _) ?_
  refine VCall.of_run (keep := [0, 1, 4, 5, 6, 7, 8]) tt_ok Tryz.func18 rfl rfl Tryz.ntmps18 rfl ?_
  repeat (refine .run tt_ok ?_; conv => whnf)
  refine .lookI (zs := [.int .i64 0, .str []]) m_type m_int m_info_ok m_zero rfl rfl rfl rfl ?_
  rw [hf]
  (conv => whnf); repeat (refine .run tt_ok ?_; conv => whnf)
  refine .of 8 rfl tt_ok (by decide +kernel) ?_
  (conv => whnf)
  repeat' first | (refine ⟨_, by (conv => whnf); exact ⟨rfl, rfl⟩, ?_⟩; (conv => whnf); repeat (refine .run tt_ok ?_; conv => whnf)) | (refine ⟨_, by (conv => whnf); exact ⟨fun _ => ⟨rfl, rfl⟩⟩, ?_⟩; (conv => whnf); repeat (refine .run tt_ok ?_; conv => whnf)) | fail
  exact ⟨rfl, tokFH tw x 0, rfl, rfl, rfl⟩
end Go.V



open Go Go.V Go.Proofs
namespace Go.V
set_option linter.unusedVariables false
set_option linter.unusedSimpArgs false
set_option maxRecDepth 100000
theorem s_text (s : Str) (hs : 6 * s.length ≤ maxB) : Ret P TT 70 [.str s] (.str (escT false s)) := by
  refine VCall.of_run (keep := [0, 2]) tt_ok Tryz.func70 rfl rfl Tryz.ntmps70 rfl ?_
  repeat (refine .run tt_ok ?_; conv => whnf)
  refine .pure (s_written s false hs) (.cons (clV_frz rfl) (.cons (.of (.cell (.ff rfl))) .nil)) ?_
  (conv => whnf); repeat (refine .run tt_ok ?_; conv => whnf)
  exact frzE rfl rfl
theorem s_apply0 (s : Str) : Ret P TT 52 [.agg (rule0 0), .str s] (.tup [.str [], .int .i64 163]) := by
  refine VCall.of_run (keep := [0, 1, 2, 4, 5, 6, 20, 26]) tt_ok Tryz.func52 rfl rfl Tryz.ntmps52 rfl ?_
  repeat (refine .run tt_ok ?_; conv => whnf)
  repeat' first | (refine Br.mk (fun h => absurd h (by decide)) (fun _ => ?_); (conv => whnf); repeat (refine .run tt_ok ?_; conv => whnf)) | (refine Br.mk (fun _ => ?_) (fun h => absurd h (by decide)); (conv => whnf); repeat (refine .run tt_ok ?_; conv => whnf)) | (refine Ob.mk (by first | decide | (simp [InI]; done) | (simp only [InI, maxB, maxS] at *; omega)) ?_; (conv => whnf); repeat (refine .run tt_ok ?_; conv => whnf)) | fail
  exact frzE rfl rfl
theorem s_apply2 (s : Str) (hs : 6 * s.length ≤ maxB) : Ret P TT 52 [.agg (rule0 2), .str s] (.tup [.str (escT false s), .int .i64 0]) := by
  refine VCall.of_run (keep := [0, 1, 2, 4, 5, 6, 20, 26]) tt_ok Tryz.func52 rfl rfl Tryz.ntmps52 rfl ?_
  repeat (refine .run tt_ok ?_; conv => whnf)
  repeat' first | (refine Br.mk (fun h => absurd h (by decide)) (fun _ => ?_); (conv => whnf); repeat (refine .run tt_ok ?_; conv => whnf)) | (refine Br.mk (fun _ => ?_) (fun h => absurd h (by decide)); (conv => whnf); repeat (refine .run tt_ok ?_; conv => whnf)) | (refine Ob.mk (by first | decide | (simp [InI]; done) | (simp only [InI, maxB, maxS] at *; omega)) ?_; (conv => whnf); repeat (refine .run tt_ok ?_; conv => whnf)) | (refine .calc (s_text s hs) rfl rfl ?_; (conv => whnf); repeat (refine .run tt_ok ?_; conv => whnf)) | fail
  exact frzE rfl rfl
theorem s_appliedNo (tw : Bool) (x : Fac) (i k : Int) (s : Str) (hi : i < 0 ∨ (x.ps.length : Int) ≤ i) : VCall P TT 28 [.box 0 0, .int .i64 i, .int .i64 k, .str s] (FH tw x 0) fun r mv H' => r = .tup [.str [], .int .i64 164] ∧ mv = [2] ∧ H' = FH tw x 0 := by
  refine VCall.of_run (keep := [0, 1, 2, 3, 8, 9, 10, 11, 22, 36]) tt_ok Tryz.func28 rfl rfl Tryz.ntmps28 rfl ?_
  repeat (refine .run tt_ok ?_; conv => whnf)
  refine ⟨fun h => ?_, fun h => ?_⟩
  · (conv => whnf); repeat (refine .run tt_ok ?_; conv => whnf)
    exact ⟨rfl, rfl, rfl⟩
  · (conv => whnf); repeat (refine .run tt_ok ?_; conv => whnf)
    refine ⟨fun h2 => ?_⟩
    (conv => whnf); repeat (refine .run tt_ok ?_; conv => whnf)
    refine ⟨fun h3 => ?_, fun h3 => ?_⟩
    · (conv => whnf); repeat (refine .run tt_ok ?_; conv => whnf)
      exact ⟨rfl, rfl, rfl⟩
    · exfalso
      simp at h h3
      omega
theorem s_applied (tw : Bool) (x : Fac) (i : Nat) (k kk : Int) (s t : Str) (e : Int) (p : TP) (hp : x.ps[i]? = some p) (hr : Ret P TT 51 [.agg (encTP p), .int .i64 k] (.tup [.agg (rule0 kk), .tt])) (ha : Ret P TT 52 [.agg (rule0 kk), .str s] (.tup [.str t, .int .i64 e])) : VCall P TT 28 [.box 0 0, .int .i64 i, .int .i64 k, .str s] (FH tw x 0) fun r mv H' => r = .tup [.str t, .int .i64 e] ∧ mv = [2] ∧ H' = FH tw x 0 := by
  have hlt : i < x.ps.length := (List.getElem?_eq_some_iff.1 hp).1
  refine .take 3 (Nat.le_refl _) ?_
  refine VCall.of_run (keep := [0, 1, 2, 3, 8, 9, 10, 11, 22, 36]) tt_ok Tryz.func28 rfl rfl Tryz.ntmps28 rfl ?_
  repeat (refine .run tt_ok ?_; conv => whnf)
  refine ⟨fun h => ?_, fun h => ?_⟩
  · simp at h; omega
  · (conv => whnf); repeat (refine .run tt_ok ?_; conv => whnf)
    refine ⟨fun h2 => ?_⟩
    (conv => whnf); repeat (refine .run tt_ok ?_; conv => whnf)
    refine ⟨fun h3 => ?_, fun h3 => ?_⟩
    · simp at h3; omega
    · (conv => whnf); repeat (refine .run tt_ok ?_; conv => whnf)
      refine ⟨⟨by omega, by omega⟩, ?_⟩
      (conv => whnf); repeat (refine .run tt_ok ?_; conv => whnf)
      refine ⟨fun p' => ⟨fun hx => ?_⟩⟩
      have hpp : p' = p := by
        simp at hx
        rw [hp] at hx
        exact (Option.some.inj hx).symm
      subst hpp
      (conv => whnf); repeat (refine .run tt_ok ?_; conv => whnf)
      refine .calc (hr) rfl rfl ?_
      (conv => whnf); repeat (refine .run tt_ok ?_; conv => whnf)
      refine .calc (ha) rfl rfl ?_
      (conv => whnf); repeat (refine .run tt_ok ?_; conv => whnf)
      exact ⟨rfl, tokFH tw x 0, rfl, rfl, rfl⟩
def afterMake (x : Fac) (k : Int) (t : Str) : Fac := { x with vals := x.vals ++ [(x.last + 1, .agg [.int .i64 k, .str t])], last := x.last + 1 }
theorem s_makeNo (tw : Bool) (x : Fac) (i k : Int) (s t : Str) (e : Int) (he : e ≠ 0) (ha : VCall P TT 28 [.box 0 0, .int .i64 i, .int .i64 k, .str s] (FH tw x 0) fun r mv H' => r = .tup [.str t, .int .i64 e] ∧ mv = [2] ∧ H' = FH tw x 0) : VCall P TT 17 [.box 0 0, .int .i64 i, .int .i64 k, .str s] (FH tw x 0) fun r mv H' => r = .tup [.int .i64 0, .int .i64 e] ∧ mv = [2] ∧ H' = FH tw x 0 := by
  refine VCall.of_run (keep := [0, 1, 2, 3, 8, 9, 10, 11, 12, 22]) tt_ok Tryz.func17 rfl rfl Tryz.ntmps17 rfl ?_
  repeat (refine .run tt_ok ?_; conv => whnf)
  refine ha.mono ?_
  rintro r mv H' ⟨rfl, rfl, rfl⟩
  (conv => whnf); repeat (refine .run tt_ok ?_; conv => whnf)
  refine ⟨fun h => ?_, fun h => ?_⟩
  · (conv => whnf); repeat (refine .run tt_ok ?_; conv => whnf)
    exact ⟨rfl, rfl, rfl⟩
  · exfalso
    simp at h
    exact he h
theorem s_make (tw : Bool) (x : Fac) (i k : Int) (s t : Str) (h0 : 0 ≤ x.last) (h1 : x.last < maxB) (hf : findI (x.last + 1) x.vals = none) (ha : VCall P TT 28 [.box 0 0, .int .i64 i, .int .i64 k, .str s] (FH tw x 0) fun r mv H' => r = .tup [.str t, .int .i64 0] ∧ mv = [2] ∧ H' = FH tw x 0) : VCall P TT 17 [.box 0 0, .int .i64 i, .int .i64 k, .str s] (FH tw x 0) fun r mv H' => r = .tup [.int .i64 (x.last + 1), .int .i64 0] ∧ mv = [2] ∧ H' = FH tw (afterMake x k t) 0 := by
  refine VCall.of_run (keep := [0, 1, 2, 3, 8, 9, 10, 11, 12, 22]) tt_ok Tryz.func17 rfl rfl Tryz.ntmps17 rfl ?_
  repeat (refine .run tt_ok ?_; conv => whnf)
  refine ha.mono ?_
  rintro r mv H' ⟨rfl, rfl, rfl⟩
  (conv => whnf); repeat (refine .run tt_ok ?_; conv => whnf)
  repeat' first | (refine Br.mk (fun h => absurd h (by decide)) (fun _ => ?_); (conv => whnf); repeat (refine .run tt_ok ?_; conv => whnf)) | (refine Br.mk (fun _ => ?_) (fun h => absurd h (by decide)); (conv => whnf); repeat (refine .run tt_ok ?_; conv => whnf)) | (refine Ob.mk (by first | decide | (simp [InI]; done) | (simp only [InI, maxB, maxS] at *; omega)) ?_; (conv => whnf); repeat (refine .run tt_ok ?_; conv => whnf)) | fail
  refine (s_i64add tw x h0 h1).mono ?_
  rintro r mv H' ⟨rfl, rfl, rfl⟩
  (conv => whnf); repeat (refine .run tt_ok ?_; conv => whnf)
  refine .putI m_type m_int rfl rfl rfl rfl rfl hf ?_
  (conv => whnf); repeat (refine .run tt_ok ?_; conv => whnf)
  exact ⟨rfl, rfl, rfl⟩
theorem s_tryNo (tw : Bool) (x : Fac) (k : Int) (s : Str) (hi : x.is = false) : VCall P TT 19 [.box 0 0, .int .i64 k, .str s] (FH tw x 0) fun r mv H' => r = .tup [.str [], .int .i64 164] ∧ mv = [2] ∧ H' = FH tw x 0 := by
  obtain ⟨ps, vals, last, done, is, df⟩ := x
  simp only at hi
  subst hi
  refine VCall.of_run (keep := [0, 1, 2, 6, 7, 12]) tt_ok Tryz.func19 rfl rfl Tryz.ntmps19 rfl ?_
  repeat (refine .run tt_ok ?_; conv => whnf)
  repeat' first | (refine Br.mk (fun h => absurd h (by decide)) (fun _ => ?_); (conv => whnf); repeat (refine .run tt_ok ?_; conv => whnf)) | (refine Br.mk (fun _ => ?_) (fun h => absurd h (by decide)); (conv => whnf); repeat (refine .run tt_ok ?_; conv => whnf)) | (refine Ob.mk (by first | decide | (simp [InI]; done) | (simp only [InI, maxB, maxS] at *; omega)) ?_; (conv => whnf); repeat (refine .run tt_ok ?_; conv => whnf)) | fail
  exact ⟨rfl, rfl, rfl⟩
end Go.V


