/-
  An own logic of abstract values and what is proved with it: the bench texts P8, P9.
-/
import Derived.Test.YtepgbdpkaogfcaaGreatDoorB2
import Derived.Test.YtepgbdpkaogfcaaGreatDoorA7
open Go Go.V Go.Proofs
namespace Go.V
set_option linter.unusedVariables false
set_option linter.unusedSimpArgs false
set_option maxRecDepth 100000
def hasN (n : Str) (ps : List TP) : Bool := ps.any fun q => decide (q.name = n)
theorem s_has (n : TP) (ps : List TP) : Ret P TT 11 [.slt false 36 encTP ps, .fn 12 [] [.rptr (encTP n) 0]] (.bool (hasN n.name ps)) :=
  s_containsCTP _ _ rfl _ ps fun q _ => s_named n q
theorem endC {r r' : AV} {mv : List Nat} {H' : Heap} {tw : Bool} {x : Fac} {mst : Int} (hr : scalarV r = true) (he : r = r') (hm : mv = [2]) (h : H'.take 3 = FH tw x mst) : scalarV r = true ∧ (H'.take 3).all (tokLtO 3) = true ∧ r = r' ∧ mv = [2] ∧ H'.take 3 = FH tw x mst :=
  ⟨hr, by rw [h]; exact tokFH _ _ _, he, hm, h⟩
theorem s_createName (tw : Bool) (x : Fac) (p : TP) (h3 : p.h ≠ 3) (hc : checkP p = 0) (hn : p.name = []) : VCall P TT 5 [.box 0 0, .agg (encTP p)] (FH tw x 0) fun r mv H' => r = .tup [.int .i64 0, .int .i64 160] ∧ mv = [2] ∧ H' = FH tw x 0 := by
  have hch := s_checkP p h3
  rw [hc] at hch
  have hlet : ∀ c, c ∈ p.name → isLetter c = true := by rw [hn]; simp
  cases tw
  · refine .take 3 (Nat.le_refl _) ?_
    refine VCall.of_run (keep := [0, 1, 2, 3, 4, 5, 6, 7, 8, 12, 20, 29, 73]) tt_ok Tryz.func5 rfl rfl Tryz.ntmps5 rfl ?_
    repeat (refine .run tt_ok ?_; conv => whnf)
    repeat' first | (refine Br.mk (fun h => absurd h (by decide)) (fun _ => ?_); (conv => whnf); repeat (refine .run tt_ok ?_; conv => whnf)) | (refine Br.mk (fun _ => ?_) (fun h => absurd h (by decide)); (conv => whnf); repeat (refine .run tt_ok ?_; conv => whnf)) | (refine Ob.mk (by first | decide | (simp [InI]; done) | (simp only [InI, maxB, maxS] at *; omega)) ?_; (conv => whnf); repeat (refine .run tt_ok ?_; conv => whnf)) | (refine .calc (hch) rfl rfl ?_; (conv => whnf); repeat (refine .run tt_ok ?_; conv => whnf)) | fail
    refine .lend (s_has p x.ps) (.cons (.of (.cell (.arr trivial rfl (by simp)))) (.cons (.of (.cell (.fn .nil (.cons (frzBox trivial rfl rfl) .nil)))) .nil)) rfl ?_
    (conv => whnf); repeat (refine .run tt_ok ?_; conv => whnf)
    refine .of 8 rfl tt_ok (by decide +kernel) ?_
    (conv => whnf)
    repeat' first | (refine ⟨_, by (conv => whnf); exact ⟨rfl, rfl⟩, ?_⟩; (conv => whnf); repeat (refine .run tt_ok ?_; conv => whnf)) | (refine ⟨_, by (conv => whnf); exact ⟨fun _ => ⟨rfl, rfl⟩⟩, ?_⟩; (conv => whnf); repeat (refine .run tt_ok ?_; conv => whnf)) | (refine ⟨_, by (conv => whnf); exact .calc (s_allows p.name (isB false) hlet (by simp [isB])) rfl rfl ⟨rfl, rfl, rfl⟩, ?_⟩; (conv => whnf); repeat (refine .run tt_ok ?_; conv => whnf)) | fail
    refine ⟨fun h4 => ?_, fun h4 => ?_⟩
    · (conv => whnf); repeat (refine .run tt_ok ?_; conv => whnf)
      exact ⟨rfl, tokFH _ x 0, rfl, rfl, rfl⟩
    · exfalso
      rw [hn] at h4
      simp at h4
  · refine .take 3 (Nat.le_refl _) ?_
    refine VCall.of_run (keep := [0, 1, 2, 3, 4, 5, 6, 7, 8, 12, 20, 29, 73]) tt_ok Tryz.func5 rfl rfl Tryz.ntmps5 rfl ?_
    repeat (refine .run tt_ok ?_; conv => whnf)
    repeat' first | (refine Br.mk (fun h => absurd h (by decide)) (fun _ => ?_); (conv => whnf); repeat (refine .run tt_ok ?_; conv => whnf)) | (refine Br.mk (fun _ => ?_) (fun h => absurd h (by decide)); (conv => whnf); repeat (refine .run tt_ok ?_; conv => whnf)) | (refine Ob.mk (by first | decide | (simp [InI]; done) | (simp only [InI, maxB, maxS] at *; omega)) ?_; (conv => whnf); repeat (refine .run tt_ok ?_; conv => whnf)) | (refine .calc (hch) rfl rfl ?_; (conv => whnf); repeat (refine .run tt_ok ?_; conv => whnf)) | fail
    refine .lend (s_has p x.ps) (.cons (.of (.cell (.arr trivial rfl (by simp)))) (.cons (.of (.cell (.fn .nil (.cons (frzBox trivial rfl rfl) .nil)))) .nil)) rfl ?_
    (conv => whnf); repeat (refine .run tt_ok ?_; conv => whnf)
    refine .of 8 rfl tt_ok (by decide +kernel) ?_
    (conv => whnf)
    repeat' first | (refine ⟨_, by (conv => whnf); exact ⟨rfl, rfl⟩, ?_⟩; (conv => whnf); repeat (refine .run tt_ok ?_; conv => whnf)) | (refine ⟨_, by (conv => whnf); exact ⟨fun _ => ⟨rfl, rfl⟩⟩, ?_⟩; (conv => whnf); repeat (refine .run tt_ok ?_; conv => whnf)) | (refine ⟨_, by (conv => whnf); exact .calc (s_allows p.name (isB true) hlet (by simp [isB])) rfl rfl ⟨rfl, rfl, rfl⟩, ?_⟩; (conv => whnf); repeat (refine .run tt_ok ?_; conv => whnf)) | fail
    refine ⟨fun h4 => ?_, fun h4 => ?_⟩
    · (conv => whnf); repeat (refine .run tt_ok ?_; conv => whnf)
      exact ⟨rfl, tokFH _ x 0, rfl, rfl, rfl⟩
    · exfalso
      rw [hn] at h4
      simp at h4
theorem s_createDup (tw : Bool) (x : Fac) (p : TP) (h3 : p.h ≠ 3) (hc : checkP p = 0) (hn : p.name ≠ []) (hlet : ∀ c, c ∈ p.name → isLetter c = true) (hh : hasN p.name x.ps = true) (hd : tw = false ∨ p.name = [100, 101, 102, 97, 117, 108, 116]) : VCall P TT 5 [.box 0 0, .agg (encTP p)] (FH tw x 0) fun r mv H' => r = .tup [.int .i64 0, .int .i64 161] ∧ mv = [2] ∧ H' = FH tw x 0 := by
  have hch := s_checkP p h3
  rw [hc] at hch
  cases tw
  · refine .take 3 (Nat.le_refl _) ?_
    refine VCall.of_run (keep := [0, 1, 2, 3, 4, 5, 6, 7, 8, 12, 20, 29, 73]) tt_ok Tryz.func5 rfl rfl Tryz.ntmps5 rfl ?_
    repeat (refine .run tt_ok ?_; conv => whnf)
    repeat' first | (refine Br.mk (fun h => absurd h (by decide)) (fun _ => ?_); (conv => whnf); repeat (refine .run tt_ok ?_; conv => whnf)) | (refine Br.mk (fun _ => ?_) (fun h => absurd h (by decide)); (conv => whnf); repeat (refine .run tt_ok ?_; conv => whnf)) | (refine Ob.mk (by first | decide | (simp [InI]; done) | (simp only [InI, maxB, maxS] at *; omega)) ?_; (conv => whnf); repeat (refine .run tt_ok ?_; conv => whnf)) | (refine .calc (hch) rfl rfl ?_; (conv => whnf); repeat (refine .run tt_ok ?_; conv => whnf)) | fail
    refine .lend (s_has p x.ps) (.cons (.of (.cell (.arr trivial rfl (by simp)))) (.cons (.of (.cell (.fn .nil (.cons (frzBox trivial rfl rfl) .nil)))) .nil)) rfl ?_
    (conv => whnf); repeat (refine .run tt_ok ?_; conv => whnf)
    refine .of 8 rfl tt_ok (by decide +kernel) ?_
    (conv => whnf)
    repeat' first | (refine ⟨_, by (conv => whnf); exact ⟨rfl, rfl⟩, ?_⟩; (conv => whnf); repeat (refine .run tt_ok ?_; conv => whnf)) | (refine ⟨_, by (conv => whnf); exact ⟨fun _ => ⟨rfl, rfl⟩⟩, ?_⟩; (conv => whnf); repeat (refine .run tt_ok ?_; conv => whnf)) | (refine ⟨_, by (conv => whnf); exact .calc (s_allows p.name (isB false) hlet (by simp [isB])) rfl rfl ⟨rfl, rfl, rfl⟩, ?_⟩; (conv => whnf); repeat (refine .run tt_ok ?_; conv => whnf)) | fail
    refine ⟨fun h4 => ?_, fun h4 => ?_⟩
    · exfalso
      simp [hn] at h4
    · (conv => whnf); repeat (refine .run tt_ok ?_; conv => whnf)
      apply Br.mk <;> intro h5 <;> (conv => whnf) <;> repeat (refine .run tt_ok ?_; conv => whnf)
      · first
          | exact ⟨rfl, tokFH _ x 0, rfl, rfl, rfl⟩
          | (apply Br.mk <;> intro h6 <;> (conv => whnf) <;> repeat (refine .run tt_ok ?_; conv => whnf)
             · exact ⟨rfl, tokFH _ x 0, rfl, rfl, rfl⟩
             · exfalso
               rcases hd with hd | hd
               · cases hd
               · simp [hd] at h6)
      · exfalso
        rw [hh] at h5
        cases h5
  · refine .take 3 (Nat.le_refl _) ?_
    refine VCall.of_run (keep := [0, 1, 2, 3, 4, 5, 6, 7, 8, 12, 20, 29, 73]) tt_ok Tryz.func5 rfl rfl Tryz.ntmps5 rfl ?_
    repeat (refine .run tt_ok ?_; conv => whnf)
    repeat' first | (refine Br.mk (fun h => absurd h (by decide)) (fun _ => ?_); (conv => whnf); repeat (refine .run tt_ok ?_; conv => whnf)) | (refine Br.mk (fun _ => ?_) (fun h => absurd h (by decide)); (conv => whnf); repeat (refine .run tt_ok ?_; conv => whnf)) | (refine Ob.mk (by first | decide | (simp [InI]; done) | (simp only [InI, maxB, maxS] at *; omega)) ?_; (conv => whnf); repeat (refine .run tt_ok ?_; conv => whnf)) | (refine .calc (hch) rfl rfl ?_; (conv => whnf); repeat (refine .run tt_ok ?_; conv => whnf)) | fail
    refine .lend (s_has p x.ps) (.cons (.of (.cell (.arr trivial rfl (by simp)))) (.cons (.of (.cell (.fn .nil (.cons (frzBox trivial rfl rfl) .nil)))) .nil)) rfl ?_
    (conv => whnf); repeat (refine .run tt_ok ?_; conv => whnf)
    refine .of 8 rfl tt_ok (by decide +kernel) ?_
    (conv => whnf)
    repeat' first | (refine ⟨_, by (conv => whnf); exact ⟨rfl, rfl⟩, ?_⟩; (conv => whnf); repeat (refine .run tt_ok ?_; conv => whnf)) | (refine ⟨_, by (conv => whnf); exact ⟨fun _ => ⟨rfl, rfl⟩⟩, ?_⟩; (conv => whnf); repeat (refine .run tt_ok ?_; conv => whnf)) | (refine ⟨_, by (conv => whnf); exact .calc (s_allows p.name (isB true) hlet (by simp [isB])) rfl rfl ⟨rfl, rfl, rfl⟩, ?_⟩; (conv => whnf); repeat (refine .run tt_ok ?_; conv => whnf)) | fail
    refine ⟨fun h4 => ?_, fun h4 => ?_⟩
    · exfalso
      simp [hn] at h4
    · (conv => whnf); repeat (refine .run tt_ok ?_; conv => whnf)
      apply Br.mk <;> intro h5 <;> (conv => whnf) <;> repeat (refine .run tt_ok ?_; conv => whnf)
      · first
          | exact ⟨rfl, tokFH _ x 0, rfl, rfl, rfl⟩
          | (apply Br.mk <;> intro h6 <;> (conv => whnf) <;> repeat (refine .run tt_ok ?_; conv => whnf)
             · exact ⟨rfl, tokFH _ x 0, rfl, rfl, rfl⟩
             · exfalso
               rcases hd with hd | hd
               · cases hd
               · simp [hd] at h6)
      · exfalso
        rw [hh] at h5
        cases h5
theorem s_createNew (tw : Bool) (x : Fac) (p : TP) (h3 : p.h ≠ 3) (hc : checkP p = 0) (hn : p.name ≠ []) (hlet : ∀ c, c ∈ p.name → isLetter c = true) (hh : hasN p.name x.ps = false ∨ tw = true) (hd : p.name ≠ [100, 101, 102, 97, 117, 108, 116]) (hl : x.ps.length < 1000) : VCall P TT 5 [.box 0 0, .agg (encTP p)] (FH tw x 0) fun r mv H' => r = .tup [.int .i64 x.ps.length, .int .i64 0] ∧ mv = [2] ∧ H' = FH tw { x with ps := x.ps ++ [p] } 0 := by
  have hch := s_checkP p h3
  rw [hc] at hch
  obtain ⟨ps, vals, last, done, is, df⟩ := x
  cases is
  · cases tw
    · refine .take 3 (Nat.le_refl _) ?_
      refine VCall.of_run (keep := [0, 1, 2, 3, 4, 5, 6, 7, 8, 12, 20, 29, 73]) tt_ok Tryz.func5 rfl rfl Tryz.ntmps5 rfl ?_
      repeat (refine .run tt_ok ?_; conv => whnf)
      repeat' first | (refine Br.mk (fun h => absurd h (by decide)) (fun _ => ?_); (conv => whnf); repeat (refine .run tt_ok ?_; conv => whnf)) | (refine Br.mk (fun _ => ?_) (fun h => absurd h (by decide)); (conv => whnf); repeat (refine .run tt_ok ?_; conv => whnf)) | (refine Ob.mk (by first | decide | (simp [InI]; done) | (simp only [InI, maxB, maxS] at *; omega)) ?_; (conv => whnf); repeat (refine .run tt_ok ?_; conv => whnf)) | (refine .calc (hch) rfl rfl ?_; (conv => whnf); repeat (refine .run tt_ok ?_; conv => whnf)) | fail
      refine .lend (s_has p ps) (.cons (.of (.cell (.arr trivial rfl (by simp)))) (.cons (.of (.cell (.fn .nil (.cons (frzBox trivial rfl rfl) .nil)))) .nil)) rfl ?_
      (conv => whnf); repeat (refine .run tt_ok ?_; conv => whnf)
      refine .of 8 rfl tt_ok (by decide +kernel) ?_
      (conv => whnf)
      repeat' first | (refine ⟨_, by (conv => whnf); exact ⟨rfl, rfl⟩, ?_⟩; (conv => whnf); repeat (refine .run tt_ok ?_; conv => whnf)) | (refine ⟨_, by (conv => whnf); exact ⟨fun _ => ⟨rfl, rfl⟩⟩, ?_⟩; (conv => whnf); repeat (refine .run tt_ok ?_; conv => whnf)) | (refine ⟨_, by (conv => whnf); exact .calc (s_allows p.name (isB false) hlet (by simp [isB])) rfl rfl ⟨rfl, rfl, rfl⟩, ?_⟩; (conv => whnf); repeat (refine .run tt_ok ?_; conv => whnf)) | fail
      refine ⟨fun h4 => ?_, fun h4 => ?_⟩
      · exfalso
        simp [hn] at h4
      · (conv => whnf); repeat (refine .run tt_ok ?_; conv => whnf)
        repeat' (apply Br.mk <;> intro h5 <;> (conv => whnf) <;> repeat (refine .run tt_ok ?_; conv => whnf))
        all_goals first | (exfalso; simp_all; done) | skip
        all_goals (refine ⟨fun h6 => ?_⟩; (conv => whnf); repeat (refine .run tt_ok ?_; conv => whnf))
        all_goals (refine .of 10 rfl tt_ok (by decide +kernel) ?_)
        all_goals (conv => whnf)
        all_goals (repeat' first | (refine ⟨_, by (conv => whnf); exact ⟨rfl, rfl⟩, ?_⟩; (conv => whnf); repeat (refine .run tt_ok ?_; conv => whnf)) | (refine ⟨_, by (conv => whnf); exact .calc (s_ruled0 _) rfl rfl ⟨rfl, rfl, rfl⟩, ?_⟩; (conv => whnf); repeat (refine .run tt_ok ?_; conv => whnf)) | fail)
        all_goals (refine .ofL 0 7 1 (B1 := 5) (.box 0 0) rfl rfl tt_ok (by decide +kernel) (by simp [FH]) rfl (by (conv => whnf); exact ⟨rfl, rfl⟩) ?_)
        all_goals (conv => whnf)
        all_goals (repeat' first | (refine ⟨_, by (conv => whnf); exact ⟨rfl, rfl⟩, ?_⟩; (conv => whnf)) | fail)
        all_goals (refine ⟨.slt false 36 encTP [p], by (conv => whnf); exact .bslt encTP [p] hc_TP tt_ok rfl rfl rfl rfl rfl rfl, ?_⟩)
        all_goals (conv => whnf)
        all_goals (refine ⟨?_, ?_⟩)
        all_goals first
          | (intro d0 hd0; cases hd0; (conv => whnf); refine ⟨⟨by (conv => whnf); exact ⟨rfl, rfl⟩, ?_⟩, ?_⟩)
          | skip
        all_goals (conv => whnf)
        all_goals (refine ⟨[p], rfl, ⟨⟨by simp only [maxB, List.length_singleton] at hl ⊢; omega, by simp only [maxB, List.length_singleton] at hl ⊢; omega⟩, ?_⟩⟩)
        all_goals (conv => whnf)
        all_goals first
          | (refine ⟨by (conv => whnf); exact ⟨rfl, rfl⟩, ?_⟩; (conv => whnf))
          | skip
        all_goals (repeat (refine .run tt_ok ?_; conv => whnf))
        all_goals (apply Br.mk <;> intro h8 <;> (conv => whnf) <;> repeat (refine .run tt_ok ?_; conv => whnf))
        all_goals first
          | (exfalso; simp [hd] at h8; done)
          | skip
        all_goals (refine endC rfl rfl rfl ?_)
        all_goals (simp [FH, facC, hset, isB]; done)
    · refine .take 3 (Nat.le_refl _) ?_
      refine VCall.of_run (keep := [0, 1, 2, 3, 4, 5, 6, 7, 8, 12, 20, 29, 73]) tt_ok Tryz.func5 rfl rfl Tryz.ntmps5 rfl ?_
      repeat (refine .run tt_ok ?_; conv => whnf)
      repeat' first | (refine Br.mk (fun h => absurd h (by decide)) (fun _ => ?_); (conv => whnf); repeat (refine .run tt_ok ?_; conv => whnf)) | (refine Br.mk (fun _ => ?_) (fun h => absurd h (by decide)); (conv => whnf); repeat (refine .run tt_ok ?_; conv => whnf)) | (refine Ob.mk (by first | decide | (simp [InI]; done) | (simp only [InI, maxB, maxS] at *; omega)) ?_; (conv => whnf); repeat (refine .run tt_ok ?_; conv => whnf)) | (refine .calc (hch) rfl rfl ?_; (conv => whnf); repeat (refine .run tt_ok ?_; conv => whnf)) | fail
      refine .lend (s_has p ps) (.cons (.of (.cell (.arr trivial rfl (by simp)))) (.cons (.of (.cell (.fn .nil (.cons (frzBox trivial rfl rfl) .nil)))) .nil)) rfl ?_
      (conv => whnf); repeat (refine .run tt_ok ?_; conv => whnf)
      refine .of 8 rfl tt_ok (by decide +kernel) ?_
      (conv => whnf)
      repeat' first | (refine ⟨_, by (conv => whnf); exact ⟨rfl, rfl⟩, ?_⟩; (conv => whnf); repeat (refine .run tt_ok ?_; conv => whnf)) | (refine ⟨_, by (conv => whnf); exact ⟨fun _ => ⟨rfl, rfl⟩⟩, ?_⟩; (conv => whnf); repeat (refine .run tt_ok ?_; conv => whnf)) | (refine ⟨_, by (conv => whnf); exact .calc (s_allows p.name (isB true) hlet (by simp [isB])) rfl rfl ⟨rfl, rfl, rfl⟩, ?_⟩; (conv => whnf); repeat (refine .run tt_ok ?_; conv => whnf)) | fail
      refine ⟨fun h4 => ?_, fun h4 => ?_⟩
      · exfalso
        simp [hn] at h4
      · (conv => whnf); repeat (refine .run tt_ok ?_; conv => whnf)
        repeat' (apply Br.mk <;> intro h5 <;> (conv => whnf) <;> repeat (refine .run tt_ok ?_; conv => whnf))
        all_goals first | (exfalso; simp_all; done) | skip
        all_goals (refine ⟨fun h6 => ?_⟩; (conv => whnf); repeat (refine .run tt_ok ?_; conv => whnf))
        all_goals (refine .of 10 rfl tt_ok (by decide +kernel) ?_)
        all_goals (conv => whnf)
        all_goals (repeat' first | (refine ⟨_, by (conv => whnf); exact ⟨rfl, rfl⟩, ?_⟩; (conv => whnf); repeat (refine .run tt_ok ?_; conv => whnf)) | (refine ⟨_, by (conv => whnf); exact .calc (s_ruled0 _) rfl rfl ⟨rfl, rfl, rfl⟩, ?_⟩; (conv => whnf); repeat (refine .run tt_ok ?_; conv => whnf)) | fail)
        all_goals (refine .ofL 0 7 1 (B1 := 5) (.box 0 0) rfl rfl tt_ok (by decide +kernel) (by simp [FH]) rfl (by (conv => whnf); exact ⟨rfl, rfl⟩) ?_)
        all_goals (conv => whnf)
        all_goals (repeat' first | (refine ⟨_, by (conv => whnf); exact ⟨rfl, rfl⟩, ?_⟩; (conv => whnf)) | fail)
        all_goals (refine ⟨.slt false 36 encTP [p], by (conv => whnf); exact .bslt encTP [p] hc_TP tt_ok rfl rfl rfl rfl rfl rfl, ?_⟩)
        all_goals (conv => whnf)
        all_goals (refine ⟨?_, ?_⟩)
        all_goals first
          | (intro d0 hd0; cases hd0; (conv => whnf); refine ⟨⟨by (conv => whnf); exact ⟨rfl, rfl⟩, ?_⟩, ?_⟩)
          | skip
        all_goals (conv => whnf)
        all_goals (refine ⟨[p], rfl, ⟨⟨by simp only [maxB, List.length_singleton] at hl ⊢; omega, by simp only [maxB, List.length_singleton] at hl ⊢; omega⟩, ?_⟩⟩)
        all_goals (conv => whnf)
        all_goals first
          | (refine ⟨by (conv => whnf); exact ⟨rfl, rfl⟩, ?_⟩; (conv => whnf))
          | skip
        all_goals (repeat (refine .run tt_ok ?_; conv => whnf))
        all_goals (apply Br.mk <;> intro h8 <;> (conv => whnf) <;> repeat (refine .run tt_ok ?_; conv => whnf))
        all_goals first
          | (exfalso; simp [hd] at h8; done)
          | skip
        all_goals (refine endC rfl rfl rfl ?_)
        all_goals (simp [FH, facC, hset, isB]; done)
  · cases tw
    · refine .take 3 (Nat.le_refl _) ?_
      refine VCall.of_run (keep := [0, 1, 2, 3, 4, 5, 6, 7, 8, 12, 20, 29, 73]) tt_ok Tryz.func5 rfl rfl Tryz.ntmps5 rfl ?_
      repeat (refine .run tt_ok ?_; conv => whnf)
      repeat' first | (refine Br.mk (fun h => absurd h (by decide)) (fun _ => ?_); (conv => whnf); repeat (refine .run tt_ok ?_; conv => whnf)) | (refine Br.mk (fun _ => ?_) (fun h => absurd h (by decide)); (conv => whnf); repeat (refine .run tt_ok ?_; conv => whnf)) | (refine Ob.mk (by first | decide | (simp [InI]; done) | (simp only [InI, maxB, maxS] at *; omega)) ?_; (conv => whnf); repeat (refine .run tt_ok ?_; conv => whnf)) | (refine .calc (hch) rfl rfl ?_; (conv => whnf); repeat (refine .run tt_ok ?_; conv => whnf)) | fail
      refine .lend (s_has p ps) (.cons (.of (.cell (.arr trivial rfl (by simp)))) (.cons (.of (.cell (.fn .nil (.cons (frzBox trivial rfl rfl) .nil)))) .nil)) rfl ?_
      (conv => whnf); repeat (refine .run tt_ok ?_; conv => whnf)
      refine .of 8 rfl tt_ok (by decide +kernel) ?_
      (conv => whnf)
      repeat' first | (refine ⟨_, by (conv => whnf); exact ⟨rfl, rfl⟩, ?_⟩; (conv => whnf); repeat (refine .run tt_ok ?_; conv => whnf)) | (refine ⟨_, by (conv => whnf); exact ⟨fun _ => ⟨rfl, rfl⟩⟩, ?_⟩; (conv => whnf); repeat (refine .run tt_ok ?_; conv => whnf)) | (refine ⟨_, by (conv => whnf); exact .calc (s_allows p.name (isB false) hlet (by simp [isB])) rfl rfl ⟨rfl, rfl, rfl⟩, ?_⟩; (conv => whnf); repeat (refine .run tt_ok ?_; conv => whnf)) | fail
      refine ⟨fun h4 => ?_, fun h4 => ?_⟩
      · exfalso
        simp [hn] at h4
      · (conv => whnf); repeat (refine .run tt_ok ?_; conv => whnf)
        repeat' (apply Br.mk <;> intro h5 <;> (conv => whnf) <;> repeat (refine .run tt_ok ?_; conv => whnf))
        all_goals first | (exfalso; simp_all; done) | skip
        all_goals (refine ⟨fun h6 => ?_⟩; (conv => whnf); repeat (refine .run tt_ok ?_; conv => whnf))
        all_goals (refine .of 10 rfl tt_ok (by decide +kernel) ?_)
        all_goals (conv => whnf)
        all_goals (repeat' first | (refine ⟨_, by (conv => whnf); exact ⟨rfl, rfl⟩, ?_⟩; (conv => whnf); repeat (refine .run tt_ok ?_; conv => whnf)) | (refine ⟨_, by (conv => whnf); exact .calc (s_ruled0 _) rfl rfl ⟨rfl, rfl, rfl⟩, ?_⟩; (conv => whnf); repeat (refine .run tt_ok ?_; conv => whnf)) | fail)
        all_goals (refine .ofL 0 7 1 (B1 := 5) (.box 0 0) rfl rfl tt_ok (by decide +kernel) (by simp [FH]) rfl (by (conv => whnf); exact ⟨rfl, rfl⟩) ?_)
        all_goals (conv => whnf)
        all_goals (repeat' first | (refine ⟨_, by (conv => whnf); exact ⟨rfl, rfl⟩, ?_⟩; (conv => whnf)) | fail)
        all_goals (refine ⟨.slt false 36 encTP [p], by (conv => whnf); exact .bslt encTP [p] hc_TP tt_ok rfl rfl rfl rfl rfl rfl, ?_⟩)
        all_goals (conv => whnf)
        all_goals (refine ⟨?_, ?_⟩)
        all_goals first
          | (intro d0 hd0; cases hd0; (conv => whnf); refine ⟨⟨by (conv => whnf); exact ⟨rfl, rfl⟩, ?_⟩, ?_⟩)
          | skip
        all_goals (conv => whnf)
        all_goals (refine ⟨[p], rfl, ⟨⟨by simp only [maxB, List.length_singleton] at hl ⊢; omega, by simp only [maxB, List.length_singleton] at hl ⊢; omega⟩, ?_⟩⟩)
        all_goals (conv => whnf)
        all_goals first
          | (refine ⟨by (conv => whnf); exact ⟨rfl, rfl⟩, ?_⟩; (conv => whnf))
          | skip
        all_goals (repeat (refine .run tt_ok ?_; conv => whnf))
        all_goals (apply Br.mk <;> intro h8 <;> (conv => whnf) <;> repeat (refine .run tt_ok ?_; conv => whnf))
        all_goals first
          | (exfalso; simp [hd] at h8; done)
          | skip
        all_goals (refine endC rfl rfl rfl ?_)
        all_goals (simp [FH, facC, hset, isB]; done)
    · refine .take 3 (Nat.le_refl _) ?_
      refine VCall.of_run (keep := [0, 1, 2, 3, 4, 5, 6, 7, 8, 12, 20, 29, 73]) tt_ok Tryz.func5 rfl rfl Tryz.ntmps5 rfl ?_
      repeat (refine .run tt_ok ?_; conv => whnf)
      repeat' first | (refine Br.mk (fun h => absurd h (by decide)) (fun _ => ?_); (conv => whnf); repeat (refine .run tt_ok ?_; conv => whnf)) | (refine Br.mk (fun _ => ?_) (fun h => absurd h (by decide)); (conv => whnf); repeat (refine .run tt_ok ?_; conv => whnf)) | (refine Ob.mk (by first | decide | (simp [InI]; done) | (simp only [InI, maxB, maxS] at *; omega)) ?_; (conv => whnf); repeat (refine .run tt_ok ?_; conv => whnf)) | (refine .calc (hch) rfl rfl ?_; (conv => whnf); repeat (refine .run tt_ok ?_; conv => whnf)) | fail
      refine .lend (s_has p ps) (.cons (.of (.cell (.arr trivial rfl (by simp)))) (.cons (.of (.cell (.fn .nil (.cons (frzBox trivial rfl rfl) .nil)))) .nil)) rfl ?_
      (conv => whnf); repeat (refine .run tt_ok ?_; conv => whnf)
      refine .of 8 rfl tt_ok (by decide +kernel) ?_
      (conv => whnf)
      repeat' first | (refine ⟨_, by (conv => whnf); exact ⟨rfl, rfl⟩, ?_⟩; (conv => whnf); repeat (refine .run tt_ok ?_; conv => whnf)) | (refine ⟨_, by (conv => whnf); exact ⟨fun _ => ⟨rfl, rfl⟩⟩, ?_⟩; (conv => whnf); repeat (refine .run tt_ok ?_; conv => whnf)) | (refine ⟨_, by (conv => whnf); exact .calc (s_allows p.name (isB true) hlet (by simp [isB])) rfl rfl ⟨rfl, rfl, rfl⟩, ?_⟩; (conv => whnf); repeat (refine .run tt_ok ?_; conv => whnf)) | fail
      refine ⟨fun h4 => ?_, fun h4 => ?_⟩
      · exfalso
        simp [hn] at h4
      · (conv => whnf); repeat (refine .run tt_ok ?_; conv => whnf)
        repeat' (apply Br.mk <;> intro h5 <;> (conv => whnf) <;> repeat (refine .run tt_ok ?_; conv => whnf))
        all_goals first | (exfalso; simp_all; done) | skip
        all_goals (refine ⟨fun h6 => ?_⟩; (conv => whnf); repeat (refine .run tt_ok ?_; conv => whnf))
        all_goals (refine .of 10 rfl tt_ok (by decide +kernel) ?_)
        all_goals (conv => whnf)
        all_goals (repeat' first | (refine ⟨_, by (conv => whnf); exact ⟨rfl, rfl⟩, ?_⟩; (conv => whnf); repeat (refine .run tt_ok ?_; conv => whnf)) | (refine ⟨_, by (conv => whnf); exact .calc (s_ruled0 _) rfl rfl ⟨rfl, rfl, rfl⟩, ?_⟩; (conv => whnf); repeat (refine .run tt_ok ?_; conv => whnf)) | fail)
        all_goals (refine .ofL 0 7 1 (B1 := 5) (.box 0 0) rfl rfl tt_ok (by decide +kernel) (by simp [FH]) rfl (by (conv => whnf); exact ⟨rfl, rfl⟩) ?_)
        all_goals (conv => whnf)
        all_goals (repeat' first | (refine ⟨_, by (conv => whnf); exact ⟨rfl, rfl⟩, ?_⟩; (conv => whnf)) | fail)
        all_goals (refine ⟨.slt false 36 encTP [p], by (conv => whnf); exact .bslt encTP [p] hc_TP tt_ok rfl rfl rfl rfl rfl rfl, ?_⟩)
        all_goals (conv => whnf)
        all_goals (refine ⟨?_, ?_⟩)
        all_goals first
          | (intro d0 hd0; cases hd0; (conv => whnf); refine ⟨⟨by (conv => whnf); exact ⟨rfl, rfl⟩, ?_⟩, ?_⟩)
          | skip
        all_goals (conv => whnf)
        all_goals (refine ⟨[p], rfl, ⟨⟨by simp only [maxB, List.length_singleton] at hl ⊢; omega, by simp only [maxB, List.length_singleton] at hl ⊢; omega⟩, ?_⟩⟩)
        all_goals (conv => whnf)
        all_goals first
          | (refine ⟨by (conv => whnf); exact ⟨rfl, rfl⟩, ?_⟩; (conv => whnf))
          | skip
        all_goals (repeat (refine .run tt_ok ?_; conv => whnf))
        all_goals (apply Br.mk <;> intro h8 <;> (conv => whnf) <;> repeat (refine .run tt_ok ?_; conv => whnf))
        all_goals first
          | (exfalso; simp [hd] at h8; done)
          | skip
        all_goals (refine endC rfl rfl rfl ?_)
        all_goals (simp [FH, facC, hset, isB]; done)
end Go.V



open Go Go.V Go.Proofs
namespace Go.V
set_option linter.unusedVariables false
set_option linter.unusedSimpArgs false
set_option maxRecDepth 100000
/-! ### sync.Once, at cell 8 of the first object -/
def HO (tw : Bool) (x : Fac) (p : TP) (nn : Nat) (ms : Int) : Heap := FH tw x ms ++ [.box 22 [.box 0 0], .box 36 (encTP p), .box 3 [.int .i64 nn]]
theorem s_bload (tw : Bool) (x : Fac) (p : TP) (nn : Nat) (ms : Int) : VCall P TT 26 [.box 0 8] (HO tw x p nn ms) fun r mv H' => r = .bool (!(decide (x.done = 0))) ∧ mv = [2] ∧ H' = HO tw x p nn ms := by
  refine VCall.of_run (keep := [0, 2]) tt_ok Tryz.func26 rfl rfl Tryz.ntmps26 rfl ?_
  repeat (refine .run tt_ok ?_; conv => whnf)
  refine .aload Tryz.func47 (by kernel_rfl) (by kernel_rfl) (by kernel_rfl) (by kernel_rfl) rfl rfl ?_
  (conv => whnf); repeat (refine .run tt_ok ?_; conv => whnf)
  exact ⟨rfl, rfl, rfl⟩
theorem mu_ptr : P.underlying 127 = some (.pointer 55) := by kernel_rfl
noncomputable def mu_info : TypeInfo := (P.info? 55).get!
theorem mu_info_ok : P.info? 55 = some mu_info := by kernel_rfl
theorem mu_size : mu_info.size = 2 := by kernel_rfl
theorem s_lock0 (tw : Bool) (x : Fac) (p : TP) (nn : Nat) : VCall P TT 66 [.box 0 9] (HO tw x p nn 0) fun r mv H' => r = .tup [] ∧ mv = [2] ∧ H' = HO tw x p nn 1 := by
  refine VCall.of_run (keep := [0, 6]) tt_ok Tryz.func66 rfl rfl Tryz.ntmps66 rfl ?_
  repeat (refine .run tt_ok ?_; conv => whnf)
  refine .mark0 Tryz.func80 (by kernel_rfl) (by kernel_rfl) (by kernel_rfl) .disable (by kernel_rfl) ?_
  (conv => whnf); repeat (refine .run tt_ok ?_; conv => whnf)
  refine .acas Tryz.func81 (by kernel_rfl) (by kernel_rfl) (by kernel_rfl) (by kernel_rfl) rfl rfl ?_
  (conv => whnf); repeat (refine .run tt_ok ?_; conv => whnf)
  refine .mark0 Tryz.func82 (by kernel_rfl) (by kernel_rfl) (by kernel_rfl) .enable (by kernel_rfl) ?_
  (conv => whnf); repeat (refine .run tt_ok ?_; conv => whnf)
  refine .toU (cs := facC (isB tw) (.own 2 0 x.ps.length) 1 x.last x.done 1 (isB x.is) x.df) (t := 61) mu_ptr b_unsafe mu_info_ok (by rw [mu_size]; decide) rfl rfl (by simp [facC]) ?_
  (conv => whnf); repeat (refine .run tt_ok ?_; conv => whnf)
  refine .marked Tryz.func83 (by kernel_rfl) (by kernel_rfl) (by kernel_rfl) .acquire (by kernel_rfl) ?_
  (conv => whnf); repeat (refine .run tt_ok ?_; conv => whnf)
  exact ⟨rfl, rfl, rfl⟩
theorem s_lock (tw : Bool) (x : Fac) (p : TP) (nn : Nat) : VCall P TT 48 [.box 0 9] (HO tw x p nn 0) fun r mv H' => r = .tup [] ∧ mv = [2] ∧ H' = HO tw x p nn 1 := by
  refine VCall.of_run (keep := [0]) tt_ok Tryz.func48 rfl rfl Tryz.ntmps48 rfl ?_
  repeat (refine .run tt_ok ?_; conv => whnf)
  refine (s_lock0 tw x p nn).mono ?_
  rintro r mv H' ⟨rfl, rfl, rfl⟩
  (conv => whnf); repeat (refine .run tt_ok ?_; conv => whnf)
  exact ⟨rfl, rfl, rfl⟩
theorem s_unlock0 (tw : Bool) (x : Fac) (p : TP) (nn : Nat) : VCall P TT 67 [.box 0 9] (HO tw x p nn 1) fun r mv H' => r = .tup [] ∧ mv = [2] ∧ H' = HO tw x p nn 0 := by
  refine VCall.of_run (keep := [0, 2, 16]) tt_ok Tryz.func67 rfl rfl Tryz.ntmps67 rfl ?_
  repeat (refine .run tt_ok ?_; conv => whnf)
  refine .toU (cs := facC (isB tw) (.own 2 0 x.ps.length) 1 x.last x.done 1 (isB x.is) x.df) (t := 61) mu_ptr b_unsafe mu_info_ok (by rw [mu_size]; decide) rfl rfl (by simp [facC]) ?_
  (conv => whnf); repeat (refine .run tt_ok ?_; conv => whnf)
  refine .marked Tryz.func85 (by kernel_rfl) (by kernel_rfl) (by kernel_rfl) .releaseMerge (by kernel_rfl) ?_
  (conv => whnf); repeat (refine .run tt_ok ?_; conv => whnf)
  refine .mark0 Tryz.func80 (by kernel_rfl) (by kernel_rfl) (by kernel_rfl) .disable (by kernel_rfl) ?_
  (conv => whnf); repeat (refine .run tt_ok ?_; conv => whnf)
  refine .aadd (s := 0) Tryz.func86 (by kernel_rfl) (by kernel_rfl) (by kernel_rfl) (by kernel_rfl) (fun w => by kernel_rfl) rfl rfl ?_
  (conv => whnf); repeat (refine .run tt_ok ?_; conv => whnf)
  repeat' first | (refine Br.mk (fun h => absurd h (by decide)) (fun _ => ?_); (conv => whnf); repeat (refine .run tt_ok ?_; conv => whnf)) | (refine Br.mk (fun _ => ?_) (fun h => absurd h (by decide)); (conv => whnf); repeat (refine .run tt_ok ?_; conv => whnf)) | (refine Ob.mk (by first | decide | (simp [InI]; done) | (simp only [InI, maxB, maxS] at *; omega)) ?_; (conv => whnf); repeat (refine .run tt_ok ?_; conv => whnf)) | fail
  refine .mark0 Tryz.func82 (by kernel_rfl) (by kernel_rfl) (by kernel_rfl) .enable (by kernel_rfl) ?_
  (conv => whnf); repeat (refine .run tt_ok ?_; conv => whnf)
  exact ⟨rfl, rfl, rfl⟩
theorem d_unlock (tw : Bool) (x : Fac) (p : TP) (nn : Nat) : DCall P TT 49 [.box 0 9] (HO tw x p nn 1) fun H' => H' = HO tw x p nn 0 := by
  refine DCall.of_run (keep := [0]) tt_ok Tryz.func49 rfl Tryz.ntmps49 rfl ?_
  repeat (refine .run tt_ok ?_; conv => whnf)
  refine (s_unlock0 tw x p nn).mono ?_
  rintro r mv H' ⟨rfl, rfl, rfl⟩
  (conv => whnf); repeat (refine .run tt_ok ?_; conv => whnf)
theorem s_b32 : Ret P TT 69 [.tt] (.int .u32 1) := by
  refine VCall.of_run (keep := [0, 2, 3]) tt_ok Tryz.func69 rfl rfl Tryz.ntmps69 rfl ?_
  repeat (refine .run tt_ok ?_; conv => whnf)
  exact frzE rfl rfl
theorem d_store (tw : Bool) (x : Fac) (p : TP) (nn : Nat) : DCall P TT 50 [.box 0 8, .tt] (HO tw x p nn 1) fun H' => H' = HO tw { x with done := 1 } p nn 1 := by
  refine DCall.of_run (keep := [0]) tt_ok Tryz.func50 rfl Tryz.ntmps50 rfl ?_
  repeat (refine .run tt_ok ?_; conv => whnf)
  refine .of 5 rfl tt_ok (by decide +kernel) ?_
  (conv => whnf)
  repeat' first | (refine ⟨_, by (conv => whnf); exact ⟨rfl, rfl⟩, ?_⟩; (conv => whnf); repeat (refine .run tt_ok ?_; conv => whnf)) | (refine ⟨_, by (conv => whnf); exact ⟨fun _ => ⟨rfl, rfl⟩⟩, ?_⟩; (conv => whnf); repeat (refine .run tt_ok ?_; conv => whnf)) | (refine ⟨_, by (conv => whnf); exact .calc (s_b32) rfl rfl ⟨rfl, rfl, rfl⟩, ?_⟩; (conv => whnf); repeat (refine .run tt_ok ?_; conv => whnf)) | fail
  refine .astore (x := x.done) Tryz.func68 (by kernel_rfl) (by kernel_rfl) (by kernel_rfl) (by kernel_rfl) rfl rfl ?_
  (conv => whnf); repeat (refine .run tt_ok ?_; conv => whnf)
  rfl
theorem s_set (x : Fac) (p : TP) (nn : Nat) (hi : x.is = false) : VCall P TT 16 [.box 5 0, .box 3 0] (HO true x p nn 1) fun r mv H' => r = .tup [] ∧ mv = [2] ∧ H' = HO true { x with df := nn, is := true } p nn 1 := by
  obtain ⟨ps, vals, last, done, is, df⟩ := x
  simp only at hi
  subst hi
  refine VCall.of_run (keep := [0, 1]) tt_ok Tryz.func16 rfl rfl Tryz.ntmps16 rfl ?_
  repeat (refine .run tt_ok ?_; conv => whnf)
  refine .ofL 1 5 1 (B1 := 6) (.box 0 0) rfl rfl tt_ok (by decide +kernel) (by simp [HO, FH]) rfl (by (conv => whnf); exact ⟨rfl, rfl⟩) ?_
  (conv => whnf)
  repeat' first | (refine ⟨_, by (conv => whnf); exact ⟨rfl, rfl⟩, ?_⟩; (conv => whnf)) | fail
  refine ⟨?_, ?_⟩
  · (conv => whnf)
    exact ⟨rfl, rfl, rfl⟩
  · intro d0 hd0
    cases hd0
    (conv => whnf)
    refine ⟨⟨by (conv => whnf); exact ⟨rfl, rfl⟩, ?_⟩, ?_⟩
    · (conv => whnf)
      exact ⟨rfl, rfl, rfl⟩
    · (conv => whnf)
      refine ⟨by (conv => whnf); exact ⟨rfl, rfl⟩, ?_⟩
      (conv => whnf)
      exact ⟨rfl, rfl, rfl⟩
theorem s_doSlow (x : Fac) (p : TP) (nn : Nat) (hd : x.done = 0) (hi : x.is = false) : VCall P TT 27 [.box 0 8, .fn 16 [] [.box 5 0, .box 3 0]] (HO true x p nn 0) fun r mv H' => r = .tup [] ∧ mv = [2] ∧ H' = HO true { x with df := nn, is := true, done := 1 } p nn 0 := by
  constructor
  intro w ρ vs hH hv
  unfold ExecF
  have hrun : (callFunc 27 vs.toArray).run P w = .ok (.enter 27 vs.toArray) w := by
    have hn : (Tryz.f27.name == "runtime.NumGoroutine") = false := by kernel_rfl
    have hn' : ¬ Tryz.f27.name = "runtime.NumGoroutine" := by simpa using hn
    obtain ⟨c, hc⟩ : ∃ c, Tryz.f27.body = some c := ⟨_, rfl⟩
    simp [callFunc, Tryz.func27, hn', hc]
  rw [hrun]
  simp only
  refine calls_of_wp_defers Tryz.func27 rfl ?_
  have hS := st_args (nt := 21) hH hv (by decide)
  rw [show Tryz.f27.ntmps = 21 from Tryz.ntmps27]
  have hFn : AV := .fn 16 [] [.box 5 0, .box 3 0]
  refine stepRun (B := 6) (keep := [0, 1]) (E := [(0, .box 0 8), (1, .fn 16 [] [.box 5 0, .box 3 0])]) (H1 := HO true x p nn 1) ?_ hS fun a1 w1 ρ1 d1 S1 t1 => ?_
  · repeat (refine .run tt_ok ?_; conv => whnf)
    refine (s_lock true x p nn).mono ?_
    rintro r mv H' ⟨rfl, rfl, rfl⟩
    (conv => whnf); repeat (refine .run tt_ok ?_; conv => whnf)
    exact ⟨rfl, rfl, rfl⟩
  refine stepDefer (B := 6) (E := [(0, .box 0 8), (1, .fn 16 [] [.box 5 0, .box 3 0])]) (us := [.box 0 9]) tt_ok 3 rfl rfl rfl rfl rfl rfl ?_ S1 fun a2 w2 ρ2 vs2 d2 r2 S2 t2 => ?_
  · (conv => whnf)
    exact ⟨rfl, rfl, rfl, rfl, trivial⟩
  refine stepRun (B := 6) (keep := [0, 1, 15]) (E := [(0, .box 0 8), (1, .fn 16 [] [.box 5 0, .box 3 0]), (15, .bool (!(!(decide (x.done = 0)))))]) (H1 := HO true x p nn 1) ?_ S2 fun a3 w3 ρ3 d3 S3 t3 => ?_
  · repeat (refine .run tt_ok ?_; conv => whnf)
    refine (s_bload true x p nn 1).mono ?_
    rintro r mv H' ⟨rfl, rfl, rfl⟩
    (conv => whnf); repeat (refine .run tt_ok ?_; conv => whnf)
    exact ⟨rfl, rfl, rfl⟩
  have e15 : a3.eval (.tmp 15) = .bool true := by
    have := S3.slot 15
    have := rep_bool this
    rw [hd] at this
    exact this
  refine wp_cond_true e15 ?_
  refine stepDefer (B := 6) (E := [(0, .box 0 8), (1, .fn 16 [] [.box 5 0, .box 3 0])]) (us := [.box 0 8, .tt]) tt_ok 3 rfl rfl rfl rfl rfl rfl ?_ S3 fun a4 w4 ρ4 vs4 d4 r4 S4 t4 => ?_
  · (conv => whnf)
    exact ⟨rfl, rfl, rfl, rfl, trivial⟩
  refine lastRun (B := 6) (keep := [0]) (E := [(0, .box 0 8)]) (H1 := HO true { x with df := nn, is := true } p nn 1) ?_ S4 fun a5 w5 ρ5 d5 S5 t5 => ?_
  · repeat (refine .run tt_ok ?_; conv => whnf)
    refine (s_set x p nn hi).mono ?_
    rintro r mv H' ⟨rfl, rfl, rfl⟩
    (conv => whnf); repeat (refine .run tt_ok ?_; conv => whnf)
    exact ⟨rfl, rfl, rfl⟩
  show Leaves _ _ _ _ a5.defers .returning w5
  rw [d5, d4, d3, d2, d1]
  refine leaves_d Tryz.func50 (by kernel_rfl) rfl (d_store true { x with df := nn, is := true } p nn) S5.heap (stays_step (by rfl) r4 t5) fun w6 H6 ρ6 mv6 h6 x6 k6 => ?_
  subst k6
  have r2' : All2 (RepV TT w5 (HO true { x with df := nn, is := true } p nn 1) ρ5) [AV.box 0 9] vs2 := stays_step (by rfl) (stays_step (by rfl) (stays_step (by rfl) r2 t3) t4) t5
  refine leaves_d Tryz.func49 (by kernel_rfl) rfl (d_unlock true { x with df := nn, is := true, done := 1 } p nn) h6 (stays_step (B := 6) (by rfl) r2' (x6.step)) fun w7 H7 ρ7 mv7 h7 x7 k7 => ?_
  subst k7
  refine ⟨.tuple #[], results_none rfl _ _ _, .tuple #[], rfl, .tup [], [2], _, ρ7, h7, ⟨#[], rfl, .nil⟩, ?_, rfl, rfl, rfl⟩
  have hst := (((((((t1.trans t2).trans t3).trans t4).trans t5).trans x6.step).trans x7.step) : Step 6 w _ ρ w7 _ ρ7)
  refine ⟨hst.keeps, hst.own, hst.F, fun k hk t m hm => ?_, fun k _ m hm => ?_⟩
  · exfalso
    have : ∀ k, k ≠ 2 → (hget (HO true x p nn 0) k).len = none := by
      intro k hk
      rcases k with _ | _ | _ | _ | _ | _ | k <;> first | rfl | exact absurd rfl hk | simp [HO, FH, hget, Obj.len, Obj.elems]
    rw [this k (by simpa using hk)] at hm
    cases hm
  · refine hst.box k ?_ m hm
    apply Classical.byContradiction
    intro hge
    rw [hget_out _ _ (by simp [HO, FH]; omega)] at hm
    simp [Obj.isBox] at hm
theorem s_do (x : Fac) (p : TP) (nn : Nat) (hd : x.done = 0) (hi : x.is = false) : VCall P TT 15 [.box 0 8, .fn 16 [] [.box 5 0, .box 3 0]] (HO true x p nn 0) fun r mv H' => r = .tup [] ∧ mv = [2] ∧ H' = HO true { x with df := nn, is := true, done := 1 } p nn 0 := by
  refine VCall.of_run (keep := [0, 1, 8]) tt_ok Tryz.func15 rfl rfl Tryz.ntmps15 rfl ?_
  repeat (refine .run tt_ok ?_; conv => whnf)
  refine (s_bload true x p nn 0).mono ?_
  rintro r mv H' ⟨rfl, rfl, rfl⟩
  rw [hd]
  (conv => whnf); repeat (refine .run tt_ok ?_; conv => whnf)
  repeat' first | (refine Br.mk (fun h => absurd h (by decide)) (fun _ => ?_); (conv => whnf); repeat (refine .run tt_ok ?_; conv => whnf)) | (refine Br.mk (fun _ => ?_) (fun h => absurd h (by decide)); (conv => whnf); repeat (refine .run tt_ok ?_; conv => whnf)) | (refine Ob.mk (by first | decide | (simp [InI]; done) | (simp only [InI, maxB, maxS] at *; omega)) ?_; (conv => whnf); repeat (refine .run tt_ok ?_; conv => whnf)) | fail
  refine (s_doSlow x p nn hd hi).mono ?_
  rintro r mv H' ⟨rfl, rfl, rfl⟩
  (conv => whnf); repeat (refine .run tt_ok ?_; conv => whnf)
  exact ⟨rfl, rfl, rfl⟩
end Go.V


