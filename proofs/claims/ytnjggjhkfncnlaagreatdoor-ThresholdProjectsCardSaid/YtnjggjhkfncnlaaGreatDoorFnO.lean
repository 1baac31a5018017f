import Derived.Test.YtnjggjhkfncnlaaGreatDoorM1
set_option linter.unusedVariables false
set_option linter.unusedSimpArgs false
namespace Go.Proofs.YtnjggjhkfncnlaaGreatDoor
set_option maxRecDepth 100000
theorem sIndexS (l : List ByteArray) (s : ByteArray) (hl : l.length ≤ 4503599627370496) : PSpec Tryz.prog 239 [.sl t0 encT l, .str s] (fun u=>∃ n : Int, u = .int .i64 n ∧ (0 ≤ n ↔ s ∈ l)):=by
 refine PSpec.intro tt_ok mx_ok Tryz.func239 rfl (by decide) ?_; (conv=>whnf)
 refine WPc.loopF tt_ok mx_ok (fun k : Nat=>k ≤ l.length ∧ s ∉ l.take k) (fun k=>[(8, .int .i64 (k : Int))]) (fun _=>[]) (fun k=>l.length - k) 0 ⟨by omega, by simp⟩ ?_; conv=>whnf
 refine ⟨sI, ?_⟩
 rintro k ⟨hk, ha⟩
 conv=>whnf
 repeat' first | (refine at_ ?_; conv=>whnf) | (refine cmpI (fun _=>?_) (fun _=>?_) <;> conv=>whnf)
 ·rename_i h1 h2
  rw [tN] at h2
  refine ⟨⟨k, rfl, fun _=>?_, fun _=>by omega⟩, rfl⟩
  rw [h2, gD, gL (by omega)]
  exact List.getElem_mem _
 ·rename_i h1 h2
  rw [tN] at h2
  refine ⟨k + 1, sI, ⟨by omega, ?_⟩, by dsimp only; omega⟩
  rw [List.take_succ_eq_append_getElem (by omega), List.mem_append, List.mem_singleton, not_or]
  refine ⟨ha, ?_⟩
  rw [gD, gL (by omega)] at h2
  exact h2
 ·obtain rfl : k = l.length:=by omega
  rw [List.take_length] at ha
  exact ⟨⟨-1, rfl, fun h=>by omega, fun h=>absurd h ha⟩, rfl⟩
theorem sContainsS (l : List ByteArray) (s : ByteArray) (hl : l.length ≤ 4503599627370496) : PSpec Tryz.prog 223 [.sl t0 encT l, .str s] (fun u=>u = .bool (decide (s ∈ l))):=by
 refine PSpec.intro tt_ok mx_ok Tryz.func223 rfl (by decide) ?_; (conv=>whnf)
 refine Spec.of_pure (n:=5) (sIndexS l s hl) rfl ?_
 rintro _ ⟨n, rfl, hn⟩
 conv=>whnf
 refine cmpI (fun h=>?_) (fun h=>?_) <;> conv=>whnf
 ·exact ⟨dec_t (hn.1 h), rfl⟩
 ·exact ⟨dec_f (fun hh=>h (hn.2 hh)), rfl⟩
theorem hasTextR (l : List ByteArray) (s : ByteArray) (hl : l.length ≤ 4503599627370496) : PSpec Tryz.prog 207 [.sl t0 encT l, .str s] (fun u=>u = .bool (decide (s ∈ l))):=by
 refine PSpec.intro tt_ok mx_ok Tryz.func207 rfl (by decide) ?_; (conv=>whnf)
 refine WPc.loopF tt_ok mx_ok (fun k : Nat=>k ≤ l.length ∧ s ∉ l.take k) (fun k=>[(5, .int .i64 (k : Int))]) (fun _=>[]) (fun k=>l.length - k) 0 ⟨by omega, by simp⟩ ?_; conv=>whnf
 refine ⟨sI, ?_⟩
 rintro k ⟨hk, ha⟩
 conv=>whnf
 repeat' first | (refine at_ ?_; conv=>whnf) | (refine cmpI (fun _=>?_) (fun _=>?_) <;> conv=>whnf)
 ·rename_i h1 h2
  rw [tN] at h2
  refine ⟨dec_t ?_, rfl⟩
  rw [← h2, gD, gL (by omega)]
  exact List.getElem_mem _
 ·rename_i h1 h2
  rw [tN] at h2
  refine ⟨k + 1, sI, ⟨by omega, ?_⟩, by dsimp only; omega⟩
  rw [List.take_succ_eq_append_getElem (by omega), List.mem_append, List.mem_singleton, not_or]
  refine ⟨ha, fun e=>h2 ?_⟩
  rw [gD, gL (by omega)]
  exact e.symm
 ·obtain rfl : k = l.length:=by omega
  rw [List.take_length] at ha
  exact ⟨dec_f ha, rfl⟩
theorem fieldsW : PSpec Tryz.prog 232 [.str wordsT] (fun u=>u = .sl t0 encT words):=by
 refine PSpec.intro tt_ok mx_ok Tryz.func232 rfl (by decide) ?_; (conv=>whnf)
 refine WPc.loopF tt_ok mx_ok (fun i : Nat=>i ≤ 289) (fun i=>[(6, .int .i64 (i : Int)), (3, .int .i64 (st1 i).1), (4, .int .i64 (st1 i).2.1), (5, .int .u8 (st1 i).2.2)]) (fun _=>[]) (fun i=>289 - i) 0 (by omega) ?_; conv=>whnf
 refine ⟨sI, ?_⟩
 intro i hi
 conv=>whnf
 refine cmpI (fun h1=>?_) (fun h1=>?_) <;> conv=>whnf
 ·rw [wordsT_size] at h1
  have hb:=byt_lt wordsT i
  have ht:=tab_fact
  have hs:=spc_fact i (by omega)
  have hn:=st1_fact (i + 1) (by omega)
  refine needI (by rw [wordsT_size]; omega) ?_
  conv=>whnf
  have hb2 : (wordsT.data.getD (i : Int).toNat 0).toNat < 256:=UInt8.toNat_lt _
  refine needI (by rw [ht]; omega) ?_
  conv=>whnf
  refine arI trivial ?_ ?_
  ·show _ ≤ spc i ∧ spc i ≤ _
   omega
  conv=>whnf
  refine arI trivial (by show _ ≤ (st1 (i + 1)).1 ∧ (st1 (i + 1)).1 ≤ _; omega) ?_
  conv=>whnf
  refine aI ?_
  conv=>whnf
  exact ⟨i + 1, sI, by omega, by dsimp only; omega⟩
 ·rw [wordsT_size] at h1
  obtain rfl : i = 289:=by omega
  have e1:=st1_end.1
  have e2:=st1_end.2
  have hz:=wordsT_size
  have ht:=tab_fact
  rw [e1, e2]
  refine cmpF (by decide) ?_
  conv=>whnf
  refine mkI t0 encT t0 rfl (by decide) ?_
  conv=>whnf
  refine WPc.loopF tt_ok mx_ok (fun _ : Unit=>True) (fun _=>[(12, .int .i64 0)]) (fun _=>[(41, .row 9 t0 encT (List.replicate 43 t0))]) (fun _=>0) () trivial ?_; conv=>whnf
  refine ⟨sI, ?_⟩
  rintro ⟨⟩ _
  conv=>whnf
  refine cmpT (by rw [hz]; decide) ?_
  conv=>whnf
  refine needI (by rw [hz]; decide) ?_
  conv=>whnf
  refine needI (by rw [ht]; decide +kernel) ?_
  conv=>whnf
  refine cmpF (by decide +kernel) ?_
  conv=>whnf
  refine WPc.loopF tt_ok mx_ok (fun i : Nat=>i ≤ 289) (fun i=>[(12, .int .i64 (i : Int)), (10, .int .i64 ((st3 i).1 : Int)), (11, .int .i64 ((st3 i).2.1 : Int))]) (fun i=>[(41, .row 9 t0 encT (st3 i).2.2)]) (fun i=>289 - i) 0 (by omega) ?_; conv=>whnf
  refine ⟨sI, ?_⟩
  intro i hi
  conv=>whnf
  refine cmpI (fun h1=>?_) (fun h1=>?_) <;> conv=>whnf
  ·rw [hz] at h1
   obtain ⟨f1, f2, f3⟩:=st3_fact i (by omega)
   have hb : (wordsT.data.getD (i : Int).toNat 0).toNat < 256:=UInt8.toNat_lt _
   refine needI (by rw [hz]; omega) ?_
   conv=>whnf
   refine needI (by rw [ht]; omega) ?_
   conv=>whnf
   refine cmpI (fun h2=>?_) (fun h2=>?_) <;> conv=>whnf
   ·have h2 : spc i = 0:=h2
    refine aI ?_
    conv=>whnf
    have e : st3 (i + 1) = st3 i:=by rw [st3, if_pos h2]
    refine ⟨i + 1, ?_, by omega, by dsimp only; omega⟩
    dsimp only
    rw [e]
    exact sI
   ·have h2 : spc i ≠ 0:=h2
    obtain ⟨n1, n2⟩:=spc_next i (by omega) h2
    refine needI (by rw [hz]; omega) ?_
    conv=>whnf
    refine nI ?_
    conv=>whnf
    refine rowSetI (wordsT.extract (((st3 i).2.1 : Nat) : Int).toNat (i : Int).toNat) rfl ?_
    conv=>whnf
    refine aI ?_
    conv=>whnf
    refine aI ?_
    conv=>whnf
    refine WPc.loopF tt_ok mx_ok (fun _ : Unit=>True) (fun _=>[(12, .int .i64 ((i : Int) + 1))]) (fun _=>[(41, .row 9 t0 encT ((st3 i).2.2.set (st3 i).1 (wordsT.extract (st3 i).2.1 i)))]) (fun _=>0) () trivial ?_; conv=>whnf
    refine ⟨sI, ?_⟩
    rintro ⟨⟩ _
    conv=>whnf
    refine cmpT (by rw [hz]; omega) ?_
    conv=>whnf
    refine needI (by rw [hz]; omega) ?_
    conv=>whnf
    have hb2 : (wordsT.data.getD ((i : Int) + 1).toNat 0).toNat < 256:=UInt8.toNat_lt _
    refine needI (by rw [ht]; omega) ?_
    conv=>whnf
    refine cmpF ?_ ?_
    ·have e : ((i : Int) + 1).toNat = i + 1:=by omega
     rw [e]
     exact fun h=>h n2
    conv=>whnf
    have e : st3 (i + 1) = ((st3 i).1 + 1, i + 1, (st3 i).2.2.set (st3 i).1 (wordsT.extract (st3 i).2.1 i)):=by rw [st3, if_neg h2]
    refine ⟨i + 1, ?_, by omega, by dsimp only; omega⟩
    dsimp only
    rw [e]
    exact sI
  ·rw [hz] at h1
   obtain rfl : i = 289:=by omega
   obtain ⟨g1, g2, g3⟩:=st3_end
   obtain ⟨f1, f2, f3⟩:=st3_fact 289 (by omega)
   rw [g1, g2]
   refine cmpT (by rw [hz]; decide) ?_
   conv=>whnf
   refine needI (by rw [hz]; decide) ?_
   conv=>whnf
   refine nI ?_
   conv=>whnf
   refine rowSetI _ rfl ?_
   conv=>whnf
   refine ⟨sl_eq ?_, rfl⟩
   rw [← g3, hz]
   rfl
theorem isReservedF (s : ByteArray) : PSpec Tryz.prog 202 [.str s] (fun u=>u = .bool (decide (s ∈ words))):=by
 refine PSpec.intro tt_ok mx_ok Tryz.func202 rfl (by decide) ?_; (conv=>whnf)
 (refine oP (fieldsW) ?_; conv=>whnf)
 refine dC (sContainsS words s (by decide)) (fun _=>?_) (fun _=>?_) <;> (conv=>whnf)
 ·rename_i h; exact ⟨dec_t h, rfl⟩
 ·rename_i h; exact ⟨dec_f h, rfl⟩
end Go.Proofs.YtnjggjhkfncnlaaGreatDoor
