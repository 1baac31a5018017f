import Derived.Test.YtnjggjhkfncnlaaGreatDoorM6
import Derived.Test.YtnjggjhkfncnlaaGreatDoorRdZ
import Derived.Test.YtnjggjhkfncnlaaGreatDoorP1
import Derived.Test.YtnjggjhkfncnlaaGreatDoorFwJ
import Derived.Test.YtnjggjhkfncnlaaGreatDoorW2
import Derived.Test.YtnjggjhkfncnlaaGreatDoorW3
import Derived.Test.YtnjggjhkfncnlaaGreatDoorFwL
import Derived.Test.YtnjggjhkfncnlaaGreatDoorW0
set_option linter.unusedVariables false
set_option linter.unusedSimpArgs false
namespace Go.Proofs.YtnjggjhkfncnlaaGreatDoor
open Go.ChangeShapes Go.WideShapes Go.ChangeAt Go.RowKit
def caseS : Sh:=.str (.int (.sl (.str .nil) (.sl (.str .nil) (.sl (.str .nil) (.int (.sl linS (intsS (intsS (.sl rulS (.str (.int (intsS (.sl cntS (intsS (intsS .nil)))))))))))))))
theorem shPlay : shOf Tryz.prog 9 32 = some caseS:=by kernel_rfl
theorem bytPlay : bytB Tryz.prog 9 32 = true:=by kernel_rfl
def playP : Den caseS → Pro
 |(a, b, c, d, e, f, g, h, i, j, _)=>⟨a, b, txts c, txts d, txts e, f, List.map linOf g, nums h, nums i, List.map rulOf j⟩
def playQ : Den caseS → Prp
 |(_, _, _, _, _, _, _, _, _, _, a, b, c, d, e, f, _)=>⟨a, b, nums c, List.map cntOf d, nums e, nums f⟩
def encPQ (p : Pro) (q : Prp) : List AV:=encP p ++ encQ q
theorem cv_play {S : Store} (y : Den caseS) : CvL S (encS caseS y) (encPQ (playP y) (playQ y)):=by
 obtain ⟨a, b, c, d, e, f, g, h, i, j, a2, b2, c2, d2, e2, f2, ⟨⟩⟩:=y
 exact ⟨Cv.refl _ _, Cv.refl _ _, Cv.strs c, Cv.strs d, Cv.strs e, Cv.refl _ _, cv_lins g, Cv.ints h, Cv.ints i, cv_ruls j, Cv.refl _ _, Cv.refl _ _, Cv.ints c2, cv_cnts d2, Cv.ints e2, Cv.ints f2, trivial⟩
theorem nums_len (l : List (Den (.int .nil))) : (nums l).length = l.length:=by simp [nums]
theorem cnt_len (z : Den cntS) : (cntOf z).states.length = z.1.length:=by
 obtain ⟨a, b, c⟩:=z
 exact nums_len a
theorem okNs_z {l : List (Den (.str .nil))} (h : ∀ a ∈ l, szS (.str .nil) a) : okNs (txts l):=by
 intro s hs
 obtain ⟨x, hx, rfl⟩:=List.mem_map.1 hs
 exact (h x hx).1
theorem okR_z {y : Den rulS} (h : szS rulS y) : okR (rulOf y):=by
 obtain ⟨a, b, c, d, e, f, g, h', i, j, k, l, m, n, o, p, q, r, ⟨⟩⟩:=y
 obtain ⟨h1, ⟨h2, _⟩, ⟨h3, _⟩, ⟨h4, _⟩, ⟨h5, _⟩, ⟨h6, _⟩, ⟨h7, _⟩, ⟨h8, _⟩, ⟨h9, _⟩, _⟩:=h
 unfold okR
 simp only [rulOf, nums_len, List.length_map]
 omega
theorem okRs_z {l : List (Den rulS)} (h : ∀ a ∈ l, szS rulS a) : ∀ j, j < (l.map rulOf).length → okR ((l.map rulOf).getD j rul0):=by
 intro j hj
 have hj' : j < l.length:=by simpa using hj
 have e : (l.map rulOf).getD j rul0 = rulOf l[j]:=by rw [gD, gL hj]; simp
 rw [e]
 exact okR_z (h _ (List.getElem_mem _))
theorem okP_play {y : Den caseS} (h : szS caseS y) : okP (playP y):=by
 obtain ⟨a, b, c, d, e, f, g, h', i, j, a2, b2, c2, d2, e2, f2, ⟨⟩⟩:=y
 obtain ⟨h1, ⟨h2, n2⟩, ⟨h3, n3⟩, ⟨h4, n4⟩, ⟨h5, _⟩, ⟨h6, _⟩, ⟨h7, _⟩, ⟨h8, n8⟩, _⟩:=h
 refine ⟨?_, okRs_z n8, okNs_z n2, okNs_z n3, okNs_z n4⟩
 simp only [playP, nums_len, List.length_map, txts]
 omega
theorem okQ_play {y : Den caseS} (h : szS caseS y) : okQ (playQ y):=by
 obtain ⟨a, b, c, d, e, f, g, h', i, j, a2, b2, c2, d2, e2, f2, ⟨⟩⟩:=y
 obtain ⟨h1, ⟨h2, n2⟩, ⟨h3, n3⟩, ⟨h4, n4⟩, ⟨h5, _⟩, ⟨h6, _⟩, ⟨h7, _⟩, ⟨h8, n8⟩, k1, ⟨k2, _⟩, ⟨k3, m3⟩, ⟨k4, _⟩, ⟨k5, _⟩, _⟩:=h
 refine ⟨?_, fun j hj=>?_⟩
 ·simp only [playQ, nums_len, List.length_map]
  omega
 ·have hj' : j < d2.length:=by simpa [playQ] using hj
  have e : (playQ (a, b, c, d, e, f, g, h', i, ‹_›, a2, b2, c2, d2, e2, f2, ())).bad.getD j cnt0 = cntOf d2[j]:=by
   simp only [playQ]
   rw [gD, gL (by simpa using hj')]; simp
  rw [e]
  rw [cnt_len]
  exact (m3 _ (List.getElem_mem hj')).1.1
end Go.Proofs.YtnjggjhkfncnlaaGreatDoor
namespace Go.Proofs.YtnjggjhkfncnlaaGreatDoor
set_option maxRecDepth 100000
set_option maxHeartbeats 16000000
theorem sameIntsP (l : List Int) (hl : l.length ≤ 1000000) : PSpec Tryz.prog 8 [.sl 0 encI l, .sl 0 encI l] (fun u=>u = .bool true):=by
 refine PSpec.intro tt_ok mx_ok Tryz.func8 rfl (by decide) ?_; (conv=>whnf)
 refine fI ?_
 conv=>whnf
 refine WPc.loopF tt_ok mx_ok (fun k : Nat=>k ≤ l.length) (fun k=>[(5, .int .i64 (k : Int))]) (fun _=>[]) (fun k=>l.length - k) 0 (Nat.zero_le _) ?_; conv=>whnf
 refine ⟨sI, ?_⟩
 rintro k hk
 conv=>whnf
 refine cmpI ?_ ?_ <;> (intro h1; conv=>whnf)
 ·refine dI ?_
  conv=>whnf
  repeat' ((first|refine nI ?_|refine aI ?_|refine tI ?_|refine fI ?_|fail);conv=>whnf)
  exact ⟨k + 1, sI, by omega, by dsimp only; omega⟩
 ·exact ⟨rfl, rfl⟩
def qtC : Op → Bool
 |.move _ | .fieldAddr _ _ _ | .nilCheck _ | .indexAddr _ _ _ | .build _ _ | .field _ _ _ | .load _ _=>true
 |_=>false
def evQ (tt : TT) (op : Op) (us : List AV) : Rs:=match op with
 |.load t _=>match us with
  |[.pd cells]=>evPart tt t cells
  |_=>.no
 |op=>evN tt op us
def qOkC (all : List Oper) (q : Nat) : Bool:=match all[q]? with
 |none=>false
 |some o=>match o.dst with
  |none=>false
  |some d=>qtC o.op && o.guard.isNone && (List.range all.length).all fun j=>Nat.beq j q || match all[j]? with
   |none=>true
   |some x=>x.guard.isNone && dneB d x.dst && (!(usesB d (opnds x.op)) || edgeB x q) && (match x.dst with | none=>true | some e=>!(usesB e (opnds o.op)) || edgeB o j)
def qstC (tt : TT) (all : List Oper) (q : Nat) (fr : List AV) (k1 : List AV → Prop) (k2 : Prop) : Prop:=match all[q]? with
 |none=>k2
 |some o=>avsK fr (opnds o.op) fun us=>match evQ tt o.op us with
  |.val u=>forceK u fun u=>putD fr o.dst u k1
  |_=>k2
def ordsC (P : Program) (tt : TT) (d : Option DMode) (all : List Oper) (qs : List Nat) (K : List AV → Mem → Prop) : Nat → List Nat → List AV → Mem → Prop
 |0, done, fr, M=>match rdyK all done with
  |[]=>K fr M
  |_ :: _=>False
 |n + 1, done, fr, M=>match rdyK all done with
  |[]=>K fr M
  |i :: l=>match fstQ qs (i :: l) with
   |none=>ordN (i :: l) fun j=>stO P tt d all j fr M (ordsC P tt d all qs K n (j :: done))
   |some q=>qstC tt all q fr (fun fr'=>ordsC P tt d all qs K n (q :: done) fr' M) (ordN (i :: l) fun j=>stO P tt d all j fr M (ordsC P tt d all qs K n (j :: done)))
section
variable {P : Program} {tt : TT} {dm : Option DMode} {all : List Oper} {K K' : List AV → Mem → Prop} {fr : List AV} {M : Mem}
theorem stepK_c {o : Oper} {d : Nat} {u : AV} (hdm : dm = none ∨ dm = some .own) (hg : o.guard = none) (hd : o.dst = some d) (hq : qtC o.op = true) (hu : evQ tt o.op ((opnds o.op).map (avOf fr)) = .val u) : stepK P tt dm all o fr M K = K (fr.set d u) M:=by
 by_cases hb : qtB o.op = true
 ·refine stepK_q hg hd hb ?_
  rw [← hu]
  unfold qtB at hb
  split at hb
  all_goals first
   |(rename_i e; rw [e]; rfl)
   |exact absurd hb (by decide)
 ·have : ∃ t x, o.op = .load t x:=by
   unfold qtC at hq
   unfold qtB at hb
   split at hq
   all_goals first
    |exact ⟨_, _, by assumption⟩
    |(exfalso; apply hb; rename_i e; rw [e])
    |exact absurd hq (by decide)
  obtain ⟨t, x, e⟩:=this
  rw [e] at hu
  have hu2 : evQ tt (.load t x) [avOf fr x] = .val u:=hu
  unfold stepK guardK
  rw [hg]
  simp only [avsK_eq, putD_eq, hd, setD]
  unfold semK
  rw [e]
  show rsK (evM dm tt (.load t x) [avOf fr x] M) (fun u=>K (fr.set d u) M) = K (fr.set d u) M
  have hm : evM dm tt (.load t x) [avOf fr x] M = evLoad tt t M (avOf fr x):=by
   rcases hdm with rfl | rfl <;> rfl
  rw [hm]
  unfold evQ at hu2
  cases hx : avOf fr x with
  |pd cells =>
   rw [hx] at hu2
   show rsK (evPart tt t cells) _ = _
   have h3 : evPart tt t cells = .val u:=hu2
   rw [h3]
   simp only [rsK, forceK_eq]
  |_=>rw [hx] at hu2; cases hu2
theorem ordsK_c (hdm : dm = none ∨ dm = some .own) {q : Nat} {o : Oper} {d : Nat} (hok : qOkC all q = true) (ho : all[q]? = some o) (hd : o.dst = some d) : ∀ (n : Nat) (done : List Nat) (fr : List AV) (M : Mem) (u : AV), q ∈ rdyK all done → evQ tt o.op ((opnds o.op).map (avOf fr)) = .val u →
  (ordsK P tt dm all K (n + 1) done fr M ↔ ordsK P tt dm all K n (q :: done) (fr.set d u) M):=by
 unfold qOkC at hok
 rw [ho] at hok
 simp only [hd, Bool.and_eq_true, Option.isNone_iff_eq_none] at hok
 obtain ⟨⟨hqt, hg⟩, hall⟩:=hok
 have hpair : ∀ j x, all[j]? = some x → j ≠ q → x.guard = none ∧ dneB d x.dst = true ∧ (usesB d (opnds x.op) = false ∨ edgeB x q = true) ∧ ∀ e, x.dst = some e → usesB e (opnds o.op) = false ∨ edgeB o j = true:=fun j x hx hne=>by
  have hj : j < all.length:=by
   rcases Nat.lt_or_ge j all.length with h | h
   ·exact h
   ·rw [List.getElem?_eq_none h] at hx; cases hx
  have:=List.all_eq_true.1 hall j (List.mem_range.2 hj)
  rw [hx] at this
  have hb : Nat.beq j q = false:=by cases h : Nat.beq j q with | false=>rfl | true=>exact absurd (Nat.eq_of_beq_eq_true h) hne
  simp only [hb, Bool.false_or, Bool.and_eq_true, Option.isNone_iff_eq_none, Bool.or_eq_true, Bool.not_eq_true'] at this
  obtain ⟨⟨⟨h1, h2⟩, h3⟩, h4⟩:=this
  refine ⟨h1, h2, h3, fun e he=>?_⟩
  rw [he] at h4
  simpa using h4
 have edge : ∀ {x : Oper} {k : Nat} {done : List Nat}, edgeB x k = true → (∀ e ∈ x.after.toList, Region.binds .any e = true → e.on < all.length ∧ e.on ∈ done) → k ∈ done:=fun {x k done} he h=>by
  unfold edgeB at he
  obtain ⟨e, hm, hb⟩:=List.any_eq_true.1 he
  rw [Bool.and_eq_true] at hb
  have:=(h e hm hb.1).2
  rwa [Nat.eq_of_beq_eq_true hb.2] at this
 intro n
 induction n with
 |zero =>
  intro done fr M u hq hu
  have hne : rdyK all done ≠ []:=List.ne_nil_of_mem hq
  rw [ordsK_all hne]
  constructor
  ·intro h
   have:=h q hq
   rw [stO_some ho, stepK_c hdm hg hd hqt hu] at this
   exact this
  ·intro h j hj
   by_cases e : j = q
   ·subst e
    rw [stO_some ho, stepK_c hdm hg hd hqt hu]
    exact h
   ·exfalso
    have hj2 : j ∈ rdyK all (q :: done):=by
     rw [rdyK_mem] at hj ⊢
     obtain ⟨h1, x, hx, h2⟩:=hj
     exact ⟨fun h=>by rcases List.mem_cons.1 h with h | h; exact e h; exact h1 h, x, hx, fun e he hb=>⟨(h2 e he hb).1, List.mem_cons_of_mem _ (h2 e he hb).2⟩⟩
    rw [ordsK] at h
    cases hr : rdyK all (q :: done) with
    |nil=>rw [hr] at hj2; cases hj2
    |cons a l=>rw [hr] at h; exact h
 |succ m ih =>
  intro done fr M u hq hu
  have hne : rdyK all done ≠ []:=List.ne_nil_of_mem hq
  rw [ordsK_all hne]
  constructor
  ·intro h
   have:=h q hq
   rw [stO_some ho, stepK_c hdm hg hd hqt hu] at this
   exact this
  ·intro h j hj
   by_cases e : j = q
   ·subst e
    rw [stO_some ho, stepK_c hdm hg hd hqt hu]
    exact h
   ·have hj':=rdyK_mem.1 hj
    have hq':=rdyK_mem.1 hq
    obtain ⟨h1, x, hx, h2⟩:=hj'
    obtain ⟨g1, o', ho', g2⟩:=hq'
    rw [ho] at ho'; cases ho'
    obtain ⟨p1, p2, p3, p4⟩:=hpair j x hx e
    have hj2 : j ∈ rdyK all (q :: done):=rdyK_mem.2 ⟨fun h=>by rcases List.mem_cons.1 h with h | h; exact e h; exact h1 h, x, hx, fun e he hb=>⟨(h2 e he hb).1, List.mem_cons_of_mem _ (h2 e he hb).2⟩⟩
    have hq2 : q ∈ rdyK all (j :: done):=rdyK_mem.2 ⟨fun h=>by rcases List.mem_cons.1 h with h | h; exact e h.symm; exact g1 h, o, ho, fun e he hb=>⟨(g2 e he hb).1, List.mem_cons_of_mem _ (g2 e he hb).2⟩⟩
    have hux : usesB d (opnds x.op) = false:=p3.resolve_right fun he=>g1 (edge he h2)
    have h3:=(ordsK_all (List.ne_nil_of_mem hj2)).1 h j hj2
    rw [stO_some hx, stepK_set p1 p2 hux] at h3
    rw [stO_some hx]
    refine Eq.mp (stepK_congr p1 fun w M'=>?_) h3
    rw [ordsK_perm m (j :: q :: done) (q :: j :: done) fun i=>by simp only [List.mem_cons]; exact ⟨fun h=>by rcases h with h | h | h <;> simp [h], fun h=>by rcases h with h | h | h <;> simp [h]⟩]
    refine propext (ih (j :: done) (setD fr x.dst w) M' u hq2 ?_).symm
    rw [← hu]
    congr 1
    cases hxd : x.dst with
    |none=>rfl
    |some e2 =>
     have : usesB e2 (opnds o.op) = false:=(p4 e2 hxd).resolve_right fun he=>h1 (edge he g2)
     exact uses_avOf this
theorem ordsC_eq (hdm : dm = none ∨ dm = some .own) {qs : List Nat} (hqs : qs.all (qOkC all) = true) : ∀ (n : Nat) (done : List Nat), ordsC P tt dm all qs K n done = ordsK P tt dm all K n done
 |0, done=>by
  funext fr M
  rw [ordsC, ordsK]
  cases rdyK all done <;> rfl
 |n + 1, done=>by
  funext fr M
  have e : ∀ j, ordsC P tt dm all qs K n (j :: done) = ordsK P tt dm all K n (j :: done):=fun j=>ordsC_eq hdm hqs n _
  rw [ordsC]
  simp only [e]
  cases hr : rdyK all done with
  |nil=>rw [ordsK, hr]
  |cons i l =>
   have hk : ordsK P tt dm all K (n + 1) done fr M = ordN (i :: l) fun j=>stO P tt dm all j fr M (ordsK P tt dm all K n (j :: done)):=by rw [ordsK, hr]
   simp only
   cases hf : fstQ qs (i :: l) with
   |none=>exact hk.symm
   |some q =>
    simp only
    obtain ⟨h1, h2⟩:=fstQ_mem hf
    have hok:=List.all_eq_true.1 hqs q h1
    rw [← hk]
    unfold qstC
    cases ho : all[q]? with
    |none=>rfl
    |some o =>
     simp only [avsK_eq]
     cases hu : evQ tt o.op ((opnds o.op).map (avOf fr)) with
     |val u =>
      simp only [forceK_eq, putD_eq]
      have hok':=hok
      unfold qOkC at hok'
      rw [ho] at hok'
      cases hd : o.dst with
      |none=>simp only [hd] at hok'; cases hok'
      |some d=>exact propext (ordsK_c hdm hok ho hd n done fr M u (by rw [hr]; exact h2) hu).symm
     |_=>rfl
end
theorem drawC {P : Program} {tt : TT} {ops : List Oper} {fr : List AV} {M : Mem} {K : List AV → Mem → Prop} (qs : List Nat) (hqs : qs.all (qOkC ops) = true) (h : ordsC P tt (some .own) ops qs K ops.length [] fr M) : drawK P tt ops fr M K :=
 drawE (by rw [ordsC_eq (.inr rfl) hqs] at h; exact h)
end Go.Proofs.YtnjggjhkfncnlaaGreatDoor
namespace Go.Proofs.YtnjggjhkfncnlaaGreatDoor
set_option maxRecDepth 100000
set_option maxHeartbeats 16000000
def unfP : Prp:=⟨⟨#[117, 110, 102]⟩, 1, [0], [⟨[3], 1⟩], [], []⟩
theorem UnfR : PSpec Tryz.prog 30 [] (fun u=>u = .agg [.str ⟨#[117, 110, 102]⟩, .int .i64 1, .sl 0 encI [0], .sl cnt0 encCnt [⟨[3], 1⟩], .nilsl, .nilsl]):=by
 refine PSpec.intro tt_ok mx_ok Tryz.func30 rfl (by decide) ?_; (conv=>whnf)
 repeat' first
  |exact ⟨rfl, rfl⟩
  |(refine bldI 0 encI [0] rfl ?_; conv=>whnf)
  |(refine bldI 0 encI [3] rfl ?_; conv=>whnf)
  |(refine bldI cnt0 encCnt [⟨[3], 1⟩] rfl ?_; conv=>whnf)
  |(refine leakN ?_; conv=>whnf)
  |fail
def ech1 : Rul:=⟨⟨#[114, 49]⟩, 1, 1, 2, 0, 0, [], [], [], [], -1, -1, [0], 0, [], [], [], 0⟩
def ech2 : Rul:=⟨⟨#[114, 50]⟩, 1, 0, 2, 0, 0, [], [⟨0, 1, ⟨1, 0, 1, 0⟩⟩], [], [], -1, -1, [0], 0, [], [], [], 0⟩
def ech3 : Rul:=⟨⟨#[114, 51]⟩, 1, 2, 3, 0, 0, [], [⟨0, 1, ⟨0, 1, -1, 0⟩⟩], [], [], -1, -1, [], 0, [], [], [], 0⟩
def echP : Pro:=⟨⟨#[115, 116]⟩, 1, [⟨#[118, 48]⟩, ⟨#[118, 49]⟩, ⟨#[115, 101]⟩, ⟨#[97, 99]⟩], [⟨#[101, 99, 104, 111]⟩], [], 3, [⟨-1, 1, -3, 0⟩, ⟨0, 0, 1, -1⟩], [0, 1], [], [ech1, ech2, ech3]⟩
theorem EchoR : PSpec Tryz.prog 29 [] (fun u=>u = .agg [.str ⟨#[115, 116]⟩, .int .i64 1, .sl t0 encT echP.states, .sl t0 encT echP.messages, .nilsl, .int .i64 3, .sl lin0 encLin echP.resilience, .sl 0 encI [0, 1], .nilsl, .sl rul0 encR echP.rules]):=by
 refine PSpec.intro tt_ok mx_ok Tryz.func29 rfl (by decide) ?_; (conv=>whnf)
 repeat' first
  |exact ⟨rfl, rfl⟩
  |(refine bldI t0 encT echP.states rfl ?_; conv=>whnf)
  |(refine bldI t0 encT echP.messages rfl ?_; conv=>whnf)
  |(refine bldI lin0 encLin echP.resilience rfl ?_; conv=>whnf)
  |(refine bldI thr0 encThr ech2.guards rfl ?_; conv=>whnf)
  |(refine bldI thr0 encThr ech3.guards rfl ?_; conv=>whnf)
  |(refine bldI rul0 encR echP.rules rfl ?_; conv=>whnf)
  |(refine bldW rul0 encR echP.rules ?_ ?_; conv=>whnf)
  |(refine leakN ?_; conv=>whnf)
  |fail
 all_goals
  repeat' (first | exact True.intro | (refine And.intro ?_ ?_) | exact .inl rfl | exact .inr ⟨rfl, _, _, _, rfl⟩)
theorem ech_chk : chkE echP unfP = 0:=by decide +kernel
theorem ech_sch : (schL echP).length = 5:=by decide +kernel
theorem ech_var0 : (varL echP unfP []).length = 5:=by decide +kernel
theorem ech_var1 : (varL echP unfP [0]).length = 7:=by decide +kernel
theorem ech_rows : (sysL echP unfP [0] 0).length = 17:=by decide +kernel
theorem ech_ord : ordL echP.rules echP.states.length = [1, 0, 2]:=by decide +kernel
theorem ech_s1 : schB (thrL echP.rules).length [0]:=by decide +kernel
theorem ech_s0 : schB (thrL echP.rules).length []:=by decide +kernel
theorem PSpec.tell {P : Program} {f : FuncId} {args : List AV} {u0 u1 : AV} (n m : Nat) (h : PSpec P f args (fun u=>u = u0)) (ha : avR [] n u0 u1) (hp : persN m u1 = true) : PSpec P f args (fun u=>u = u1):=by
 rw [PSpec_iff] at *
 refine ⟨h.1, fun S F vs w h0 h1 h2 h3 hv=>(h.2 S F vs w h0 h1 h2 h3 hv).mono ?_⟩
 rintro e w' ⟨v, u, S', a, rfl, b, c, d, e2, hr, hw⟩
 exact ⟨v, u1, S', a, rfl, b, c, d, e2, persN_ok m hp ((avR_ok (S:=S') (ρ:=fun _=>none) n).1 _ _ v ha (.p hr)), hw⟩
theorem EchoS : PSpec Tryz.prog 29 [] (fun u=>u = .agg (encP echP)):=PSpec.tell 400 5 EchoR (auto_) rfl
theorem UnfS : PSpec Tryz.prog 30 [] (fun u=>u = .agg (encQ unfP)):=PSpec.tell 400 5 UnfR (auto_) rfl
theorem ech_ok : okP echP:=by
 refine ⟨by decide +kernel, fun j hj=>?_, by unfold okNs; decide +kernel, by unfold okNs; decide +kernel, by unfold okNs; decide +kernel⟩
 have h3 : echP.rules.length = 3:=rfl
 obtain rfl | rfl | rfl : j = 0 ∨ j = 1 ∨ j = 2:=by omega
 all_goals
  unfold okR
  decide +kernel
theorem unf_ok : okQ unfP:=by
 refine ⟨by decide +kernel, ?_⟩
 decide +kernel
theorem saneF : PSpec Tryz.prog 9 [] (fun u=>u = .bool true):=by
 have hE:=EchoS
 have hU:=UnfS
 have h1:=SchemasF echP unfP ech_ok unf_ok
 rw [schA_z ech_chk] at h1
 have h2:=VariablesF echP unfP ech_ok unf_ok [] (by simp)
 rw [varA, if_neg (by rw [ech_chk]; omega), if_neg (fun h=>h ech_s0)] at h2
 have h2 : PSpec Tryz.prog 32 [.agg (encP echP), .agg (encQ unfP), .nilsl] (fun u=>u = .tup [.sl vb0 encVb (varL echP unfP []), .int .i64 0]):=h2.weak fun S vs hv=>by
  obtain ⟨v, vs', rfl, a1, a2⟩:=hv.cons_inv
  obtain ⟨v2, vs2, rfl, b1, b2⟩:=a2.cons_inv
  obtain ⟨v3, vs3, rfl, c1, c2⟩:=b2.cons_inv
  exact RPs.cons a1 (RPs.cons b1 (RPs.cons (nilsl_sl 0 encI v3 c1) c2))
 have hr : (rowsB echP unfP [0] 0).length = 17:=by unfold rowsB; rw [List.length_map]; exact ech_rows
 have h3:=BuildF echP unfP ech_ok unf_ok [0] (by simp) 0
 rw [bldA, if_neg (by rw [ech_chk]; omega), if_neg (by
  have : (csN echP unfP : Int) = 1:=by decide +kernel
  rintro (h | h | h)
  ·exact h ech_s1
  ·omega
  ·omega), ech_var1] at h3
 have h4:=OrderF echP unfP ech_ok unf_ok
 rw [ordA, if_neg (by rw [ech_chk]; omega), ech_ord] at h4
 have h5:=CheckF echP unfP ech_ok unf_ok
 rw [ech_chk] at h5
 have hl:=ech_sch
 have hv:=ech_var0
 have h6:=sameIntsP [1, 0, 2] (by simp)
 generalize schL echP = SL at *
 generalize varL echP unfP [] = VL at *
 generalize rowsB echP unfP [0] 0 = RB at *
 generalize echP = p at *
 generalize unfP = q at *
 refine PSpec.intro tt_ok mx_ok Tryz.func9 rfl (by decide) ?_; (conv=>whnf)
 (refine oP (hE) ?_; conv=>whnf)
 (refine oP (hU) ?_; conv=>whnf)
 (refine oP (h1) ?_; conv=>whnf)
 (refine oP (h2) ?_; conv=>whnf)
 refine Spec.hand 28 rfl ?_
 (refine oP (h3) ?_; conv=>whnf)
 (refine oP (h4) ?_; conv=>whnf)
 repeat' ((first|refine nI ?_|refine aI ?_|refine tI ?_|refine fI ?_|fail);conv=>whnf)
 refine Spec.hand 75 rfl ?_
 (refine oP (h6) ?_; conv=>whnf)
 (refine oP (h5) ?_; conv=>whnf)
 repeat' ((first|refine nI ?_|refine aI ?_|refine tI ?_|refine fI ?_|fail);conv=>whnf)
 exact ⟨rfl, rfl⟩
end Go.Proofs.YtnjggjhkfncnlaaGreatDoor
namespace Go.Proofs.YtnjggjhkfncnlaaGreatDoor
open Go.ChangeShapes Go.WideShapes Go.ChangeAt Go.RowKit
end Go.Proofs.YtnjggjhkfncnlaaGreatDoor
