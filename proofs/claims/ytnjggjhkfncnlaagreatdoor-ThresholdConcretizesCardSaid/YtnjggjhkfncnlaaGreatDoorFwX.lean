import Derived.Test.YtnjggjhkfncnlaaGreatDoorP1
set_option linter.unusedVariables false
set_option linter.unusedSimpArgs false
namespace Go.Proofs.YtnjggjhkfncnlaaGreatDoor
set_option maxRecDepth 100000
set_option maxHeartbeats 16000000
def Hh (p:au):AV->Prop:=fun u=>∃b c d e:Bool,u= .tup [.agg [.bool (decide (io p)), .bool b, .bool c, .bool d, .bool e], .int .i64 0]
theorem Fc {p:au} {k:Nat} {a:Bool} (hk:k<p.rules.length) (h:a=true↔p.topology=1/\p.values.length=0/\∀j,j<k->gp (p.rules.getD j ar)) (hr:gp (p.rules.getD k ar)):a=true↔p.topology=1/\p.values.length=0/\∀j,j<k+1->gp (p.rules.getD j ar):=by
 rw[h]
 refine⟨fun⟨a,b,c⟩=>⟨a,b,fun j hj=>?_⟩,fun⟨a,b,c⟩=>⟨a,b,fun j hj=>c j (by omega)⟩⟩
 by_cases e:j=k
 ·subst e;exact hr
 ·exact c j (by omega)
theorem Fd {p:au} {k:Nat} (hr:¬gp (p.rules.getD k ar)):(false=true)↔p.topology=1/\p.values.length=0/\∀j,j<k+1->gp (p.rules.getD j ar):=
 ⟨fun h=>(by cases h),fun⟨_,_,c⟩=>absurd (c k (by omega)) hr⟩
theorem Cp {p:au} {k:Nat} {a:Bool} (hk:k=p.rules.length) (h:a=true↔p.topology=1/\p.values.length=0/\∀j,j<k->gp (p.rules.getD j ar)):a=decide (io p):=by
 subst hk
 cases a with
 |true=>exact(decide_eq_true (h.1 rfl)).symm
 |false=>exact(decide_eq_false fun hh=>by have:=h.2 hh;cases this).symm
theorem I9 {A B:Prop} (k:A->B) (h:A):B:=k h
theorem Cq (p:au) (hp:gM p) (hv:aB p=0):ab Tryz.prog 188 [.agg (aO p)] (Hh p):=by
 have ht:=(aK hv).top
 have hle:=iT hp
 obtain⟨T0,e0⟩:∃b:Bool,b=decide (p.topology=1/\p.values.length=0):=⟨_,rfl⟩
 obtain⟨T1,e1⟩:∃b:Bool,b=decide (p.topology=1/\p.fault=0/\p.messages.length=0/\p.resilience.length=0):=⟨_,rfl⟩
 obtain⟨T2,e2⟩:∃b:Bool,b=decide (p.topology=2\/p.topology=3):=⟨_,rfl⟩
 obtain⟨T3,e3⟩:∃b:Bool,b=decide (p.topology=4):=⟨_,rfl⟩
 obtain⟨T4,e4⟩:∃b:Bool,b=decide (p.topology=1/\p.fault=0/\p.messages.length=0/\p.resilience.length=0/\p.states.length<=4):=⟨_,rfl⟩
 refine ab.intro ac ag Tryz.func188 rfl (by decide) ?_;(conv=>whnf)
 refine al rfl ?_
 conv=>whnf
 (refine oP (fY p hp) ?_;conv=>whnf)
 refine fI ?_
 conv=>whnf
 apply I9 (A:=aH Tryz.prog _ (.loop _) ([.top, .pd (aO p), .ptr 2 0, .top, .top, .top, .top, .ptr 7 0, .int .i64 0]++List.replicate 96 .top) (aj.ofL [(2, .box 232 [.bool false, .bool false, .bool false, .bool false, .bool false]),(7, .box 232 [.bool T0, .bool T1, .bool T2, .bool T3, .bool T4])]) _)
 case k=>
  intro hs0
  repeat' ((first|refine nI ?_|refine aI ?_|refine dI ?_|refine al rfl ?_|refine tI ?_|refine fI ?_|refine ah (fun _=>?_) (fun _=>?_))<;>conv=>whnf)
  all_goals
   first|rw[e0.trans (decide_eq_true (by omega))] at hs0|rw[e0.trans (decide_eq_false (by omega))] at hs0
   first|rw[e1.trans (decide_eq_true (by omega))] at hs0|rw[e1.trans (decide_eq_false (by omega))] at hs0
   first|rw[e2.trans (decide_eq_true (by omega))] at hs0|rw[e2.trans (decide_eq_false (by omega))] at hs0
   first|rw[e3.trans (decide_eq_true (by omega))] at hs0|rw[e3.trans (decide_eq_false (by omega))] at hs0
   first|rw[e4.trans (decide_eq_true (by omega))] at hs0|rw[e4.trans (decide_eq_false (by omega))] at hs0
   exact aH.sub (aL.by_ [(2, .old 2),(7, .old 7)] _ 400 rfl (aa) (aa)) hs0
 case h=>
  refine aH.loopF ac ag (fun z:Nat×Bool×Bool=>z.1<=p.rules.length/\(z.2.1=true↔p.topology=1/\p.values.length=0/\∀j,j<z.1->gp (p.rules.getD j ar))) (fun z=>[(8, .int .i64 (z.1:Int))]) (fun z=>[(2, .box 232 [.bool false, .bool false, .bool false, .bool false, .bool false]),(7, .box 232 [.bool z.2.1, .bool z.2.2, .bool T2, .bool T3, .bool T4])]) (fun z=>p.rules.length-z.1) (0,T0,T1) ⟨Nat.zero_le _,fun h=>by(have:=of_decide_eq_true (e0.symm.trans h);exact⟨this.1,this.2,fun j hj=>absurd hj (Nat.not_lt_zero _)⟩),fun h=>e0.trans (decide_eq_true ⟨h.1,h.2.1⟩)⟩ ?_;conv=>whnf
  refine⟨sI,?_⟩
  rintro⟨k,a,b⟩ ⟨hk,hb⟩
  dsimp only at hk hb⊢
  conv=>whnf
  refine ah ?_ ?_<;>(intro h1;conv=>whnf)
  case refine_2=>
   rw[Cp (by omega) hb]
   exact⟨⟨b,T2,T3,T4,rfl⟩,rfl⟩
  have hlt:k<p.rules.length:=by omega
  refine nI ?_
  rw[tN]
  have nx:=Fc hlt hb
  have no:=Fd (p:=p) (k:=k)
  unfold gp at nx no
  generalize p.rules.getD k ar=r at nx no
  conv=>whnf
  by_cases q1:r.kind=1/\r.src<r.dst/\r.some_.length=0/\r.forall_.length=0
  ·repeat' ((first|refine nI ?_|refine aI ?_|refine tI ?_|refine fI ?_|fail);conv=>whnf)
   exact⟨(k+1,a,b),sI,⟨by dsimp only;omega,nx q1⟩,by dsimp only;omega⟩
  by_cases q2:r.forall_.length=0
  ·repeat' ((first|refine nI ?_|refine aI ?_|refine dI ?_|refine al rfl ?_|refine tI ?_|refine fI ?_|refine ah (fun _=>?_) (fun _=>?_))<;>conv=>whnf)
   all_goals exact⟨(k+1,false,b),sI,⟨by dsimp only;omega,no q1⟩,by dsimp only;omega⟩
  ·repeat' ((first|refine nI ?_|refine aI ?_|refine dI ?_|refine al rfl ?_|refine tI ?_|refine fI ?_|refine ah (fun _=>?_) (fun _=>?_))<;>conv=>whnf)
   all_goals exact⟨(k+1,false,false),sI,⟨by dsimp only;omega,no q1⟩,by dsimp only;omega⟩
theorem Cr (p:au) (hp:gM p) (hv:aB p≠0):ab Tryz.prog 188 [.agg (aO p)] (fun u=>u= .tup [.agg [.bool false, .bool false, .bool false, .bool false, .bool false], .int .i64 (aB p)]):=by
 refine ab.intro ac ag Tryz.func188 rfl (by decide) ?_;(conv=>whnf)
 refine al rfl ?_
 conv=>whnf
 (refine oP (fY p hp) ?_;conv=>whnf)
 refine da hv ?_
 conv=>whnf
 exact⟨rfl,rfl⟩
theorem Hi {p:au} {k:Nat} {a:Bool} (h:a=true↔∀j,j<k->gp (p.rules.getD j ar)) (hr:gp (p.rules.getD k ar)):a=true↔∀j,j<k+1->gp (p.rules.getD j ar):=by
 rw[h]
 refine⟨fun c j hj=>?_,fun c j hj=>c j (by omega)⟩
 by_cases e:j=k
 ·subst e;exact hr
 ·exact c j (by omega)
theorem Hj {p:au} {k:Nat} (hr:¬gp (p.rules.getD k ar)):(false=true)↔∀j,j<k+1->gp (p.rules.getD j ar):=
 ⟨fun h=>(by cases h),fun c=>absurd (c k (by omega)) hr⟩
theorem Hk {p:au} {a b c d e:Bool} (h:a=decide (io p)):Hh p (.tup [.agg [.bool a, .bool b, .bool c, .bool d, .bool e], .int .i64 0]):=⟨b,c,d,e,by rw[h]⟩
theorem Hl (p:au) (hp:gM p) (hv:aB p=0):ab Tryz.prog 87 [.agg (aO p)] (Hh p):=by
 have ht:=(aK hv).top
 have hle:=iT hp
 refine ab.intro ac ag Tryz.func87 rfl (by decide) ?_;(conv=>whnf)
 refine al rfl ?_
 conv=>whnf
 (refine oP (fo p hp) ?_;conv=>whnf)
 refine fI ?_
 conv=>whnf
 refine aH.loopF ac ag (fun z:Nat×Bool×Bool=>z.1<=p.rules.length/\(z.2.1=true↔∀j,j<z.1->gp (p.rules.getD j ar))) (fun z=>[(5, .bool z.2.1),(6, .bool z.2.2),(20, .int .i64 (z.1:Int))]) (fun z=>[(2, .box 148 [.bool false, .bool false, .bool false, .bool false, .bool false])]) (fun z=>p.rules.length-z.1) (0,true,false) ⟨Nat.zero_le _,fun _ j hj=>(by have:j<0:=hj;omega),fun _=>rfl⟩ ?_;conv=>whnf
 refine⟨sI,?_⟩
 rintro⟨k,a,b⟩ ⟨hk,hb⟩
 dsimp only at hk hb⊢
 conv=>whnf
 refine ah ?_ ?_<;>(intro h1;conv=>whnf)
 ·have hlt:k<p.rules.length:=by omega
  refine nI ?_
  rw[tN]
  have nx:=Hi hb
  have no:=Hj (p:=p) (k:=k)
  unfold gp at nx no
  generalize p.rules.getD k ar=r at nx no
  cases a with
  |false=>
   cases b with
   |false=>
    conv=>whnf
    by_cases q1:r.kind=1/\r.src<r.dst/\r.some_.length=0/\r.forall_.length=0
    ·repeat' ((first|refine nI ?_|refine aI ?_|refine tI ?_|refine fI ?_|fail);conv=>whnf)
     exact⟨(k+1,false,false),sI,⟨by dsimp only;omega,nx q1⟩,by dsimp only;omega⟩
    by_cases q2:r.forall_.length=0
    ·repeat' ((first|refine nI ?_|refine aI ?_|refine dI ?_|refine al rfl ?_|refine tI ?_|refine fI ?_|refine ah (fun _=>?_) (fun _=>?_))<;>conv=>whnf)
     all_goals exact⟨(k+1,false,false),sI,⟨by dsimp only;omega,no q1⟩,by dsimp only;omega⟩
    ·repeat' ((first|refine nI ?_|refine aI ?_|refine dI ?_|refine al rfl ?_|refine tI ?_|refine fI ?_|refine ah (fun _=>?_) (fun _=>?_))<;>conv=>whnf)
     all_goals exact⟨(k+1,false,true),sI,⟨by dsimp only;omega,no q1⟩,by dsimp only;omega⟩
   |true=>
    conv=>whnf
    by_cases q1:r.kind=1/\r.src<r.dst/\r.some_.length=0/\r.forall_.length=0
    ·repeat' ((first|refine nI ?_|refine aI ?_|refine tI ?_|refine fI ?_|fail);conv=>whnf)
     exact⟨(k+1,false,true),sI,⟨by dsimp only;omega,nx q1⟩,by dsimp only;omega⟩
    by_cases q2:r.forall_.length=0
    ·repeat' ((first|refine nI ?_|refine aI ?_|refine dI ?_|refine al rfl ?_|refine tI ?_|refine fI ?_|refine ah (fun _=>?_) (fun _=>?_))<;>conv=>whnf)
     all_goals exact⟨(k+1,false,true),sI,⟨by dsimp only;omega,no q1⟩,by dsimp only;omega⟩
    ·repeat' ((first|refine nI ?_|refine aI ?_|refine dI ?_|refine al rfl ?_|refine tI ?_|refine fI ?_|refine ah (fun _=>?_) (fun _=>?_))<;>conv=>whnf)
     all_goals exact⟨(k+1,false,true),sI,⟨by dsimp only;omega,no q1⟩,by dsimp only;omega⟩
  |true=>
   cases b with
   |false=>
    conv=>whnf
    by_cases q1:r.kind=1/\r.src<r.dst/\r.some_.length=0/\r.forall_.length=0
    ·repeat' ((first|refine nI ?_|refine aI ?_|refine tI ?_|refine fI ?_|fail);conv=>whnf)
     exact⟨(k+1,true,false),sI,⟨by dsimp only;omega,nx q1⟩,by dsimp only;omega⟩
    by_cases q2:r.forall_.length=0
    ·repeat' ((first|refine nI ?_|refine aI ?_|refine dI ?_|refine al rfl ?_|refine tI ?_|refine fI ?_|refine ah (fun _=>?_) (fun _=>?_))<;>conv=>whnf)
     all_goals exact⟨(k+1,false,false),sI,⟨by dsimp only;omega,no q1⟩,by dsimp only;omega⟩
    ·repeat' ((first|refine nI ?_|refine aI ?_|refine dI ?_|refine al rfl ?_|refine tI ?_|refine fI ?_|refine ah (fun _=>?_) (fun _=>?_))<;>conv=>whnf)
     all_goals exact⟨(k+1,false,true),sI,⟨by dsimp only;omega,no q1⟩,by dsimp only;omega⟩
   |true=>
    conv=>whnf
    by_cases q1:r.kind=1/\r.src<r.dst/\r.some_.length=0/\r.forall_.length=0
    ·repeat' ((first|refine nI ?_|refine aI ?_|refine tI ?_|refine fI ?_|fail);conv=>whnf)
     exact⟨(k+1,true,true),sI,⟨by dsimp only;omega,nx q1⟩,by dsimp only;omega⟩
    by_cases q2:r.forall_.length=0
    ·repeat' ((first|refine nI ?_|refine aI ?_|refine dI ?_|refine al rfl ?_|refine tI ?_|refine fI ?_|refine ah (fun _=>?_) (fun _=>?_))<;>conv=>whnf)
     all_goals exact⟨(k+1,false,true),sI,⟨by dsimp only;omega,no q1⟩,by dsimp only;omega⟩
    ·repeat' ((first|refine nI ?_|refine aI ?_|refine dI ?_|refine al rfl ?_|refine tI ?_|refine fI ?_|refine ah (fun _=>?_) (fun _=>?_))<;>conv=>whnf)
     all_goals exact⟨(k+1,false,true),sI,⟨by dsimp only;omega,no q1⟩,by dsimp only;omega⟩
 ·obtain rfl:k=p.rules.length:=by omega
  cases a<;>cases b
  all_goals
   conv=>whnf
   repeat' ((first|refine nI ?_|refine aI ?_|refine dI ?_|refine al rfl ?_|refine tI ?_|refine fI ?_|refine ah (fun _=>?_) (fun _=>?_))<;>conv=>whnf)
  all_goals
   exact⟨Hk (by first
    |exact(decide_eq_true ⟨by omega,by omega,hb.1 rfl⟩).symm
    |exact(decide_eq_false fun h=>by
      have h1:=h.1
      have h2:=h.2.1
      first
       |omega
       |(have:=hb.2 h.2.2;cases this)).symm),rfl⟩
end Go.Proofs.YtnjggjhkfncnlaaGreatDoor
