import Derived.Test.YtekmminpfhacpaaGreatDoorP1
set_option linter.unusedVariables false
set_option linter.unusedSimpArgs false
namespace Go.Proofs.YtekmminpfhacpaaGreatDoor
set_option maxRecDepth 100000
set_option maxHeartbeats 16000000
def Mb (p:av):AV->Prop:=fun u=>∃b c d e:Bool,u= .tup [.agg [.bool (decide (mE p)), .bool b, .bool c, .bool d, .bool e], .int .i64 0]
theorem JT {p:av} {k:Nat} {a:Bool} (hk:k<p.rules.length) (h:a=true↔p.topology=1/\p.values.length=0/\∀j,j<k->iB (p.rules.getD j ax)) (hr:iB (p.rules.getD k ax)):a=true↔p.topology=1/\p.values.length=0/\∀j,j<k+1->iB (p.rules.getD j ax):=by
 rw[h]
 refine⟨fun⟨a,b,c⟩=>⟨a,b,fun j hj=>?_⟩,fun⟨a,b,c⟩=>⟨a,b,fun j hj=>c j (by omega)⟩⟩
 by_cases e:j=k
 ·subst e;exact hr
 ·exact c j (by omega)
theorem JU {p:av} {k:Nat} (hr:¬iB (p.rules.getD k ax)):(false=true)↔p.topology=1/\p.values.length=0/\∀j,j<k+1->iB (p.rules.getD j ax):=
 ⟨fun h=>(by cases h),fun⟨_,_,c⟩=>absurd (c k (by omega)) hr⟩
theorem GN {p:av} {k:Nat} {a:Bool} (hk:k=p.rules.length) (h:a=true↔p.topology=1/\p.values.length=0/\∀j,j<k->iB (p.rules.getD j ax)):a=decide (mE p):=by
 subst hk
 cases a with
 |true=>exact(decide_eq_true (h.1 rfl)).symm
 |false=>exact(decide_eq_false fun hh=>by have:=h.2 hh;cases this).symm
theorem Ov {A B:Prop} (k:A->B) (h:A):B:=k h
theorem Mc (p:av) (hp:lO p) (hv:aX p=0):ah Tryz.prog 205 [.agg (cV p)] (Mb p):=by
 have ht:=(aN hv).top
 have hle:=kj hp
 obtain⟨T0,e0⟩:∃b:Bool,b=decide (p.topology=1/\p.values.length=0):=⟨_,rfl⟩
 obtain⟨T1,e1⟩:∃b:Bool,b=decide (p.topology=1/\p.fault=0/\p.messages.length=0/\p.resilience.length=0):=⟨_,rfl⟩
 obtain⟨T2,e2⟩:∃b:Bool,b=decide (p.topology=2\/p.topology=3):=⟨_,rfl⟩
 obtain⟨T3,e3⟩:∃b:Bool,b=decide (p.topology=4):=⟨_,rfl⟩
 obtain⟨T4,e4⟩:∃b:Bool,b=decide (p.topology=1/\p.fault=0/\p.messages.length=0/\p.resilience.length=0/\p.states.length<=4):=⟨_,rfl⟩
 refine ah.intro ab ac Tryz.func205 rfl (by decide) ?_;(conv=>whnf)
 refine au rfl ?_
 conv=>whnf
 (refine oP (qt p hp) ?_;conv=>whnf)
 refine fI ?_
 conv=>whnf
 apply Ov (A:=aJ Tryz.prog _ (.loop _) ([.top, .pd (cV p), .ptr 2 0, .top, .top, .top, .top, .ptr 7 0, .int .i64 0]++List.replicate 96 .top) (ag.ofL [(2, .box 272 [.bool false, .bool false, .bool false, .bool false, .bool false]),(7, .box 272 [.bool T0, .bool T1, .bool T2, .bool T3, .bool T4])]) _)
 case k=>
  intro hs0
  repeat' ((first|refine nI ?_|refine aI ?_|refine dI ?_|refine au rfl ?_|refine tI ?_|refine fI ?_|refine ae (fun _=>?_) (fun _=>?_))<;>conv=>whnf)
  all_goals
   first|rw[e0.trans (decide_eq_true (by omega))] at hs0|rw[e0.trans (decide_eq_false (by omega))] at hs0
   first|rw[e1.trans (decide_eq_true (by omega))] at hs0|rw[e1.trans (decide_eq_false (by omega))] at hs0
   first|rw[e2.trans (decide_eq_true (by omega))] at hs0|rw[e2.trans (decide_eq_false (by omega))] at hs0
   first|rw[e3.trans (decide_eq_true (by omega))] at hs0|rw[e3.trans (decide_eq_false (by omega))] at hs0
   first|rw[e4.trans (decide_eq_true (by omega))] at hs0|rw[e4.trans (decide_eq_false (by omega))] at hs0
   exact aJ.sub (aH.by_ [(2, .old 2),(7, .old 7)] _ 400 rfl (aa) (aa)) hs0
 case h=>
  refine aJ.loopF ab ac (fun z:Nat×Bool×Bool=>z.1<=p.rules.length/\(z.2.1=true↔p.topology=1/\p.values.length=0/\∀j,j<z.1->iB (p.rules.getD j ax))) (fun z=>[(8, .int .i64 (z.1:Int))]) (fun z=>[(2, .box 272 [.bool false, .bool false, .bool false, .bool false, .bool false]),(7, .box 272 [.bool z.2.1, .bool z.2.2, .bool T2, .bool T3, .bool T4])]) (fun z=>p.rules.length-z.1) (0,T0,T1) ⟨Nat.zero_le _,fun h=>by(have:=of_decide_eq_true (e0.symm.trans h);exact⟨this.1,this.2,fun j hj=>absurd hj (Nat.not_lt_zero _)⟩),fun h=>e0.trans (decide_eq_true ⟨h.1,h.2.1⟩)⟩ ?_;conv=>whnf
  refine⟨sI,?_⟩
  rintro⟨k,a,b⟩ ⟨hk,hb⟩
  dsimp only at hk hb⊢
  conv=>whnf
  refine ae ?_ ?_<;>(intro h1;conv=>whnf)
  case refine_2=>
   rw[GN (by omega) hb]
   exact⟨⟨b,T2,T3,T4,rfl⟩,rfl⟩
  have hlt:k<p.rules.length:=by omega
  refine nI ?_
  rw[tN]
  have nx:=JT hlt hb
  have no:=JU (p:=p) (k:=k)
  unfold iB at nx no
  generalize p.rules.getD k ax=r at nx no
  conv=>whnf
  by_cases q1:r.kind=1/\r.src<r.dst/\r.some_.length=0/\r.forall_.length=0
  ·repeat' ((first|refine nI ?_|refine aI ?_|refine tI ?_|refine fI ?_|fail);conv=>whnf)
   exact⟨(k+1,a,b),sI,⟨by dsimp only;omega,nx q1⟩,by dsimp only;omega⟩
  by_cases q2:r.forall_.length=0
  ·repeat' ((first|refine nI ?_|refine aI ?_|refine dI ?_|refine au rfl ?_|refine tI ?_|refine fI ?_|refine ae (fun _=>?_) (fun _=>?_))<;>conv=>whnf)
   all_goals exact⟨(k+1,false,b),sI,⟨by dsimp only;omega,no q1⟩,by dsimp only;omega⟩
  ·repeat' ((first|refine nI ?_|refine aI ?_|refine dI ?_|refine au rfl ?_|refine tI ?_|refine fI ?_|refine ae (fun _=>?_) (fun _=>?_))<;>conv=>whnf)
   all_goals exact⟨(k+1,false,false),sI,⟨by dsimp only;omega,no q1⟩,by dsimp only;omega⟩
theorem Md {p:av} {k:Nat} {a:Bool} (h:a=true↔∀j,j<k->iB (p.rules.getD j ax)) (hr:iB (p.rules.getD k ax)):a=true↔∀j,j<k+1->iB (p.rules.getD j ax):=by
 rw[h]
 refine⟨fun c j hj=>?_,fun c j hj=>c j (by omega)⟩
 by_cases e:j=k
 ·subst e;exact hr
 ·exact c j (by omega)
theorem Me {p:av} {k:Nat} (hr:¬iB (p.rules.getD k ax)):(false=true)↔∀j,j<k+1->iB (p.rules.getD j ax):=
 ⟨fun h=>(by cases h),fun c=>absurd (c k (by omega)) hr⟩
theorem Mg {p:av} {a b c d e:Bool} (h:a=decide (mE p)):Mb p (.tup [.agg [.bool a, .bool b, .bool c, .bool d, .bool e], .int .i64 0]):=⟨b,c,d,e,by rw[h]⟩
theorem Mh (p:av) (hp:lO p) (hv:aX p=0):ah Tryz.prog 102 [.agg (cV p)] (Mb p):=by
 have ht:=(aN hv).top
 have hle:=kj hp
 refine ah.intro ab ac Tryz.func102 rfl (by decide) ?_;(conv=>whnf)
 refine au rfl ?_
 conv=>whnf
 (refine oP (qr p hp) ?_;conv=>whnf)
 refine fI ?_
 conv=>whnf
 refine aJ.loopF ab ac (fun z:Nat×Bool×Bool=>z.1<=p.rules.length/\(z.2.1=true↔∀j,j<z.1->iB (p.rules.getD j ax))) (fun z=>[(5, .bool z.2.1),(6, .bool z.2.2),(20, .int .i64 (z.1:Int))]) (fun z=>[(2, .box 175 [.bool false, .bool false, .bool false, .bool false, .bool false])]) (fun z=>p.rules.length-z.1) (0,true,false) ⟨Nat.zero_le _,fun _ j hj=>(by have:j<0:=hj;omega),fun _=>rfl⟩ ?_;conv=>whnf
 refine⟨sI,?_⟩
 rintro⟨k,a,b⟩ ⟨hk,hb⟩
 dsimp only at hk hb⊢
 conv=>whnf
 refine ae ?_ ?_<;>(intro h1;conv=>whnf)
 ·have hlt:k<p.rules.length:=by omega
  refine nI ?_
  rw[tN]
  have nx:=Md hb
  have no:=Me (p:=p) (k:=k)
  unfold iB at nx no
  generalize p.rules.getD k ax=r at nx no
  cases a with
  |false=>
   cases b with
   |false=>
    conv=>whnf
    by_cases q1:r.kind=1/\r.src<r.dst/\r.some_.length=0/\r.forall_.length=0
    ·repeat' ((first|refine nI ?_|refine aI ?_|refine tI ?_|refine fI ?_|fail);conv=>whnf)
     exact⟨(k+1,false,false),sI,⟨by dsimp only;omega,nx q1⟩,by dsimp only;omega⟩
    by_cases q2:r.forall_.length=0
    ·repeat' ((first|refine nI ?_|refine aI ?_|refine dI ?_|refine au rfl ?_|refine tI ?_|refine fI ?_|refine ae (fun _=>?_) (fun _=>?_))<;>conv=>whnf)
     all_goals exact⟨(k+1,false,false),sI,⟨by dsimp only;omega,no q1⟩,by dsimp only;omega⟩
    ·repeat' ((first|refine nI ?_|refine aI ?_|refine dI ?_|refine au rfl ?_|refine tI ?_|refine fI ?_|refine ae (fun _=>?_) (fun _=>?_))<;>conv=>whnf)
     all_goals exact⟨(k+1,false,true),sI,⟨by dsimp only;omega,no q1⟩,by dsimp only;omega⟩
   |true=>
    conv=>whnf
    by_cases q1:r.kind=1/\r.src<r.dst/\r.some_.length=0/\r.forall_.length=0
    ·repeat' ((first|refine nI ?_|refine aI ?_|refine tI ?_|refine fI ?_|fail);conv=>whnf)
     exact⟨(k+1,false,true),sI,⟨by dsimp only;omega,nx q1⟩,by dsimp only;omega⟩
    by_cases q2:r.forall_.length=0
    ·repeat' ((first|refine nI ?_|refine aI ?_|refine dI ?_|refine au rfl ?_|refine tI ?_|refine fI ?_|refine ae (fun _=>?_) (fun _=>?_))<;>conv=>whnf)
     all_goals exact⟨(k+1,false,true),sI,⟨by dsimp only;omega,no q1⟩,by dsimp only;omega⟩
    ·repeat' ((first|refine nI ?_|refine aI ?_|refine dI ?_|refine au rfl ?_|refine tI ?_|refine fI ?_|refine ae (fun _=>?_) (fun _=>?_))<;>conv=>whnf)
     all_goals exact⟨(k+1,false,true),sI,⟨by dsimp only;omega,no q1⟩,by dsimp only;omega⟩
  |true=>
   cases b with
   |false=>
    conv=>whnf
    by_cases q1:r.kind=1/\r.src<r.dst/\r.some_.length=0/\r.forall_.length=0
    ·repeat' ((first|refine nI ?_|refine aI ?_|refine tI ?_|refine fI ?_|fail);conv=>whnf)
     exact⟨(k+1,true,false),sI,⟨by dsimp only;omega,nx q1⟩,by dsimp only;omega⟩
    by_cases q2:r.forall_.length=0
    ·repeat' ((first|refine nI ?_|refine aI ?_|refine dI ?_|refine au rfl ?_|refine tI ?_|refine fI ?_|refine ae (fun _=>?_) (fun _=>?_))<;>conv=>whnf)
     all_goals exact⟨(k+1,false,false),sI,⟨by dsimp only;omega,no q1⟩,by dsimp only;omega⟩
    ·repeat' ((first|refine nI ?_|refine aI ?_|refine dI ?_|refine au rfl ?_|refine tI ?_|refine fI ?_|refine ae (fun _=>?_) (fun _=>?_))<;>conv=>whnf)
     all_goals exact⟨(k+1,false,true),sI,⟨by dsimp only;omega,no q1⟩,by dsimp only;omega⟩
   |true=>
    conv=>whnf
    by_cases q1:r.kind=1/\r.src<r.dst/\r.some_.length=0/\r.forall_.length=0
    ·repeat' ((first|refine nI ?_|refine aI ?_|refine tI ?_|refine fI ?_|fail);conv=>whnf)
     exact⟨(k+1,true,true),sI,⟨by dsimp only;omega,nx q1⟩,by dsimp only;omega⟩
    by_cases q2:r.forall_.length=0
    ·repeat' ((first|refine nI ?_|refine aI ?_|refine dI ?_|refine au rfl ?_|refine tI ?_|refine fI ?_|refine ae (fun _=>?_) (fun _=>?_))<;>conv=>whnf)
     all_goals exact⟨(k+1,false,true),sI,⟨by dsimp only;omega,no q1⟩,by dsimp only;omega⟩
    ·repeat' ((first|refine nI ?_|refine aI ?_|refine dI ?_|refine au rfl ?_|refine tI ?_|refine fI ?_|refine ae (fun _=>?_) (fun _=>?_))<;>conv=>whnf)
     all_goals exact⟨(k+1,false,true),sI,⟨by dsimp only;omega,no q1⟩,by dsimp only;omega⟩
 ·obtain rfl:k=p.rules.length:=by omega
  cases a<;>cases b
  all_goals
   conv=>whnf
   repeat' ((first|refine nI ?_|refine aI ?_|refine dI ?_|refine au rfl ?_|refine tI ?_|refine fI ?_|refine ae (fun _=>?_) (fun _=>?_))<;>conv=>whnf)
  all_goals
   exact⟨Mg (by first
    |exact(decide_eq_true ⟨by omega,by omega,hb.1 rfl⟩).symm
    |exact(decide_eq_false fun h=>by
      have h1:=h.1
      have h2:=h.2.1
      first
       |omega
       |(have:=hb.2 h.2.2;cases this)).symm),rfl⟩
end Go.Proofs.YtekmminpfhacpaaGreatDoor
