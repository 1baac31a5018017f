import Derived.Test.YtekmminpfhacpaaGreatDoorP1
set_option linter.unusedVariables false
set_option linter.unusedSimpArgs false
namespace Go.Proofs.YtekmminpfhacpaaGreatDoor
set_option maxRecDepth 100000
set_option maxHeartbeats 16000000
def Qr (p:ap):AV->Prop:=fun u=>∃b c d e:Bool,u= .tup [.agg [.bool (decide (io p)), .bool b, .bool c, .bool d, .bool e], .int .i64 0]
theorem N8 {p:ap} {k:Nat} {a:Bool} (h:a=true↔∀j,j<k->pu (p.rules.getD j au)) (hr:pu (p.rules.getD k au)):a=true↔∀j,j<k+1->pu (p.rules.getD j au):=by
 rw[h]
 refine⟨fun c j hj=>?_,fun c j hj=>c j (by omega)⟩
 by_cases e:j=k
 ·subst e;exact hr
 ·exact c j (by omega)
theorem N9 {p:ap} {k:Nat} (hr:¬pu (p.rules.getD k au)):(false=true)↔∀j,j<k+1->pu (p.rules.getD j au):=
 ⟨fun h=>(by cases h),fun c=>absurd (c k (by omega)) hr⟩
theorem N' {p:ap} {a b c d e:Bool} (h:a=decide (io p)):Qr p (.tup [.agg [.bool a, .bool b, .bool c, .bool d, .bool e], .int .i64 0]):=⟨b,c,d,e,by rw[h]⟩
theorem Oa (p:ap) (hp:qz p) (hv:aL p=0):ab Tryz.prog 102 [.agg (dg p)] (Qr p):=by
 have ht:=(a9 hv).top
 have hle:=tA hp
 refine ab.intro ae ag Tryz.func102 rfl (by decide) ?_;(conv=>whnf)
 refine ar rfl ?_
 conv=>whnf
 (refine oP (fN p hp) ?_;conv=>whnf)
 refine fI ?_
 conv=>whnf
 refine a8.loopF ae ag (fun z:Nat×Bool×Bool=>z.1<=p.rules.length/\(z.2.1=true↔∀j,j<z.1->pu (p.rules.getD j au))) (fun z=>[(5, .bool z.2.1),(6, .bool z.2.2),(20, .int .i64 (z.1:Int))]) (fun z=>[(2, .box 175 [.bool false, .bool false, .bool false, .bool false, .bool false])]) (fun z=>p.rules.length-z.1) (0,true,false) ⟨Nat.zero_le _,fun _ j hj=>(by have:j<0:=hj;omega),fun _=>rfl⟩ ?_;conv=>whnf
 refine⟨sI,?_⟩
 rintro⟨k,a,b⟩ ⟨hk,hb⟩
 dsimp only at hk hb⊢
 conv=>whnf
 refine ai ?_ ?_<;>(intro h1;conv=>whnf)
 ·have hlt:k<p.rules.length:=by omega
  refine nI ?_
  rw[tN]
  have nx:=N8 hb
  have no:=N9 (p:=p) (k:=k)
  unfold pu at nx no
  generalize p.rules.getD k au=r at nx no
  cases a with
  |false=>
   cases b with
   |false=>
    conv=>whnf
    by_cases q1:r.kind=1/\r.src<r.dst/\r.some_.length=0/\r.forall_.length=0
    ·repeat' ((first|refine nI ?_|refine aI ?_|refine tI ?_|refine fI ?_|fail);conv=>whnf)
     exact⟨(k+1,false,false),sI,⟨by dsimp only;omega,nx q1⟩,by dsimp only;omega⟩
    by_cases q2:r.forall_.length=0
    ·repeat' ((first|refine nI ?_|refine aI ?_|refine dI ?_|refine ar rfl ?_|refine tI ?_|refine fI ?_|refine ai (fun _=>?_) (fun _=>?_))<;>conv=>whnf)
     all_goals exact⟨(k+1,false,false),sI,⟨by dsimp only;omega,no q1⟩,by dsimp only;omega⟩
    ·repeat' ((first|refine nI ?_|refine aI ?_|refine dI ?_|refine ar rfl ?_|refine tI ?_|refine fI ?_|refine ai (fun _=>?_) (fun _=>?_))<;>conv=>whnf)
     all_goals exact⟨(k+1,false,true),sI,⟨by dsimp only;omega,no q1⟩,by dsimp only;omega⟩
   |true=>
    conv=>whnf
    by_cases q1:r.kind=1/\r.src<r.dst/\r.some_.length=0/\r.forall_.length=0
    ·repeat' ((first|refine nI ?_|refine aI ?_|refine tI ?_|refine fI ?_|fail);conv=>whnf)
     exact⟨(k+1,false,true),sI,⟨by dsimp only;omega,nx q1⟩,by dsimp only;omega⟩
    by_cases q2:r.forall_.length=0
    ·repeat' ((first|refine nI ?_|refine aI ?_|refine dI ?_|refine ar rfl ?_|refine tI ?_|refine fI ?_|refine ai (fun _=>?_) (fun _=>?_))<;>conv=>whnf)
     all_goals exact⟨(k+1,false,true),sI,⟨by dsimp only;omega,no q1⟩,by dsimp only;omega⟩
    ·repeat' ((first|refine nI ?_|refine aI ?_|refine dI ?_|refine ar rfl ?_|refine tI ?_|refine fI ?_|refine ai (fun _=>?_) (fun _=>?_))<;>conv=>whnf)
     all_goals exact⟨(k+1,false,true),sI,⟨by dsimp only;omega,no q1⟩,by dsimp only;omega⟩
  |true=>
   cases b with
   |false=>
    conv=>whnf
    by_cases q1:r.kind=1/\r.src<r.dst/\r.some_.length=0/\r.forall_.length=0
    ·repeat' ((first|refine nI ?_|refine aI ?_|refine tI ?_|refine fI ?_|fail);conv=>whnf)
     exact⟨(k+1,true,false),sI,⟨by dsimp only;omega,nx q1⟩,by dsimp only;omega⟩
    by_cases q2:r.forall_.length=0
    ·repeat' ((first|refine nI ?_|refine aI ?_|refine dI ?_|refine ar rfl ?_|refine tI ?_|refine fI ?_|refine ai (fun _=>?_) (fun _=>?_))<;>conv=>whnf)
     all_goals exact⟨(k+1,false,false),sI,⟨by dsimp only;omega,no q1⟩,by dsimp only;omega⟩
    ·repeat' ((first|refine nI ?_|refine aI ?_|refine dI ?_|refine ar rfl ?_|refine tI ?_|refine fI ?_|refine ai (fun _=>?_) (fun _=>?_))<;>conv=>whnf)
     all_goals exact⟨(k+1,false,true),sI,⟨by dsimp only;omega,no q1⟩,by dsimp only;omega⟩
   |true=>
    conv=>whnf
    by_cases q1:r.kind=1/\r.src<r.dst/\r.some_.length=0/\r.forall_.length=0
    ·repeat' ((first|refine nI ?_|refine aI ?_|refine tI ?_|refine fI ?_|fail);conv=>whnf)
     exact⟨(k+1,true,true),sI,⟨by dsimp only;omega,nx q1⟩,by dsimp only;omega⟩
    by_cases q2:r.forall_.length=0
    ·repeat' ((first|refine nI ?_|refine aI ?_|refine dI ?_|refine ar rfl ?_|refine tI ?_|refine fI ?_|refine ai (fun _=>?_) (fun _=>?_))<;>conv=>whnf)
     all_goals exact⟨(k+1,false,true),sI,⟨by dsimp only;omega,no q1⟩,by dsimp only;omega⟩
    ·repeat' ((first|refine nI ?_|refine aI ?_|refine dI ?_|refine ar rfl ?_|refine tI ?_|refine fI ?_|refine ai (fun _=>?_) (fun _=>?_))<;>conv=>whnf)
     all_goals exact⟨(k+1,false,true),sI,⟨by dsimp only;omega,no q1⟩,by dsimp only;omega⟩
 ·obtain rfl:k=p.rules.length:=by omega
  cases a<;>cases b
  all_goals
   conv=>whnf
   repeat' ((first|refine nI ?_|refine aI ?_|refine dI ?_|refine ar rfl ?_|refine tI ?_|refine fI ?_|refine ai (fun _=>?_) (fun _=>?_))<;>conv=>whnf)
  all_goals
   exact⟨N' (by first
    |exact(decide_eq_true ⟨by omega,by omega,hb.1 rfl⟩).symm
    |exact(decide_eq_false fun h=>by
      have h1:=h.1
      have h2:=h.2.1
      first
       |omega
       |(have:=hb.2 h.2.2;cases this)).symm),rfl⟩
end Go.Proofs.YtekmminpfhacpaaGreatDoor
