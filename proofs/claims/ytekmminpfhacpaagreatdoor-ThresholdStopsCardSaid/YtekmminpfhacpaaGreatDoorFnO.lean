import Derived.Test.YtekmminpfhacpaaGreatDoorM1
set_option linter.unusedVariables false
set_option linter.unusedSimpArgs false
namespace Go.Proofs.YtekmminpfhacpaaGreatDoor
set_option maxRecDepth 100000
theorem Cy (l:List ByteArray) (s:ByteArray) (hl:l.length<=4503599627370496):ab Tryz.prog 288 [.sl t0 dQ l, .str s] (fun u=>∃n:Int,u= .int .i64 n/\(0<=n↔s∈l)):=by
 refine ab.intro ac ae Tryz.func288 rfl (by decide) ?_;(conv=>whnf)
 refine aF.loopF ac ae (fun k:Nat=>k<=l.length/\s∉l.take k) (fun k=>[(8, .int .i64 (k:Int))]) (fun _=>[]) (fun k=>l.length-k) 0 ⟨by omega,by simp⟩ ?_;conv=>whnf
 refine⟨sI,?_⟩
 rintro k ⟨hk,ha⟩
 conv=>whnf
 repeat' first|(refine at_ ?_;conv=>whnf)|(refine ag (fun _=>?_) (fun _=>?_)<;>conv=>whnf)
 ·rename_i h1 h2
  rw[tN] at h2
  refine⟨⟨k,rfl,fun _=>?_,fun _=>by omega⟩,rfl⟩
  rw[h2,gD,gL (by omega)]
  exact List.getElem_mem _
 ·rename_i h1 h2
  rw[tN] at h2
  refine⟨k+1,sI,⟨by omega,?_⟩,by dsimp only;omega⟩
  rw[List.take_succ_eq_append_getElem (by omega),List.mem_append,List.mem_singleton,not_or]
  refine⟨ha,?_⟩
  rw[gD,gL (by omega)] at h2
  exact h2
 ·obtain rfl:k=l.length:=by omega
  rw[List.take_length] at ha
  exact⟨⟨-1,rfl,fun h=>by omega,fun h=>absurd h ha⟩,rfl⟩
theorem ot (l:List ByteArray) (s:ByteArray) (hl:l.length<=4503599627370496):ab Tryz.prog 256 [.sl t0 dQ l, .str s] (fun u=>u= .bool (decide (s∈l))):=by
 refine ab.intro ac ae Tryz.func256 rfl (by decide) ?_;(conv=>whnf)
 refine am.of_pure (n:=5) (Cy l s hl) rfl ?_
 rintro _ ⟨n,rfl,hn⟩
 conv=>whnf
 refine ag (fun h=>?_) (fun h=>?_)<;>conv=>whnf
 ·exact⟨av (hn.1 h),rfl⟩
 ·exact⟨al (fun hh=>h (hn.2 hh)),rfl⟩
theorem th (l:List ByteArray) (s:ByteArray) (hl:l.length<=4503599627370496):ab Tryz.prog 206 [.sl t0 dQ l, .str s] (fun u=>u= .bool (decide (s∈l))):=by
 refine ab.intro ac ae Tryz.func206 rfl (by decide) ?_;(conv=>whnf)
 refine aF.loopF ac ae (fun k:Nat=>k<=l.length/\s∉l.take k) (fun k=>[(5, .int .i64 (k:Int))]) (fun _=>[]) (fun k=>l.length-k) 0 ⟨by omega,by simp⟩ ?_;conv=>whnf
 refine⟨sI,?_⟩
 rintro k ⟨hk,ha⟩
 conv=>whnf
 repeat' first|(refine at_ ?_;conv=>whnf)|(refine ag (fun _=>?_) (fun _=>?_)<;>conv=>whnf)
 ·rename_i h1 h2
  rw[tN] at h2
  refine⟨av ?_,rfl⟩
  rw[<-h2,gD,gL (by omega)]
  exact List.getElem_mem _
 ·rename_i h1 h2
  rw[tN] at h2
  refine⟨k+1,sI,⟨by omega,?_⟩,by dsimp only;omega⟩
  rw[List.take_succ_eq_append_getElem (by omega),List.mem_append,List.mem_singleton,not_or]
  refine⟨ha,fun e=>h2 ?_⟩
  rw[gD,gL (by omega)]
  exact e.symm
 ·obtain rfl:k=l.length:=by omega
  rw[List.take_length] at ha
  exact⟨al ha,rfl⟩
theorem Cz:ab Tryz.prog 278 [.str fd] (fun u=>u= .sl t0 dQ mM):=by
 refine ab.intro ac ae Tryz.func278 rfl (by decide) ?_;(conv=>whnf)
 refine aF.loopF ac ae (fun i:Nat=>i<=289) (fun i=>[(6, .int .i64 (i:Int)),(3, .int .i64 (yx i).1),(4, .int .i64 (yx i).2.1),(5, .int .u8 (yx i).2.2)]) (fun _=>[]) (fun i=>289-i) 0 (by omega) ?_;conv=>whnf
 refine⟨sI,?_⟩
 intro i hi
 conv=>whnf
 refine ag (fun h1=>?_) (fun h1=>?_)<;>conv=>whnf
 ·rw[gO] at h1
  have hb:=ES fd i
  have ht:=tf
  have hs:=zM i (by omega)
  have hn:=zL (i+1) (by omega)
  refine cz (by rw[gO];omega) ?_
  conv=>whnf
  have hb2:(fd.data.getD (i:Int).toNat 0).toNat<256:=UInt8.toNat_lt _
  refine cz (by rw[ht];omega) ?_
  conv=>whnf
  refine Gr trivial ?_ ?_
  ·show _<=zK i/\zK i<=_
   omega
  conv=>whnf
  refine Gr trivial (by show _<=(yx (i+1)).1/\(yx (i+1)).1<=_;omega) ?_
  conv=>whnf
  refine aI ?_
  conv=>whnf
  exact⟨i+1,sI,by omega,by dsimp only;omega⟩
 ·rw[gO] at h1
  obtain rfl:i=289:=by omega
  have e1:=wo.1
  have e2:=wo.2
  have hz:=gO
  have ht:=tf
  rw[e1,e2]
  refine iA (by decide) ?_
  conv=>whnf
  refine DY t0 dQ t0 rfl (by decide) ?_
  conv=>whnf
  refine aF.loopF ac ae (fun _:Unit=>True) (fun _=>[(12, .int .i64 0)]) (fun _=>[(41, .row 9 t0 dQ (List.replicate 43 t0))]) (fun _=>0) () trivial ?_;conv=>whnf
  refine⟨sI,?_⟩
  rintro⟨⟩ _
  conv=>whnf
  refine eI (by rw[hz];decide) ?_
  conv=>whnf
  refine cz (by rw[hz];decide) ?_
  conv=>whnf
  refine cz (by rw[ht];decide+kernel) ?_
  conv=>whnf
  refine iA (by decide+kernel) ?_
  conv=>whnf
  refine aF.loopF ac ae (fun i:Nat=>i<=289) (fun i=>[(12, .int .i64 (i:Int)),(10, .int .i64 ((mq i).1:Int)),(11, .int .i64 ((mq i).2.1:Int))]) (fun i=>[(41, .row 9 t0 dQ (mq i).2.2)]) (fun i=>289-i) 0 (by omega) ?_;conv=>whnf
  refine⟨sI,?_⟩
  intro i hi
  conv=>whnf
  refine ag (fun h1=>?_) (fun h1=>?_)<;>conv=>whnf
  ·rw[hz] at h1
   obtain⟨f1,f2,f3⟩:=tg i (by omega)
   have hb:(fd.data.getD (i:Int).toNat 0).toNat<256:=UInt8.toNat_lt _
   refine cz (by rw[hz];omega) ?_
   conv=>whnf
   refine cz (by rw[ht];omega) ?_
   conv=>whnf
   refine ag (fun h2=>?_) (fun h2=>?_)<;>conv=>whnf
   ·have h2:zK i=0:=h2
    refine aI ?_
    conv=>whnf
    have e:mq (i+1)=mq i:=by rw[mq,if_pos h2]
    refine⟨i+1,?_,by omega,by dsimp only;omega⟩
    dsimp only
    rw[e]
    exact sI
   ·have h2:zK i≠0:=h2
    obtain⟨n1,n2⟩:=zN i (by omega) h2
    refine cz (by rw[hz];omega) ?_
    conv=>whnf
    refine nI ?_
    conv=>whnf
    refine ap (fd.extract (((mq i).2.1:Nat):Int).toNat (i:Int).toNat) rfl ?_
    conv=>whnf
    refine aI ?_
    conv=>whnf
    refine aI ?_
    conv=>whnf
    refine aF.loopF ac ae (fun _:Unit=>True) (fun _=>[(12, .int .i64 ((i:Int)+1))]) (fun _=>[(41, .row 9 t0 dQ ((mq i).2.2.set (mq i).1 (fd.extract (mq i).2.1 i)))]) (fun _=>0) () trivial ?_;conv=>whnf
    refine⟨sI,?_⟩
    rintro⟨⟩ _
    conv=>whnf
    refine eI (by rw[hz];omega) ?_
    conv=>whnf
    refine cz (by rw[hz];omega) ?_
    conv=>whnf
    have hb2:(fd.data.getD ((i:Int)+1).toNat 0).toNat<256:=UInt8.toNat_lt _
    refine cz (by rw[ht];omega) ?_
    conv=>whnf
    refine iA ?_ ?_
    ·have e:((i:Int)+1).toNat=i+1:=by omega
     rw[e]
     exact fun h=>h n2
    conv=>whnf
    have e:mq (i+1)=((mq i).1+1,i+1,(mq i).2.2.set (mq i).1 (fd.extract (mq i).2.1 i)):=by rw[mq,if_neg h2]
    refine⟨i+1,?_,by omega,by dsimp only;omega⟩
    dsimp only
    rw[e]
    exact sI
  ·rw[hz] at h1
   obtain rfl:i=289:=by omega
   obtain⟨g1,g2,g3⟩:=Cx
   obtain⟨f1,f2,f3⟩:=tg 289 (by omega)
   rw[g1,g2]
   refine eI (by rw[hz];decide) ?_
   conv=>whnf
   refine cz (by rw[hz];decide) ?_
   conv=>whnf
   refine nI ?_
   conv=>whnf
   refine ap _ rfl ?_
   conv=>whnf
   refine⟨D9 ?_,rfl⟩
   rw[<-g3,hz]
   rfl
theorem ti (s:ByteArray):ab Tryz.prog 239 [.str s] (fun u=>u= .bool (decide (s∈mM))):=by
 refine ab.intro ac ae Tryz.func239 rfl (by decide) ?_;(conv=>whnf)
 (refine oP (Cz) ?_;conv=>whnf)
 refine dC (ot mM s (by decide)) (fun _=>?_) (fun _=>?_)<;>(conv=>whnf)
 ·rename_i h;exact⟨av h,rfl⟩
 ·rename_i h;exact⟨al h,rfl⟩
end Go.Proofs.YtekmminpfhacpaaGreatDoor
