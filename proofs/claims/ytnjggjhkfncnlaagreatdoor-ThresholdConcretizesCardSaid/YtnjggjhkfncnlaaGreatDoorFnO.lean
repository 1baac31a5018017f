import Derived.Test.YtnjggjhkfncnlaaGreatDoorM1
set_option linter.unusedVariables false
set_option linter.unusedSimpArgs false
namespace Go.Proofs.YtnjggjhkfncnlaaGreatDoor
set_option maxRecDepth 100000
theorem EC (l:List ByteArray) (s:ByteArray) (hl:l.length<=4503599627370496):ab Tryz.prog 239 [.sl t0 dX l, .str s] (fun u=>∃n:Int,u= .int .i64 n/\(0<=n↔s∈l)):=by
 refine ab.intro ac ag Tryz.func239 rfl (by decide) ?_;(conv=>whnf)
 refine aH.loopF ac ag (fun k:Nat=>k<=l.length/\s∉l.take k) (fun k=>[(8, .int .i64 (k:Int))]) (fun _=>[]) (fun k=>l.length-k) 0 ⟨by omega,by simp⟩ ?_;conv=>whnf
 refine⟨sI,?_⟩
 rintro k ⟨hk,ha⟩
 conv=>whnf
 repeat' first|(refine at_ ?_;conv=>whnf)|(refine ah (fun _=>?_) (fun _=>?_)<;>conv=>whnf)
 ·rename_i h1 h2
  rw[tN] at h2
  refine⟨⟨k,rfl,fun _=>?_,fun _=>by omega⟩,rfl⟩
  rw[h2,gD,gL (by omega)]
  exact List.getElem_mem _
 ·rename_i h1 h2
  rw[tN] at h2
  refine⟨k+1,sI,⟨by omega,?_⟩,by dsimp only;omega⟩
  rw[List.take_succ_eq_append_getElem (by omega),List.mem_append,List.mem_singleton,not_or]
  refine⟨ha,?_⟩
  rw[gD,gL (by omega)] at h2
  exact h2
 ·obtain rfl:k=l.length:=by omega
  rw[List.take_length] at ha
  exact⟨⟨-1,rfl,fun h=>by omega,fun h=>absurd h ha⟩,rfl⟩
theorem pM (l:List ByteArray) (s:ByteArray) (hl:l.length<=4503599627370496):ab Tryz.prog 223 [.sl t0 dX l, .str s] (fun u=>u= .bool (decide (s∈l))):=by
 refine ab.intro ac ag Tryz.func223 rfl (by decide) ?_;(conv=>whnf)
 refine ak.of_pure (n:=5) (EC l s hl) rfl ?_
 rintro _ ⟨n,rfl,hn⟩
 conv=>whnf
 refine ah (fun h=>?_) (fun h=>?_)<;>conv=>whnf
 ·exact⟨az (hn.1 h),rfl⟩
 ·exact⟨aq (fun hh=>h (hn.2 hh)),rfl⟩
theorem uU (l:List ByteArray) (s:ByteArray) (hl:l.length<=4503599627370496):ab Tryz.prog 207 [.sl t0 dX l, .str s] (fun u=>u= .bool (decide (s∈l))):=by
 refine ab.intro ac ag Tryz.func207 rfl (by decide) ?_;(conv=>whnf)
 refine aH.loopF ac ag (fun k:Nat=>k<=l.length/\s∉l.take k) (fun k=>[(5, .int .i64 (k:Int))]) (fun _=>[]) (fun k=>l.length-k) 0 ⟨by omega,by simp⟩ ?_;conv=>whnf
 refine⟨sI,?_⟩
 rintro k ⟨hk,ha⟩
 conv=>whnf
 repeat' first|(refine at_ ?_;conv=>whnf)|(refine ah (fun _=>?_) (fun _=>?_)<;>conv=>whnf)
 ·rename_i h1 h2
  rw[tN] at h2
  refine⟨az ?_,rfl⟩
  rw[<-h2,gD,gL (by omega)]
  exact List.getElem_mem _
 ·rename_i h1 h2
  rw[tN] at h2
  refine⟨k+1,sI,⟨by omega,?_⟩,by dsimp only;omega⟩
  rw[List.take_succ_eq_append_getElem (by omega),List.mem_append,List.mem_singleton,not_or]
  refine⟨ha,fun e=>h2 ?_⟩
  rw[gD,gL (by omega)]
  exact e.symm
 ·obtain rfl:k=l.length:=by omega
  rw[List.take_length] at ha
  exact⟨aq ha,rfl⟩
theorem ED:ab Tryz.prog 232 [.str fX] (fun u=>u= .sl t0 dX oa):=by
 refine ab.intro ac ag Tryz.func232 rfl (by decide) ?_;(conv=>whnf)
 refine aH.loopF ac ag (fun i:Nat=>i<=289) (fun i=>[(6, .int .i64 (i:Int)),(3, .int .i64 (Af i).1),(4, .int .i64 (Af i).2.1),(5, .int .u8 (Af i).2.2)]) (fun _=>[]) (fun i=>289-i) 0 (by omega) ?_;conv=>whnf
 refine⟨sI,?_⟩
 intro i hi
 conv=>whnf
 refine ah (fun h1=>?_) (fun h1=>?_)<;>conv=>whnf
 ·rw[iG] at h1
  have hb:=GO fX i
  have ht:=uS
  have hs:=Bx i (by omega)
  have hn:=Bw (i+1) (by omega)
  refine bI (by rw[iG];omega) ?_
  conv=>whnf
  have hb2:(fX.data.getD (i:Int).toNat 0).toNat<256:=UInt8.toNat_lt _
  refine bI (by rw[ht];omega) ?_
  conv=>whnf
  refine ub trivial ?_ ?_
  ·show _<=Bv i/\Bv i<=_
   omega
  conv=>whnf
  refine ub trivial (by show _<=(Af (i+1)).1/\(Af (i+1)).1<=_;omega) ?_
  conv=>whnf
  refine aI ?_
  conv=>whnf
  exact⟨i+1,sI,by omega,by dsimp only;omega⟩
 ·rw[iG] at h1
  obtain rfl:i=289:=by omega
  have e1:=x6.1
  have e2:=x6.2
  have hz:=iG
  have ht:=uS
  rw[e1,e2]
  refine j' (by decide) ?_
  conv=>whnf
  refine xF t0 dX t0 rfl (by decide) ?_
  conv=>whnf
  refine aH.loopF ac ag (fun _:Unit=>True) (fun _=>[(12, .int .i64 0)]) (fun _=>[(41, .row 9 t0 dX (List.replicate 43 t0))]) (fun _=>0) () trivial ?_;conv=>whnf
  refine⟨sI,?_⟩
  rintro⟨⟩ _
  conv=>whnf
  refine da (by rw[hz];decide) ?_
  conv=>whnf
  refine bI (by rw[hz];decide) ?_
  conv=>whnf
  refine bI (by rw[ht];decide+kernel) ?_
  conv=>whnf
  refine j' (by decide+kernel) ?_
  conv=>whnf
  refine aH.loopF ac ag (fun i:Nat=>i<=289) (fun i=>[(12, .int .i64 (i:Int)),(10, .int .i64 ((nq i).1:Int)),(11, .int .i64 ((nq i).2.1:Int))]) (fun i=>[(41, .row 9 t0 dX (nq i).2.2)]) (fun i=>289-i) 0 (by omega) ?_;conv=>whnf
  refine⟨sI,?_⟩
  intro i hi
  conv=>whnf
  refine ah (fun h1=>?_) (fun h1=>?_)<;>conv=>whnf
  ·rw[hz] at h1
   obtain⟨f1,f2,f3⟩:=uT i (by omega)
   have hb:(fX.data.getD (i:Int).toNat 0).toNat<256:=UInt8.toNat_lt _
   refine bI (by rw[hz];omega) ?_
   conv=>whnf
   refine bI (by rw[ht];omega) ?_
   conv=>whnf
   refine ah (fun h2=>?_) (fun h2=>?_)<;>conv=>whnf
   ·have h2:Bv i=0:=h2
    refine aI ?_
    conv=>whnf
    have e:nq (i+1)=nq i:=by rw[nq,if_pos h2]
    refine⟨i+1,?_,by omega,by dsimp only;omega⟩
    dsimp only
    rw[e]
    exact sI
   ·have h2:Bv i≠0:=h2
    obtain⟨n1,n2⟩:=Bz i (by omega) h2
    refine bI (by rw[hz];omega) ?_
    conv=>whnf
    refine nI ?_
    conv=>whnf
    refine ap (fX.extract (((nq i).2.1:Nat):Int).toNat (i:Int).toNat) rfl ?_
    conv=>whnf
    refine aI ?_
    conv=>whnf
    refine aI ?_
    conv=>whnf
    refine aH.loopF ac ag (fun _:Unit=>True) (fun _=>[(12, .int .i64 ((i:Int)+1))]) (fun _=>[(41, .row 9 t0 dX ((nq i).2.2.set (nq i).1 (fX.extract (nq i).2.1 i)))]) (fun _=>0) () trivial ?_;conv=>whnf
    refine⟨sI,?_⟩
    rintro⟨⟩ _
    conv=>whnf
    refine da (by rw[hz];omega) ?_
    conv=>whnf
    refine bI (by rw[hz];omega) ?_
    conv=>whnf
    have hb2:(fX.data.getD ((i:Int)+1).toNat 0).toNat<256:=UInt8.toNat_lt _
    refine bI (by rw[ht];omega) ?_
    conv=>whnf
    refine j' ?_ ?_
    ·have e:((i:Int)+1).toNat=i+1:=by omega
     rw[e]
     exact fun h=>h n2
    conv=>whnf
    have e:nq (i+1)=((nq i).1+1,i+1,(nq i).2.2.set (nq i).1 (fX.extract (nq i).2.1 i)):=by rw[nq,if_neg h2]
    refine⟨i+1,?_,by omega,by dsimp only;omega⟩
    dsimp only
    rw[e]
    exact sI
  ·rw[hz] at h1
   obtain rfl:i=289:=by omega
   obtain⟨g1,g2,g3⟩:=EB
   obtain⟨f1,f2,f3⟩:=uT 289 (by omega)
   rw[g1,g2]
   refine da (by rw[hz];decide) ?_
   conv=>whnf
   refine bI (by rw[hz];decide) ?_
   conv=>whnf
   refine nI ?_
   conv=>whnf
   refine ap _ rfl ?_
   conv=>whnf
   refine⟨F1 ?_,rfl⟩
   rw[<-g3,hz]
   rfl
theorem uW (s:ByteArray):ab Tryz.prog 202 [.str s] (fun u=>u= .bool (decide (s∈oa))):=by
 refine ab.intro ac ag Tryz.func202 rfl (by decide) ?_;(conv=>whnf)
 (refine oP (ED) ?_;conv=>whnf)
 refine dC (pM oa s (by decide)) (fun _=>?_) (fun _=>?_)<;>(conv=>whnf)
 ·rename_i h;exact⟨az h,rfl⟩
 ·rename_i h;exact⟨aq h,rfl⟩
end Go.Proofs.YtnjggjhkfncnlaaGreatDoor
