import Derived.Test.YtblcpnmnibcbbaaGreatDoorM1
set_option linter.unusedVariables false
set_option linter.unusedSimpArgs false
namespace Go.Proofs.YtblcpnmnibcbbaaGreatDoor
set_option maxRecDepth 100000
theorem D4 (l:List ByteArray) (s:ByteArray) (hl:l.length<=4503599627370496):aa Tryz.prog 186 [.sl t0 gU l, .str s] (fun u=>∃n:Int,u= .int .i64 n/\(0<=n↔s∈l)):=by
 refine aa.intro ab ac Tryz.func186 rfl (by decide) ?_;(conv=>whnf)
 refine aR.loopF ab ac (fun k:Nat=>k<=l.length/\s∉l.take k) (fun k=>[(8, .int .i64 (k:Int))]) (fun _=>[]) (fun k=>l.length-k) 0 ⟨by omega,by simp⟩ ?_;conv=>whnf
 refine⟨sI,?_⟩
 rintro k ⟨hk,ha⟩
 conv=>whnf
 repeat' first|(refine at_ ?_;conv=>whnf)|(refine ag (fun _=>?_) (fun _=>?_)<;>conv=>whnf)
 ·rename_i h1 h2
  rw[tN] at h2
  refine⟨⟨k,rfl,fun _=>?_,fun _=>by omega⟩,rfl⟩
  rw[h2,gD,gL (by omega)]
  exact List.getElem_mem _
 ·rename_i h1 h2
  rw[tN] at h2
  refine⟨k+1,sI,⟨by omega,?_⟩,by dsimp only;omega⟩
  rw[List.take_succ_eq_append_getElem (by omega),List.mem_append,List.mem_singleton,not_or]
  refine⟨ha,?_⟩
  rw[gD,gL (by omega)] at h2
  exact h2
 ·obtain rfl:k=l.length:=by omega
  rw[List.take_length] at ha
  exact⟨⟨-1,rfl,fun h=>by omega,fun h=>absurd h ha⟩,rfl⟩
theorem pM (l:List ByteArray) (s:ByteArray) (hl:l.length<=4503599627370496):aa Tryz.prog 160 [.sl t0 gU l, .str s] (fun u=>u= .bool (decide (s∈l))):=by
 refine aa.intro ab ac Tryz.func160 rfl (by decide) ?_;(conv=>whnf)
 refine ar.of_pure (n:=5) (D4 l s hl) rfl ?_
 rintro _ ⟨n,rfl,hn⟩
 conv=>whnf
 refine ag (fun h=>?_) (fun h=>?_)<;>conv=>whnf
 ·exact⟨aH (hn.1 h),rfl⟩
 ·exact⟨an (fun hh=>h (hn.2 hh)),rfl⟩
theorem uG (l:List ByteArray) (s:ByteArray) (hl:l.length<=4503599627370496):aa Tryz.prog 119 [.sl t0 gU l, .str s] (fun u=>u= .bool (decide (s∈l))):=by
 refine aa.intro ab ac Tryz.func119 rfl (by decide) ?_;(conv=>whnf)
 refine aR.loopF ab ac (fun k:Nat=>k<=l.length/\s∉l.take k) (fun k=>[(5, .int .i64 (k:Int))]) (fun _=>[]) (fun k=>l.length-k) 0 ⟨by omega,by simp⟩ ?_;conv=>whnf
 refine⟨sI,?_⟩
 rintro k ⟨hk,ha⟩
 conv=>whnf
 repeat' first|(refine at_ ?_;conv=>whnf)|(refine ag (fun _=>?_) (fun _=>?_)<;>conv=>whnf)
 ·rename_i h1 h2
  rw[tN] at h2
  refine⟨aH ?_,rfl⟩
  rw[<-h2,gD,gL (by omega)]
  exact List.getElem_mem _
 ·rename_i h1 h2
  rw[tN] at h2
  refine⟨k+1,sI,⟨by omega,?_⟩,by dsimp only;omega⟩
  rw[List.take_succ_eq_append_getElem (by omega),List.mem_append,List.mem_singleton,not_or]
  refine⟨ha,fun e=>h2 ?_⟩
  rw[gD,gL (by omega)]
  exact e.symm
 ·obtain rfl:k=l.length:=by omega
  rw[List.take_length] at ha
  exact⟨an ha,rfl⟩
theorem D5:aa Tryz.prog 170 [.str fL] (fun u=>u= .sl t0 gU lp):=by
 refine aa.intro ab ac Tryz.func170 rfl (by decide) ?_;(conv=>whnf)
 refine aR.loopF ab ac (fun i:Nat=>i<=289) (fun i=>[(6, .int .i64 (i:Int)),(3, .int .i64 (z2 i).1),(4, .int .i64 (z2 i).2.1),(5, .int .u8 (z2 i).2.2)]) (fun _=>[]) (fun i=>289-i) 0 (by omega) ?_;conv=>whnf
 refine⟨sI,?_⟩
 intro i hi
 conv=>whnf
 refine ag (fun h1=>?_) (fun h1=>?_)<;>conv=>whnf
 ·rw[iq] at h1
  have hb:=FY fL i
  have ht:=uE
  have hs:=Bq i (by omega)
  have hn:=Bp (i+1) (by omega)
  refine dA (by rw[iq];omega) ?_
  conv=>whnf
  have hb2:(fL.data.getD (i:Int).toNat 0).toNat<256:=UInt8.toNat_lt _
  refine dA (by rw[ht];omega) ?_
  conv=>whnf
  refine G7 trivial ?_ ?_
  ·show _<=Bo i/\Bo i<=_
   omega
  conv=>whnf
  refine G7 trivial (by show _<=(z2 (i+1)).1/\(z2 (i+1)).1<=_;omega) ?_
  conv=>whnf
  refine aI ?_
  conv=>whnf
  exact⟨i+1,sI,by omega,by dsimp only;omega⟩
 ·rw[iq] at h1
  obtain rfl:i=289:=by omega
  have e1:=xC.1
  have e2:=xC.2
  have hz:=iq
  have ht:=uE
  rw[e1,e2]
  refine fE (by decide) ?_
  conv=>whnf
  refine yv t0 gU t0 rfl (by decide) ?_
  conv=>whnf
  refine aR.loopF ab ac (fun _:Unit=>True) (fun _=>[(12, .int .i64 0)]) (fun _=>[(41, .row 9 t0 gU (List.replicate 43 t0))]) (fun _=>0) () trivial ?_;conv=>whnf
  refine⟨sI,?_⟩
  rintro⟨⟩ _
  conv=>whnf
  refine fc (by rw[hz];decide) ?_
  conv=>whnf
  refine dA (by rw[hz];decide) ?_
  conv=>whnf
  refine dA (by rw[ht];decide+kernel) ?_
  conv=>whnf
  refine fE (by decide+kernel) ?_
  conv=>whnf
  refine aR.loopF ab ac (fun i:Nat=>i<=289) (fun i=>[(12, .int .i64 (i:Int)),(10, .int .i64 ((nv i).1:Int)),(11, .int .i64 ((nv i).2.1:Int))]) (fun i=>[(41, .row 9 t0 gU (nv i).2.2)]) (fun i=>289-i) 0 (by omega) ?_;conv=>whnf
  refine⟨sI,?_⟩
  intro i hi
  conv=>whnf
  refine ag (fun h1=>?_) (fun h1=>?_)<;>conv=>whnf
  ·rw[hz] at h1
   obtain⟨f1,f2,f3⟩:=uF i (by omega)
   have hb:(fL.data.getD (i:Int).toNat 0).toNat<256:=UInt8.toNat_lt _
   refine dA (by rw[hz];omega) ?_
   conv=>whnf
   refine dA (by rw[ht];omega) ?_
   conv=>whnf
   refine ag (fun h2=>?_) (fun h2=>?_)<;>conv=>whnf
   ·have h2:Bo i=0:=h2
    refine aI ?_
    conv=>whnf
    have e:nv (i+1)=nv i:=by rw[nv,if_pos h2]
    refine⟨i+1,?_,by omega,by dsimp only;omega⟩
    dsimp only
    rw[e]
    exact sI
   ·have h2:Bo i≠0:=h2
    obtain⟨n1,n2⟩:=Br i (by omega) h2
    refine dA (by rw[hz];omega) ?_
    conv=>whnf
    refine nI ?_
    conv=>whnf
    refine ak (fL.extract (((nv i).2.1:Nat):Int).toNat (i:Int).toNat) rfl ?_
    conv=>whnf
    refine aI ?_
    conv=>whnf
    refine aI ?_
    conv=>whnf
    refine aR.loopF ab ac (fun _:Unit=>True) (fun _=>[(12, .int .i64 ((i:Int)+1))]) (fun _=>[(41, .row 9 t0 gU ((nv i).2.2.set (nv i).1 (fL.extract (nv i).2.1 i)))]) (fun _=>0) () trivial ?_;conv=>whnf
    refine⟨sI,?_⟩
    rintro⟨⟩ _
    conv=>whnf
    refine fc (by rw[hz];omega) ?_
    conv=>whnf
    refine dA (by rw[hz];omega) ?_
    conv=>whnf
    have hb2:(fL.data.getD ((i:Int)+1).toNat 0).toNat<256:=UInt8.toNat_lt _
    refine dA (by rw[ht];omega) ?_
    conv=>whnf
    refine fE ?_ ?_
    ·have e:((i:Int)+1).toNat=i+1:=by omega
     rw[e]
     exact fun h=>h n2
    conv=>whnf
    have e:nv (i+1)=((nv i).1+1,i+1,(nv i).2.2.set (nv i).1 (fL.extract (nv i).2.1 i)):=by rw[nv,if_neg h2]
    refine⟨i+1,?_,by omega,by dsimp only;omega⟩
    dsimp only
    rw[e]
    exact sI
  ·rw[hz] at h1
   obtain rfl:i=289:=by omega
   obtain⟨g1,g2,g3⟩:=D3
   obtain⟨f1,f2,f3⟩:=uF 289 (by omega)
   rw[g1,g2]
   refine fc (by rw[hz];decide) ?_
   conv=>whnf
   refine dA (by rw[hz];decide) ?_
   conv=>whnf
   refine nI ?_
   conv=>whnf
   refine ak _ rfl ?_
   conv=>whnf
   refine⟨Fd ?_,rfl⟩
   rw[<-g3,hz]
   rfl
theorem uH (s:ByteArray):aa Tryz.prog 142 [.str s] (fun u=>u= .bool (decide (s∈lp))):=by
 refine aa.intro ab ac Tryz.func142 rfl (by decide) ?_;(conv=>whnf)
 (refine oP (D5) ?_;conv=>whnf)
 refine dC (pM lp s (by decide)) (fun _=>?_) (fun _=>?_)<;>(conv=>whnf)
 ·rename_i h;exact⟨aH h,rfl⟩
 ·rename_i h;exact⟨an h,rfl⟩
end Go.Proofs.YtblcpnmnibcbbaaGreatDoor
