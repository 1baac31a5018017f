import Derived.Test.YtekmminpfhacpaaGreatDoorM1
set_option linter.unusedVariables false
set_option linter.unusedSimpArgs false
namespace Go.Proofs.YtekmminpfhacpaaGreatDoor
set_option maxRecDepth 100000
theorem Kx (l:List ByteArray) (s:ByteArray) (hl:l.length<=4503599627370496):ab Tryz.prog 288 [.sl t0 gc l, .str s] (fun u=>∃n:Int,u= .int .i64 n/\(0<=n↔s∈l)):=by
 refine ab.intro ae ag Tryz.func288 rfl (by decide) ?_;(conv=>whnf)
 refine a8.loopF ae ag (fun k:Nat=>k<=l.length/\s∉l.take k) (fun k=>[(8, .int .i64 (k:Int))]) (fun _=>[]) (fun k=>l.length-k) 0 ⟨by omega,by simp⟩ ?_;conv=>whnf
 refine⟨sI,?_⟩
 rintro k ⟨hk,ha⟩
 conv=>whnf
 repeat' first|(refine at_ ?_;conv=>whnf)|(refine ai (fun _=>?_) (fun _=>?_)<;>conv=>whnf)
 ·rename_i h1 h2
  rw[tN] at h2
  refine⟨⟨k,rfl,fun _=>?_,fun _=>by omega⟩,rfl⟩
  rw[h2,gD,gL (by omega)]
  exact List.getElem_mem _
 ·rename_i h1 h2
  rw[tN] at h2
  refine⟨k+1,sI,⟨by omega,?_⟩,by dsimp only;omega⟩
  rw[List.take_succ_eq_append_getElem (by omega),List.mem_append,List.mem_singleton,not_or]
  refine⟨ha,?_⟩
  rw[gD,gL (by omega)] at h2
  exact h2
 ·obtain rfl:k=l.length:=by omega
  rw[List.take_length] at ha
  exact⟨⟨-1,rfl,fun h=>by omega,fun h=>absurd h ha⟩,rfl⟩
theorem tB (l:List ByteArray) (s:ByteArray) (hl:l.length<=4503599627370496):ab Tryz.prog 256 [.sl t0 gc l, .str s] (fun u=>u= .bool (decide (s∈l))):=by
 refine ab.intro ae ag Tryz.func256 rfl (by decide) ?_;(conv=>whnf)
 refine aj.of_pure (n:=5) (Kx l s hl) rfl ?_
 rintro _ ⟨n,rfl,hn⟩
 conv=>whnf
 refine ai (fun h=>?_) (fun h=>?_)<;>conv=>whnf
 ·exact⟨bk (hn.1 h),rfl⟩
 ·exact⟨aC (fun hh=>h (hn.2 hh)),rfl⟩
theorem Ky:ab Tryz.prog 278 [.str gN] (fun u=>u= .sl t0 gc yW):=by
 refine ab.intro ae ag Tryz.func278 rfl (by decide) ?_;(conv=>whnf)
 refine a8.loopF ae ag (fun i:Nat=>i<=289) (fun i=>[(6, .int .i64 (i:Int)),(3, .int .i64 (Fs i).1),(4, .int .i64 (Fs i).2.1),(5, .int .u8 (Fs i).2.2)]) (fun _=>[]) (fun i=>289-i) 0 (by omega) ?_;conv=>whnf
 refine⟨sI,?_⟩
 intro i hi
 conv=>whnf
 refine ai (fun h1=>?_) (fun h1=>?_)<;>conv=>whnf
 ·rw[jN] at h1
  have hb:=NE gN i
  have ht:=yX
  have hs:=Gx i (by omega)
  have hn:=Gw (i+1) (by omega)
  refine bp (by rw[jN];omega) ?_
  conv=>whnf
  have hb2:(gN.data.getD (i:Int).toNat 0).toNat<256:=UInt8.toNat_lt _
  refine bp (by rw[ht];omega) ?_
  conv=>whnf
  refine yj trivial ?_ ?_
  ·show _<=Gv i/\Gv i<=_
   omega
  conv=>whnf
  refine yj trivial (by show _<=(Fs (i+1)).1/\(Fs (i+1)).1<=_;omega) ?_
  conv=>whnf
  refine aI ?_
  conv=>whnf
  exact⟨i+1,sI,by omega,by dsimp only;omega⟩
 ·rw[jN] at h1
  obtain rfl:i=289:=by omega
  have e1:=CI.1
  have e2:=CI.2
  have hz:=jN
  have ht:=yX
  rw[e1,e2]
  refine j9 (by decide) ?_
  conv=>whnf
  refine Cd t0 gc t0 rfl (by decide) ?_
  conv=>whnf
  refine a8.loopF ae ag (fun _:Unit=>True) (fun _=>[(12, .int .i64 0)]) (fun _=>[(41, .row 9 t0 gc (List.replicate 43 t0))]) (fun _=>0) () trivial ?_;conv=>whnf
  refine⟨sI,?_⟩
  rintro⟨⟩ _
  conv=>whnf
  refine dQ (by rw[hz];decide) ?_
  conv=>whnf
  refine bp (by rw[hz];decide) ?_
  conv=>whnf
  refine bp (by rw[ht];decide+kernel) ?_
  conv=>whnf
  refine j9 (by decide+kernel) ?_
  conv=>whnf
  refine a8.loopF ae ag (fun i:Nat=>i<=289) (fun i=>[(12, .int .i64 (i:Int)),(10, .int .i64 ((qB i).1:Int)),(11, .int .i64 ((qB i).2.1:Int))]) (fun i=>[(41, .row 9 t0 gc (qB i).2.2)]) (fun i=>289-i) 0 (by omega) ?_;conv=>whnf
  refine⟨sI,?_⟩
  intro i hi
  conv=>whnf
  refine ai (fun h1=>?_) (fun h1=>?_)<;>conv=>whnf
  ·rw[hz] at h1
   obtain⟨f1,f2,f3⟩:=yY i (by omega)
   have hb:(gN.data.getD (i:Int).toNat 0).toNat<256:=UInt8.toNat_lt _
   refine bp (by rw[hz];omega) ?_
   conv=>whnf
   refine bp (by rw[ht];omega) ?_
   conv=>whnf
   refine ai (fun h2=>?_) (fun h2=>?_)<;>conv=>whnf
   ·have h2:Gv i=0:=h2
    refine aI ?_
    conv=>whnf
    have e:qB (i+1)=qB i:=by rw[qB,if_pos h2]
    refine⟨i+1,?_,by omega,by dsimp only;omega⟩
    dsimp only
    rw[e]
    exact sI
   ·have h2:Gv i≠0:=h2
    obtain⟨n1,n2⟩:=Gy i (by omega) h2
    refine bp (by rw[hz];omega) ?_
    conv=>whnf
    refine nI ?_
    conv=>whnf
    refine an (gN.extract (((qB i).2.1:Nat):Int).toNat (i:Int).toNat) rfl ?_
    conv=>whnf
    refine aI ?_
    conv=>whnf
    refine aI ?_
    conv=>whnf
    refine a8.loopF ae ag (fun _:Unit=>True) (fun _=>[(12, .int .i64 ((i:Int)+1))]) (fun _=>[(41, .row 9 t0 gc ((qB i).2.2.set (qB i).1 (gN.extract (qB i).2.1 i)))]) (fun _=>0) () trivial ?_;conv=>whnf
    refine⟨sI,?_⟩
    rintro⟨⟩ _
    conv=>whnf
    refine dQ (by rw[hz];omega) ?_
    conv=>whnf
    refine bp (by rw[hz];omega) ?_
    conv=>whnf
    have hb2:(gN.data.getD ((i:Int)+1).toNat 0).toNat<256:=UInt8.toNat_lt _
    refine bp (by rw[ht];omega) ?_
    conv=>whnf
    refine j9 ?_ ?_
    ·have e:((i:Int)+1).toNat=i+1:=by omega
     rw[e]
     exact fun h=>h n2
    conv=>whnf
    have e:qB (i+1)=((qB i).1+1,i+1,(qB i).2.2.set (qB i).1 (gN.extract (qB i).2.1 i)):=by rw[qB,if_neg h2]
    refine⟨i+1,?_,by omega,by dsimp only;omega⟩
    dsimp only
    rw[e]
    exact sI
  ·rw[hz] at h1
   obtain rfl:i=289:=by omega
   obtain⟨g1,g2,g3⟩:=Kw
   obtain⟨f1,f2,f3⟩:=yY 289 (by omega)
   rw[g1,g2]
   refine dQ (by rw[hz];decide) ?_
   conv=>whnf
   refine bp (by rw[hz];decide) ?_
   conv=>whnf
   refine nI ?_
   conv=>whnf
   refine an _ rfl ?_
   conv=>whnf
   refine⟨Mq ?_,rfl⟩
   rw[<-g3,hz]
   rfl
theorem yZ (s:ByteArray):ab Tryz.prog 239 [.str s] (fun u=>u= .bool (decide (s∈yW))):=by
 refine ab.intro ae ag Tryz.func239 rfl (by decide) ?_;(conv=>whnf)
 (refine oP (Ky) ?_;conv=>whnf)
 refine dC (tB yW s (by decide)) (fun _=>?_) (fun _=>?_)<;>(conv=>whnf)
 ·rename_i h;exact⟨bk h,rfl⟩
 ·rename_i h;exact⟨aC h,rfl⟩
end Go.Proofs.YtekmminpfhacpaaGreatDoor
