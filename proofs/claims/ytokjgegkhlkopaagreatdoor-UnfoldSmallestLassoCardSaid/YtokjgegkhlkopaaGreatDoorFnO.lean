import Derived.Test.YtokjgegkhlkopaaGreatDoorM1
set_option linter.unusedVariables false
set_option linter.unusedSimpArgs false
namespace Go.Proofs.YtokjgegkhlkopaaGreatDoor
set_option maxRecDepth 100000
theorem Hm (l:List ByteArray) (s:ByteArray) (hl:l.length<=4503599627370496):ae Tryz.prog 173 [.sl t0 cR l, .str s] (fun u=>∃n:Int,u= .int .i64 n/\(0<=n↔s∈l)):=by
 refine ae.intro ab ac Tryz.func173 rfl (by decide) ?_;(conv=>whnf)
 refine aE.loopF ab ac (fun k:Nat=>k<=l.length/\s∉l.take k) (fun k=>[(8, .int .i64 (k:Int))]) (fun _=>[]) (fun k=>l.length-k) 0 ⟨by omega,by simp⟩ ?_;conv=>whnf
 refine⟨sI,?_⟩
 rintro k ⟨hk,ha⟩
 conv=>whnf
 repeat' first|(refine at_ ?_;conv=>whnf)|(refine ah (fun _=>?_) (fun _=>?_)<;>conv=>whnf)
 ·rename_i h1 h2
  rw[tN] at h2
  refine⟨⟨k,rfl,fun _=>?_,fun _=>by omega⟩,rfl⟩
  rw[h2,gD,gL (by omega)]
  exact List.getElem_mem _
 ·rename_i h1 h2
  rw[tN] at h2
  refine⟨k+1,sI,⟨by omega,?_⟩,by dsimp only;omega⟩
  rw[List.take_succ_eq_append_getElem (by omega),List.mem_append,List.mem_singleton,not_or]
  refine⟨ha,?_⟩
  rw[gD,gL (by omega)] at h2
  exact h2
 ·obtain rfl:k=l.length:=by omega
  rw[List.take_length] at ha
  exact⟨⟨-1,rfl,fun h=>by omega,fun h=>absurd h ha⟩,rfl⟩
theorem ro (l:List ByteArray) (s:ByteArray) (hl:l.length<=4503599627370496):ae Tryz.prog 139 [.sl t0 cR l, .str s] (fun u=>u= .bool (decide (s∈l))):=by
 refine ae.intro ab ac Tryz.func139 rfl (by decide) ?_;(conv=>whnf)
 refine an.of_pure (n:=5) (Hm l s hl) rfl ?_
 rintro _ ⟨n,rfl,hn⟩
 conv=>whnf
 refine ah (fun h=>?_) (fun h=>?_)<;>conv=>whnf
 ·exact⟨aN (hn.1 h),rfl⟩
 ·exact⟨aq (fun hh=>h (hn.2 hh)),rfl⟩
theorem xi (l:List ByteArray) (s:ByteArray) (hl:l.length<=4503599627370496):ae Tryz.prog 104 [.sl t0 cR l, .str s] (fun u=>u= .bool (decide (s∈l))):=by
 refine ae.intro ab ac Tryz.func104 rfl (by decide) ?_;(conv=>whnf)
 refine aE.loopF ab ac (fun k:Nat=>k<=l.length/\s∉l.take k) (fun k=>[(5, .int .i64 (k:Int))]) (fun _=>[]) (fun k=>l.length-k) 0 ⟨by omega,by simp⟩ ?_;conv=>whnf
 refine⟨sI,?_⟩
 rintro k ⟨hk,ha⟩
 conv=>whnf
 repeat' first|(refine at_ ?_;conv=>whnf)|(refine ah (fun _=>?_) (fun _=>?_)<;>conv=>whnf)
 ·rename_i h1 h2
  rw[tN] at h2
  refine⟨aN ?_,rfl⟩
  rw[<-h2,gD,gL (by omega)]
  exact List.getElem_mem _
 ·rename_i h1 h2
  rw[tN] at h2
  refine⟨k+1,sI,⟨by omega,?_⟩,by dsimp only;omega⟩
  rw[List.take_succ_eq_append_getElem (by omega),List.mem_append,List.mem_singleton,not_or]
  refine⟨ha,fun e=>h2 ?_⟩
  rw[gD,gL (by omega)]
  exact e.symm
 ·obtain rfl:k=l.length:=by omega
  rw[List.take_length] at ha
  exact⟨aq ha,rfl⟩
theorem Hn:ae Tryz.prog 149 [.str gk] (fun u=>u= .sl t0 cR mF):=by
 refine ae.intro ab ac Tryz.func149 rfl (by decide) ?_;(conv=>whnf)
 refine aE.loopF ab ac (fun i:Nat=>i<=289) (fun i=>[(6, .int .i64 (i:Int)),(3, .int .i64 (Df i).1),(4, .int .i64 (Df i).2.1),(5, .int .u8 (Df i).2.2)]) (fun _=>[]) (fun i=>289-i) 0 (by omega) ?_;conv=>whnf
 refine⟨sI,?_⟩
 intro i hi
 conv=>whnf
 refine ah (fun h1=>?_) (fun h1=>?_)<;>conv=>whnf
 ·rw[jn] at h1
  have hb:=J4 gk i
  have ht:=xg
  have hs:=EA i (by omega)
  have hn:=Ez (i+1) (by omega)
  refine d7 (by rw[jn];omega) ?_
  conv=>whnf
  have hb2:(gk.data.getD (i:Int).toNat 0).toNat<256:=UInt8.toNat_lt _
  refine d7 (by rw[ht];omega) ?_
  conv=>whnf
  refine JC trivial ?_ ?_
  ·show _<=Ey i/\Ey i<=_
   omega
  conv=>whnf
  refine JC trivial (by show _<=(Df (i+1)).1/\(Df (i+1)).1<=_;omega) ?_
  conv=>whnf
  refine aI ?_
  conv=>whnf
  exact⟨i+1,sI,by omega,by dsimp only;omega⟩
 ·rw[jn] at h1
  obtain rfl:i=289:=by omega
  have e1:=AD.1
  have e2:=AD.2
  have hz:=jn
  have ht:=xg
  rw[e1,e2]
  refine eX (by decide) ?_
  conv=>whnf
  refine ww t0 cR t0 rfl (by decide) ?_
  conv=>whnf
  refine aE.loopF ab ac (fun _:Unit=>True) (fun _=>[(12, .int .i64 0)]) (fun _=>[(41, .row 9 t0 cR (List.replicate 43 t0))]) (fun _=>0) () trivial ?_;conv=>whnf
  refine⟨sI,?_⟩
  rintro⟨⟩ _
  conv=>whnf
  refine dH (by rw[hz];decide) ?_
  conv=>whnf
  refine d7 (by rw[hz];decide) ?_
  conv=>whnf
  refine d7 (by rw[ht];decide+kernel) ?_
  conv=>whnf
  refine eX (by decide+kernel) ?_
  conv=>whnf
  refine aE.loopF ab ac (fun i:Nat=>i<=289) (fun i=>[(12, .int .i64 (i:Int)),(10, .int .i64 ((oY i).1:Int)),(11, .int .i64 ((oY i).2.1:Int))]) (fun i=>[(41, .row 9 t0 cR (oY i).2.2)]) (fun i=>289-i) 0 (by omega) ?_;conv=>whnf
  refine⟨sI,?_⟩
  intro i hi
  conv=>whnf
  refine ah (fun h1=>?_) (fun h1=>?_)<;>conv=>whnf
  ·rw[hz] at h1
   obtain⟨f1,f2,f3⟩:=xh i (by omega)
   have hb:(gk.data.getD (i:Int).toNat 0).toNat<256:=UInt8.toNat_lt _
   refine d7 (by rw[hz];omega) ?_
   conv=>whnf
   refine d7 (by rw[ht];omega) ?_
   conv=>whnf
   refine ah (fun h2=>?_) (fun h2=>?_)<;>conv=>whnf
   ·have h2:Ey i=0:=h2
    refine aI ?_
    conv=>whnf
    have e:oY (i+1)=oY i:=by rw[oY,if_pos h2]
    refine⟨i+1,?_,by omega,by dsimp only;omega⟩
    dsimp only
    rw[e]
    exact sI
   ·have h2:Ey i≠0:=h2
    obtain⟨n1,n2⟩:=EB i (by omega) h2
    refine d7 (by rw[hz];omega) ?_
    conv=>whnf
    refine nI ?_
    conv=>whnf
    refine ak (gk.extract (((oY i).2.1:Nat):Int).toNat (i:Int).toNat) rfl ?_
    conv=>whnf
    refine aI ?_
    conv=>whnf
    refine aI ?_
    conv=>whnf
    refine aE.loopF ab ac (fun _:Unit=>True) (fun _=>[(12, .int .i64 ((i:Int)+1))]) (fun _=>[(41, .row 9 t0 cR ((oY i).2.2.set (oY i).1 (gk.extract (oY i).2.1 i)))]) (fun _=>0) () trivial ?_;conv=>whnf
    refine⟨sI,?_⟩
    rintro⟨⟩ _
    conv=>whnf
    refine dH (by rw[hz];omega) ?_
    conv=>whnf
    refine d7 (by rw[hz];omega) ?_
    conv=>whnf
    have hb2:(gk.data.getD ((i:Int)+1).toNat 0).toNat<256:=UInt8.toNat_lt _
    refine d7 (by rw[ht];omega) ?_
    conv=>whnf
    refine eX ?_ ?_
    ·have e:((i:Int)+1).toNat=i+1:=by omega
     rw[e]
     exact fun h=>h n2
    conv=>whnf
    have e:oY (i+1)=((oY i).1+1,i+1,(oY i).2.2.set (oY i).1 (gk.extract (oY i).2.1 i)):=by rw[oY,if_neg h2]
    refine⟨i+1,?_,by omega,by dsimp only;omega⟩
    dsimp only
    rw[e]
    exact sI
  ·rw[hz] at h1
   obtain rfl:i=289:=by omega
   obtain⟨g1,g2,g3⟩:=Hl
   obtain⟨f1,f2,f3⟩:=xh 289 (by omega)
   rw[g1,g2]
   refine dH (by rw[hz];decide) ?_
   conv=>whnf
   refine d7 (by rw[hz];decide) ?_
   conv=>whnf
   refine nI ?_
   conv=>whnf
   refine ak _ rfl ?_
   conv=>whnf
   refine⟨IZ ?_,rfl⟩
   rw[<-g3,hz]
   rfl
theorem xj (s:ByteArray):ae Tryz.prog 118 [.str s] (fun u=>u= .bool (decide (s∈mF))):=by
 refine ae.intro ab ac Tryz.func118 rfl (by decide) ?_;(conv=>whnf)
 (refine oP (Hn) ?_;conv=>whnf)
 refine dC (ro mF s (by decide)) (fun _=>?_) (fun _=>?_)<;>(conv=>whnf)
 ·rename_i h;exact⟨aN h,rfl⟩
 ·rename_i h;exact⟨aq h,rfl⟩
end Go.Proofs.YtokjgegkhlkopaaGreatDoor
