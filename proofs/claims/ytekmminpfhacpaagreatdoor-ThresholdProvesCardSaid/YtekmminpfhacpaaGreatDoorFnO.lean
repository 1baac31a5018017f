import Derived.Test.YtekmminpfhacpaaGreatDoorM1
set_option linter.unusedVariables false
set_option linter.unusedSimpArgs false
namespace Go.Proofs.YtekmminpfhacpaaGreatDoor
set_option maxRecDepth 100000
theorem Jo (l:List ByteArray) (s:ByteArray) (hl:l.length<=4503599627370496):ah Tryz.prog 288 [.sl t0 fo l, .str s] (fun u=>∃n:Int,u= .int .i64 n/\(0<=n↔s∈l)):=by
 refine ah.intro ab ac Tryz.func288 rfl (by decide) ?_;(conv=>whnf)
 refine aJ.loopF ab ac (fun k:Nat=>k<=l.length/\s∉l.take k) (fun k=>[(8, .int .i64 (k:Int))]) (fun _=>[]) (fun k=>l.length-k) 0 ⟨by omega,by simp⟩ ?_;conv=>whnf
 refine⟨sI,?_⟩
 rintro k ⟨hk,ha⟩
 conv=>whnf
 repeat' first|(refine at_ ?_;conv=>whnf)|(refine ae (fun _=>?_) (fun _=>?_)<;>conv=>whnf)
 ·rename_i h1 h2
  rw[tN] at h2
  refine⟨⟨k,rfl,fun _=>?_,fun _=>by omega⟩,rfl⟩
  rw[h2,gD,gL (by omega)]
  exact List.getElem_mem _
 ·rename_i h1 h2
  rw[tN] at h2
  refine⟨k+1,sI,⟨by omega,?_⟩,by dsimp only;omega⟩
  rw[List.take_succ_eq_append_getElem (by omega),List.mem_append,List.mem_singleton,not_or]
  refine⟨ha,?_⟩
  rw[gD,gL (by omega)] at h2
  exact h2
 ·obtain rfl:k=l.length:=by omega
  rw[List.take_length] at ha
  exact⟨⟨-1,rfl,fun h=>by omega,fun h=>absurd h ha⟩,rfl⟩
theorem tz (l:List ByteArray) (s:ByteArray) (hl:l.length<=4503599627370496):ah Tryz.prog 256 [.sl t0 fo l, .str s] (fun u=>u= .bool (decide (s∈l))):=by
 refine ah.intro ab ac Tryz.func256 rfl (by decide) ?_;(conv=>whnf)
 refine aj.of_pure (n:=5) (Jo l s hl) rfl ?_
 rintro _ ⟨n,rfl,hn⟩
 conv=>whnf
 refine ae (fun h=>?_) (fun h=>?_)<;>conv=>whnf
 ·exact⟨bE (hn.1 h),rfl⟩
 ·exact⟨aA (fun hh=>h (hn.2 hh)),rfl⟩
theorem y5 (l:List ByteArray) (s:ByteArray) (hl:l.length<=4503599627370496):ah Tryz.prog 206 [.sl t0 fo l, .str s] (fun u=>u= .bool (decide (s∈l))):=by
 refine ah.intro ab ac Tryz.func206 rfl (by decide) ?_;(conv=>whnf)
 refine aJ.loopF ab ac (fun k:Nat=>k<=l.length/\s∉l.take k) (fun k=>[(5, .int .i64 (k:Int))]) (fun _=>[]) (fun k=>l.length-k) 0 ⟨by omega,by simp⟩ ?_;conv=>whnf
 refine⟨sI,?_⟩
 rintro k ⟨hk,ha⟩
 conv=>whnf
 repeat' first|(refine at_ ?_;conv=>whnf)|(refine ae (fun _=>?_) (fun _=>?_)<;>conv=>whnf)
 ·rename_i h1 h2
  rw[tN] at h2
  refine⟨bE ?_,rfl⟩
  rw[<-h2,gD,gL (by omega)]
  exact List.getElem_mem _
 ·rename_i h1 h2
  rw[tN] at h2
  refine⟨k+1,sI,⟨by omega,?_⟩,by dsimp only;omega⟩
  rw[List.take_succ_eq_append_getElem (by omega),List.mem_append,List.mem_singleton,not_or]
  refine⟨ha,fun e=>h2 ?_⟩
  rw[gD,gL (by omega)]
  exact e.symm
 ·obtain rfl:k=l.length:=by omega
  rw[List.take_length] at ha
  exact⟨aA ha,rfl⟩
theorem Jp:ah Tryz.prog 278 [.str hZ] (fun u=>u= .sl t0 fo rh):=by
 refine ah.intro ab ac Tryz.func278 rfl (by decide) ?_;(conv=>whnf)
 refine aJ.loopF ab ac (fun i:Nat=>i<=289) (fun i=>[(6, .int .i64 (i:Int)),(3, .int .i64 (Fg i).1),(4, .int .i64 (Fg i).2.1),(5, .int .u8 (Fg i).2.2)]) (fun _=>[]) (fun i=>289-i) 0 (by omega) ?_;conv=>whnf
 refine⟨sI,?_⟩
 intro i hi
 conv=>whnf
 refine ae (fun h1=>?_) (fun h1=>?_)<;>conv=>whnf
 ·rw[jV] at h1
  have hb:=LO hZ i
  have ht:=y3
  have hs:=Gb i (by omega)
  have hn:=Ga (i+1) (by omega)
  refine bg (by rw[jV];omega) ?_
  conv=>whnf
  have hb2:(hZ.data.getD (i:Int).toNat 0).toNat<256:=UInt8.toNat_lt _
  refine bg (by rw[ht];omega) ?_
  conv=>whnf
  refine nK trivial ?_ ?_
  ·show _<=F' i/\F' i<=_
   omega
  conv=>whnf
  refine nK trivial (by show _<=(Fg (i+1)).1/\(Fg (i+1)).1<=_;omega) ?_
  conv=>whnf
  refine aI ?_
  conv=>whnf
  exact⟨i+1,sI,by omega,by dsimp only;omega⟩
 ·rw[jV] at h1
  obtain rfl:i=289:=by omega
  have e1:=CB.1
  have e2:=CB.2
  have hz:=jV
  have ht:=y3
  rw[e1,e2]
  refine cX (by decide) ?_
  conv=>whnf
  refine x7 t0 fo t0 rfl (by decide) ?_
  conv=>whnf
  refine aJ.loopF ab ac (fun _:Unit=>True) (fun _=>[(12, .int .i64 0)]) (fun _=>[(41, .row 9 t0 fo (List.replicate 43 t0))]) (fun _=>0) () trivial ?_;conv=>whnf
  refine⟨sI,?_⟩
  rintro⟨⟩ _
  conv=>whnf
  refine cO (by rw[hz];decide) ?_
  conv=>whnf
  refine bg (by rw[hz];decide) ?_
  conv=>whnf
  refine bg (by rw[ht];decide+kernel) ?_
  conv=>whnf
  refine cX (by decide+kernel) ?_
  conv=>whnf
  refine aJ.loopF ab ac (fun i:Nat=>i<=289) (fun i=>[(12, .int .i64 (i:Int)),(10, .int .i64 ((qo i).1:Int)),(11, .int .i64 ((qo i).2.1:Int))]) (fun i=>[(41, .row 9 t0 fo (qo i).2.2)]) (fun i=>289-i) 0 (by omega) ?_;conv=>whnf
  refine⟨sI,?_⟩
  intro i hi
  conv=>whnf
  refine ae (fun h1=>?_) (fun h1=>?_)<;>conv=>whnf
  ·rw[hz] at h1
   obtain⟨f1,f2,f3⟩:=y4 i (by omega)
   have hb:(hZ.data.getD (i:Int).toNat 0).toNat<256:=UInt8.toNat_lt _
   refine bg (by rw[hz];omega) ?_
   conv=>whnf
   refine bg (by rw[ht];omega) ?_
   conv=>whnf
   refine ae (fun h2=>?_) (fun h2=>?_)<;>conv=>whnf
   ·have h2:F' i=0:=h2
    refine aI ?_
    conv=>whnf
    have e:qo (i+1)=qo i:=by rw[qo,if_pos h2]
    refine⟨i+1,?_,by omega,by dsimp only;omega⟩
    dsimp only
    rw[e]
    exact sI
   ·have h2:F' i≠0:=h2
    obtain⟨n1,n2⟩:=Gc i (by omega) h2
    refine bg (by rw[hz];omega) ?_
    conv=>whnf
    refine nI ?_
    conv=>whnf
    refine ak (hZ.extract (((qo i).2.1:Nat):Int).toNat (i:Int).toNat) rfl ?_
    conv=>whnf
    refine aI ?_
    conv=>whnf
    refine aI ?_
    conv=>whnf
    refine aJ.loopF ab ac (fun _:Unit=>True) (fun _=>[(12, .int .i64 ((i:Int)+1))]) (fun _=>[(41, .row 9 t0 fo ((qo i).2.2.set (qo i).1 (hZ.extract (qo i).2.1 i)))]) (fun _=>0) () trivial ?_;conv=>whnf
    refine⟨sI,?_⟩
    rintro⟨⟩ _
    conv=>whnf
    refine cO (by rw[hz];omega) ?_
    conv=>whnf
    refine bg (by rw[hz];omega) ?_
    conv=>whnf
    have hb2:(hZ.data.getD ((i:Int)+1).toNat 0).toNat<256:=UInt8.toNat_lt _
    refine bg (by rw[ht];omega) ?_
    conv=>whnf
    refine cX ?_ ?_
    ·have e:((i:Int)+1).toNat=i+1:=by omega
     rw[e]
     exact fun h=>h n2
    conv=>whnf
    have e:qo (i+1)=((qo i).1+1,i+1,(qo i).2.2.set (qo i).1 (hZ.extract (qo i).2.1 i)):=by rw[qo,if_neg h2]
    refine⟨i+1,?_,by omega,by dsimp only;omega⟩
    dsimp only
    rw[e]
    exact sI
  ·rw[hz] at h1
   obtain rfl:i=289:=by omega
   obtain⟨g1,g2,g3⟩:=Jn
   obtain⟨f1,f2,f3⟩:=y4 289 (by omega)
   rw[g1,g2]
   refine cO (by rw[hz];decide) ?_
   conv=>whnf
   refine bg (by rw[hz];decide) ?_
   conv=>whnf
   refine nI ?_
   conv=>whnf
   refine ak _ rfl ?_
   conv=>whnf
   refine⟨NY ?_,rfl⟩
   rw[<-g3,hz]
   rfl
theorem y6 (s:ByteArray):ah Tryz.prog 239 [.str s] (fun u=>u= .bool (decide (s∈rh))):=by
 refine ah.intro ab ac Tryz.func239 rfl (by decide) ?_;(conv=>whnf)
 (refine oP (Jp) ?_;conv=>whnf)
 refine dC (tz rh s (by decide)) (fun _=>?_) (fun _=>?_)<;>(conv=>whnf)
 ·rename_i h;exact⟨bE h,rfl⟩
 ·rename_i h;exact⟨aA h,rfl⟩
end Go.Proofs.YtekmminpfhacpaaGreatDoor
