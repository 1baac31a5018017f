import Derived.Test.YtekmminpfhacpaaGreatDoorFnO
set_option linter.unusedVariables false
set_option linter.unusedSimpArgs false
namespace Go.Proofs.YtekmminpfhacpaaGreatDoor
set_option maxRecDepth 100000
def Mr (c:Nat):Prop:=97<=c/\c<=122\/48<=c/\c<=57\/c=95
instance (c:Nat):Decidable (Mr c):=inferInstanceAs (Decidable (_\/_))
def dq (s:ByteArray):Prop:=(0<s.size/\s.size<=12)/\(97<=rS s 0/\rS s 0<=122)/\(∀i,i<s.size->Mr (rS s i))/\s∉yW
instance (s:ByteArray):Decidable (dq s):=inferInstanceAs (Decidable (_/\_))
theorem CJ {s:ByteArray} {k:Nat} (h:k<s.size):(s.get! (k+0)).toNat=rS s k:=by
 unfold rS
 congr 1
theorem Ey {s:ByteArray} {k:Nat} (h:k<s.size) (hb:rS s k<128):Utf8.decode s k=(rS s k,1):=by
 unfold Utf8.decode
 simp only[CJ h]
 rw[if_pos hb]
theorem Ez {s:ByteArray} {k:Nat} (h:k<s.size) (hb:¬rS s k<128):128<=(Utf8.decode s k).1:=by
 unfold Utf8.decode
 simp only[CJ h]
 rw[if_neg hb]
 (repeat' split)<;>simp only[Utf8.runeError,ge_iff_le,Bool.and_eq_true,decide_eq_true_eq] at*<;>omega
theorem y3 {s:ByteArray}:s=t0↔s.size=0:=by
 constructor
 ·rintro rfl;rfl
 ·intro h
  cases s with|mk a=>
  have:a.size=0:=h
  have:a=#[]:=Array.eq_empty_of_size_eq_zero this
  rw[this];rfl
theorem fG (s:ByteArray) (hs:s.size<=4503599627370496):ab Tryz.prog 154 [.str s] (fun u=>u= .bool (decide (dq s))):=by
 refine ab.intro ae ag Tryz.func154 rfl (by decide) ?_;(conv=>whnf)
 refine ai (fun h1=>?_) (fun h1=>?_)<;>conv=>whnf
 ·exact⟨aC (fun h=>by have:=y3.1 h1;have:=h.1;omega),rfl⟩
 have h0:s.size≠0:=fun h=>h1 (y3.2 h)
 refine ai (fun h2=>?_) (fun h2=>?_)<;>conv=>whnf
 ·exact⟨aC (fun h=>by have:=h.1;omega),rfl⟩
 refine a8.loopF ae ag (fun k:Nat=>k<=s.size/\∀j,j<k->Mr (rS s j)/\(j=0->97<=rS s 0/\rS s 0<=122)) (fun _=>[]) (fun k=>[(14, .iter s k)]) (fun k=>s.size-k) 0 ⟨by omega,fun j hj=>by omega⟩ ?_;conv=>whnf
 refine⟨sI,?_⟩
 rintro k ⟨hk,ha⟩
 conv=>whnf
 refine PV (fun h3=>?_) (fun h3=>?_)<;>conv=>whnf
 ·by_cases hb:rS s k<128
  ·rw[Ey h3 hb]
   by_cases hgood:Mr (rS s k)/\(k=0->97<=rS s 0/\rS s 0<=122)
   ·obtain⟨g1,g2⟩:=hgood
    have g3:k=0->rS s k=rS s 0:=fun e=>by rw[e]
    unfold Mr at g1
    repeat' first|(refine at_ ?_;conv=>whnf)|(refine ai (fun _=>?_) (fun _=>?_)<;>conv=>whnf)
    all_goals
     refine⟨k+1,sI,⟨by omega,fun j hj=>?_⟩,by dsimp only;omega⟩
     by_cases e:j=k
     ·subst e;exact⟨g1,g2⟩
     ·exact ha j (by omega)
   ·have hbad:¬dq s:=fun h=>hgood ⟨h.2.2.1 k h3,fun _=>h.2.1⟩
    have g3:k=0->rS s k=rS s 0:=fun e=>by rw[e]
    unfold Mr at hgood
    repeat' first|(refine at_ ?_;conv=>whnf)|(refine ai (fun _=>?_) (fun _=>?_)<;>conv=>whnf)
    all_goals exact⟨aC hbad,rfl⟩
  ·have hd:=Ez h3 hb
   have hbad:¬dq s:=fun h=>by have:=h.2.2.1 k h3;unfold Mr at this;omega
   generalize Utf8.decode s k=x at hd
   obtain⟨c,w⟩:=x
   dsimp only at hd⊢
   repeat' first|(refine at_ ?_;conv=>whnf)|(refine ai (fun _=>?_) (fun _=>?_)<;>conv=>whnf)
   all_goals exact⟨aC hbad,rfl⟩
 ·have hall:(∀i,i<s.size->Mr (rS s i)):=fun i hi=>(ha i (by omega)).1
  have hf:=(ha 0 (by omega)).2 rfl
  refine dC (yZ s) (fun _=>?_) (fun _=>?_)<;>(conv=>whnf)
  ·rename_i h;exact⟨aC (fun hh=>hh.2.2.2 h),rfl⟩
  ·rename_i h;exact⟨bk ⟨by omega,hf,hall,h⟩,rfl⟩
set_option maxRecDepth 100000
set_option maxHeartbeats 4000000
theorem cW (l:List Int) (hl:l.length<=4503599627370496):ab Tryz.prog 156 [.sl 0 ak l] (fun u=>u= .int .i64 (fF l)):=by
 refine ab.intro ae ag Tryz.func156 rfl (by decide) ?_;(conv=>whnf)
 refine a8.loopF ae ag (fun k:Nat=>k<=l.length/\fF l=fF (l.drop k)) (fun k=>[(7, .int .i64 (k:Int))]) (fun _=>[]) (fun k=>l.length-k) 0 ⟨by omega,rfl⟩ ?_;conv=>whnf
 refine⟨sI,?_⟩
 rintro k ⟨hk,he⟩
 conv=>whnf
 repeat' first|(refine at_ ?_;conv=>whnf)|(refine ai (fun _=>?_) (fun _=>?_)<;>conv=>whnf)
 ·rename_i h1 h2
  rw[yU (by omega),if_pos (by simpa using h2)] at he
  exact⟨aq (by rw[he];rfl),rfl⟩
 ·rename_i h1 h2
  rw[yU (by omega),if_neg (by simpa using h2)] at he
  exact⟨k+1,sI,⟨by omega,he⟩,by dsimp only;omega⟩
 ·obtain rfl:k=l.length:=by omega
  rw[List.drop_length] at he
  exact⟨aq he.symm,rfl⟩
theorem jO (e:Int):ab Tryz.prog 157 [.bool true, .int .i64 e] (fun u=>u= .int .i64 e):=by
 refine ab.intro ae ag Tryz.func157 rfl (by decide) ?_;(conv=>whnf)
 exact⟨rfl,rfl⟩
theorem iI (e:Int):ab Tryz.prog 157 [.bool false, .int .i64 e] (fun u=>u= .int .i64 0):=by
 refine ab.intro ae ag Tryz.func157 rfl (by decide) ?_;(conv=>whnf)
 exact⟨rfl,rfl⟩
def gO (i n:Int):Int:=if i<0\/n<=i then 5 else 0
theorem iv (i n:Int):ab Tryz.prog 240 [.int .i64 i, .int .i64 n] (fun u=>u= .int .i64 (gO i n)):=by
 refine ab.intro ae ag Tryz.func240 rfl (by decide) ?_;(conv=>whnf)
 by_cases h:i<0\/n<=i
 ·rw[gO,if_pos h]
  repeat' first|(refine at_ ?_;conv=>whnf)|(refine ai (fun _=>?_) (fun _=>?_)<;>conv=>whnf)
  all_goals
   (refine oP (jO 5) ?_;conv=>whnf)
   exact⟨rfl,rfl⟩
 ·rw[gO,if_neg h]
  repeat' first|(refine at_ ?_;conv=>whnf)|(refine ai (fun _=>?_) (fun _=>?_)<;>conv=>whnf)
  (refine oP (iI 5) ?_;conv=>whnf)
  exact⟨rfl,rfl⟩
def cP (n:Int):Prop:=-100<=n/\n<=100
instance (n:Int):Decidable (cP n):=inferInstanceAs (Decidable (_/\_))
def fP (l:l7):Prop:=cP l.c/\cP l.n/\cP l.t/\cP l.f
instance (l:l7):Decidable (fP l):=inferInstanceAs (Decidable (_/\_))
theorem rT (n:Int):ab Tryz.prog 257 [.int .i64 n] (fun u=>u= .bool (decide (cP n))):=by
 refine ab.intro ae ag Tryz.func257 rfl (by decide) ?_;(conv=>whnf)
 repeat' first|(refine at_ ?_;conv=>whnf)|(refine ai (fun _=>?_) (fun _=>?_)<;>conv=>whnf)
 all_goals first
  |exact⟨bk (by unfold cP;omega),rfl⟩
  |exact⟨aC (by unfold cP;omega),rfl⟩
theorem pn (l:l7):ab Tryz.prog 187 [.agg (cV l)] (fun u=>u= .bool (decide (fP l))):=by
 refine ab.intro ae ag Tryz.func187 rfl (by decide) ?_;(conv=>whnf)
 refine ar rfl ?_
 conv=>whnf
 refine dC (rT _) (fun _=>?_) (fun _=>?_)<;>(conv=>whnf)
 ·refine dC (rT _) (fun _=>?_) (fun _=>?_)<;>(conv=>whnf)
  ·refine dC (rT _) (fun _=>?_) (fun _=>?_)<;>(conv=>whnf)
   ·refine dC (rT _) (fun _=>?_) (fun _=>?_)<;>(conv=>whnf)
    ·exact⟨bk ⟨by assumption,by assumption,by assumption,by assumption⟩,rfl⟩
    ·rename_i h;exact⟨aC (fun hh=>h hh.2.2.2),rfl⟩
   ·rename_i h;exact⟨aC (fun hh=>h hh.2.2.1),rfl⟩
  ·rename_i h;exact⟨aC (fun hh=>h hh.2.1),rfl⟩
 ·rename_i h;exact⟨aC (fun hh=>h hh.1),rfl⟩
def kq (k t:Int):Prop:=(k=1\/k=2\/k=3)/\t=1\/(k=4\/k=5)/\t≠1
instance (k t:Int):Decidable (kq k t):=inferInstanceAs (Decidable (_\/_))
theorem Ms (k t:Int):ab Tryz.prog 259 [.int .i64 k, .int .i64 t] (fun u=>u= .bool (decide (kq k t))):=by
 refine ab.intro ae ag Tryz.func259 rfl (by decide) ?_;(conv=>whnf)
 repeat' first|(refine at_ ?_;conv=>whnf)|(refine ai (fun _=>?_) (fun _=>?_)<;>conv=>whnf)
 all_goals first
  |exact⟨bk (by unfold kq;omega),rfl⟩
  |exact⟨aC (by unfold kq;omega),rfl⟩
def ov (r:bE) (t:Int):Prop:=(r.kind≠1/\(0<r.guards.length\/0<r.some_.length\/0<r.forall_.length\/0<r.send.length))\/(r.kind≠1/\r.kind≠2/\r.kind≠3/\(r.read≠-1\/r.write≠-1))\/
 (r.kind≠2/\r.kind≠5/\(r.pfrom≠0\/r.pto≠0))\/(r.kind≠3/\0<r.response.length)\/(r.kind≠5/\r.direction≠0)\/(r.kind≠4/\(r.at_≠0\/0<r.left.length\/0<r.right.length))\/(0<r.parent.length/\¬(r.kind=4/\t=4))
instance (r:bE) (t:Int):Decidable (ov r t):=inferInstanceAs (Decidable (_\/_))
theorem Gz (r:bE) (t:Int) (hr:JS r) (hf:kq r.kind t):ab Tryz.prog 260 [.agg (iu r), .int .i64 t] (fun u=>u= .bool (decide (ov r t))):=by
 have hb:=Gt hr
 refine ab.intro ae ag Tryz.func260 rfl (by decide) ?_;(conv=>whnf)
 refine yl ?_
 conv=>whnf
 unfold kq at hf
 repeat' first|(refine at_ ?_;conv=>whnf)|(refine ai (fun _=>?_) (fun _=>?_)<;>conv=>whnf)
 all_goals first
  |exact⟨bk (by unfold ov;omega),rfl⟩
  |exact⟨aC (by unfold ov;omega),rfl⟩
set_option maxRecDepth 100000
set_option maxHeartbeats 4000000
theorem A9 {α:Type} {l:List α} {i:Nat} (d:α) (h:i<l.length):l.drop i=l.getD i d::l.drop (i+1):=by
 rw[List.drop_eq_getElem_cons h]
 simp[List.getD,h]
theorem lp {α:Type} {l:List α} (f:α->Int) {k:Nat} (d:α) (h:k<l.length):fF ((l.drop k).map f)=if f (l.getD k d)≠0 then f (l.getD k d) else fF ((l.drop (k+1)).map f):=by
 rw[A9 d h];rfl
def oa (c:Int):Int:=if c<1\/100<c then 1 else 0
def po (l:l7):Int:=if fP l then 0 else 4
def gE (m:Int) (g:fL):Int:=fF [gO g.message m,oa g.coef,po g.bound]
def cF (m:Int) (l:List fL):Int:=if fF (l.map (gE m))≠0 then fF (l.map (gE m)) else if 2<l.length then 4 else 0
theorem Kz (p:ap) (l:List fL) (hl:l.length<=4503599627370496):ab Tryz.prog 261 [.agg (dg p), .sl aW dJ l] (fun u=>u= .int .i64 (cF p.messages.length l)):=by
 refine ab.intro ae ag Tryz.func261 rfl (by decide) ?_;(conv=>whnf)
 refine ar rfl ?_
 conv=>whnf
 refine a8.loopF ae ag (fun k:Nat=>k<=l.length/\fF (l.map (gE p.messages.length))=fF ((l.drop k).map (gE p.messages.length))) (fun k=>[(10, .int .i64 (k:Int))]) (fun _=>[]) (fun k=>l.length-k) 0 ⟨by omega,rfl⟩ ?_;conv=>whnf
 refine⟨sI,?_⟩
 rintro k ⟨hk,he⟩
 conv=>whnf
 refine ai (fun h1=>?_) (fun h1=>?_)<;>conv=>whnf
 ·rw[lp _ aW (by omega)] at he
  refine nI ?_
  rw[tN]
  generalize l.getD k aW=g at he
  conv=>whnf
  refine dI ?_
  conv=>whnf
  (refine oC (iv g.message p.messages.length) ?_;conv=>whnf)
  have fin:∀c:Int,c=oa g.coef->∀b:Int,b=po g.bound->fF [gO g.message p.messages.length,c,b]=gE p.messages.length g:=by rintro c rfl b rfl;rfl
  by_cases hc:g.coef<1\/100<g.coef
  ·have ec:(1:Int)=oa g.coef:=by rw[oa,if_pos hc]
   repeat' first|(refine at_ ?_;conv=>whnf)|(refine ai (fun _=>?_) (fun _=>?_)<;>conv=>whnf)
   all_goals
    (refine oC (jO 1) ?_;conv=>whnf)
    refine dD (pn g.bound) (fun _=>?_) (fun _=>?_)<;>(conv=>whnf)
    ·rename_i hb
     have eb:(0:Int)=po g.bound:=by rw[po,if_pos hb]
     (refine oC (iI 4) ?_;conv=>whnf)
     refine ef ?_
     conv=>whnf
     (refine oC (cW _ (by simp)) ?_;conv=>whnf)
     rw[fin _ ec _ eb]
     refine ai (fun h2=>?_) (fun h2=>?_)<;>conv=>whnf
     ·rw[if_pos h2] at he
      exact⟨aq (by rw[cF,he,if_pos h2]),rfl⟩
     ·rw[if_neg h2] at he
      repeat' first|(refine at_ ?_;conv=>whnf)|(refine ai (fun _=>?_) (fun _=>?_)<;>conv=>whnf)
      exact⟨k+1,sI,⟨by omega,he⟩,by dsimp only;omega⟩
    ·rename_i hb
     have eb:(4:Int)=po g.bound:=by rw[po,if_neg hb]
     (refine oC (jO 4) ?_;conv=>whnf)
     refine ef ?_
     conv=>whnf
     (refine oC (cW _ (by simp)) ?_;conv=>whnf)
     rw[fin _ ec _ eb]
     refine ai (fun h2=>?_) (fun h2=>?_)<;>conv=>whnf
     ·rw[if_pos h2] at he
      exact⟨aq (by rw[cF,he,if_pos h2]),rfl⟩
     ·rw[if_neg h2] at he
      repeat' first|(refine at_ ?_;conv=>whnf)|(refine ai (fun _=>?_) (fun _=>?_)<;>conv=>whnf)
      exact⟨k+1,sI,⟨by omega,he⟩,by dsimp only;omega⟩
  ·have ec:(0:Int)=oa g.coef:=by rw[oa,if_neg hc]
   repeat' first|(refine at_ ?_;conv=>whnf)|(refine ai (fun _=>?_) (fun _=>?_)<;>conv=>whnf)
   (refine oC (iI 1) ?_;conv=>whnf)
   refine dD (pn g.bound) (fun _=>?_) (fun _=>?_)<;>(conv=>whnf)
   ·rename_i hb
    have eb:(0:Int)=po g.bound:=by rw[po,if_pos hb]
    (refine oC (iI 4) ?_;conv=>whnf)
    refine ef ?_
    conv=>whnf
    (refine oC (cW _ (by simp)) ?_;conv=>whnf)
    rw[fin _ ec _ eb]
    refine ai (fun h2=>?_) (fun h2=>?_)<;>conv=>whnf
    ·rw[if_pos h2] at he
     exact⟨aq (by rw[cF,he,if_pos h2]),rfl⟩
    ·rw[if_neg h2] at he
     repeat' first|(refine at_ ?_;conv=>whnf)|(refine ai (fun _=>?_) (fun _=>?_)<;>conv=>whnf)
     exact⟨k+1,sI,⟨by omega,he⟩,by dsimp only;omega⟩
   ·rename_i hb
    have eb:(4:Int)=po g.bound:=by rw[po,if_neg hb]
    (refine oC (jO 4) ?_;conv=>whnf)
    refine ef ?_
    conv=>whnf
    (refine oC (cW _ (by simp)) ?_;conv=>whnf)
    rw[fin _ ec _ eb]
    refine ai (fun h2=>?_) (fun h2=>?_)<;>conv=>whnf
    ·rw[if_pos h2] at he
     exact⟨aq (by rw[cF,he,if_pos h2]),rfl⟩
    ·rw[if_neg h2] at he
     repeat' first|(refine at_ ?_;conv=>whnf)|(refine ai (fun _=>?_) (fun _=>?_)<;>conv=>whnf)
     exact⟨k+1,sI,⟨by omega,he⟩,by dsimp only;omega⟩
 ·obtain rfl:k=l.length:=by omega
  rw[List.drop_length] at he
  have h0:fF (l.map (gE p.messages.length))=0:=he
  refine ai (fun h2=>?_) (fun h2=>?_)<;>conv=>whnf
  ·(refine oP (jO 4) ?_;conv=>whnf)
   exact⟨aq (by rw[cF,h0,if_neg (by simp),if_pos (by omega)]),rfl⟩
  ·(refine oP (iI 4) ?_;conv=>whnf)
   exact⟨aq (by rw[cF,h0,if_neg (by simp),if_neg (by omega)]),rfl⟩
def ob (l:List Int) (n:Int):Int:=if(l.length:Int)≠n then 1 else if qA l n then 0 else 5
theorem A' (l:List Int) (n:Int) (hl:l.length<=4503599627370496):ab Tryz.prog 263 [.sl 0 ak l, .int .i64 n] (fun u=>u= .int .i64 (ob l n)):=by
 refine ab.intro ae ag Tryz.func263 rfl (by decide) ?_;(conv=>whnf)
 refine ai (fun h0=>?_) (fun h0=>?_)<;>conv=>whnf
 ·exact⟨aq (by rw[ob,if_pos h0]),rfl⟩
 refine a8.loopF ae ag (fun k:Nat=>k<=l.length/\∀j,j<k->0<=l.getD j 0/\l.getD j 0<n) (fun k=>[(14, .int .i64 (k:Int))]) (fun _=>[]) (fun k=>l.length-k) 0 ⟨by omega,fun j hj=>by omega⟩ ?_;conv=>whnf
 refine⟨sI,?_⟩
 rintro k ⟨hk,ha⟩
 conv=>whnf
 refine ai (fun h1=>?_) (fun h1=>?_)<;>conv=>whnf
 ·refine nI ?_
  rw[tN]
  conv=>whnf
  (refine oP (iv _ _) ?_;conv=>whnf)
  by_cases hb:l.getD k 0<0\/n<=l.getD k 0
  ·rw[gO,if_pos hb]
   repeat' first|(refine at_ ?_;conv=>whnf)|(refine ai (fun _=>?_) (fun _=>?_)<;>conv=>whnf)
   refine⟨aq ?_,rfl⟩
   rw[ob,if_neg h0,if_neg]
   intro h
   have:=h k (by omega)
   omega
  ·rw[gO,if_neg hb]
   repeat' first|(refine at_ ?_;conv=>whnf)|(refine ai (fun _=>?_) (fun _=>?_)<;>conv=>whnf)
   refine⟨k+1,sI,⟨by omega,fun j hj=>?_⟩,by dsimp only;omega⟩
   by_cases e:j=k
   ·subst e;omega
   ·exact ha j (by omega)
 ·exact⟨aq (by rw[ob,if_neg h0,if_pos (show qA l n from fun j hj=>ha j (by omega))]),rfl⟩
def mH (m v:Int):Int:=if v< -1\/m<=v then 5 else 0
theorem qC (p:ap) (v:Int):ab Tryz.prog 262 [.agg (dg p), .int .i64 v] (fun u=>u= .int .i64 (mH p.values.length v)):=by
 refine ab.intro ae ag Tryz.func262 rfl (by decide) ?_;(conv=>whnf)
 refine ar rfl ?_
 conv=>whnf
 by_cases h:v< -1\/(p.values.length:Int)<=v
 ·rw[mH,if_pos h]
  repeat' first|(refine at_ ?_;conv=>whnf)|(refine ai (fun _=>?_) (fun _=>?_)<;>conv=>whnf)
  all_goals
   (refine oP (jO 5) ?_;conv=>whnf)
   exact⟨rfl,rfl⟩
 ·rw[mH,if_neg h]
  repeat' first|(refine at_ ?_;conv=>whnf)|(refine ai (fun _=>?_) (fun _=>?_)<;>conv=>whnf)
  (refine oP (iI 5) ?_;conv=>whnf)
  exact⟨rfl,rfl⟩
def NF (g:fL):List Int:=[g.message,g.coef,g.bound.c,g.bound.n,g.bound.t,g.bound.f]
theorem pp {a b:fL}:NF a=NF b↔a=b:=by
 constructor
 ·intro h
  obtain⟨m,c,⟨x,y,z,w⟩⟩:=a
  obtain⟨m',c',⟨x',y',z',w'⟩⟩:=b
  simp only[NF,List.cons.injEq,and_true] at h
  obtain⟨rfl,rfl,rfl,rfl,rfl,rfl⟩:=h
  rfl
 ·rintro rfl;rfl
theorem aH {α:Type} {l:List α} {k:Nat} (d:α) (h:k<l.length):l.getD k d∈l:=by
 rw[gD,gL h]
 exact List.getElem_mem _
theorem bM {α:Type} {l:List α} {k:Nat} (d:α) (h:k<l.length):l.take (k+1)=l.take k++[l.getD k d]:=by
 rw[List.take_succ_eq_append_getElem h,gD,gL h]
 rfl
theorem EA (l:List fL) (g:fL) (hl:l.length<=4503599627370496):ab Tryz.prog 271 [.sl aW dJ l, .agg (dJ g)] (fun u=>∃n:Int,u= .int .i64 n/\(0<=n↔g∈l)):=by
 refine ab.intro ae ag Tryz.func271 rfl (by decide) ?_;(conv=>whnf)
 refine ar rfl ?_
 conv=>whnf
 refine a8.loopF ae ag (fun k:Nat=>k<=l.length/\g∉l.take k) (fun k=>[(8, .int .i64 (k:Int))]) (fun _=>[]) (fun k=>l.length-k) 0 ⟨by omega,by simp⟩ ?_;conv=>whnf
 refine⟨sI,?_⟩
 rintro k ⟨hk,ha⟩
 conv=>whnf
 repeat' first|(refine at_ ?_;conv=>whnf)|(refine ai (fun _=>?_) (fun _=>?_)<;>conv=>whnf)
 ·rename_i h1 h2
  rw[tN] at h2
  have h2:g=l.getD k aW:=pp.1 h2
  refine⟨⟨k,rfl,fun _=>?_,fun _=>by omega⟩,rfl⟩
  rw[h2];exact aH _ (by omega)
 ·rename_i h1 h2
  rw[tN] at h2
  refine⟨k+1,sI,⟨by omega,?_⟩,by dsimp only;omega⟩
  rw[bM aW (by omega),List.mem_append,List.mem_singleton,not_or]
  exact⟨ha,fun e=>h2 (pp.2 e)⟩
 ·obtain rfl:k=l.length:=by omega
  rw[List.take_length] at ha
  exact⟨⟨-1,rfl,fun h=>by omega,fun h=>absurd h ha⟩,rfl⟩
theorem wR (l:List fL) (g:fL) (hl:l.length<=4503599627370496):ab Tryz.prog 264 [.sl aW dJ l, .agg (dJ g)] (fun u=>u= .bool (decide (g∈l))):=by
 refine ab.intro ae ag Tryz.func264 rfl (by decide) ?_;(conv=>whnf)
 refine ar rfl ?_
 conv=>whnf
 refine aj.of_pure (n:=5) (EA l g hl) rfl ?_
 rintro _ ⟨n,rfl,hn⟩
 conv=>whnf
 refine ai (fun h=>?_) (fun h=>?_)<;>conv=>whnf
 ·exact⟨bk (hn.1 h),rfl⟩
 ·exact⟨aC (fun hh=>h (hn.2 hh)),rfl⟩
def kr (acc:List fL) (g:fL):List fL:=if g∈acc then acc else acc++[g]
def aA (rs:List bE):List fL:=(rs.flatMap (·.guards)).foldl kr []
def Qa (l:List fL):aU:=.row 187 aW dJ l
theorem tC (gs:List fL):∀acc,(gs.foldl kr acc).length<=acc.length+gs.length:=by
 induction gs with
 |nil=>intro acc;simp
 |cons g gs ih=>
  intro acc
  have:=ih (kr acc g)
  have h2:(kr acc g).length<=acc.length+1:=by unfold kr;split<;>simp
  simp only[List.foldl_cons,List.length_cons]
  omega
theorem GA {rs:List bE} (h:∀r∈rs,r.guards.length<=1000):(rs.flatMap (·.guards)).length<=1000*rs.length:=by
 induction rs with
 |nil=>simp
 |cons r rs ih=>
  have h1:=h r List.mem_cons_self
  have h2:=ih fun x hx=>h x (List.mem_cons_of_mem _ hx)
  simp only[List.flatMap_cons,List.length_append,List.length_cons]
  omega
def Qb (p:ap):Prop:=p.rules.length<=1000/\∀j,j<p.rules.length->(p.rules.getD j au).guards.length<=1000
theorem Ba {p:ap} (h:Qb p):∀r∈p.rules,r.guards.length<=1000:=by
 intro r hr
 obtain⟨j,hj,rfl⟩:=List.getElem_of_mem hr
 have:=h.2 j hj
 rwa [gD,gL hj] at this
def uC (rs:List bE) (i:Nat) (r:bE) (j:Nat):List fL:=(((rs.take i).flatMap (·.guards))++r.guards.take j).foldl kr []
theorem EB (rs:List bE) (i:Nat) (r:bE):uC rs i r 0=aA (rs.take i):=by simp[uC,aA]
theorem EC (rs:List bE) (i:Nat) (r:bE) {j:Nat} (h:j<r.guards.length):uC rs i r (j+1)=kr (uC rs i r j) (r.guards.getD j aW):=by
 rw[uC,bM aW h,<-List.append_assoc,List.foldl_append];rfl
theorem GB (rs:List bE) {i:Nat} (h:i<rs.length):uC rs i (rs.getD i au) (rs.getD i au).guards.length=aA (rs.take (i+1)):=by
 rw[aA,bM au h,List.flatMap_append,uC,List.take_length];simp
theorem GC {p:ap} (h:Qb p) (i j:Nat):(uC p.rules i (p.rules.getD i au) j).length<=1001000:=by
 have h1:=GA (rs:=p.rules.take i) fun r hr=>Ba h r (List.mem_of_mem_take hr)
 have h2:=tC ((((p.rules.take i).flatMap (·.guards))++(p.rules.getD i au).guards.take j)) []
 have h3:=h.1
 have h4:(p.rules.getD i au).guards.length<=1000:=by
  by_cases hi:i<p.rules.length
  ·exact h.2 i hi
  ·rw[gD,List.getElem?_eq_none (by omega)];simp[au]
 unfold uC
 simp only[List.length_append,List.length_take,List.length_nil] at h1 h2
 omega
theorem rm (p:ap) (hp:Qb p):ab Tryz.prog 189 [.agg (dg p)] (fun u=>u= .sl aW dJ (aA p.rules)):=by
 have hle:=hp.1
 refine ab.intro ae ag Tryz.func189 rfl (by decide) ?_;(conv=>whnf)
 refine ar rfl ?_
 conv=>whnf
 refine a8.loopF ae ag (fun i:Nat=>i<=p.rules.length) (fun i=>[(11, .int .i64 (i:Int)),(3, .row 1000 (aA (p.rules.take i)).length 6)]) (fun i=>[(1000,Qa (aA (p.rules.take i)))]) (fun i=>p.rules.length-i) 0 (by omega) ?_;conv=>whnf
 refine⟨bd.by_ [(1000, .nil 6)] _ 400 rfl (aa) (aa),?_⟩
 intro i hi
 conv=>whnf
 refine ai (fun h1=>?_) (fun h1=>?_)<;>conv=>whnf
 ·refine nI ?_
  rw[tN]
  have hil:i<p.rules.length:=by omega
  have hgl:=hp.2 i hil
  have hpl:=GC hp i
  have hall:=GB p.rules hil
  have hzero:=EB p.rules i (p.rules.getD i au)
  have hsucc:=fun j=>EC p.rules i (p.rules.getD i au) (j:=j)
  generalize p.rules.getD i au=r at hgl hpl hall hzero hsucc
  rw[<-hzero]
  generalize uC p.rules i r=out at hpl hall hsucc
  conv=>whnf
  refine a8.loopF ae ag (fun j:Nat=>j<=r.guards.length) (fun j=>[(18, .int .i64 (j:Int)),(3, .row 1000 (out j).length 6),(5, .top),(15, .top)]) (fun j=>[(1000,Qa (out j))]) (fun j=>r.guards.length-j) 0 (by omega) ?_;conv=>whnf
  refine⟨sI,?_⟩
  intro j hj
  conv=>whnf
  refine ai (fun h2=>?_) (fun h2=>?_)<;>conv=>whnf
  ·refine nI ?_
   rw[tN]
   have hs:=hsucc j (by omega)
   have hlj:=hpl j
   generalize r.guards.getD j aW=g at hs
   conv=>whnf
   refine aj.borrow (n:=5) (wR (out j) g (by omega)) rfl (by rintro _ rfl;rfl) ?_
   rintro _ rfl
   by_cases hm:g∈out j
   ·rw[decide_eq_true hm]
    conv=>whnf
    repeat' first|(refine at_ ?_;conv=>whnf)|(refine ai (fun _=>?_) (fun _=>?_)<;>conv=>whnf)
    have e:out (j+1)=out j:=by rw[hs,kr,if_pos hm]
    refine⟨j+1,?_,by omega,by dsimp only;omega⟩
    dsimp only
    rw[e]
    exact sI
   ·rw[decide_eq_false hm]
    conv=>whnf
    refine c7 aW dJ [g] rfl ?_
    conv=>whnf
    repeat' first|(refine at_ ?_;conv=>whnf)|(refine ai (fun _=>?_) (fun _=>?_)<;>conv=>whnf)
    have e:out (j+1)=out j++[g]:=by rw[hs,kr,if_neg hm]
    refine⟨j+1,?_,by omega,by dsimp only;omega⟩
    dsimp only
    rw[e]
    exact bd.by_ [(1000, .old 29)] _ 400 rfl (aa) (aa)
  ·obtain rfl:j=r.guards.length:=by omega
   repeat' first|(refine at_ ?_;conv=>whnf)|(refine ai (fun _=>?_) (fun _=>?_)<;>conv=>whnf)
   refine⟨i+1,?_,by omega,by dsimp only;omega⟩
   dsimp only
   rw[<-hall]
   exact sI
 ·obtain rfl:i=p.rules.length:=by omega
  rw[List.take_length]
  exact⟨rfl,rfl⟩
set_option maxRecDepth 100000
set_option maxHeartbeats 4000000
theorem ED (x r:bE):ab Tryz.prog 258 [.agg (iu x), .pd (iu r)] (fun u=>u= .bool (decide (x.name=r.name))):=by
 refine ab.intro ae ag Tryz.func258 rfl (by decide) ?_;(conv=>whnf)
 refine ar rfl ?_
 conv=>whnf
 refine ai (fun h=>?_) (fun h=>?_)<;>conv=>whnf
 ·exact⟨bk h,rfl⟩
 ·exact⟨aC h,rfl⟩
def mI (rs:List bE) (i:Nat) (r:bE):Prop:=∃j,j<(rs.take i).length/\((rs.take i).getD j au).name=r.name
instance (rs:List bE) (i:Nat) (r:bE):Decidable (mI rs i r):=inferInstanceAs (Decidable (∃j,j<(rs.take i).length/\_))
theorem GD (l:List bE) (r:bE) (hl:l.length<=4503599627370496):ab Tryz.prog 267 [.sl au iu l, .fn 258 [.pd (iu r)]] (fun u=>∃n:Int,u= .int .i64 n/\(0<=n↔∃j,j<l.length/\(l.getD j au).name=r.name)):=by
 refine ab.intro ae ag Tryz.func267 rfl (by decide) ?_;(conv=>whnf)
 refine a8.loopF ae ag (fun k:Nat=>k<=l.length/\∀j,j<k->(l.getD j au).name≠r.name) (fun k=>[(8, .int .i64 (k:Int))]) (fun _=>[]) (fun k=>l.length-k) 0 ⟨by omega,fun j hj=>by omega⟩ ?_;conv=>whnf
 refine⟨sI,?_⟩
 rintro k ⟨hk,ha⟩
 conv=>whnf
 refine ai (fun h1=>?_) (fun h1=>?_)<;>conv=>whnf
 ·refine nI ?_
  rw[tN]
  conv=>whnf
  refine dC (ED (l.getD k au) r) (fun _=>?_) (fun _=>?_)<;>(conv=>whnf)
  ·rename_i h2
   exact⟨⟨k,rfl,fun _=>⟨k,by omega,h2⟩,fun _=>by omega⟩,rfl⟩
  ·rename_i h2
   repeat' first|(refine at_ ?_;conv=>whnf)|(refine ai (fun _=>?_) (fun _=>?_)<;>conv=>whnf)
   refine⟨k+1,sI,⟨by omega,fun j hj=>?_⟩,by dsimp only;omega⟩
   by_cases e:j=k
   ·subst e;exact h2
   ·exact ha j (by omega)
 ·exact⟨⟨-1,rfl,fun h=>by omega,fun⟨j,h1,h2⟩=>absurd h2 (ha j (by omega))⟩,rfl⟩
theorem GE (rs:List bE) (i:Nat) (r:bE) (hl:rs.length<=4503599627370496):ab Tryz.prog 191 [.sl au iu (rs.take i), .fn 258 [.pd (iu r)]] (fun u=>u= .bool (decide (mI rs i r))):=by
 refine ab.intro ae ag Tryz.func191 rfl (by decide) ?_;(conv=>whnf)
 refine aj.of_pure (n:=5) (GD (rs.take i) r (by simp;omega)) rfl ?_
 rintro _ ⟨n,rfl,hn⟩
 conv=>whnf
 refine ai (fun h=>?_) (fun h=>?_)<;>conv=>whnf
 ·exact⟨bk (hn.1 h),rfl⟩
 ·exact⟨aC (fun hh=>h (hn.2 hh)),rfl⟩
def NG (a t:Int):Int:=if a<0\/2<a\/(a≠0/\t=3) then 1 else 0
def GF (d t:Int):Int:=if(t=4/\(d<3\/4<d))\/(t≠4/\(d<1\/2<d)) then 1 else 0
def fg (p:ap) (r:bE):Int:=
 if r.kind=1 then fF [cF p.messages.length r.guards,cE r.some_ p.states.length,cE r.forall_ p.states.length,mH p.values.length r.read,mH p.values.length r.write,cE r.send p.messages.length]
 else if r.kind=2 then fF [gO r.pfrom p.states.length,gO r.pto p.states.length,mH p.values.length r.read,mH p.values.length r.write]
 else if r.kind=3 then fF [ob r.response p.states.length,mH p.values.length r.read,mH p.values.length r.write]
 else if r.kind=4 then fF [cE r.left p.states.length,cE r.right p.states.length,cE r.parent p.states.length,NG r.at_ p.topology]
 else fF [gO r.pfrom p.states.length,gO r.pto p.states.length,GF r.direction p.topology]
def fM (p:ap) (i:Nat) (r:bE):Int:=
 if¬dq r.name\/mI p.rules i r then 2 else if¬kq r.kind p.topology\/ov r p.topology then 6
 else fF [gO r.src p.states.length,gO r.dst p.states.length,fg p r]
theorem KA (a b c:Int):fF [a,b,c]=if fF [a,b]≠0 then fF [a,b] else c:=by
 simp only[fF]
 by_cases h1:a=0<;>by_cases h2:b=0<;>by_cases h3:c=0<;>simp[h1,h2,h3]
theorem Bb (p:ap) (i:Nat) (hp:qz p) (hi:i<p.rules.length):ab Tryz.prog 188 [.agg (dg p), .int .i64 (i:Int)] (fun u=>u= .int .i64 (fM p i (p.rules.getD i au))):=by
 have hle:=tA hp
 have hbr:=Gu hp hi
 refine ab.intro ae ag Tryz.func188 rfl (by decide) ?_;(conv=>whnf)
 refine ar rfl ?_
 conv=>whnf
 refine nI ?_
 rw[tN]
 generalize p.rules.getD i au=r at hbr
 have hrl:=Gt hbr
 conv=>whnf
 refine nI ?_
 rw[tN]
 conv=>whnf
 refine aj.borrow (n:=5) (GE p.rules i r (by omega)) rfl (by rintro _ rfl;rfl) ?_
 rintro _ rfl
 by_cases hv:dq r.name
 ·by_cases ht:mI p.rules i r
  ·rw[decide_eq_true ht]
   conv=>whnf
   refine dC (fG r.name (by omega)) (fun _=>?_) (fun _=>?_)<;>(conv=>whnf)
   ·exact⟨aq (by rw[fM,if_pos (.inr ht)]),rfl⟩
   ·exact⟨aq (by rw[fM,if_pos (.inr ht)]),rfl⟩
  ·rw[decide_eq_false ht]
   have e1:∀x,(if¬dq r.name\/mI p.rules i r then(2:Int) else x)=x:=fun x=>if_neg (by rintro(h|h);exact h hv;exact ht h)
   conv=>whnf
   refine dC (fG r.name (by omega)) (fun _=>?_) (fun _=>?_)<;>(conv=>whnf)
   ·by_cases hf:kq r.kind p.topology
    ·refine dC (Ms r.kind p.topology) (fun _=>?_) (fun _=>?_)<;>(conv=>whnf)
     ·refine dC (Gz r p.topology hbr hf) (fun _=>?_) (fun _=>?_)<;>(conv=>whnf)
      ·rename_i hs
       exact⟨aq (by rw[fM,e1,if_pos (.inr hs)]),rfl⟩
      ·rename_i hs
       have e2:fM p i r=fF [gO r.src p.states.length,gO r.dst p.states.length,fg p r]:=by rw[fM,e1,if_neg (by rintro(h|h);exact h hf;exact hs h)]
       rw[KA] at e2
       refine dI ?_
       conv=>whnf
       (refine oC (iv _ _) ?_;conv=>whnf)
       (refine oC (iv _ _) ?_;conv=>whnf)
       refine ef ?_
       conv=>whnf
       (refine oC (cW _ (by simp)) ?_;conv=>whnf)
       refine ai (fun h3=>?_) (fun h3=>?_)<;>conv=>whnf
       ·rw[if_pos h3] at e2
        exact⟨aq e2.symm,rfl⟩
       ·rw[if_neg h3] at e2
        have ff:=hf
        unfold kq at ff
        by_cases k1:r.kind=1
        ·refine dQ k1 ?_
         conv=>whnf
         refine dI ?_
         conv=>whnf
         (refine oC (Kz p r.guards (by omega)) ?_;conv=>whnf)
         (refine oC (ou r.some_ _ (by omega)) ?_;conv=>whnf)
         (refine oC (ou r.forall_ _ (by omega)) ?_;conv=>whnf)
         (refine oC (qC p r.read) ?_;conv=>whnf)
         (refine oC (qC p r.write) ?_;conv=>whnf)
         (refine oC (ou r.send _ (by omega)) ?_;conv=>whnf)
         refine ef ?_
         conv=>whnf
         (refine oC (cW _ (by simp)) ?_;conv=>whnf)
         exact⟨aq (by rw[e2,fg,if_pos k1]),rfl⟩
        refine j9 k1 ?_
        conv=>whnf
        by_cases k2:r.kind=2
        ·refine dQ k2 ?_
         conv=>whnf
         refine dI ?_
         conv=>whnf
         (refine oC (iv _ _) ?_;conv=>whnf)
         (refine oC (iv _ _) ?_;conv=>whnf)
         (refine oC (qC p r.read) ?_;conv=>whnf)
         (refine oC (qC p r.write) ?_;conv=>whnf)
         refine ef ?_
         conv=>whnf
         (refine oC (cW _ (by simp)) ?_;conv=>whnf)
         exact⟨aq (by rw[e2,fg,if_neg k1,if_pos k2]),rfl⟩
        refine j9 k2 ?_
        conv=>whnf
        by_cases k3:r.kind=3
        ·refine dQ k3 ?_
         conv=>whnf
         refine dI ?_
         conv=>whnf
         (refine oC (A' r.response _ (by omega)) ?_;conv=>whnf)
         (refine oC (qC p r.read) ?_;conv=>whnf)
         (refine oC (qC p r.write) ?_;conv=>whnf)
         refine ef ?_
         conv=>whnf
         (refine oC (cW _ (by simp)) ?_;conv=>whnf)
         exact⟨aq (by rw[e2,fg,if_neg k1,if_neg k2,if_pos k3]),rfl⟩
        refine j9 k3 ?_
        conv=>whnf
        by_cases k4:r.kind=4
        ·refine dQ k4 ?_
         conv=>whnf
         by_cases hm:r.at_<0\/2<r.at_\/(r.at_≠0/\p.topology=3)
         ·have ea:(1:Int)=NG r.at_ p.topology:=by rw[NG,if_pos hm]
          repeat' (first|(refine tI ?_;conv=>whnf)|(refine fI ?_;conv=>whnf)|(refine ai (fun _=>?_) (fun _=>?_)<;>conv=>whnf))
          all_goals
           refine dI ?_
           conv=>whnf
           (refine oC (ou r.left _ (by omega)) ?_;conv=>whnf)
           (refine oC (ou r.right _ (by omega)) ?_;conv=>whnf)
           (refine oC (ou r.parent _ (by omega)) ?_;conv=>whnf)
           (refine oC (jO 1) ?_;conv=>whnf)
           refine ef ?_
           conv=>whnf
           (refine oC (cW _ (by simp)) ?_;conv=>whnf)
           exact⟨aq (by rw[e2,fg,if_neg k1,if_neg k2,if_neg k3,if_pos k4,<-ea]),rfl⟩
         ·have ea:(0:Int)=NG r.at_ p.topology:=by rw[NG,if_neg hm]
          repeat' (first|(refine tI ?_;conv=>whnf)|(refine fI ?_;conv=>whnf)|(refine ai (fun _=>?_) (fun _=>?_)<;>conv=>whnf))
          all_goals
           refine dI ?_
           conv=>whnf
           (refine oC (ou r.left _ (by omega)) ?_;conv=>whnf)
           (refine oC (ou r.right _ (by omega)) ?_;conv=>whnf)
           (refine oC (ou r.parent _ (by omega)) ?_;conv=>whnf)
           (refine oC (iI 1) ?_;conv=>whnf)
           refine ef ?_
           conv=>whnf
           (refine oC (cW _ (by simp)) ?_;conv=>whnf)
           exact⟨aq (by rw[e2,fg,if_neg k1,if_neg k2,if_neg k3,if_pos k4,<-ea]),rfl⟩
        refine j9 k4 ?_
        conv=>whnf
        by_cases hd:(p.topology=4/\(r.direction<3\/4<r.direction))\/(p.topology≠4/\(r.direction<1\/2<r.direction))
        ·have ea:(1:Int)=GF r.direction p.topology:=by rw[GF,if_pos hd]
         refine ai (fun h4=>?_) (fun h4=>?_)<;>conv=>whnf
         all_goals
          refine dI ?_
          conv=>whnf
          (refine oC (iv _ _) ?_;conv=>whnf)
          (refine oC (iv _ _) ?_;conv=>whnf)
          repeat' (first|(refine tI ?_;conv=>whnf)|(refine fI ?_;conv=>whnf)|(refine ai (fun _=>?_) (fun _=>?_)<;>conv=>whnf))
          all_goals
           (refine oC (jO 1) ?_;conv=>whnf)
           refine ef ?_
           conv=>whnf
           (refine oC (cW _ (by simp)) ?_;conv=>whnf)
           exact⟨aq (by rw[e2,fg,if_neg k1,if_neg k2,if_neg k3,if_neg k4,<-ea]),rfl⟩
        ·have ea:(0:Int)=GF r.direction p.topology:=by rw[GF,if_neg hd]
         refine ai (fun h4=>?_) (fun h4=>?_)<;>conv=>whnf
         all_goals
          refine dI ?_
          conv=>whnf
          (refine oC (iv _ _) ?_;conv=>whnf)
          (refine oC (iv _ _) ?_;conv=>whnf)
          repeat' (first|(refine tI ?_;conv=>whnf)|(refine fI ?_;conv=>whnf)|(refine ai (fun _=>?_) (fun _=>?_)<;>conv=>whnf))
          all_goals
           (refine oC (iI 1) ?_;conv=>whnf)
           refine ef ?_
           conv=>whnf
           (refine oC (cW _ (by simp)) ?_;conv=>whnf)
           exact⟨aq (by rw[e2,fg,if_neg k1,if_neg k2,if_neg k3,if_neg k4,<-ea]),rfl⟩
     ·rename_i h;exact absurd hf h
    ·refine dC (Ms r.kind p.topology) (fun _=>?_) (fun _=>?_)<;>(conv=>whnf)
     ·rename_i h;exact absurd h hf
     ·exact⟨aq (by rw[fM,e1,if_pos (.inl hf)]),rfl⟩
   ·rename_i h;exact absurd hv h
 ·by_cases ht:mI p.rules i r
  ·rw[decide_eq_true ht]
   conv=>whnf
   refine dC (fG r.name (by omega)) (fun _=>?_) (fun _=>?_)<;>(conv=>whnf)
   ·exact⟨aq (by rw[fM,if_pos (.inl hv)]),rfl⟩
   ·exact⟨aq (by rw[fM,if_pos (.inl hv)]),rfl⟩
  ·rw[decide_eq_false ht]
   conv=>whnf
   refine dC (fG r.name (by omega)) (fun _=>?_) (fun _=>?_)<;>(conv=>whnf)
   ·rename_i h;exact absurd h hv
   ·exact⟨aq (by rw[fM,if_pos (.inl hv)]),rfl⟩
end Go.Proofs.YtekmminpfhacpaaGreatDoor
