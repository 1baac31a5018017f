import Derived.Test.YtokjgegkhlkopaaGreatDoorFnO
set_option linter.unusedVariables false
set_option linter.unusedSimpArgs false
namespace Go.Proofs.YtokjgegkhlkopaaGreatDoor
set_option maxRecDepth 100000
def Dg (c:Nat):Prop:=97<=c/\c<=122\/48<=c/\c<=57\/c=95
instance (c:Nat):Decidable (Dg c):=inferInstanceAs (Decidable (_\/_))
def de (s:ByteArray):Prop:=(0<s.size/\s.size<=12)/\(97<=m8 s 0/\m8 s 0<=122)/\(∀i,i<s.size->Dg (m8 s i))/\s∉mF
instance (s:ByteArray):Decidable (de s):=inferInstanceAs (Decidable (_/\_))
theorem AE {s:ByteArray} {k:Nat} (h:k<s.size):(s.get! (k+0)).toNat=m8 s k:=by
 unfold m8
 congr 1
theorem Cc {s:ByteArray} {k:Nat} (h:k<s.size) (hb:m8 s k<128):Utf8.decode s k=(m8 s k,1):=by
 unfold Utf8.decode
 simp only[AE h]
 rw[if_pos hb]
theorem Cd {s:ByteArray} {k:Nat} (h:k<s.size) (hb:¬m8 s k<128):128<=(Utf8.decode s k).1:=by
 unfold Utf8.decode
 simp only[AE h]
 rw[if_neg hb]
 (repeat' split)<;>simp only[Utf8.runeError,ge_iff_le,Bool.and_eq_true,decide_eq_true_eq] at*<;>omega
theorem xk {s:ByteArray}:s=t0↔s.size=0:=by
 constructor
 ·rintro rfl;rfl
 ·intro h
  cases s with|mk a=>
  have:a.size=0:=h
  have:a=#[]:=Array.eq_empty_of_size_eq_zero this
  rw[this];rfl
theorem fu (s:ByteArray) (hs:s.size<=4503599627370496):ae Tryz.prog 73 [.str s] (fun u=>u= .bool (decide (de s))):=by
 refine ae.intro ab ac Tryz.func73 rfl (by decide) ?_;(conv=>whnf)
 refine ah (fun h1=>?_) (fun h1=>?_)<;>conv=>whnf
 ·exact⟨aq (fun h=>by have:=xk.1 h1;have:=h.1;omega),rfl⟩
 have h0:s.size≠0:=fun h=>h1 (xk.2 h)
 refine ah (fun h2=>?_) (fun h2=>?_)<;>conv=>whnf
 ·exact⟨aq (fun h=>by have:=h.1;omega),rfl⟩
 refine aE.loopF ab ac (fun k:Nat=>k<=s.size/\∀j,j<k->Dg (m8 s j)/\(j=0->97<=m8 s 0/\m8 s 0<=122)) (fun _=>[]) (fun k=>[(14, .iter s k)]) (fun k=>s.size-k) 0 ⟨by omega,fun j hj=>by omega⟩ ?_;conv=>whnf
 refine⟨sI,?_⟩
 rintro k ⟨hk,ha⟩
 conv=>whnf
 refine LL (fun h3=>?_) (fun h3=>?_)<;>conv=>whnf
 ·by_cases hb:m8 s k<128
  ·rw[Cc h3 hb]
   by_cases hgood:Dg (m8 s k)/\(k=0->97<=m8 s 0/\m8 s 0<=122)
   ·obtain⟨g1,g2⟩:=hgood
    have g3:k=0->m8 s k=m8 s 0:=fun e=>by rw[e]
    unfold Dg at g1
    repeat' first|(refine at_ ?_;conv=>whnf)|(refine ah (fun _=>?_) (fun _=>?_)<;>conv=>whnf)
    all_goals
     refine⟨k+1,sI,⟨by omega,fun j hj=>?_⟩,by dsimp only;omega⟩
     by_cases e:j=k
     ·subst e;exact⟨g1,g2⟩
     ·exact ha j (by omega)
   ·have hbad:¬de s:=fun h=>hgood ⟨h.2.2.1 k h3,fun _=>h.2.1⟩
    have g3:k=0->m8 s k=m8 s 0:=fun e=>by rw[e]
    unfold Dg at hgood
    repeat' first|(refine at_ ?_;conv=>whnf)|(refine ah (fun _=>?_) (fun _=>?_)<;>conv=>whnf)
    all_goals exact⟨aq hbad,rfl⟩
  ·have hd:=Cd h3 hb
   have hbad:¬de s:=fun h=>by have:=h.2.2.1 k h3;unfold Dg at this;omega
   generalize Utf8.decode s k=x at hd
   obtain⟨c,w⟩:=x
   dsimp only at hd⊢
   repeat' first|(refine at_ ?_;conv=>whnf)|(refine ah (fun _=>?_) (fun _=>?_)<;>conv=>whnf)
   all_goals exact⟨aq hbad,rfl⟩
 ·have hall:(∀i,i<s.size->Dg (m8 s i)):=fun i hi=>(ha i (by omega)).1
  have hf:=(ha 0 (by omega)).2 rfl
  refine dC (xj s) (fun _=>?_) (fun _=>?_)<;>(conv=>whnf)
  ·rename_i h;exact⟨aq (fun hh=>hh.2.2.2 h),rfl⟩
  ·rename_i h;exact⟨aN ⟨by omega,hf,hall,h⟩,rfl⟩
theorem Ce:ae Tryz.prog 108 [] (fun u=>u= .sl t0 cR mF):=by
 refine ae.intro ab ac Tryz.func108 rfl (by decide) ?_;(conv=>whnf)
 refine cA t0 cR mF rfl ?_
 conv=>whnf
 exact⟨rfl,rfl⟩
theorem ky (s:ByteArray) (hs:s.size<=4503599627370496):ae Tryz.prog 64 [.str s] (fun u=>u= .bool (decide (de s))):=by
 refine ae.intro ab ac Tryz.func64 rfl (by decide) ?_;(conv=>whnf)
 refine dC (bm _ _ _) (fun _=>?_) (fun _=>?_)<;>(conv=>whnf)
 ·rename_i h0
  have e0:((s.data.getD (0:Int).toNat 0).toNat:Int)=m8 s 0:=rfl
  by_cases hf:97<=m8 s 0/\m8 s 0<=122
  ·repeat' first|(refine at_ ?_;conv=>whnf)|(refine ah (fun _=>?_) (fun _=>?_)<;>conv=>whnf)
   refine aE.loopF ab ac (fun k:Nat=>k<=s.size/\∀j,j<k->Dg (m8 s j)) (fun k=>[(3, .int .i64 (k:Int))]) (fun _=>[]) (fun k=>s.size-k) 0 ⟨by omega,fun j hj=>by omega⟩ ?_;conv=>whnf
   refine⟨sI,?_⟩
   rintro k ⟨hk,ha⟩
   conv=>whnf
   refine ah (fun h1=>?_) (fun h1=>?_)<;>conv=>whnf
   ·have ek:((s.data.getD (k:Int).toNat 0).toNat:Int)=m8 s k:=rfl
    by_cases hg:Dg (m8 s k)
    ·have hg':=hg
     unfold Dg at hg'
     repeat' first|(refine at_ ?_;conv=>whnf)|(refine ah (fun _=>?_) (fun _=>?_)<;>conv=>whnf)
     all_goals
      refine⟨k+1,sI,⟨by omega,fun j hj=>?_⟩,by dsimp only;omega⟩
      by_cases e:j=k
      ·subst e;exact hg
      ·exact ha j (by omega)
    ·have hbad:¬de s:=fun h=>hg (h.2.2.1 k (by omega))
     unfold Dg at hg
     repeat' first|(refine at_ ?_;conv=>whnf)|(refine ah (fun _=>?_) (fun _=>?_)<;>conv=>whnf)
     all_goals exact⟨aq hbad,rfl⟩
   ·(refine oP (Ce) ?_;conv=>whnf)
    refine dC (xi mF s (by decide)) (fun _=>?_) (fun _=>?_)<;>(conv=>whnf)
    ·rename_i h;exact⟨aq (fun hh=>hh.2.2.2 h),rfl⟩
    ·rename_i h;exact⟨aN ⟨by omega,hf,fun i hi=>ha i (by omega),h⟩,rfl⟩
  ·repeat' first|(refine at_ ?_;conv=>whnf)|(refine ah (fun _=>?_) (fun _=>?_)<;>conv=>whnf)
   all_goals exact⟨aq (fun h=>hf h.2.1),rfl⟩
 ·rename_i h0
  exact⟨aq (fun h=>h0 (by have:=h.1;omega)),rfl⟩
set_option maxRecDepth 100000
set_option maxHeartbeats 4000000
theorem cV (l:List Int) (hl:l.length<=4503599627370496):ae Tryz.prog 76 [.sl 0 aD l] (fun u=>u= .int .i64 (cF l)):=by
 refine ae.intro ab ac Tryz.func76 rfl (by decide) ?_;(conv=>whnf)
 refine aE.loopF ab ac (fun k:Nat=>k<=l.length/\cF l=cF (l.drop k)) (fun k=>[(7, .int .i64 (k:Int))]) (fun _=>[]) (fun k=>l.length-k) 0 ⟨by omega,rfl⟩ ?_;conv=>whnf
 refine⟨sI,?_⟩
 rintro k ⟨hk,he⟩
 conv=>whnf
 repeat' first|(refine at_ ?_;conv=>whnf)|(refine ah (fun _=>?_) (fun _=>?_)<;>conv=>whnf)
 ·rename_i h1 h2
  rw[xb (by omega),if_pos (by simpa using h2)] at he
  exact⟨aj (by rw[he];rfl),rfl⟩
 ·rename_i h1 h2
  rw[xb (by omega),if_neg (by simpa using h2)] at he
  exact⟨k+1,sI,⟨by omega,he⟩,by dsimp only;omega⟩
 ·obtain rfl:k=l.length:=by omega
  rw[List.drop_length] at he
  exact⟨aj he.symm,rfl⟩
theorem jo (e:Int):ae Tryz.prog 77 [.bool true, .int .i64 e] (fun u=>u= .int .i64 e):=by
 refine ae.intro ab ac Tryz.func77 rfl (by decide) ?_;(conv=>whnf)
 exact⟨rfl,rfl⟩
theorem g8 (e:Int):ae Tryz.prog 77 [.bool false, .int .i64 e] (fun u=>u= .int .i64 0):=by
 refine ae.intro ab ac Tryz.func77 rfl (by decide) ?_;(conv=>whnf)
 exact⟨rfl,rfl⟩
def dj (i n:Int):Int:=if i<0\/n<=i then 5 else 0
theorem gS (i n:Int):ae Tryz.prog 120 [.int .i64 i, .int .i64 n] (fun u=>u= .int .i64 (dj i n)):=by
 refine ae.intro ab ac Tryz.func120 rfl (by decide) ?_;(conv=>whnf)
 by_cases h:i<0\/n<=i
 ·rw[dj,if_pos h]
  repeat' first|(refine at_ ?_;conv=>whnf)|(refine ah (fun _=>?_) (fun _=>?_)<;>conv=>whnf)
  all_goals
   (refine oP (jo 5) ?_;conv=>whnf)
   exact⟨rfl,rfl⟩
 ·rw[dj,if_neg h]
  repeat' first|(refine at_ ?_;conv=>whnf)|(refine ah (fun _=>?_) (fun _=>?_)<;>conv=>whnf)
  (refine oP (g8 5) ?_;conv=>whnf)
  exact⟨rfl,rfl⟩
def s4 (n:Int):Prop:=-100<=n/\n<=100
instance (n:Int):Decidable (s4 n):=inferInstanceAs (Decidable (_/\_))
def nQ (l:yF):Prop:=s4 l.c/\s4 l.n/\s4 l.t/\s4 l.f
instance (l:yF):Decidable (nQ l):=inferInstanceAs (Decidable (_/\_))
theorem p8 (n:Int):ae Tryz.prog 140 [.int .i64 n] (fun u=>u= .bool (decide (s4 n))):=by
 refine ae.intro ab ac Tryz.func140 rfl (by decide) ?_;(conv=>whnf)
 repeat' first|(refine at_ ?_;conv=>whnf)|(refine ah (fun _=>?_) (fun _=>?_)<;>conv=>whnf)
 all_goals first
  |exact⟨aN (by unfold s4;omega),rfl⟩
  |exact⟨aq (by unfold s4;omega),rfl⟩
theorem nR (l:yF):ae Tryz.prog 115 [.agg (eE l)] (fun u=>u= .bool (decide (nQ l))):=by
 refine ae.intro ab ac Tryz.func115 rfl (by decide) ?_;(conv=>whnf)
 refine am rfl ?_
 conv=>whnf
 refine dC (p8 _) (fun _=>?_) (fun _=>?_)<;>(conv=>whnf)
 ·refine dC (p8 _) (fun _=>?_) (fun _=>?_)<;>(conv=>whnf)
  ·refine dC (p8 _) (fun _=>?_) (fun _=>?_)<;>(conv=>whnf)
   ·refine dC (p8 _) (fun _=>?_) (fun _=>?_)<;>(conv=>whnf)
    ·exact⟨aN ⟨by assumption,by assumption,by assumption,by assumption⟩,rfl⟩
    ·rename_i h;exact⟨aq (fun hh=>h hh.2.2.2),rfl⟩
   ·rename_i h;exact⟨aq (fun hh=>h hh.2.2.1),rfl⟩
  ·rename_i h;exact⟨aq (fun hh=>h hh.2.1),rfl⟩
 ·rename_i h;exact⟨aq (fun hh=>h hh.1),rfl⟩
theorem J5 (l:yF):ae Tryz.prog 105 [.agg (eE l)] (fun u=>u= .bool (decide (nQ l))):=by
 refine ae.intro ab ac Tryz.func105 rfl (by decide) ?_;(conv=>whnf)
 refine am rfl ?_
 conv=>whnf
 refine dC (bm _ _ _) (fun _=>?_) (fun _=>?_)<;>(conv=>whnf)
 ·refine dC (bm _ _ _) (fun _=>?_) (fun _=>?_)<;>(conv=>whnf)
  ·refine dC (bm _ _ _) (fun _=>?_) (fun _=>?_)<;>(conv=>whnf)
   ·refine dC (bm _ _ _) (fun _=>?_) (fun _=>?_)<;>(conv=>whnf)
    ·exact⟨aN ⟨by assumption,by assumption,by assumption,by assumption⟩,rfl⟩
    ·rename_i h;exact⟨aq (fun hh=>h hh.2.2.2),rfl⟩
   ·rename_i h;exact⟨aq (fun hh=>h hh.2.2.1),rfl⟩
  ·rename_i h;exact⟨aq (fun hh=>h hh.2.1),rfl⟩
 ·rename_i h;exact⟨aq (fun hh=>h hh.1),rfl⟩
def cj (k t:Int):Prop:=(k=1\/k=2\/k=3)/\t=1\/(k=4\/k=5)/\t≠1
instance (k t:Int):Decidable (cj k t):=inferInstanceAs (Decidable (_\/_))
theorem I1 (k t:Int):ae Tryz.prog 143 [.int .i64 k, .int .i64 t] (fun u=>u= .bool (decide (cj k t))):=by
 refine ae.intro ab ac Tryz.func143 rfl (by decide) ?_;(conv=>whnf)
 repeat' first|(refine at_ ?_;conv=>whnf)|(refine ah (fun _=>?_) (fun _=>?_)<;>conv=>whnf)
 all_goals first
  |exact⟨aN (by unfold cj;omega),rfl⟩
  |exact⟨aq (by unfold cj;omega),rfl⟩
def kz (r:dh) (t:Int):Prop:=(r.kind≠1/\(0<r.guards.length\/0<r.some_.length\/0<r.forall_.length\/0<r.send.length))\/(r.kind≠1/\r.kind≠2/\r.kind≠3/\(r.read≠-1\/r.write≠-1))\/
 (r.kind≠2/\r.kind≠5/\(r.pfrom≠0\/r.pto≠0))\/(r.kind≠3/\0<r.response.length)\/(r.kind≠5/\r.direction≠0)\/(r.kind≠4/\(r.at_≠0\/0<r.left.length\/0<r.right.length))\/(0<r.parent.length/\¬(r.kind=4/\t=4))
instance (r:dh) (t:Int):Decidable (kz r t):=inferInstanceAs (Decidable (_\/_))
theorem EC (r:dh) (t:Int) (hr:LB r) (hf:cj r.kind t):ae Tryz.prog 144 [.agg (fD r), .int .i64 t] (fun u=>u= .bool (decide (kz r t))):=by
 have hb:=zu hr
 refine ae.intro ab ac Tryz.func144 rfl (by decide) ?_;(conv=>whnf)
 refine yU ?_
 conv=>whnf
 unfold cj at hf
 repeat' first|(refine at_ ?_;conv=>whnf)|(refine ah (fun _=>?_) (fun _=>?_)<;>conv=>whnf)
 all_goals first
  |exact⟨aN (by unfold kz;omega),rfl⟩
  |exact⟨aq (by unfold kz;omega),rfl⟩
theorem AF (p:ao) (r:dh) (hf:cj r.kind p.topology):ae Tryz.prog 133 [.agg (bf p), .agg (fD r)] (fun u=>u= .bool (decide (kz r p.topology))):=by
 refine ae.intro ab ac Tryz.func133 rfl (by decide) ?_;(conv=>whnf)
 refine am rfl ?_
 conv=>whnf
 refine am rfl ?_
 conv=>whnf
 unfold cj at hf
 repeat' first|(refine at_ ?_;conv=>whnf)|(refine ah (fun _=>?_) (fun _=>?_)<;>conv=>whnf)
 all_goals first
  |exact⟨aN (by unfold kz;omega),rfl⟩
  |exact⟨aq (by unfold kz;omega),rfl⟩
set_option maxRecDepth 100000
set_option maxHeartbeats 4000000
theorem zw {α:Type} {l:List α} {i:Nat} (d:α) (h:i<l.length):l.drop i=l.getD i d::l.drop (i+1):=by
 rw[List.drop_eq_getElem_cons h]
 simp[List.getD,h]
theorem eT {α:Type} {l:List α} (f:α->Int) {k:Nat} (d:α) (h:k<l.length):cF ((l.drop k).map f)=if f (l.getD k d)≠0 then f (l.getD k d) else cF ((l.drop (k+1)).map f):=by
 rw[zw d h];rfl
def lB (c:Int):Int:=if c<1\/100<c then 1 else 0
def nT (l:yF):Int:=if nQ l then 0 else 4
def gE (m:Int) (g:nN):Int:=cF [dj g.message m,lB g.coef,nT g.bound]
def bZ (m:Int) (l:List nN):Int:=if cF (l.map (gE m))≠0 then cF (l.map (gE m)) else if 2<l.length then 4 else 0
theorem Ho (p:ao) (l:List nN) (hl:l.length<=4503599627370496):ae Tryz.prog 145 [.agg (bf p), .sl dv dY l] (fun u=>u= .int .i64 (bZ p.messages.length l)):=by
 refine ae.intro ab ac Tryz.func145 rfl (by decide) ?_;(conv=>whnf)
 refine am rfl ?_
 conv=>whnf
 refine aE.loopF ab ac (fun k:Nat=>k<=l.length/\cF (l.map (gE p.messages.length))=cF ((l.drop k).map (gE p.messages.length))) (fun k=>[(10, .int .i64 (k:Int))]) (fun _=>[]) (fun k=>l.length-k) 0 ⟨by omega,rfl⟩ ?_;conv=>whnf
 refine⟨sI,?_⟩
 rintro k ⟨hk,he⟩
 conv=>whnf
 refine ah (fun h1=>?_) (fun h1=>?_)<;>conv=>whnf
 ·rw[eT _ dv (by omega)] at he
  refine nI ?_
  rw[tN]
  generalize l.getD k dv=g at he
  conv=>whnf
  refine dI ?_
  conv=>whnf
  (refine oC (gS g.message p.messages.length) ?_;conv=>whnf)
  have fin:∀c:Int,c=lB g.coef->∀b:Int,b=nT g.bound->cF [dj g.message p.messages.length,c,b]=gE p.messages.length g:=by rintro c rfl b rfl;rfl
  by_cases hc:g.coef<1\/100<g.coef
  ·have ec:(1:Int)=lB g.coef:=by rw[lB,if_pos hc]
   repeat' first|(refine at_ ?_;conv=>whnf)|(refine ah (fun _=>?_) (fun _=>?_)<;>conv=>whnf)
   all_goals
    (refine oC (jo 1) ?_;conv=>whnf)
    refine dD (nR g.bound) (fun _=>?_) (fun _=>?_)<;>(conv=>whnf)
    ·rename_i hb
     have eb:(0:Int)=nT g.bound:=by rw[nT,if_pos hb]
     (refine oC (g8 4) ?_;conv=>whnf)
     refine ew ?_
     conv=>whnf
     (refine oC (cV _ (by simp)) ?_;conv=>whnf)
     rw[fin _ ec _ eb]
     refine ah (fun h2=>?_) (fun h2=>?_)<;>conv=>whnf
     ·rw[if_pos h2] at he
      exact⟨aj (by rw[bZ,he,if_pos h2]),rfl⟩
     ·rw[if_neg h2] at he
      repeat' first|(refine at_ ?_;conv=>whnf)|(refine ah (fun _=>?_) (fun _=>?_)<;>conv=>whnf)
      exact⟨k+1,sI,⟨by omega,he⟩,by dsimp only;omega⟩
    ·rename_i hb
     have eb:(4:Int)=nT g.bound:=by rw[nT,if_neg hb]
     (refine oC (jo 4) ?_;conv=>whnf)
     refine ew ?_
     conv=>whnf
     (refine oC (cV _ (by simp)) ?_;conv=>whnf)
     rw[fin _ ec _ eb]
     refine ah (fun h2=>?_) (fun h2=>?_)<;>conv=>whnf
     ·rw[if_pos h2] at he
      exact⟨aj (by rw[bZ,he,if_pos h2]),rfl⟩
     ·rw[if_neg h2] at he
      repeat' first|(refine at_ ?_;conv=>whnf)|(refine ah (fun _=>?_) (fun _=>?_)<;>conv=>whnf)
      exact⟨k+1,sI,⟨by omega,he⟩,by dsimp only;omega⟩
  ·have ec:(0:Int)=lB g.coef:=by rw[lB,if_neg hc]
   repeat' first|(refine at_ ?_;conv=>whnf)|(refine ah (fun _=>?_) (fun _=>?_)<;>conv=>whnf)
   (refine oC (g8 1) ?_;conv=>whnf)
   refine dD (nR g.bound) (fun _=>?_) (fun _=>?_)<;>(conv=>whnf)
   ·rename_i hb
    have eb:(0:Int)=nT g.bound:=by rw[nT,if_pos hb]
    (refine oC (g8 4) ?_;conv=>whnf)
    refine ew ?_
    conv=>whnf
    (refine oC (cV _ (by simp)) ?_;conv=>whnf)
    rw[fin _ ec _ eb]
    refine ah (fun h2=>?_) (fun h2=>?_)<;>conv=>whnf
    ·rw[if_pos h2] at he
     exact⟨aj (by rw[bZ,he,if_pos h2]),rfl⟩
    ·rw[if_neg h2] at he
     repeat' first|(refine at_ ?_;conv=>whnf)|(refine ah (fun _=>?_) (fun _=>?_)<;>conv=>whnf)
     exact⟨k+1,sI,⟨by omega,he⟩,by dsimp only;omega⟩
   ·rename_i hb
    have eb:(4:Int)=nT g.bound:=by rw[nT,if_neg hb]
    (refine oC (jo 4) ?_;conv=>whnf)
    refine ew ?_
    conv=>whnf
    (refine oC (cV _ (by simp)) ?_;conv=>whnf)
    rw[fin _ ec _ eb]
    refine ah (fun h2=>?_) (fun h2=>?_)<;>conv=>whnf
    ·rw[if_pos h2] at he
     exact⟨aj (by rw[bZ,he,if_pos h2]),rfl⟩
    ·rw[if_neg h2] at he
     repeat' first|(refine at_ ?_;conv=>whnf)|(refine ah (fun _=>?_) (fun _=>?_)<;>conv=>whnf)
     exact⟨k+1,sI,⟨by omega,he⟩,by dsimp only;omega⟩
 ·obtain rfl:k=l.length:=by omega
  rw[List.drop_length] at he
  have h0:cF (l.map (gE p.messages.length))=0:=he
  refine ah (fun h2=>?_) (fun h2=>?_)<;>conv=>whnf
  ·(refine oP (jo 4) ?_;conv=>whnf)
   exact⟨aj (by rw[bZ,h0,if_neg (by simp),if_pos (by omega)]),rfl⟩
  ·(refine oP (g8 4) ?_;conv=>whnf)
   exact⟨aj (by rw[bZ,h0,if_neg (by simp),if_neg (by omega)]),rfl⟩
def lC (l:List Int) (n:Int):Int:=if(l.length:Int)≠n then 1 else if kX l n then 0 else 5
theorem zx (l:List Int) (n:Int) (hl:l.length<=4503599627370496):ae Tryz.prog 147 [.sl 0 aD l, .int .i64 n] (fun u=>u= .int .i64 (lC l n)):=by
 refine ae.intro ab ac Tryz.func147 rfl (by decide) ?_;(conv=>whnf)
 refine ah (fun h0=>?_) (fun h0=>?_)<;>conv=>whnf
 ·exact⟨aj (by rw[lC,if_pos h0]),rfl⟩
 refine aE.loopF ab ac (fun k:Nat=>k<=l.length/\∀j,j<k->0<=l.getD j 0/\l.getD j 0<n) (fun k=>[(14, .int .i64 (k:Int))]) (fun _=>[]) (fun k=>l.length-k) 0 ⟨by omega,fun j hj=>by omega⟩ ?_;conv=>whnf
 refine⟨sI,?_⟩
 rintro k ⟨hk,ha⟩
 conv=>whnf
 refine ah (fun h1=>?_) (fun h1=>?_)<;>conv=>whnf
 ·refine nI ?_
  rw[tN]
  conv=>whnf
  (refine oP (gS _ _) ?_;conv=>whnf)
  by_cases hb:l.getD k 0<0\/n<=l.getD k 0
  ·rw[dj,if_pos hb]
   repeat' first|(refine at_ ?_;conv=>whnf)|(refine ah (fun _=>?_) (fun _=>?_)<;>conv=>whnf)
   refine⟨aj ?_,rfl⟩
   rw[lC,if_neg h0,if_neg]
   intro h
   have:=h k (by omega)
   omega
  ·rw[dj,if_neg hb]
   repeat' first|(refine at_ ?_;conv=>whnf)|(refine ah (fun _=>?_) (fun _=>?_)<;>conv=>whnf)
   refine⟨k+1,sI,⟨by omega,fun j hj=>?_⟩,by dsimp only;omega⟩
   by_cases e:j=k
   ·subst e;omega
   ·exact ha j (by omega)
 ·exact⟨aj (by rw[lC,if_neg h0,if_pos (show kX l n from fun j hj=>ha j (by omega))]),rfl⟩
def gT (m v:Int):Int:=if v< -1\/m<=v then 5 else 0
theorem oZ (p:ao) (v:Int):ae Tryz.prog 146 [.agg (bf p), .int .i64 v] (fun u=>u= .int .i64 (gT p.values.length v)):=by
 refine ae.intro ab ac Tryz.func146 rfl (by decide) ?_;(conv=>whnf)
 refine am rfl ?_
 conv=>whnf
 by_cases h:v< -1\/(p.values.length:Int)<=v
 ·rw[gT,if_pos h]
  repeat' first|(refine at_ ?_;conv=>whnf)|(refine ah (fun _=>?_) (fun _=>?_)<;>conv=>whnf)
  all_goals
   (refine oP (jo 5) ?_;conv=>whnf)
   exact⟨rfl,rfl⟩
 ·rw[gT,if_neg h]
  repeat' first|(refine at_ ?_;conv=>whnf)|(refine ah (fun _=>?_) (fun _=>?_)<;>conv=>whnf)
  (refine oP (g8 5) ?_;conv=>whnf)
  exact⟨rfl,rfl⟩
def Hp (g:nN):List Int:=[g.message,g.coef,g.bound.c,g.bound.n,g.bound.t,g.bound.f]
theorem rq {a b:nN}:Hp a=Hp b↔a=b:=by
 constructor
 ·intro h
  obtain⟨m,c,⟨x,y,z,w⟩⟩:=a
  obtain⟨m',c',⟨x',y',z',w'⟩⟩:=b
  simp only[Hp,List.cons.injEq,and_true] at h
  obtain⟨rfl,rfl,rfl,rfl,rfl,rfl⟩:=h
  rfl
 ·rintro rfl;rfl
theorem rr {α:Type} {l:List α} {k:Nat} (d:α) (h:k<l.length):l.getD k d∈l:=by
 rw[gD,gL h]
 exact List.getElem_mem _
theorem eG {α:Type} {l:List α} {k:Nat} (d:α) (h:k<l.length):l.take (k+1)=l.take k++[l.getD k d]:=by
 rw[List.take_succ_eq_append_getElem h,gD,gL h]
 rfl
theorem Cf (l:List nN) (g:nN) (hl:l.length<=4503599627370496):ae Tryz.prog 175 [.sl dv dY l, .agg (dY g)] (fun u=>∃n:Int,u= .int .i64 n/\(0<=n↔g∈l)):=by
 refine ae.intro ab ac Tryz.func175 rfl (by decide) ?_;(conv=>whnf)
 refine am rfl ?_
 conv=>whnf
 refine aE.loopF ab ac (fun k:Nat=>k<=l.length/\g∉l.take k) (fun k=>[(8, .int .i64 (k:Int))]) (fun _=>[]) (fun k=>l.length-k) 0 ⟨by omega,by simp⟩ ?_;conv=>whnf
 refine⟨sI,?_⟩
 rintro k ⟨hk,ha⟩
 conv=>whnf
 repeat' first|(refine at_ ?_;conv=>whnf)|(refine ah (fun _=>?_) (fun _=>?_)<;>conv=>whnf)
 ·rename_i h1 h2
  rw[tN] at h2
  have h2:g=l.getD k dv:=rq.1 h2
  refine⟨⟨k,rfl,fun _=>?_,fun _=>by omega⟩,rfl⟩
  rw[h2];exact rr _ (by omega)
 ·rename_i h1 h2
  rw[tN] at h2
  refine⟨k+1,sI,⟨by omega,?_⟩,by dsimp only;omega⟩
  rw[eG dv (by omega),List.mem_append,List.mem_singleton,not_or]
  exact⟨ha,fun e=>h2 (rq.2 e)⟩
 ·obtain rfl:k=l.length:=by omega
  rw[List.take_length] at ha
  exact⟨⟨-1,rfl,fun h=>by omega,fun h=>absurd h ha⟩,rfl⟩
theorem vr (l:List nN) (g:nN) (hl:l.length<=4503599627370496):ae Tryz.prog 148 [.sl dv dY l, .agg (dY g)] (fun u=>u= .bool (decide (g∈l))):=by
 refine ae.intro ab ac Tryz.func148 rfl (by decide) ?_;(conv=>whnf)
 refine am rfl ?_
 conv=>whnf
 refine an.of_pure (n:=5) (Cf l g hl) rfl ?_
 rintro _ ⟨n,rfl,hn⟩
 conv=>whnf
 refine ah (fun h=>?_) (fun h=>?_)<;>conv=>whnf
 ·exact⟨aN (hn.1 h),rfl⟩
 ·exact⟨aq (fun hh=>h (hn.2 hh)),rfl⟩
def addT (acc:List nN) (g:nN):List nN:=if g∈acc then acc else acc++[g]
def nU (rs:List dh):List nN:=(rs.flatMap (·.guards)).foldl addT []
def Hq (l:List nN):aX:=.row 204 dv dY l
theorem rA (gs:List nN):∀acc,(gs.foldl addT acc).length<=acc.length+gs.length:=by
 induction gs with
 |nil=>intro acc;simp
 |cons g gs ih=>
  intro acc
  have:=ih (addT acc g)
  have h2:(addT acc g).length<=acc.length+1:=by unfold addT;split<;>simp
  simp only[List.foldl_cons,List.length_cons]
  omega
theorem ED {rs:List dh} (h:∀r∈rs,r.guards.length<=1000):(rs.flatMap (·.guards)).length<=1000*rs.length:=by
 induction rs with
 |nil=>simp
 |cons r rs ih=>
  have h1:=h r List.mem_cons_self
  have h2:=ih fun x hx=>h x (List.mem_cons_of_mem _ hx)
  simp only[List.flatMap_cons,List.length_append,List.length_cons]
  omega
def Mh (p:ao):Prop:=p.rules.length<=1000/\∀j,j<p.rules.length->(p.rules.getD j au).guards.length<=1000
theorem zy {p:ao} (h:Mh p):∀r∈p.rules,r.guards.length<=1000:=by
 intro r hr
 obtain⟨j,hj,rfl⟩:=List.getElem_of_mem hr
 have:=h.2 j hj
 rwa [gD,gL hj] at this
def rB (rs:List dh) (i:Nat) (r:dh) (j:Nat):List nN:=(((rs.take i).flatMap (·.guards))++r.guards.take j).foldl addT []
theorem t4 (rs:List dh) (i:Nat) (r:dh):rB rs i r 0=nU (rs.take i):=by simp[rB,nU]
theorem t5 (rs:List dh) (i:Nat) (r:dh) {j:Nat} (h:j<r.guards.length):rB rs i r (j+1)=addT (rB rs i r j) (r.guards.getD j dv):=by
 rw[rB,eG dv h,<-List.append_assoc,List.foldl_append];rfl
theorem xl (rs:List dh) {i:Nat} (h:i<rs.length):rB rs i (rs.getD i au) (rs.getD i au).guards.length=nU (rs.take (i+1)):=by
 rw[nU,eG au h,List.flatMap_append,rB,List.take_length];simp
theorem xm {p:ao} (h:Mh p) (i j:Nat):(rB p.rules i (p.rules.getD i au) j).length<=1001000:=by
 have h1:=ED (rs:=p.rules.take i) fun r hr=>zy h r (List.mem_of_mem_take hr)
 have h2:=rA ((((p.rules.take i).flatMap (·.guards))++(p.rules.getD i au).guards.take j)) []
 have h3:=h.1
 have h4:(p.rules.getD i au).guards.length<=1000:=by
  by_cases hi:i<p.rules.length
  ·exact h.2 i hi
  ·rw[gD,List.getElem?_eq_none (by omega)];simp[au]
 unfold rB
 simp only[List.length_append,List.length_take,List.length_nil] at h1 h2
 omega
theorem xn (p:ao) (hp:Mh p):ae Tryz.prog 117 [.agg (bf p)] (fun u=>u= .sl dv dY (nU p.rules)):=by
 have hle:=hp.1
 refine ae.intro ab ac Tryz.func117 rfl (by decide) ?_;(conv=>whnf)
 refine am rfl ?_
 conv=>whnf
 refine aE.loopF ab ac (fun i:Nat=>i<=p.rules.length) (fun i=>[(11, .int .i64 (i:Int)),(3, .row 1000 (nU (p.rules.take i)).length 6)]) (fun i=>[(1000,Hq (nU (p.rules.take i)))]) (fun i=>p.rules.length-i) 0 (by omega) ?_;conv=>whnf
 refine⟨aM.by_ [(1000, .nil 6)] _ 400 rfl (aa) (aa),?_⟩
 intro i hi
 conv=>whnf
 refine ah (fun h1=>?_) (fun h1=>?_)<;>conv=>whnf
 ·refine nI ?_
  rw[tN]
  have hil:i<p.rules.length:=by omega
  have hgl:=hp.2 i hil
  have hpl:=xm hp i
  have hall:=xl p.rules hil
  have hzero:=t4 p.rules i (p.rules.getD i au)
  have hsucc:=fun j=>t5 p.rules i (p.rules.getD i au) (j:=j)
  generalize p.rules.getD i au=r at hgl hpl hall hzero hsucc
  rw[<-hzero]
  generalize rB p.rules i r=out at hpl hall hsucc
  conv=>whnf
  refine aE.loopF ab ac (fun j:Nat=>j<=r.guards.length) (fun j=>[(18, .int .i64 (j:Int)),(3, .row 1000 (out j).length 6),(5, .top),(15, .top)]) (fun j=>[(1000,Hq (out j))]) (fun j=>r.guards.length-j) 0 (by omega) ?_;conv=>whnf
  refine⟨sI,?_⟩
  intro j hj
  conv=>whnf
  refine ah (fun h2=>?_) (fun h2=>?_)<;>conv=>whnf
  ·refine nI ?_
   rw[tN]
   have hs:=hsucc j (by omega)
   have hlj:=hpl j
   generalize r.guards.getD j dv=g at hs
   conv=>whnf
   refine an.borrow (n:=5) (vr (out j) g (by omega)) rfl (by rintro _ rfl;rfl) ?_
   rintro _ rfl
   by_cases hm:g∈out j
   ·rw[decide_eq_true hm]
    conv=>whnf
    repeat' first|(refine at_ ?_;conv=>whnf)|(refine ah (fun _=>?_) (fun _=>?_)<;>conv=>whnf)
    have e:out (j+1)=out j:=by rw[hs,addT,if_pos hm]
    refine⟨j+1,?_,by omega,by dsimp only;omega⟩
    dsimp only
    rw[e]
    exact sI
   ·rw[decide_eq_false hm]
    conv=>whnf
    refine cA dv dY [g] rfl ?_
    conv=>whnf
    repeat' first|(refine at_ ?_;conv=>whnf)|(refine ah (fun _=>?_) (fun _=>?_)<;>conv=>whnf)
    have e:out (j+1)=out j++[g]:=by rw[hs,addT,if_neg hm]
    refine⟨j+1,?_,by omega,by dsimp only;omega⟩
    dsimp only
    rw[e]
    exact aM.by_ [(1000, .old 29)] _ 400 rfl (aa) (aa)
  ·obtain rfl:j=r.guards.length:=by omega
   repeat' first|(refine at_ ?_;conv=>whnf)|(refine ah (fun _=>?_) (fun _=>?_)<;>conv=>whnf)
   refine⟨i+1,?_,by omega,by dsimp only;omega⟩
   dsimp only
   rw[<-hall]
   exact sI
 ·obtain rfl:i=p.rules.length:=by omega
  rw[List.take_length]
  exact⟨rfl,rfl⟩
set_option maxRecDepth 100000
set_option maxHeartbeats 4000000
theorem EE (a b:nN):ae Tryz.prog 160 [.agg (dY a), .agg (dY b)] (fun u=>u= .bool (decide (a=b))):=by
 refine ae.intro ab ac Tryz.func160 rfl (by decide) ?_;(conv=>whnf)
 refine am rfl ?_
 conv=>whnf
 refine am rfl ?_
 conv=>whnf
 refine ah (fun h1=>?_) (fun h1=>?_)<;>conv=>whnf
 ·refine ah (fun h2=>?_) (fun h2=>?_)<;>conv=>whnf
  ·refine ah (fun h3=>?_) (fun h3=>?_)<;>conv=>whnf
   ·refine⟨aN (rq.1 ?_),rfl⟩
    simp only[List.cons.injEq,and_true] at h3
    simp only[Hp,h1,h2,h3]
   ·exact⟨aq (fun h=>h3 (by rw[h])),rfl⟩
  ·exact⟨aq (fun h=>h2 (by rw[h])),rfl⟩
 ·exact⟨aq (fun h=>h1 (by rw[h])),rfl⟩
theorem Hr (l:List nN) (g:nN) (hl:l.length<=4503599627370496):ae Tryz.prog 134 [.sl dv dY l, .agg (dY g)] (fun u=>∃n:Int,u= .int .i64 n/\(n<0↔g∉l)):=by
 refine ae.intro ab ac Tryz.func134 rfl (by decide) ?_;(conv=>whnf)
 refine am rfl ?_
 conv=>whnf
 refine aE.loopF ab ac (fun k:Nat=>k<=l.length/\g∉l.take k) (fun k=>[(5, .int .i64 (k:Int))]) (fun _=>[]) (fun k=>l.length-k) 0 ⟨by omega,by simp⟩ ?_;conv=>whnf
 refine⟨sI,?_⟩
 rintro k ⟨hk,ha⟩
 conv=>whnf
 refine ah (fun h1=>?_) (fun h1=>?_)<;>conv=>whnf
 ·refine dI ?_
  conv=>whnf
  refine nI ?_
  rw[tN]
  conv=>whnf
  refine dD (EE (l.getD k dv) g) (fun _=>?_) (fun _=>?_)<;>(conv=>whnf)
  ·rename_i h2
   refine⟨⟨k,rfl,fun h=>by omega,fun h=>absurd ?_ h⟩,rfl⟩
   rw[<-h2];exact rr _ (by omega)
  ·rename_i h2
   repeat' first|(refine at_ ?_;conv=>whnf)|(refine ah (fun _=>?_) (fun _=>?_)<;>conv=>whnf)
   refine⟨k+1,sI,⟨by omega,?_⟩,by dsimp only;omega⟩
   rw[eG dv (by omega),List.mem_append,List.mem_singleton,not_or]
   exact⟨ha,fun e=>h2 e.symm⟩
 ·obtain rfl:k=l.length:=by omega
  rw[List.take_length] at ha
  exact⟨⟨-1,rfl,fun _=>ha,fun _=>by omega⟩,rfl⟩
theorem Cg (p:ao) (hp:Mh p):ae Tryz.prog 107 [.agg (bf p)] (fun u=>u= .sl dv dY (nU p.rules)):=by
 have hle:=hp.1
 refine ae.intro ab ac Tryz.func107 rfl (by decide) ?_;(conv=>whnf)
 refine am rfl ?_
 conv=>whnf
 refine aE.loopF ab ac (fun i:Nat=>i<=p.rules.length) (fun i=>[(4, .int .i64 (i:Int)),(3, .row 1000 (nU (p.rules.take i)).length 6)]) (fun i=>[(1000,Hq (nU (p.rules.take i)))]) (fun i=>p.rules.length-i) 0 (by omega) ?_;conv=>whnf
 refine⟨aM.by_ [(1000, .nil 6)] _ 400 rfl (aa) (aa),?_⟩
 intro i hi
 conv=>whnf
 refine ah (fun h1=>?_) (fun h1=>?_)<;>conv=>whnf
 ·have hil:i<p.rules.length:=by omega
  have hgl:=hp.2 i hil
  have hpl:=xm hp i
  have hall:=xl p.rules hil
  have hzero:=t4 p.rules i (p.rules.getD i au)
  have hsucc:=fun j=>t5 p.rules i (p.rules.getD i au) (j:=j)
  rw[<-hzero]
  generalize ho:rB p.rules i (p.rules.getD i au)=out at hpl hall hsucc
  refine aE.loopF ab ac (fun j:Nat=>j<=(p.rules.getD i au).guards.length) (fun j=>[(5, .int .i64 (j:Int)),(3, .row 1000 (out j).length 6)]) (fun j=>[(1000,Hq (out j))]) (fun j=>(p.rules.getD i au).guards.length-j) 0 (by omega) ?_;conv=>whnf
  refine⟨sI,?_⟩
  intro j hj
  conv=>whnf
  refine nI ?_
  rw[tN]
  conv=>whnf
  refine ah (fun h2=>?_) (fun h2=>?_)<;>conv=>whnf
  ·refine nI ?_
   rw[tN]
   conv=>whnf
   refine nI ?_
   rw[tN]
   have hs:=hsucc j (by omega)
   have hlj:=hpl j
   generalize (p.rules.getD i au).guards.getD j dv=g at hs
   conv=>whnf
   refine an.borrow (n:=5) (Hr (out j) g (by omega)) rfl (by rintro _ ⟨n,rfl,_⟩;rfl) ?_
   rintro _ ⟨n,rfl,hn⟩
   conv=>whnf
   refine ah (fun h3=>?_) (fun h3=>?_)<;>conv=>whnf
   ·have hm:=hn.1 h3
    refine cA dv dY [g] rfl ?_
    conv=>whnf
    repeat' first|(refine at_ ?_;conv=>whnf)|(refine ah (fun _=>?_) (fun _=>?_)<;>conv=>whnf)
    have e:out (j+1)=out j++[g]:=by rw[hs,addT,if_neg hm]
    refine⟨j+1,?_,by omega,by dsimp only;omega⟩
    dsimp only
    rw[e]
    exact aM.by_ [(1000, .old 41)] _ 400 rfl (aa) (aa)
   ·have hm:g∈out j:=Classical.byContradiction fun h=>h3 (hn.2 h)
    repeat' first|(refine at_ ?_;conv=>whnf)|(refine ah (fun _=>?_) (fun _=>?_)<;>conv=>whnf)
    have e:out (j+1)=out j:=by rw[hs,addT,if_pos hm]
    refine⟨j+1,?_,by omega,by dsimp only;omega⟩
    dsimp only
    rw[e]
    exact sI
  ·obtain rfl:j=(p.rules.getD i au).guards.length:=by omega
   repeat' first|(refine at_ ?_;conv=>whnf)|(refine ah (fun _=>?_) (fun _=>?_)<;>conv=>whnf)
   refine⟨i+1,?_,by omega,by dsimp only;omega⟩
   dsimp only
   rw[<-hall]
   exact sI
 ·obtain rfl:i=p.rules.length:=by omega
  rw[List.take_length]
  exact⟨rfl,rfl⟩
theorem Ch (x r:dh):ae Tryz.prog 142 [.agg (fD x), .pd (fD r)] (fun u=>u= .bool (decide (x.name=r.name))):=by
 refine ae.intro ab ac Tryz.func142 rfl (by decide) ?_;(conv=>whnf)
 refine am rfl ?_
 conv=>whnf
 refine ah (fun h=>?_) (fun h=>?_)<;>conv=>whnf
 ·exact⟨aN h,rfl⟩
 ·exact⟨aq h,rfl⟩
def gU (rs:List dh) (i:Nat) (r:dh):Prop:=∃j,j<(rs.take i).length/\((rs.take i).getD j au).name=r.name
instance (rs:List dh) (i:Nat) (r:dh):Decidable (gU rs i r):=inferInstanceAs (Decidable (∃j,j<(rs.take i).length/\_))
theorem EF (l:List dh) (r:dh) (hl:l.length<=4503599627370496):ae Tryz.prog 174 [.sl au fD l, .fn 142 [.pd (fD r)]] (fun u=>∃n:Int,u= .int .i64 n/\(0<=n↔∃j,j<l.length/\(l.getD j au).name=r.name)):=by
 refine ae.intro ab ac Tryz.func174 rfl (by decide) ?_;(conv=>whnf)
 refine aE.loopF ab ac (fun k:Nat=>k<=l.length/\∀j,j<k->(l.getD j au).name≠r.name) (fun k=>[(8, .int .i64 (k:Int))]) (fun _=>[]) (fun k=>l.length-k) 0 ⟨by omega,fun j hj=>by omega⟩ ?_;conv=>whnf
 refine⟨sI,?_⟩
 rintro k ⟨hk,ha⟩
 conv=>whnf
 refine ah (fun h1=>?_) (fun h1=>?_)<;>conv=>whnf
 ·refine nI ?_
  rw[tN]
  conv=>whnf
  refine dC (Ch (l.getD k au) r) (fun _=>?_) (fun _=>?_)<;>(conv=>whnf)
  ·rename_i h2
   exact⟨⟨k,rfl,fun _=>⟨k,by omega,h2⟩,fun _=>by omega⟩,rfl⟩
  ·rename_i h2
   repeat' first|(refine at_ ?_;conv=>whnf)|(refine ah (fun _=>?_) (fun _=>?_)<;>conv=>whnf)
   refine⟨k+1,sI,⟨by omega,fun j hj=>?_⟩,by dsimp only;omega⟩
   by_cases e:j=k
   ·subst e;exact h2
   ·exact ha j (by omega)
 ·exact⟨⟨-1,rfl,fun h=>by omega,fun⟨j,h1,h2⟩=>absurd h2 (ha j (by omega))⟩,rfl⟩
theorem EG (rs:List dh) (i:Nat) (r:dh) (hl:rs.length<=4503599627370496):ae Tryz.prog 141 [.sl au fD (rs.take i), .fn 142 [.pd (fD r)]] (fun u=>u= .bool (decide (gU rs i r))):=by
 refine ae.intro ab ac Tryz.func141 rfl (by decide) ?_;(conv=>whnf)
 refine an.of_pure (n:=5) (EF (rs.take i) r (by simp;omega)) rfl ?_
 rintro _ ⟨n,rfl,hn⟩
 conv=>whnf
 refine ah (fun h=>?_) (fun h=>?_)<;>conv=>whnf
 ·exact⟨aN (hn.1 h),rfl⟩
 ·exact⟨aq (fun hh=>h (hn.2 hh)),rfl⟩
def EH (a t:Int):Int:=if a<0\/2<a\/(a≠0/\t=3) then 1 else 0
def xo (d t:Int):Int:=if(t=4/\(d<3\/4<d))\/(t≠4/\(d<1\/2<d)) then 1 else 0
def d8 (p:ao) (r:dh):Int:=
 if r.kind=1 then cF [bZ p.messages.length r.guards,c7 r.some_ p.states.length,c7 r.forall_ p.states.length,gT p.values.length r.read,gT p.values.length r.write,c7 r.send p.messages.length]
 else if r.kind=2 then cF [dj r.pfrom p.states.length,dj r.pto p.states.length,gT p.values.length r.read,gT p.values.length r.write]
 else if r.kind=3 then cF [lC r.response p.states.length,gT p.values.length r.read,gT p.values.length r.write]
 else if r.kind=4 then cF [c7 r.left p.states.length,c7 r.right p.states.length,c7 r.parent p.states.length,EH r.at_ p.topology]
 else cF [dj r.pfrom p.states.length,dj r.pto p.states.length,xo r.direction p.topology]
def di (p:ao) (i:Nat) (r:dh):Int:=
 if¬de r.name\/gU p.rules i r then 2 else if¬cj r.kind p.topology\/kz r p.topology then 6
 else cF [dj r.src p.states.length,dj r.dst p.states.length,d8 p r]
theorem Hs (a b c:Int):cF [a,b,c]=if cF [a,b]≠0 then cF [a,b] else c:=by
 simp only[cF]
 by_cases h1:a=0<;>by_cases h2:b=0<;>by_cases h3:c=0<;>simp[h1,h2,h3]
theorem zB (p:ao) (i:Nat) (hp:Ex p) (hi:i<p.rules.length):ae Tryz.prog 116 [.agg (bf p), .int .i64 (i:Int)] (fun u=>u= .int .i64 (di p i (p.rules.getD i au))):=by
 have hle:=oX hp
 have hbr:=xf hp hi
 refine ae.intro ab ac Tryz.func116 rfl (by decide) ?_;(conv=>whnf)
 refine am rfl ?_
 conv=>whnf
 refine nI ?_
 rw[tN]
 generalize p.rules.getD i au=r at hbr
 have hrl:=zu hbr
 conv=>whnf
 refine nI ?_
 rw[tN]
 conv=>whnf
 refine an.borrow (n:=5) (EG p.rules i r (by omega)) rfl (by rintro _ rfl;rfl) ?_
 rintro _ rfl
 by_cases hv:de r.name
 ·by_cases ht:gU p.rules i r
  ·rw[decide_eq_true ht]
   conv=>whnf
   refine dC (fu r.name (by omega)) (fun _=>?_) (fun _=>?_)<;>(conv=>whnf)
   ·exact⟨aj (by rw[di,if_pos (.inr ht)]),rfl⟩
   ·exact⟨aj (by rw[di,if_pos (.inr ht)]),rfl⟩
  ·rw[decide_eq_false ht]
   have e1:∀x,(if¬de r.name\/gU p.rules i r then(2:Int) else x)=x:=fun x=>if_neg (by rintro(h|h);exact h hv;exact ht h)
   conv=>whnf
   refine dC (fu r.name (by omega)) (fun _=>?_) (fun _=>?_)<;>(conv=>whnf)
   ·by_cases hf:cj r.kind p.topology
    ·refine dC (I1 r.kind p.topology) (fun _=>?_) (fun _=>?_)<;>(conv=>whnf)
     ·refine dC (EC r p.topology hbr hf) (fun _=>?_) (fun _=>?_)<;>(conv=>whnf)
      ·rename_i hs
       exact⟨aj (by rw[di,e1,if_pos (.inr hs)]),rfl⟩
      ·rename_i hs
       have e2:di p i r=cF [dj r.src p.states.length,dj r.dst p.states.length,d8 p r]:=by rw[di,e1,if_neg (by rintro(h|h);exact h hf;exact hs h)]
       rw[Hs] at e2
       refine dI ?_
       conv=>whnf
       (refine oC (gS _ _) ?_;conv=>whnf)
       (refine oC (gS _ _) ?_;conv=>whnf)
       refine ew ?_
       conv=>whnf
       (refine oC (cV _ (by simp)) ?_;conv=>whnf)
       refine ah (fun h3=>?_) (fun h3=>?_)<;>conv=>whnf
       ·rw[if_pos h3] at e2
        exact⟨aj e2.symm,rfl⟩
       ·rw[if_neg h3] at e2
        have ff:=hf
        unfold cj at ff
        by_cases k1:r.kind=1
        ·refine dH k1 ?_
         conv=>whnf
         refine dI ?_
         conv=>whnf
         (refine oC (Ho p r.guards (by omega)) ?_;conv=>whnf)
         (refine oC (mS r.some_ _ (by omega)) ?_;conv=>whnf)
         (refine oC (mS r.forall_ _ (by omega)) ?_;conv=>whnf)
         (refine oC (oZ p r.read) ?_;conv=>whnf)
         (refine oC (oZ p r.write) ?_;conv=>whnf)
         (refine oC (mS r.send _ (by omega)) ?_;conv=>whnf)
         refine ew ?_
         conv=>whnf
         (refine oC (cV _ (by simp)) ?_;conv=>whnf)
         exact⟨aj (by rw[e2,d8,if_pos k1]),rfl⟩
        refine eX k1 ?_
        conv=>whnf
        by_cases k2:r.kind=2
        ·refine dH k2 ?_
         conv=>whnf
         refine dI ?_
         conv=>whnf
         (refine oC (gS _ _) ?_;conv=>whnf)
         (refine oC (gS _ _) ?_;conv=>whnf)
         (refine oC (oZ p r.read) ?_;conv=>whnf)
         (refine oC (oZ p r.write) ?_;conv=>whnf)
         refine ew ?_
         conv=>whnf
         (refine oC (cV _ (by simp)) ?_;conv=>whnf)
         exact⟨aj (by rw[e2,d8,if_neg k1,if_pos k2]),rfl⟩
        refine eX k2 ?_
        conv=>whnf
        by_cases k3:r.kind=3
        ·refine dH k3 ?_
         conv=>whnf
         refine dI ?_
         conv=>whnf
         (refine oC (zx r.response _ (by omega)) ?_;conv=>whnf)
         (refine oC (oZ p r.read) ?_;conv=>whnf)
         (refine oC (oZ p r.write) ?_;conv=>whnf)
         refine ew ?_
         conv=>whnf
         (refine oC (cV _ (by simp)) ?_;conv=>whnf)
         exact⟨aj (by rw[e2,d8,if_neg k1,if_neg k2,if_pos k3]),rfl⟩
        refine eX k3 ?_
        conv=>whnf
        by_cases k4:r.kind=4
        ·refine dH k4 ?_
         conv=>whnf
         by_cases hm:r.at_<0\/2<r.at_\/(r.at_≠0/\p.topology=3)
         ·have ea:(1:Int)=EH r.at_ p.topology:=by rw[EH,if_pos hm]
          repeat' (first|(refine tI ?_;conv=>whnf)|(refine fI ?_;conv=>whnf)|(refine ah (fun _=>?_) (fun _=>?_)<;>conv=>whnf))
          all_goals
           refine dI ?_
           conv=>whnf
           (refine oC (mS r.left _ (by omega)) ?_;conv=>whnf)
           (refine oC (mS r.right _ (by omega)) ?_;conv=>whnf)
           (refine oC (mS r.parent _ (by omega)) ?_;conv=>whnf)
           (refine oC (jo 1) ?_;conv=>whnf)
           refine ew ?_
           conv=>whnf
           (refine oC (cV _ (by simp)) ?_;conv=>whnf)
           exact⟨aj (by rw[e2,d8,if_neg k1,if_neg k2,if_neg k3,if_pos k4,<-ea]),rfl⟩
         ·have ea:(0:Int)=EH r.at_ p.topology:=by rw[EH,if_neg hm]
          repeat' (first|(refine tI ?_;conv=>whnf)|(refine fI ?_;conv=>whnf)|(refine ah (fun _=>?_) (fun _=>?_)<;>conv=>whnf))
          all_goals
           refine dI ?_
           conv=>whnf
           (refine oC (mS r.left _ (by omega)) ?_;conv=>whnf)
           (refine oC (mS r.right _ (by omega)) ?_;conv=>whnf)
           (refine oC (mS r.parent _ (by omega)) ?_;conv=>whnf)
           (refine oC (g8 1) ?_;conv=>whnf)
           refine ew ?_
           conv=>whnf
           (refine oC (cV _ (by simp)) ?_;conv=>whnf)
           exact⟨aj (by rw[e2,d8,if_neg k1,if_neg k2,if_neg k3,if_pos k4,<-ea]),rfl⟩
        refine eX k4 ?_
        conv=>whnf
        by_cases hd:(p.topology=4/\(r.direction<3\/4<r.direction))\/(p.topology≠4/\(r.direction<1\/2<r.direction))
        ·have ea:(1:Int)=xo r.direction p.topology:=by rw[xo,if_pos hd]
         refine ah (fun h4=>?_) (fun h4=>?_)<;>conv=>whnf
         all_goals
          refine dI ?_
          conv=>whnf
          (refine oC (gS _ _) ?_;conv=>whnf)
          (refine oC (gS _ _) ?_;conv=>whnf)
          repeat' (first|(refine tI ?_;conv=>whnf)|(refine fI ?_;conv=>whnf)|(refine ah (fun _=>?_) (fun _=>?_)<;>conv=>whnf))
          all_goals
           (refine oC (jo 1) ?_;conv=>whnf)
           refine ew ?_
           conv=>whnf
           (refine oC (cV _ (by simp)) ?_;conv=>whnf)
           exact⟨aj (by rw[e2,d8,if_neg k1,if_neg k2,if_neg k3,if_neg k4,<-ea]),rfl⟩
        ·have ea:(0:Int)=xo r.direction p.topology:=by rw[xo,if_neg hd]
         refine ah (fun h4=>?_) (fun h4=>?_)<;>conv=>whnf
         all_goals
          refine dI ?_
          conv=>whnf
          (refine oC (gS _ _) ?_;conv=>whnf)
          (refine oC (gS _ _) ?_;conv=>whnf)
          repeat' (first|(refine tI ?_;conv=>whnf)|(refine fI ?_;conv=>whnf)|(refine ah (fun _=>?_) (fun _=>?_)<;>conv=>whnf))
          all_goals
           (refine oC (g8 1) ?_;conv=>whnf)
           refine ew ?_
           conv=>whnf
           (refine oC (cV _ (by simp)) ?_;conv=>whnf)
           exact⟨aj (by rw[e2,d8,if_neg k1,if_neg k2,if_neg k3,if_neg k4,<-ea]),rfl⟩
     ·rename_i h;exact absurd hf h
    ·refine dC (I1 r.kind p.topology) (fun _=>?_) (fun _=>?_)<;>(conv=>whnf)
     ·rename_i h;exact absurd h hf
     ·exact⟨aj (by rw[di,e1,if_pos (.inl hf)]),rfl⟩
   ·rename_i h;exact absurd hv h
 ·by_cases ht:gU p.rules i r
  ·rw[decide_eq_true ht]
   conv=>whnf
   refine dC (fu r.name (by omega)) (fun _=>?_) (fun _=>?_)<;>(conv=>whnf)
   ·exact⟨aj (by rw[di,if_pos (.inl hv)]),rfl⟩
   ·exact⟨aj (by rw[di,if_pos (.inl hv)]),rfl⟩
  ·rw[decide_eq_false ht]
   conv=>whnf
   refine dC (fu r.name (by omega)) (fun _=>?_) (fun _=>?_)<;>(conv=>whnf)
   ·rename_i h;exact absurd h hv
   ·exact⟨aj (by rw[di,if_pos (.inl hv)]),rfl⟩
end Go.Proofs.YtokjgegkhlkopaaGreatDoor
