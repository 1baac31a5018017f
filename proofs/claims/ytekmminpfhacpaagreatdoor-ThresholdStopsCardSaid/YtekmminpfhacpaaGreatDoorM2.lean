import Derived.Test.YtekmminpfhacpaaGreatDoorFnO
set_option linter.unusedVariables false
set_option linter.unusedSimpArgs false
namespace Go.Proofs.YtekmminpfhacpaaGreatDoor
set_option maxRecDepth 100000
def yy (c:Nat):Prop:=97<=c/\c<=122\/48<=c/\c<=57\/c=95
instance (c:Nat):Decidable (yy c):=inferInstanceAs (Decidable (_\/_))
def bU (s:ByteArray):Prop:=(0<s.size/\s.size<=12)/\(97<=kL s 0/\kL s 0<=122)/\(∀i,i<s.size->yy (kL s i))/\s∉mM
instance (s:ByteArray):Decidable (bU s):=inferInstanceAs (Decidable (_/\_))
theorem wq {s:ByteArray} {k:Nat} (h:k<s.size):(s.get! (k+0)).toNat=kL s k:=by
 unfold kL
 congr 1
theorem xH {s:ByteArray} {k:Nat} (h:k<s.size) (hb:kL s k<128):Utf8.decode s k=(kL s k,1):=by
 unfold Utf8.decode
 simp only[wq h]
 rw[if_pos hb]
theorem xI {s:ByteArray} {k:Nat} (h:k<s.size) (hb:¬kL s k<128):128<=(Utf8.decode s k).1:=by
 unfold Utf8.decode
 simp only[wq h]
 rw[if_neg hb]
 (repeat' split)<;>simp only[Utf8.runeError,ge_iff_le,Bool.and_eq_true,decide_eq_true_eq] at*<;>omega
theorem tj {s:ByteArray}:s=t0↔s.size=0:=by
 constructor
 ·rintro rfl;rfl
 ·intro h
  cases s with|mk a=>
  have:a.size=0:=h
  have:a=#[]:=Array.eq_empty_of_size_eq_zero this
  rw[this];rfl
theorem dU (s:ByteArray) (hs:s.size<=4503599627370496):ab Tryz.prog 154 [.str s] (fun u=>u= .bool (decide (bU s))):=by
 refine ab.intro ac ae Tryz.func154 rfl (by decide) ?_;(conv=>whnf)
 refine ag (fun h1=>?_) (fun h1=>?_)<;>conv=>whnf
 ·exact⟨al (fun h=>by have:=tj.1 h1;have:=h.1;omega),rfl⟩
 have h0:s.size≠0:=fun h=>h1 (tj.2 h)
 refine ag (fun h2=>?_) (fun h2=>?_)<;>conv=>whnf
 ·exact⟨al (fun h=>by have:=h.1;omega),rfl⟩
 refine aF.loopF ac ae (fun k:Nat=>k<=s.size/\∀j,j<k->yy (kL s j)/\(j=0->97<=kL s 0/\kL s 0<=122)) (fun _=>[]) (fun k=>[(14, .iter s k)]) (fun k=>s.size-k) 0 ⟨by omega,fun j hj=>by omega⟩ ?_;conv=>whnf
 refine⟨sI,?_⟩
 rintro k ⟨hk,ha⟩
 conv=>whnf
 refine Gu (fun h3=>?_) (fun h3=>?_)<;>conv=>whnf
 ·by_cases hb:kL s k<128
  ·rw[xH h3 hb]
   by_cases hgood:yy (kL s k)/\(k=0->97<=kL s 0/\kL s 0<=122)
   ·obtain⟨g1,g2⟩:=hgood
    have g3:k=0->kL s k=kL s 0:=fun e=>by rw[e]
    unfold yy at g1
    repeat' first|(refine at_ ?_;conv=>whnf)|(refine ag (fun _=>?_) (fun _=>?_)<;>conv=>whnf)
    all_goals
     refine⟨k+1,sI,⟨by omega,fun j hj=>?_⟩,by dsimp only;omega⟩
     by_cases e:j=k
     ·subst e;exact⟨g1,g2⟩
     ·exact ha j (by omega)
   ·have hbad:¬bU s:=fun h=>hgood ⟨h.2.2.1 k h3,fun _=>h.2.1⟩
    have g3:k=0->kL s k=kL s 0:=fun e=>by rw[e]
    unfold yy at hgood
    repeat' first|(refine at_ ?_;conv=>whnf)|(refine ag (fun _=>?_) (fun _=>?_)<;>conv=>whnf)
    all_goals exact⟨al hbad,rfl⟩
  ·have hd:=xI h3 hb
   have hbad:¬bU s:=fun h=>by have:=h.2.2.1 k h3;unfold yy at this;omega
   generalize Utf8.decode s k=x at hd
   obtain⟨c,w⟩:=x
   dsimp only at hd⊢
   repeat' first|(refine at_ ?_;conv=>whnf)|(refine ag (fun _=>?_) (fun _=>?_)<;>conv=>whnf)
   all_goals exact⟨al hbad,rfl⟩
 ·have hall:(∀i,i<s.size->yy (kL s i)):=fun i hi=>(ha i (by omega)).1
  have hf:=(ha 0 (by omega)).2 rfl
  refine dC (ti s) (fun _=>?_) (fun _=>?_)<;>(conv=>whnf)
  ·rename_i h;exact⟨al (fun hh=>hh.2.2.2 h),rfl⟩
  ·rename_i h;exact⟨av ⟨by omega,hf,hall,h⟩,rfl⟩
theorem xJ:ab Tryz.prog 268 [] (fun u=>u= .sl t0 dQ mM):=by
 refine ab.intro ac ae Tryz.func268 rfl (by decide) ?_;(conv=>whnf)
 refine bD t0 dQ mM rfl ?_
 conv=>whnf
 exact⟨rfl,rfl⟩
theorem iU (s:ByteArray) (hs:s.size<=4503599627370496):ab Tryz.prog 201 [.str s] (fun u=>u= .bool (decide (bU s))):=by
 refine ab.intro ac ae Tryz.func201 rfl (by decide) ?_;(conv=>whnf)
 refine dC (aL _ _ _) (fun _=>?_) (fun _=>?_)<;>(conv=>whnf)
 ·rename_i h0
  have e0:((s.data.getD (0:Int).toNat 0).toNat:Int)=kL s 0:=rfl
  by_cases hf:97<=kL s 0/\kL s 0<=122
  ·repeat' first|(refine at_ ?_;conv=>whnf)|(refine ag (fun _=>?_) (fun _=>?_)<;>conv=>whnf)
   refine aF.loopF ac ae (fun k:Nat=>k<=s.size/\∀j,j<k->yy (kL s j)) (fun k=>[(3, .int .i64 (k:Int))]) (fun _=>[]) (fun k=>s.size-k) 0 ⟨by omega,fun j hj=>by omega⟩ ?_;conv=>whnf
   refine⟨sI,?_⟩
   rintro k ⟨hk,ha⟩
   conv=>whnf
   refine ag (fun h1=>?_) (fun h1=>?_)<;>conv=>whnf
   ·have ek:((s.data.getD (k:Int).toNat 0).toNat:Int)=kL s k:=rfl
    by_cases hg:yy (kL s k)
    ·have hg':=hg
     unfold yy at hg'
     repeat' first|(refine at_ ?_;conv=>whnf)|(refine ag (fun _=>?_) (fun _=>?_)<;>conv=>whnf)
     all_goals
      refine⟨k+1,sI,⟨by omega,fun j hj=>?_⟩,by dsimp only;omega⟩
      by_cases e:j=k
      ·subst e;exact hg
      ·exact ha j (by omega)
    ·have hbad:¬bU s:=fun h=>hg (h.2.2.1 k (by omega))
     unfold yy at hg
     repeat' first|(refine at_ ?_;conv=>whnf)|(refine ag (fun _=>?_) (fun _=>?_)<;>conv=>whnf)
     all_goals exact⟨al hbad,rfl⟩
   ·(refine oP (xJ) ?_;conv=>whnf)
    refine dC (th mM s (by decide)) (fun _=>?_) (fun _=>?_)<;>(conv=>whnf)
    ·rename_i h;exact⟨al (fun hh=>hh.2.2.2 h),rfl⟩
    ·rename_i h;exact⟨av ⟨by omega,hf,fun i hi=>ha i (by omega),h⟩,rfl⟩
  ·repeat' first|(refine at_ ?_;conv=>whnf)|(refine ag (fun _=>?_) (fun _=>?_)<;>conv=>whnf)
   all_goals exact⟨al (fun h=>hf h.2.1),rfl⟩
 ·rename_i h0
  exact⟨al (fun h=>h0 (by have:=h.1;omega)),rfl⟩
set_option maxRecDepth 100000
set_option maxHeartbeats 4000000
theorem cd (l:List Int) (hl:l.length<=4503599627370496):ab Tryz.prog 156 [.sl 0 ao l] (fun u=>u= .int .i64 (cb l)):=by
 refine ab.intro ac ae Tryz.func156 rfl (by decide) ?_;(conv=>whnf)
 refine aF.loopF ac ae (fun k:Nat=>k<=l.length/\cb l=cb (l.drop k)) (fun k=>[(7, .int .i64 (k:Int))]) (fun _=>[]) (fun k=>l.length-k) 0 ⟨by omega,rfl⟩ ?_;conv=>whnf
 refine⟨sI,?_⟩
 rintro k ⟨hk,he⟩
 conv=>whnf
 repeat' first|(refine at_ ?_;conv=>whnf)|(refine ag (fun _=>?_) (fun _=>?_)<;>conv=>whnf)
 ·rename_i h1 h2
  rw[ll (by omega),if_pos (by simpa using h2)] at he
  exact⟨ah (by rw[he];rfl),rfl⟩
 ·rename_i h1 h2
  rw[ll (by omega),if_neg (by simpa using h2)] at he
  exact⟨k+1,sI,⟨by omega,he⟩,by dsimp only;omega⟩
 ·obtain rfl:k=l.length:=by omega
  rw[List.drop_length] at he
  exact⟨ah he.symm,rfl⟩
theorem gP (e:Int):ab Tryz.prog 157 [.bool true, .int .i64 e] (fun u=>u= .int .i64 e):=by
 refine ab.intro ac ae Tryz.func157 rfl (by decide) ?_;(conv=>whnf)
 exact⟨rfl,rfl⟩
theorem fO (e:Int):ab Tryz.prog 157 [.bool false, .int .i64 e] (fun u=>u= .int .i64 0):=by
 refine ab.intro ac ae Tryz.func157 rfl (by decide) ?_;(conv=>whnf)
 exact⟨rfl,rfl⟩
def ci (i n:Int):Int:=if i<0\/n<=i then 5 else 0
theorem fE (i n:Int):ab Tryz.prog 240 [.int .i64 i, .int .i64 n] (fun u=>u= .int .i64 (ci i n)):=by
 refine ab.intro ac ae Tryz.func240 rfl (by decide) ?_;(conv=>whnf)
 by_cases h:i<0\/n<=i
 ·rw[ci,if_pos h]
  repeat' first|(refine at_ ?_;conv=>whnf)|(refine ag (fun _=>?_) (fun _=>?_)<;>conv=>whnf)
  all_goals
   (refine oP (gP 5) ?_;conv=>whnf)
   exact⟨rfl,rfl⟩
 ·rw[ci,if_neg h]
  repeat' first|(refine at_ ?_;conv=>whnf)|(refine ag (fun _=>?_) (fun _=>?_)<;>conv=>whnf)
  (refine oP (fO 5) ?_;conv=>whnf)
  exact⟨rfl,rfl⟩
def cB (n:Int):Prop:=-100<=n/\n<=100
instance (n:Int):Decidable (cB n):=inferInstanceAs (Decidable (_/\_))
def eD (l:kK):Prop:=cB l.c/\cB l.n/\cB l.t/\cB l.f
instance (l:kK):Decidable (eD l):=inferInstanceAs (Decidable (_/\_))
theorem m7 (n:Int):ab Tryz.prog 257 [.int .i64 n] (fun u=>u= .bool (decide (cB n))):=by
 refine ab.intro ac ae Tryz.func257 rfl (by decide) ?_;(conv=>whnf)
 repeat' first|(refine at_ ?_;conv=>whnf)|(refine ag (fun _=>?_) (fun _=>?_)<;>conv=>whnf)
 all_goals first
  |exact⟨av (by unfold cB;omega),rfl⟩
  |exact⟨al (by unfold cB;omega),rfl⟩
theorem lu (l:kK):ab Tryz.prog 187 [.agg (bT l)] (fun u=>u= .bool (decide (eD l))):=by
 refine ab.intro ac ae Tryz.func187 rfl (by decide) ?_;(conv=>whnf)
 refine ak rfl ?_
 conv=>whnf
 refine dC (m7 _) (fun _=>?_) (fun _=>?_)<;>(conv=>whnf)
 ·refine dC (m7 _) (fun _=>?_) (fun _=>?_)<;>(conv=>whnf)
  ·refine dC (m7 _) (fun _=>?_) (fun _=>?_)<;>(conv=>whnf)
   ·refine dC (m7 _) (fun _=>?_) (fun _=>?_)<;>(conv=>whnf)
    ·exact⟨av ⟨by assumption,by assumption,by assumption,by assumption⟩,rfl⟩
    ·rename_i h;exact⟨al (fun hh=>h hh.2.2.2),rfl⟩
   ·rename_i h;exact⟨al (fun hh=>h hh.2.2.1),rfl⟩
  ·rename_i h;exact⟨al (fun hh=>h hh.2.1),rfl⟩
 ·rename_i h;exact⟨al (fun hh=>h hh.1),rfl⟩
theorem ET (l:kK):ab Tryz.prog 207 [.agg (bT l)] (fun u=>u= .bool (decide (eD l))):=by
 refine ab.intro ac ae Tryz.func207 rfl (by decide) ?_;(conv=>whnf)
 refine ak rfl ?_
 conv=>whnf
 refine dC (aL _ _ _) (fun _=>?_) (fun _=>?_)<;>(conv=>whnf)
 ·refine dC (aL _ _ _) (fun _=>?_) (fun _=>?_)<;>(conv=>whnf)
  ·refine dC (aL _ _ _) (fun _=>?_) (fun _=>?_)<;>(conv=>whnf)
   ·refine dC (aL _ _ _) (fun _=>?_) (fun _=>?_)<;>(conv=>whnf)
    ·exact⟨av ⟨by assumption,by assumption,by assumption,by assumption⟩,rfl⟩
    ·rename_i h;exact⟨al (fun hh=>h hh.2.2.2),rfl⟩
   ·rename_i h;exact⟨al (fun hh=>h hh.2.2.1),rfl⟩
  ·rename_i h;exact⟨al (fun hh=>h hh.2.1),rfl⟩
 ·rename_i h;exact⟨al (fun hh=>h hh.1),rfl⟩
def dV (k t:Int):Prop:=(k=1\/k=2\/k=3)/\t=1\/(k=4\/k=5)/\t≠1
instance (k t:Int):Decidable (dV k t):=inferInstanceAs (Decidable (_\/_))
theorem Ea (k t:Int):ab Tryz.prog 259 [.int .i64 k, .int .i64 t] (fun u=>u= .bool (decide (dV k t))):=by
 refine ab.intro ac ae Tryz.func259 rfl (by decide) ?_;(conv=>whnf)
 repeat' first|(refine at_ ?_;conv=>whnf)|(refine ag (fun _=>?_) (fun _=>?_)<;>conv=>whnf)
 all_goals first
  |exact⟨av (by unfold dV;omega),rfl⟩
  |exact⟨al (by unfold dV;omega),rfl⟩
def gu (r:bC) (t:Int):Prop:=(r.kind≠1/\(0<r.guards.length\/0<r.some_.length\/0<r.forall_.length\/0<r.send.length))\/(r.kind≠1/\r.kind≠2/\r.kind≠3/\(r.read≠-1\/r.write≠-1))\/
 (r.kind≠2/\r.kind≠5/\(r.pfrom≠0\/r.pto≠0))\/(r.kind≠3/\0<r.response.length)\/(r.kind≠5/\r.direction≠0)\/(r.kind≠4/\(r.at_≠0\/0<r.left.length\/0<r.right.length))\/(0<r.parent.length/\¬(r.kind=4/\t=4))
instance (r:bC) (t:Int):Decidable (gu r t):=inferInstanceAs (Decidable (_\/_))
theorem zO (r:bC) (t:Int) (hr:BW r) (hf:dV r.kind t):ab Tryz.prog 260 [.agg (ee r), .int .i64 t] (fun u=>u= .bool (decide (gu r t))):=by
 have hb:=uU hr
 refine ab.intro ac ae Tryz.func260 rfl (by decide) ?_;(conv=>whnf)
 refine xd ?_
 conv=>whnf
 unfold dV at hf
 repeat' first|(refine at_ ?_;conv=>whnf)|(refine ag (fun _=>?_) (fun _=>?_)<;>conv=>whnf)
 all_goals first
  |exact⟨av (by unfold gu;omega),rfl⟩
  |exact⟨al (by unfold gu;omega),rfl⟩
theorem wr (p:an) (r:bC) (hf:dV r.kind p.topology):ab Tryz.prog 269 [.agg (aB p), .agg (ee r)] (fun u=>u= .bool (decide (gu r p.topology))):=by
 refine ab.intro ac ae Tryz.func269 rfl (by decide) ?_;(conv=>whnf)
 refine ak rfl ?_
 conv=>whnf
 refine ak rfl ?_
 conv=>whnf
 unfold dV at hf
 repeat' first|(refine at_ ?_;conv=>whnf)|(refine ag (fun _=>?_) (fun _=>?_)<;>conv=>whnf)
 all_goals first
  |exact⟨av (by unfold gu;omega),rfl⟩
  |exact⟨al (by unfold gu;omega),rfl⟩
set_option maxRecDepth 100000
set_option maxHeartbeats 4000000
theorem uX {α:Type} {l:List α} {i:Nat} (d:α) (h:i<l.length):l.drop i=l.getD i d::l.drop (i+1):=by
 rw[List.drop_eq_getElem_cons h]
 simp[List.getD,h]
theorem di {α:Type} {l:List α} (f:α->Int) {k:Nat} (d:α) (h:k<l.length):cb ((l.drop k).map f)=if f (l.getD k d)≠0 then f (l.getD k d) else cb ((l.drop (k+1)).map f):=by
 rw[uX d h];rfl
def im (c:Int):Int:=if c<1\/100<c then 1 else 0
def j9 (l:kK):Int:=if eD l then 0 else 4
def gE (m:Int) (g:dB):Int:=cb [ci g.message m,im g.coef,j9 g.bound]
def aZ (m:Int) (l:List dB):Int:=if cb (l.map (gE m))≠0 then cb (l.map (gE m)) else if 2<l.length then 4 else 0
theorem CA (p:an) (l:List dB) (hl:l.length<=4503599627370496):ab Tryz.prog 261 [.agg (aB p), .sl aA bL l] (fun u=>u= .int .i64 (aZ p.messages.length l)):=by
 refine ab.intro ac ae Tryz.func261 rfl (by decide) ?_;(conv=>whnf)
 refine ak rfl ?_
 conv=>whnf
 refine aF.loopF ac ae (fun k:Nat=>k<=l.length/\cb (l.map (gE p.messages.length))=cb ((l.drop k).map (gE p.messages.length))) (fun k=>[(10, .int .i64 (k:Int))]) (fun _=>[]) (fun k=>l.length-k) 0 ⟨by omega,rfl⟩ ?_;conv=>whnf
 refine⟨sI,?_⟩
 rintro k ⟨hk,he⟩
 conv=>whnf
 refine ag (fun h1=>?_) (fun h1=>?_)<;>conv=>whnf
 ·rw[di _ aA (by omega)] at he
  refine nI ?_
  rw[tN]
  generalize l.getD k aA=g at he
  conv=>whnf
  refine dI ?_
  conv=>whnf
  (refine oC (fE g.message p.messages.length) ?_;conv=>whnf)
  have fin:∀c:Int,c=im g.coef->∀b:Int,b=j9 g.bound->cb [ci g.message p.messages.length,c,b]=gE p.messages.length g:=by rintro c rfl b rfl;rfl
  by_cases hc:g.coef<1\/100<g.coef
  ·have ec:(1:Int)=im g.coef:=by rw[im,if_pos hc]
   repeat' first|(refine at_ ?_;conv=>whnf)|(refine ag (fun _=>?_) (fun _=>?_)<;>conv=>whnf)
   all_goals
    (refine oC (gP 1) ?_;conv=>whnf)
    refine dD (lu g.bound) (fun _=>?_) (fun _=>?_)<;>(conv=>whnf)
    ·rename_i hb
     have eb:(0:Int)=j9 g.bound:=by rw[j9,if_pos hb]
     (refine oC (fO 4) ?_;conv=>whnf)
     refine cX ?_
     conv=>whnf
     (refine oC (cd _ (by simp)) ?_;conv=>whnf)
     rw[fin _ ec _ eb]
     refine ag (fun h2=>?_) (fun h2=>?_)<;>conv=>whnf
     ·rw[if_pos h2] at he
      exact⟨ah (by rw[aZ,he,if_pos h2]),rfl⟩
     ·rw[if_neg h2] at he
      repeat' first|(refine at_ ?_;conv=>whnf)|(refine ag (fun _=>?_) (fun _=>?_)<;>conv=>whnf)
      exact⟨k+1,sI,⟨by omega,he⟩,by dsimp only;omega⟩
    ·rename_i hb
     have eb:(4:Int)=j9 g.bound:=by rw[j9,if_neg hb]
     (refine oC (gP 4) ?_;conv=>whnf)
     refine cX ?_
     conv=>whnf
     (refine oC (cd _ (by simp)) ?_;conv=>whnf)
     rw[fin _ ec _ eb]
     refine ag (fun h2=>?_) (fun h2=>?_)<;>conv=>whnf
     ·rw[if_pos h2] at he
      exact⟨ah (by rw[aZ,he,if_pos h2]),rfl⟩
     ·rw[if_neg h2] at he
      repeat' first|(refine at_ ?_;conv=>whnf)|(refine ag (fun _=>?_) (fun _=>?_)<;>conv=>whnf)
      exact⟨k+1,sI,⟨by omega,he⟩,by dsimp only;omega⟩
  ·have ec:(0:Int)=im g.coef:=by rw[im,if_neg hc]
   repeat' first|(refine at_ ?_;conv=>whnf)|(refine ag (fun _=>?_) (fun _=>?_)<;>conv=>whnf)
   (refine oC (fO 1) ?_;conv=>whnf)
   refine dD (lu g.bound) (fun _=>?_) (fun _=>?_)<;>(conv=>whnf)
   ·rename_i hb
    have eb:(0:Int)=j9 g.bound:=by rw[j9,if_pos hb]
    (refine oC (fO 4) ?_;conv=>whnf)
    refine cX ?_
    conv=>whnf
    (refine oC (cd _ (by simp)) ?_;conv=>whnf)
    rw[fin _ ec _ eb]
    refine ag (fun h2=>?_) (fun h2=>?_)<;>conv=>whnf
    ·rw[if_pos h2] at he
     exact⟨ah (by rw[aZ,he,if_pos h2]),rfl⟩
    ·rw[if_neg h2] at he
     repeat' first|(refine at_ ?_;conv=>whnf)|(refine ag (fun _=>?_) (fun _=>?_)<;>conv=>whnf)
     exact⟨k+1,sI,⟨by omega,he⟩,by dsimp only;omega⟩
   ·rename_i hb
    have eb:(4:Int)=j9 g.bound:=by rw[j9,if_neg hb]
    (refine oC (gP 4) ?_;conv=>whnf)
    refine cX ?_
    conv=>whnf
    (refine oC (cd _ (by simp)) ?_;conv=>whnf)
    rw[fin _ ec _ eb]
    refine ag (fun h2=>?_) (fun h2=>?_)<;>conv=>whnf
    ·rw[if_pos h2] at he
     exact⟨ah (by rw[aZ,he,if_pos h2]),rfl⟩
    ·rw[if_neg h2] at he
     repeat' first|(refine at_ ?_;conv=>whnf)|(refine ag (fun _=>?_) (fun _=>?_)<;>conv=>whnf)
     exact⟨k+1,sI,⟨by omega,he⟩,by dsimp only;omega⟩
 ·obtain rfl:k=l.length:=by omega
  rw[List.drop_length] at he
  have h0:cb (l.map (gE p.messages.length))=0:=he
  refine ag (fun h2=>?_) (fun h2=>?_)<;>conv=>whnf
  ·(refine oP (gP 4) ?_;conv=>whnf)
   exact⟨ah (by rw[aZ,h0,if_neg (by simp),if_pos (by omega)]),rfl⟩
  ·(refine oP (fO 4) ?_;conv=>whnf)
   exact⟨ah (by rw[aZ,h0,if_neg (by simp),if_neg (by omega)]),rfl⟩
def gQ (l:List Int) (n:Int):Int:=if(l.length:Int)≠n then 1 else if iy l n then 0 else 5
theorem uY (l:List Int) (n:Int) (hl:l.length<=4503599627370496):ab Tryz.prog 263 [.sl 0 ao l, .int .i64 n] (fun u=>u= .int .i64 (gQ l n)):=by
 refine ab.intro ac ae Tryz.func263 rfl (by decide) ?_;(conv=>whnf)
 refine ag (fun h0=>?_) (fun h0=>?_)<;>conv=>whnf
 ·exact⟨ah (by rw[gQ,if_pos h0]),rfl⟩
 refine aF.loopF ac ae (fun k:Nat=>k<=l.length/\∀j,j<k->0<=l.getD j 0/\l.getD j 0<n) (fun k=>[(14, .int .i64 (k:Int))]) (fun _=>[]) (fun k=>l.length-k) 0 ⟨by omega,fun j hj=>by omega⟩ ?_;conv=>whnf
 refine⟨sI,?_⟩
 rintro k ⟨hk,ha⟩
 conv=>whnf
 refine ag (fun h1=>?_) (fun h1=>?_)<;>conv=>whnf
 ·refine nI ?_
  rw[tN]
  conv=>whnf
  (refine oP (fE _ _) ?_;conv=>whnf)
  by_cases hb:l.getD k 0<0\/n<=l.getD k 0
  ·rw[ci,if_pos hb]
   repeat' first|(refine at_ ?_;conv=>whnf)|(refine ag (fun _=>?_) (fun _=>?_)<;>conv=>whnf)
   refine⟨ah ?_,rfl⟩
   rw[gQ,if_neg h0,if_neg]
   intro h
   have:=h k (by omega)
   omega
  ·rw[ci,if_neg hb]
   repeat' first|(refine at_ ?_;conv=>whnf)|(refine ag (fun _=>?_) (fun _=>?_)<;>conv=>whnf)
   refine⟨k+1,sI,⟨by omega,fun j hj=>?_⟩,by dsimp only;omega⟩
   by_cases e:j=k
   ·subst e;omega
   ·exact ha j (by omega)
 ·exact⟨ah (by rw[gQ,if_neg h0,if_pos (show iy l n from fun j hj=>ha j (by omega))]),rfl⟩
def fF (m v:Int):Int:=if v< -1\/m<=v then 5 else 0
theorem mr (p:an) (v:Int):ab Tryz.prog 262 [.agg (aB p), .int .i64 v] (fun u=>u= .int .i64 (fF p.values.length v)):=by
 refine ab.intro ac ae Tryz.func262 rfl (by decide) ?_;(conv=>whnf)
 refine ak rfl ?_
 conv=>whnf
 by_cases h:v< -1\/(p.values.length:Int)<=v
 ·rw[fF,if_pos h]
  repeat' first|(refine at_ ?_;conv=>whnf)|(refine ag (fun _=>?_) (fun _=>?_)<;>conv=>whnf)
  all_goals
   (refine oP (gP 5) ?_;conv=>whnf)
   exact⟨rfl,rfl⟩
 ·rw[fF,if_neg h]
  repeat' first|(refine at_ ?_;conv=>whnf)|(refine ag (fun _=>?_) (fun _=>?_)<;>conv=>whnf)
  (refine oP (fO 5) ?_;conv=>whnf)
  exact⟨rfl,rfl⟩
def CB (g:dB):List Int:=[g.message,g.coef,g.bound.c,g.bound.n,g.bound.t,g.bound.f]
theorem gi {a b:dB}:CB a=CB b↔a=b:=by
 constructor
 ·intro h
  obtain⟨m,c,⟨x,y,z,w⟩⟩:=a
  obtain⟨m',c',⟨x',y',z',w'⟩⟩:=b
  simp only[CB,List.cons.injEq,and_true] at h
  obtain⟨rfl,rfl,rfl,rfl,rfl,rfl⟩:=h
  rfl
 ·rintro rfl;rfl
theorem bi {α:Type} {l:List α} {k:Nat} (d:α) (h:k<l.length):l.getD k d∈l:=by
 rw[gD,gL h]
 exact List.getElem_mem _
theorem bj {α:Type} {l:List α} {k:Nat} (d:α) (h:k<l.length):l.take (k+1)=l.take k++[l.getD k d]:=by
 rw[List.take_succ_eq_append_getElem h,gD,gL h]
 rfl
theorem xK (l:List dB) (g:dB) (hl:l.length<=4503599627370496):ab Tryz.prog 271 [.sl aA bL l, .agg (bL g)] (fun u=>∃n:Int,u= .int .i64 n/\(0<=n↔g∈l)):=by
 refine ab.intro ac ae Tryz.func271 rfl (by decide) ?_;(conv=>whnf)
 refine ak rfl ?_
 conv=>whnf
 refine aF.loopF ac ae (fun k:Nat=>k<=l.length/\g∉l.take k) (fun k=>[(8, .int .i64 (k:Int))]) (fun _=>[]) (fun k=>l.length-k) 0 ⟨by omega,by simp⟩ ?_;conv=>whnf
 refine⟨sI,?_⟩
 rintro k ⟨hk,ha⟩
 conv=>whnf
 repeat' first|(refine at_ ?_;conv=>whnf)|(refine ag (fun _=>?_) (fun _=>?_)<;>conv=>whnf)
 ·rename_i h1 h2
  rw[tN] at h2
  have h2:g=l.getD k aA:=gi.1 h2
  refine⟨⟨k,rfl,fun _=>?_,fun _=>by omega⟩,rfl⟩
  rw[h2];exact bi _ (by omega)
 ·rename_i h1 h2
  rw[tN] at h2
  refine⟨k+1,sI,⟨by omega,?_⟩,by dsimp only;omega⟩
  rw[bj aA (by omega),List.mem_append,List.mem_singleton,not_or]
  exact⟨ha,fun e=>h2 (gi.2 e)⟩
 ·obtain rfl:k=l.length:=by omega
  rw[List.take_length] at ha
  exact⟨⟨-1,rfl,fun h=>by omega,fun h=>absurd h ha⟩,rfl⟩
theorem rg (l:List dB) (g:dB) (hl:l.length<=4503599627370496):ab Tryz.prog 264 [.sl aA bL l, .agg (bL g)] (fun u=>u= .bool (decide (g∈l))):=by
 refine ab.intro ac ae Tryz.func264 rfl (by decide) ?_;(conv=>whnf)
 refine ak rfl ?_
 conv=>whnf
 refine am.of_pure (n:=5) (xK l g hl) rfl ?_
 rintro _ ⟨n,rfl,hn⟩
 conv=>whnf
 refine ag (fun h=>?_) (fun h=>?_)<;>conv=>whnf
 ·exact⟨av (hn.1 h),rfl⟩
 ·exact⟨al (fun hh=>h (hn.2 hh)),rfl⟩
def gw (acc:List dB) (g:dB):List dB:=if g∈acc then acc else acc++[g]
def ar (rs:List bC):List dB:=(rs.flatMap (·.guards)).foldl gw []
def CC (l:List dB):bP:=.row 187 aA bL l
theorem ou (gs:List dB):∀acc,(gs.foldl gw acc).length<=acc.length+gs.length:=by
 induction gs with
 |nil=>intro acc;simp
 |cons g gs ih=>
  intro acc
  have:=ih (gw acc g)
  have h2:(gw acc g).length<=acc.length+1:=by unfold gw;split<;>simp
  simp only[List.foldl_cons,List.length_cons]
  omega
theorem zP {rs:List bC} (h:∀r∈rs,r.guards.length<=1000):(rs.flatMap (·.guards)).length<=1000*rs.length:=by
 induction rs with
 |nil=>simp
 |cons r rs ih=>
  have h1:=h r List.mem_cons_self
  have h2:=ih fun x hx=>h x (List.mem_cons_of_mem _ hx)
  simp only[List.flatMap_cons,List.length_append,List.length_cons]
  omega
def Gj (p:an):Prop:=p.rules.length<=1000/\∀j,j<p.rules.length->(p.rules.getD j aq).guards.length<=1000
theorem uZ {p:an} (h:Gj p):∀r∈p.rules,r.guards.length<=1000:=by
 intro r hr
 obtain⟨j,hj,rfl⟩:=List.getElem_of_mem hr
 have:=h.2 j hj
 rwa [gD,gL hj] at this
def ov (rs:List bC) (i:Nat) (r:bC) (j:Nat):List dB:=(((rs.take i).flatMap (·.guards))++r.guards.take j).foldl gw []
theorem qc (rs:List bC) (i:Nat) (r:bC):ov rs i r 0=ar (rs.take i):=by simp[ov,ar]
theorem qd (rs:List bC) (i:Nat) (r:bC) {j:Nat} (h:j<r.guards.length):ov rs i r (j+1)=gw (ov rs i r j) (r.guards.getD j aA):=by
 rw[ov,bj aA h,<-List.append_assoc,List.foldl_append];rfl
theorem tk (rs:List bC) {i:Nat} (h:i<rs.length):ov rs i (rs.getD i aq) (rs.getD i aq).guards.length=ar (rs.take (i+1)):=by
 rw[ar,bj aq h,List.flatMap_append,ov,List.take_length];simp
theorem tl {p:an} (h:Gj p) (i j:Nat):(ov p.rules i (p.rules.getD i aq) j).length<=1001000:=by
 have h1:=zP (rs:=p.rules.take i) fun r hr=>uZ h r (List.mem_of_mem_take hr)
 have h2:=ou ((((p.rules.take i).flatMap (·.guards))++(p.rules.getD i aq).guards.take j)) []
 have h3:=h.1
 have h4:(p.rules.getD i aq).guards.length<=1000:=by
  by_cases hi:i<p.rules.length
  ·exact h.2 i hi
  ·rw[gD,List.getElem?_eq_none (by omega)];simp[aq]
 unfold ov
 simp only[List.length_append,List.length_take,List.length_nil] at h1 h2
 omega
theorem mN (p:an) (hp:Gj p):ab Tryz.prog 189 [.agg (aB p)] (fun u=>u= .sl aA bL (ar p.rules)):=by
 have hle:=hp.1
 refine ab.intro ac ae Tryz.func189 rfl (by decide) ?_;(conv=>whnf)
 refine ak rfl ?_
 conv=>whnf
 refine aF.loopF ac ae (fun i:Nat=>i<=p.rules.length) (fun i=>[(11, .int .i64 (i:Int)),(3, .row 1000 (ar (p.rules.take i)).length 6)]) (fun i=>[(1000,CC (ar (p.rules.take i)))]) (fun i=>p.rules.length-i) 0 (by omega) ?_;conv=>whnf
 refine⟨aR.by_ [(1000, .nil 6)] _ 400 rfl (aa) (aa),?_⟩
 intro i hi
 conv=>whnf
 refine ag (fun h1=>?_) (fun h1=>?_)<;>conv=>whnf
 ·refine nI ?_
  rw[tN]
  have hil:i<p.rules.length:=by omega
  have hgl:=hp.2 i hil
  have hpl:=tl hp i
  have hall:=tk p.rules hil
  have hzero:=qc p.rules i (p.rules.getD i aq)
  have hsucc:=fun j=>qd p.rules i (p.rules.getD i aq) (j:=j)
  generalize p.rules.getD i aq=r at hgl hpl hall hzero hsucc
  rw[<-hzero]
  generalize ov p.rules i r=out at hpl hall hsucc
  conv=>whnf
  refine aF.loopF ac ae (fun j:Nat=>j<=r.guards.length) (fun j=>[(18, .int .i64 (j:Int)),(3, .row 1000 (out j).length 6),(5, .top),(15, .top)]) (fun j=>[(1000,CC (out j))]) (fun j=>r.guards.length-j) 0 (by omega) ?_;conv=>whnf
  refine⟨sI,?_⟩
  intro j hj
  conv=>whnf
  refine ag (fun h2=>?_) (fun h2=>?_)<;>conv=>whnf
  ·refine nI ?_
   rw[tN]
   have hs:=hsucc j (by omega)
   have hlj:=hpl j
   generalize r.guards.getD j aA=g at hs
   conv=>whnf
   refine am.borrow (n:=5) (rg (out j) g (by omega)) rfl (by rintro _ rfl;rfl) ?_
   rintro _ rfl
   by_cases hm:g∈out j
   ·rw[decide_eq_true hm]
    conv=>whnf
    repeat' first|(refine at_ ?_;conv=>whnf)|(refine ag (fun _=>?_) (fun _=>?_)<;>conv=>whnf)
    have e:out (j+1)=out j:=by rw[hs,gw,if_pos hm]
    refine⟨j+1,?_,by omega,by dsimp only;omega⟩
    dsimp only
    rw[e]
    exact sI
   ·rw[decide_eq_false hm]
    conv=>whnf
    refine bD aA bL [g] rfl ?_
    conv=>whnf
    repeat' first|(refine at_ ?_;conv=>whnf)|(refine ag (fun _=>?_) (fun _=>?_)<;>conv=>whnf)
    have e:out (j+1)=out j++[g]:=by rw[hs,gw,if_neg hm]
    refine⟨j+1,?_,by omega,by dsimp only;omega⟩
    dsimp only
    rw[e]
    exact aR.by_ [(1000, .old 29)] _ 400 rfl (aa) (aa)
  ·obtain rfl:j=r.guards.length:=by omega
   repeat' first|(refine at_ ?_;conv=>whnf)|(refine ag (fun _=>?_) (fun _=>?_)<;>conv=>whnf)
   refine⟨i+1,?_,by omega,by dsimp only;omega⟩
   dsimp only
   rw[<-hall]
   exact sI
 ·obtain rfl:i=p.rules.length:=by omega
  rw[List.take_length]
  exact⟨rfl,rfl⟩
set_option maxRecDepth 100000
set_option maxHeartbeats 4000000
theorem zQ (a b:dB):ab Tryz.prog 270 [.agg (bL a), .agg (bL b)] (fun u=>u= .bool (decide (a=b))):=by
 refine ab.intro ac ae Tryz.func270 rfl (by decide) ?_;(conv=>whnf)
 refine ak rfl ?_
 conv=>whnf
 refine ak rfl ?_
 conv=>whnf
 refine ag (fun h1=>?_) (fun h1=>?_)<;>conv=>whnf
 ·refine ag (fun h2=>?_) (fun h2=>?_)<;>conv=>whnf
  ·refine ag (fun h3=>?_) (fun h3=>?_)<;>conv=>whnf
   ·refine⟨av (gi.1 ?_),rfl⟩
    simp only[List.cons.injEq,and_true] at h3
    simp only[CB,h1,h2,h3]
   ·exact⟨al (fun h=>h3 (by rw[h])),rfl⟩
  ·exact⟨al (fun h=>h2 (by rw[h])),rfl⟩
 ·exact⟨al (fun h=>h1 (by rw[h])),rfl⟩
theorem CD (l:List dB) (g:dB) (hl:l.length<=4503599627370496):ab Tryz.prog 209 [.sl aA bL l, .agg (bL g)] (fun u=>∃n:Int,u= .int .i64 n/\(n<0↔g∉l)):=by
 refine ab.intro ac ae Tryz.func209 rfl (by decide) ?_;(conv=>whnf)
 refine ak rfl ?_
 conv=>whnf
 refine aF.loopF ac ae (fun k:Nat=>k<=l.length/\g∉l.take k) (fun k=>[(5, .int .i64 (k:Int))]) (fun _=>[]) (fun k=>l.length-k) 0 ⟨by omega,by simp⟩ ?_;conv=>whnf
 refine⟨sI,?_⟩
 rintro k ⟨hk,ha⟩
 conv=>whnf
 refine ag (fun h1=>?_) (fun h1=>?_)<;>conv=>whnf
 ·refine dI ?_
  conv=>whnf
  refine nI ?_
  rw[tN]
  conv=>whnf
  refine dD (zQ (l.getD k aA) g) (fun _=>?_) (fun _=>?_)<;>(conv=>whnf)
  ·rename_i h2
   refine⟨⟨k,rfl,fun h=>by omega,fun h=>absurd ?_ h⟩,rfl⟩
   rw[<-h2];exact bi _ (by omega)
  ·rename_i h2
   repeat' first|(refine at_ ?_;conv=>whnf)|(refine ag (fun _=>?_) (fun _=>?_)<;>conv=>whnf)
   refine⟨k+1,sI,⟨by omega,?_⟩,by dsimp only;omega⟩
   rw[bj aA (by omega),List.mem_append,List.mem_singleton,not_or]
   exact⟨ha,fun e=>h2 e.symm⟩
 ·obtain rfl:k=l.length:=by omega
  rw[List.take_length] at ha
  exact⟨⟨-1,rfl,fun _=>ha,fun _=>by omega⟩,rfl⟩
theorem qe (p:an) (hp:Gj p):ab Tryz.prog 114 [.agg (aB p)] (fun u=>u= .sl aA bL (ar p.rules)):=by
 have hle:=hp.1
 refine ab.intro ac ae Tryz.func114 rfl (by decide) ?_;(conv=>whnf)
 refine ak rfl ?_
 conv=>whnf
 refine aF.loopF ac ae (fun i:Nat=>i<=p.rules.length) (fun i=>[(4, .int .i64 (i:Int)),(3, .row 1000 (ar (p.rules.take i)).length 6)]) (fun i=>[(1000,CC (ar (p.rules.take i)))]) (fun i=>p.rules.length-i) 0 (by omega) ?_;conv=>whnf
 refine⟨aR.by_ [(1000, .nil 6)] _ 400 rfl (aa) (aa),?_⟩
 intro i hi
 conv=>whnf
 refine ag (fun h1=>?_) (fun h1=>?_)<;>conv=>whnf
 ·have hil:i<p.rules.length:=by omega
  have hgl:=hp.2 i hil
  have hpl:=tl hp i
  have hall:=tk p.rules hil
  have hzero:=qc p.rules i (p.rules.getD i aq)
  have hsucc:=fun j=>qd p.rules i (p.rules.getD i aq) (j:=j)
  rw[<-hzero]
  generalize ho:ov p.rules i (p.rules.getD i aq)=out at hpl hall hsucc
  refine aF.loopF ac ae (fun j:Nat=>j<=(p.rules.getD i aq).guards.length) (fun j=>[(5, .int .i64 (j:Int)),(3, .row 1000 (out j).length 6)]) (fun j=>[(1000,CC (out j))]) (fun j=>(p.rules.getD i aq).guards.length-j) 0 (by omega) ?_;conv=>whnf
  refine⟨sI,?_⟩
  intro j hj
  conv=>whnf
  refine nI ?_
  rw[tN]
  conv=>whnf
  refine ag (fun h2=>?_) (fun h2=>?_)<;>conv=>whnf
  ·refine nI ?_
   rw[tN]
   conv=>whnf
   refine nI ?_
   rw[tN]
   have hs:=hsucc j (by omega)
   have hlj:=hpl j
   generalize (p.rules.getD i aq).guards.getD j aA=g at hs
   conv=>whnf
   refine am.borrow (n:=5) (CD (out j) g (by omega)) rfl (by rintro _ ⟨n,rfl,_⟩;rfl) ?_
   rintro _ ⟨n,rfl,hn⟩
   conv=>whnf
   refine ag (fun h3=>?_) (fun h3=>?_)<;>conv=>whnf
   ·have hm:=hn.1 h3
    refine bD aA bL [g] rfl ?_
    conv=>whnf
    repeat' first|(refine at_ ?_;conv=>whnf)|(refine ag (fun _=>?_) (fun _=>?_)<;>conv=>whnf)
    have e:out (j+1)=out j++[g]:=by rw[hs,gw,if_neg hm]
    refine⟨j+1,?_,by omega,by dsimp only;omega⟩
    dsimp only
    rw[e]
    exact aR.by_ [(1000, .old 41)] _ 400 rfl (aa) (aa)
   ·have hm:g∈out j:=Classical.byContradiction fun h=>h3 (hn.2 h)
    repeat' first|(refine at_ ?_;conv=>whnf)|(refine ag (fun _=>?_) (fun _=>?_)<;>conv=>whnf)
    have e:out (j+1)=out j:=by rw[hs,gw,if_pos hm]
    refine⟨j+1,?_,by omega,by dsimp only;omega⟩
    dsimp only
    rw[e]
    exact sI
  ·obtain rfl:j=(p.rules.getD i aq).guards.length:=by omega
   repeat' first|(refine at_ ?_;conv=>whnf)|(refine ag (fun _=>?_) (fun _=>?_)<;>conv=>whnf)
   refine⟨i+1,?_,by omega,by dsimp only;omega⟩
   dsimp only
   rw[<-hall]
   exact sI
 ·obtain rfl:i=p.rules.length:=by omega
  rw[List.take_length]
  exact⟨rfl,rfl⟩
theorem xL (x r:bC):ab Tryz.prog 258 [.agg (ee x), .pd (ee r)] (fun u=>u= .bool (decide (x.name=r.name))):=by
 refine ab.intro ac ae Tryz.func258 rfl (by decide) ?_;(conv=>whnf)
 refine ak rfl ?_
 conv=>whnf
 refine ag (fun h=>?_) (fun h=>?_)<;>conv=>whnf
 ·exact⟨av h,rfl⟩
 ·exact⟨al h,rfl⟩
def fG (rs:List bC) (i:Nat) (r:bC):Prop:=∃j,j<(rs.take i).length/\((rs.take i).getD j aq).name=r.name
instance (rs:List bC) (i:Nat) (r:bC):Decidable (fG rs i r):=inferInstanceAs (Decidable (∃j,j<(rs.take i).length/\_))
theorem zR (l:List bC) (r:bC) (hl:l.length<=4503599627370496):ab Tryz.prog 267 [.sl aq ee l, .fn 258 [.pd (ee r)]] (fun u=>∃n:Int,u= .int .i64 n/\(0<=n↔∃j,j<l.length/\(l.getD j aq).name=r.name)):=by
 refine ab.intro ac ae Tryz.func267 rfl (by decide) ?_;(conv=>whnf)
 refine aF.loopF ac ae (fun k:Nat=>k<=l.length/\∀j,j<k->(l.getD j aq).name≠r.name) (fun k=>[(8, .int .i64 (k:Int))]) (fun _=>[]) (fun k=>l.length-k) 0 ⟨by omega,fun j hj=>by omega⟩ ?_;conv=>whnf
 refine⟨sI,?_⟩
 rintro k ⟨hk,ha⟩
 conv=>whnf
 refine ag (fun h1=>?_) (fun h1=>?_)<;>conv=>whnf
 ·refine nI ?_
  rw[tN]
  conv=>whnf
  refine dC (xL (l.getD k aq) r) (fun _=>?_) (fun _=>?_)<;>(conv=>whnf)
  ·rename_i h2
   exact⟨⟨k,rfl,fun _=>⟨k,by omega,h2⟩,fun _=>by omega⟩,rfl⟩
  ·rename_i h2
   repeat' first|(refine at_ ?_;conv=>whnf)|(refine ag (fun _=>?_) (fun _=>?_)<;>conv=>whnf)
   refine⟨k+1,sI,⟨by omega,fun j hj=>?_⟩,by dsimp only;omega⟩
   by_cases e:j=k
   ·subst e;exact h2
   ·exact ha j (by omega)
 ·exact⟨⟨-1,rfl,fun h=>by omega,fun⟨j,h1,h2⟩=>absurd h2 (ha j (by omega))⟩,rfl⟩
theorem zS (rs:List bC) (i:Nat) (r:bC) (hl:rs.length<=4503599627370496):ab Tryz.prog 191 [.sl aq ee (rs.take i), .fn 258 [.pd (ee r)]] (fun u=>u= .bool (decide (fG rs i r))):=by
 refine ab.intro ac ae Tryz.func191 rfl (by decide) ?_;(conv=>whnf)
 refine am.of_pure (n:=5) (zR (rs.take i) r (by simp;omega)) rfl ?_
 rintro _ ⟨n,rfl,hn⟩
 conv=>whnf
 refine ag (fun h=>?_) (fun h=>?_)<;>conv=>whnf
 ·exact⟨av (hn.1 h),rfl⟩
 ·exact⟨al (fun hh=>h (hn.2 hh)),rfl⟩
def zT (a t:Int):Int:=if a<0\/2<a\/(a≠0/\t=3) then 1 else 0
def tm (d t:Int):Int:=if(t=4/\(d<3\/4<d))\/(t≠4/\(d<1\/2<d)) then 1 else 0
def cu (p:an) (r:bC):Int:=
 if r.kind=1 then cb [aZ p.messages.length r.guards,bw r.some_ p.states.length,bw r.forall_ p.states.length,fF p.values.length r.read,fF p.values.length r.write,bw r.send p.messages.length]
 else if r.kind=2 then cb [ci r.pfrom p.states.length,ci r.pto p.states.length,fF p.values.length r.read,fF p.values.length r.write]
 else if r.kind=3 then cb [gQ r.response p.states.length,fF p.values.length r.read,fF p.values.length r.write]
 else if r.kind=4 then cb [bw r.left p.states.length,bw r.right p.states.length,bw r.parent p.states.length,zT r.at_ p.topology]
 else cb [ci r.pfrom p.states.length,ci r.pto p.states.length,tm r.direction p.topology]
def b9 (p:an) (i:Nat) (r:bC):Int:=
 if¬bU r.name\/fG p.rules i r then 2 else if¬dV r.kind p.topology\/gu r p.topology then 6
 else cb [ci r.src p.states.length,ci r.dst p.states.length,cu p r]
theorem CE (a b c:Int):cb [a,b,c]=if cb [a,b]≠0 then cb [a,b] else c:=by
 simp only[cb]
 by_cases h1:a=0<;>by_cases h2:b=0<;>by_cases h3:c=0<;>simp[h1,h2,h3]
theorem u3 (p:an) (i:Nat) (hp:g7 p) (hi:i<p.rules.length):ab Tryz.prog 188 [.agg (aB p), .int .i64 (i:Int)] (fun u=>u= .int .i64 (b9 p i (p.rules.getD i aq))):=by
 have hle:=gZ hp
 have hbr:=te hp hi
 refine ab.intro ac ae Tryz.func188 rfl (by decide) ?_;(conv=>whnf)
 refine ak rfl ?_
 conv=>whnf
 refine nI ?_
 rw[tN]
 generalize p.rules.getD i aq=r at hbr
 have hrl:=uU hbr
 conv=>whnf
 refine nI ?_
 rw[tN]
 conv=>whnf
 refine am.borrow (n:=5) (zS p.rules i r (by omega)) rfl (by rintro _ rfl;rfl) ?_
 rintro _ rfl
 by_cases hv:bU r.name
 ·by_cases ht:fG p.rules i r
  ·rw[decide_eq_true ht]
   conv=>whnf
   refine dC (dU r.name (by omega)) (fun _=>?_) (fun _=>?_)<;>(conv=>whnf)
   ·exact⟨ah (by rw[b9,if_pos (.inr ht)]),rfl⟩
   ·exact⟨ah (by rw[b9,if_pos (.inr ht)]),rfl⟩
  ·rw[decide_eq_false ht]
   have e1:∀x,(if¬bU r.name\/fG p.rules i r then(2:Int) else x)=x:=fun x=>if_neg (by rintro(h|h);exact h hv;exact ht h)
   conv=>whnf
   refine dC (dU r.name (by omega)) (fun _=>?_) (fun _=>?_)<;>(conv=>whnf)
   ·by_cases hf:dV r.kind p.topology
    ·refine dC (Ea r.kind p.topology) (fun _=>?_) (fun _=>?_)<;>(conv=>whnf)
     ·refine dC (zO r p.topology hbr hf) (fun _=>?_) (fun _=>?_)<;>(conv=>whnf)
      ·rename_i hs
       exact⟨ah (by rw[b9,e1,if_pos (.inr hs)]),rfl⟩
      ·rename_i hs
       have e2:b9 p i r=cb [ci r.src p.states.length,ci r.dst p.states.length,cu p r]:=by rw[b9,e1,if_neg (by rintro(h|h);exact h hf;exact hs h)]
       rw[CE] at e2
       refine dI ?_
       conv=>whnf
       (refine oC (fE _ _) ?_;conv=>whnf)
       (refine oC (fE _ _) ?_;conv=>whnf)
       refine cX ?_
       conv=>whnf
       (refine oC (cd _ (by simp)) ?_;conv=>whnf)
       refine ag (fun h3=>?_) (fun h3=>?_)<;>conv=>whnf
       ·rw[if_pos h3] at e2
        exact⟨ah e2.symm,rfl⟩
       ·rw[if_neg h3] at e2
        have ff:=hf
        unfold dV at ff
        by_cases k1:r.kind=1
        ·refine eI k1 ?_
         conv=>whnf
         refine dI ?_
         conv=>whnf
         (refine oC (CA p r.guards (by omega)) ?_;conv=>whnf)
         (refine oC (kB r.some_ _ (by omega)) ?_;conv=>whnf)
         (refine oC (kB r.forall_ _ (by omega)) ?_;conv=>whnf)
         (refine oC (mr p r.read) ?_;conv=>whnf)
         (refine oC (mr p r.write) ?_;conv=>whnf)
         (refine oC (kB r.send _ (by omega)) ?_;conv=>whnf)
         refine cX ?_
         conv=>whnf
         (refine oC (cd _ (by simp)) ?_;conv=>whnf)
         exact⟨ah (by rw[e2,cu,if_pos k1]),rfl⟩
        refine iA k1 ?_
        conv=>whnf
        by_cases k2:r.kind=2
        ·refine eI k2 ?_
         conv=>whnf
         refine dI ?_
         conv=>whnf
         (refine oC (fE _ _) ?_;conv=>whnf)
         (refine oC (fE _ _) ?_;conv=>whnf)
         (refine oC (mr p r.read) ?_;conv=>whnf)
         (refine oC (mr p r.write) ?_;conv=>whnf)
         refine cX ?_
         conv=>whnf
         (refine oC (cd _ (by simp)) ?_;conv=>whnf)
         exact⟨ah (by rw[e2,cu,if_neg k1,if_pos k2]),rfl⟩
        refine iA k2 ?_
        conv=>whnf
        by_cases k3:r.kind=3
        ·refine eI k3 ?_
         conv=>whnf
         refine dI ?_
         conv=>whnf
         (refine oC (uY r.response _ (by omega)) ?_;conv=>whnf)
         (refine oC (mr p r.read) ?_;conv=>whnf)
         (refine oC (mr p r.write) ?_;conv=>whnf)
         refine cX ?_
         conv=>whnf
         (refine oC (cd _ (by simp)) ?_;conv=>whnf)
         exact⟨ah (by rw[e2,cu,if_neg k1,if_neg k2,if_pos k3]),rfl⟩
        refine iA k3 ?_
        conv=>whnf
        by_cases k4:r.kind=4
        ·refine eI k4 ?_
         conv=>whnf
         by_cases hm:r.at_<0\/2<r.at_\/(r.at_≠0/\p.topology=3)
         ·have ea:(1:Int)=zT r.at_ p.topology:=by rw[zT,if_pos hm]
          repeat' (first|(refine tI ?_;conv=>whnf)|(refine fI ?_;conv=>whnf)|(refine ag (fun _=>?_) (fun _=>?_)<;>conv=>whnf))
          all_goals
           refine dI ?_
           conv=>whnf
           (refine oC (kB r.left _ (by omega)) ?_;conv=>whnf)
           (refine oC (kB r.right _ (by omega)) ?_;conv=>whnf)
           (refine oC (kB r.parent _ (by omega)) ?_;conv=>whnf)
           (refine oC (gP 1) ?_;conv=>whnf)
           refine cX ?_
           conv=>whnf
           (refine oC (cd _ (by simp)) ?_;conv=>whnf)
           exact⟨ah (by rw[e2,cu,if_neg k1,if_neg k2,if_neg k3,if_pos k4,<-ea]),rfl⟩
         ·have ea:(0:Int)=zT r.at_ p.topology:=by rw[zT,if_neg hm]
          repeat' (first|(refine tI ?_;conv=>whnf)|(refine fI ?_;conv=>whnf)|(refine ag (fun _=>?_) (fun _=>?_)<;>conv=>whnf))
          all_goals
           refine dI ?_
           conv=>whnf
           (refine oC (kB r.left _ (by omega)) ?_;conv=>whnf)
           (refine oC (kB r.right _ (by omega)) ?_;conv=>whnf)
           (refine oC (kB r.parent _ (by omega)) ?_;conv=>whnf)
           (refine oC (fO 1) ?_;conv=>whnf)
           refine cX ?_
           conv=>whnf
           (refine oC (cd _ (by simp)) ?_;conv=>whnf)
           exact⟨ah (by rw[e2,cu,if_neg k1,if_neg k2,if_neg k3,if_pos k4,<-ea]),rfl⟩
        refine iA k4 ?_
        conv=>whnf
        by_cases hd:(p.topology=4/\(r.direction<3\/4<r.direction))\/(p.topology≠4/\(r.direction<1\/2<r.direction))
        ·have ea:(1:Int)=tm r.direction p.topology:=by rw[tm,if_pos hd]
         refine ag (fun h4=>?_) (fun h4=>?_)<;>conv=>whnf
         all_goals
          refine dI ?_
          conv=>whnf
          (refine oC (fE _ _) ?_;conv=>whnf)
          (refine oC (fE _ _) ?_;conv=>whnf)
          repeat' (first|(refine tI ?_;conv=>whnf)|(refine fI ?_;conv=>whnf)|(refine ag (fun _=>?_) (fun _=>?_)<;>conv=>whnf))
          all_goals
           (refine oC (gP 1) ?_;conv=>whnf)
           refine cX ?_
           conv=>whnf
           (refine oC (cd _ (by simp)) ?_;conv=>whnf)
           exact⟨ah (by rw[e2,cu,if_neg k1,if_neg k2,if_neg k3,if_neg k4,<-ea]),rfl⟩
        ·have ea:(0:Int)=tm r.direction p.topology:=by rw[tm,if_neg hd]
         refine ag (fun h4=>?_) (fun h4=>?_)<;>conv=>whnf
         all_goals
          refine dI ?_
          conv=>whnf
          (refine oC (fE _ _) ?_;conv=>whnf)
          (refine oC (fE _ _) ?_;conv=>whnf)
          repeat' (first|(refine tI ?_;conv=>whnf)|(refine fI ?_;conv=>whnf)|(refine ag (fun _=>?_) (fun _=>?_)<;>conv=>whnf))
          all_goals
           (refine oC (fO 1) ?_;conv=>whnf)
           refine cX ?_
           conv=>whnf
           (refine oC (cd _ (by simp)) ?_;conv=>whnf)
           exact⟨ah (by rw[e2,cu,if_neg k1,if_neg k2,if_neg k3,if_neg k4,<-ea]),rfl⟩
     ·rename_i h;exact absurd hf h
    ·refine dC (Ea r.kind p.topology) (fun _=>?_) (fun _=>?_)<;>(conv=>whnf)
     ·rename_i h;exact absurd h hf
     ·exact⟨ah (by rw[b9,e1,if_pos (.inl hf)]),rfl⟩
   ·rename_i h;exact absurd hv h
 ·by_cases ht:fG p.rules i r
  ·rw[decide_eq_true ht]
   conv=>whnf
   refine dC (dU r.name (by omega)) (fun _=>?_) (fun _=>?_)<;>(conv=>whnf)
   ·exact⟨ah (by rw[b9,if_pos (.inl hv)]),rfl⟩
   ·exact⟨ah (by rw[b9,if_pos (.inl hv)]),rfl⟩
  ·rw[decide_eq_false ht]
   conv=>whnf
   refine dC (dU r.name (by omega)) (fun _=>?_) (fun _=>?_)<;>(conv=>whnf)
   ·rename_i h;exact absurd h hv
   ·exact⟨ah (by rw[b9,if_pos (.inl hv)]),rfl⟩
end Go.Proofs.YtekmminpfhacpaaGreatDoor
