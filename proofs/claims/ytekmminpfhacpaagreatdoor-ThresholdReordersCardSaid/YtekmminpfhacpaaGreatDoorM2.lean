import Derived.Test.YtekmminpfhacpaaGreatDoorFnO
import Derived.Test.YtekmminpfhacpaaGreatDoorF2
set_option linter.unusedVariables false
set_option linter.unusedSimpArgs false
namespace Go.Proofs.YtekmminpfhacpaaGreatDoor
set_option maxRecDepth 100000
def C8 (c:Nat):Prop:=97<=c/\c<=122\/48<=c/\c<=57\/c=95
instance (c:Nat):Decidable (C8 c):=inferInstanceAs (Decidable (_\/_))
def cj (s:ByteArray):Prop:=(0<s.size/\s.size<=12)/\(97<=mV s 0/\mV s 0<=122)/\(∀i,i<s.size->C8 (mV s i))/\s∉pz
instance (s:ByteArray):Decidable (cj s):=inferInstanceAs (Decidable (_/\_))
theorem Ag {s:ByteArray} {k:Nat} (h:k<s.size):(s.get! (k+0)).toNat=mV s k:=by
 unfold mV
 congr 1
theorem B8 {s:ByteArray} {k:Nat} (h:k<s.size) (hb:mV s k<128):Utf8.decode s k=(mV s k,1):=by
 unfold Utf8.decode
 simp only[Ag h]
 rw[if_pos hb]
theorem B9 {s:ByteArray} {k:Nat} (h:k<s.size) (hb:¬mV s k<128):128<=(Utf8.decode s k).1:=by
 unfold Utf8.decode
 simp only[Ag h]
 rw[if_neg hb]
 (repeat' split)<;>simp only[Utf8.runeError,ge_iff_le,Bool.and_eq_true,decide_eq_true_eq] at*<;>omega
theorem wW {s:ByteArray}:s=t0↔s.size=0:=by
 constructor
 ·rintro rfl;rfl
 ·intro h
  cases s with|mk a=>
  have:a.size=0:=h
  have:a=#[]:=Array.eq_empty_of_size_eq_zero this
  rw[this];rfl
theorem fe (s:ByteArray) (hs:s.size<=4503599627370496):ab Tryz.prog 154 [.str s] (fun u=>u= .bool (decide (cj s))):=by
 refine ab.intro ae ag Tryz.func154 rfl (by decide) ?_;(conv=>whnf)
 refine ah (fun h1=>?_) (fun h1=>?_)<;>conv=>whnf
 ·exact⟨au (fun h=>by have:=wW.1 h1;have:=h.1;omega),rfl⟩
 have h0:s.size≠0:=fun h=>h1 (wW.2 h)
 refine ah (fun h2=>?_) (fun h2=>?_)<;>conv=>whnf
 ·exact⟨au (fun h=>by have:=h.1;omega),rfl⟩
 refine aQ.loopF ae ag (fun k:Nat=>k<=s.size/\∀j,j<k->C8 (mV s j)/\(j=0->97<=mV s 0/\mV s 0<=122)) (fun _=>[]) (fun k=>[(14, .iter s k)]) (fun k=>s.size-k) 0 ⟨by omega,fun j hj=>by omega⟩ ?_;conv=>whnf
 refine⟨sI,?_⟩
 rintro k ⟨hk,ha⟩
 conv=>whnf
 refine Mo (fun h3=>?_) (fun h3=>?_)<;>conv=>whnf
 ·by_cases hb:mV s k<128
  ·rw[B8 h3 hb]
   by_cases hgood:C8 (mV s k)/\(k=0->97<=mV s 0/\mV s 0<=122)
   ·obtain⟨g1,g2⟩:=hgood
    have g3:k=0->mV s k=mV s 0:=fun e=>by rw[e]
    unfold C8 at g1
    repeat' first|(refine at_ ?_;conv=>whnf)|(refine ah (fun _=>?_) (fun _=>?_)<;>conv=>whnf)
    all_goals
     refine⟨k+1,sI,⟨by omega,fun j hj=>?_⟩,by dsimp only;omega⟩
     by_cases e:j=k
     ·subst e;exact⟨g1,g2⟩
     ·exact ha j (by omega)
   ·have hbad:¬cj s:=fun h=>hgood ⟨h.2.2.1 k h3,fun _=>h.2.1⟩
    have g3:k=0->mV s k=mV s 0:=fun e=>by rw[e]
    unfold C8 at hgood
    repeat' first|(refine at_ ?_;conv=>whnf)|(refine ah (fun _=>?_) (fun _=>?_)<;>conv=>whnf)
    all_goals exact⟨au hbad,rfl⟩
  ·have hd:=B9 h3 hb
   have hbad:¬cj s:=fun h=>by have:=h.2.2.1 k h3;unfold C8 at this;omega
   generalize Utf8.decode s k=x at hd
   obtain⟨c,w⟩:=x
   dsimp only at hd⊢
   repeat' first|(refine at_ ?_;conv=>whnf)|(refine ah (fun _=>?_) (fun _=>?_)<;>conv=>whnf)
   all_goals exact⟨au hbad,rfl⟩
 ·have hall:(∀i,i<s.size->C8 (mV s i)):=fun i hi=>(ha i (by omega)).1
  have hf:=(ha 0 (by omega)).2 rfl
  refine dC (wV s) (fun _=>?_) (fun _=>?_)<;>(conv=>whnf)
  ·rename_i h;exact⟨au (fun hh=>hh.2.2.2 h),rfl⟩
  ·rename_i h;exact⟨aH ⟨by omega,hf,hall,h⟩,rfl⟩
theorem Ca:ab Tryz.prog 268 [] (fun u=>u= .sl t0 fd pz):=by
 refine ab.intro ae ag Tryz.func268 rfl (by decide) ?_;(conv=>whnf)
 refine cf t0 fd pz rfl ?_
 conv=>whnf
 exact⟨rfl,rfl⟩
theorem kc (s:ByteArray) (hs:s.size<=4503599627370496):ab Tryz.prog 201 [.str s] (fun u=>u= .bool (decide (cj s))):=by
 refine ab.intro ae ag Tryz.func201 rfl (by decide) ?_;(conv=>whnf)
 refine dC (ay _ _ _) (fun _=>?_) (fun _=>?_)<;>(conv=>whnf)
 ·rename_i h0
  have e0:((s.data.getD (0:Int).toNat 0).toNat:Int)=mV s 0:=rfl
  by_cases hf:97<=mV s 0/\mV s 0<=122
  ·repeat' first|(refine at_ ?_;conv=>whnf)|(refine ah (fun _=>?_) (fun _=>?_)<;>conv=>whnf)
   refine aQ.loopF ae ag (fun k:Nat=>k<=s.size/\∀j,j<k->C8 (mV s j)) (fun k=>[(3, .int .i64 (k:Int))]) (fun _=>[]) (fun k=>s.size-k) 0 ⟨by omega,fun j hj=>by omega⟩ ?_;conv=>whnf
   refine⟨sI,?_⟩
   rintro k ⟨hk,ha⟩
   conv=>whnf
   refine ah (fun h1=>?_) (fun h1=>?_)<;>conv=>whnf
   ·have ek:((s.data.getD (k:Int).toNat 0).toNat:Int)=mV s k:=rfl
    by_cases hg:C8 (mV s k)
    ·have hg':=hg
     unfold C8 at hg'
     repeat' first|(refine at_ ?_;conv=>whnf)|(refine ah (fun _=>?_) (fun _=>?_)<;>conv=>whnf)
     all_goals
      refine⟨k+1,sI,⟨by omega,fun j hj=>?_⟩,by dsimp only;omega⟩
      by_cases e:j=k
      ·subst e;exact hg
      ·exact ha j (by omega)
    ·have hbad:¬cj s:=fun h=>hg (h.2.2.1 k (by omega))
     unfold C8 at hg
     repeat' first|(refine at_ ?_;conv=>whnf)|(refine ah (fun _=>?_) (fun _=>?_)<;>conv=>whnf)
     all_goals exact⟨au hbad,rfl⟩
   ·(refine oP (Ca) ?_;conv=>whnf)
    refine dC (wU pz s (by decide)) (fun _=>?_) (fun _=>?_)<;>(conv=>whnf)
    ·rename_i h;exact⟨au (fun hh=>hh.2.2.2 h),rfl⟩
    ·rename_i h;exact⟨aH ⟨by omega,hf,fun i hi=>ha i (by omega),h⟩,rfl⟩
  ·repeat' first|(refine at_ ?_;conv=>whnf)|(refine ah (fun _=>?_) (fun _=>?_)<;>conv=>whnf)
   all_goals exact⟨au (fun h=>hf h.2.1),rfl⟩
 ·rename_i h0
  exact⟨au (fun h=>h0 (by have:=h.1;omega)),rfl⟩
set_option maxRecDepth 100000
set_option maxHeartbeats 4000000
theorem cJ (l:List Int) (hl:l.length<=4503599627370496):ab Tryz.prog 156 [.sl 0 ao l] (fun u=>u= .int .i64 (ci l)):=by
 refine ab.intro ae ag Tryz.func156 rfl (by decide) ?_;(conv=>whnf)
 refine aQ.loopF ae ag (fun k:Nat=>k<=l.length/\ci l=ci (l.drop k)) (fun k=>[(7, .int .i64 (k:Int))]) (fun _=>[]) (fun k=>l.length-k) 0 ⟨by omega,rfl⟩ ?_;conv=>whnf
 refine⟨sI,?_⟩
 rintro k ⟨hk,he⟩
 conv=>whnf
 repeat' first|(refine at_ ?_;conv=>whnf)|(refine ah (fun _=>?_) (fun _=>?_)<;>conv=>whnf)
 ·rename_i h1 h2
  rw[nm (by omega),if_pos (by simpa using h2)] at he
  exact⟨ac (by rw[he];rfl),rfl⟩
 ·rename_i h1 h2
  rw[nm (by omega),if_neg (by simpa using h2)] at he
  exact⟨k+1,sI,⟨by omega,he⟩,by dsimp only;omega⟩
 ·obtain rfl:k=l.length:=by omega
  rw[List.drop_length] at he
  exact⟨ac he.symm,rfl⟩
theorem i8 (e:Int):ab Tryz.prog 157 [.bool true, .int .i64 e] (fun u=>u= .int .i64 e):=by
 refine ab.intro ae ag Tryz.func157 rfl (by decide) ?_;(conv=>whnf)
 exact⟨rfl,rfl⟩
theorem gX (e:Int):ab Tryz.prog 157 [.bool false, .int .i64 e] (fun u=>u= .int .i64 0):=by
 refine ab.intro ae ag Tryz.func157 rfl (by decide) ?_;(conv=>whnf)
 exact⟨rfl,rfl⟩
def cM (i n:Int):Int:=if i<0\/n<=i then 5 else 0
theorem gP (i n:Int):ab Tryz.prog 240 [.int .i64 i, .int .i64 n] (fun u=>u= .int .i64 (cM i n)):=by
 refine ab.intro ae ag Tryz.func240 rfl (by decide) ?_;(conv=>whnf)
 by_cases h:i<0\/n<=i
 ·rw[cM,if_pos h]
  repeat' first|(refine at_ ?_;conv=>whnf)|(refine ah (fun _=>?_) (fun _=>?_)<;>conv=>whnf)
  all_goals
   (refine oP (i8 5) ?_;conv=>whnf)
   exact⟨rfl,rfl⟩
 ·rw[cM,if_neg h]
  repeat' first|(refine at_ ?_;conv=>whnf)|(refine ah (fun _=>?_) (fun _=>?_)<;>conv=>whnf)
  (refine oP (gX 5) ?_;conv=>whnf)
  exact⟨rfl,rfl⟩
def cD (n:Int):Prop:=-100<=n/\n<=100
instance (n:Int):Decidable (cD n):=inferInstanceAs (Decidable (_/\_))
def eh (l:kG):Prop:=cD l.c/\cD l.n/\cD l.t/\cD l.f
instance (l:kG):Decidable (eh l):=inferInstanceAs (Decidable (_/\_))
theorem p5 (n:Int):ab Tryz.prog 257 [.int .i64 n] (fun u=>u= .bool (decide (cD n))):=by
 refine ab.intro ae ag Tryz.func257 rfl (by decide) ?_;(conv=>whnf)
 repeat' first|(refine at_ ?_;conv=>whnf)|(refine ah (fun _=>?_) (fun _=>?_)<;>conv=>whnf)
 all_goals first
  |exact⟨aH (by unfold cD;omega),rfl⟩
  |exact⟨au (by unfold cD;omega),rfl⟩
theorem np (l:kG):ab Tryz.prog 187 [.agg (cI l)] (fun u=>u= .bool (decide (eh l))):=by
 refine ab.intro ae ag Tryz.func187 rfl (by decide) ?_;(conv=>whnf)
 refine al rfl ?_
 conv=>whnf
 refine dC (p5 _) (fun _=>?_) (fun _=>?_)<;>(conv=>whnf)
 ·refine dC (p5 _) (fun _=>?_) (fun _=>?_)<;>(conv=>whnf)
  ·refine dC (p5 _) (fun _=>?_) (fun _=>?_)<;>(conv=>whnf)
   ·refine dC (p5 _) (fun _=>?_) (fun _=>?_)<;>(conv=>whnf)
    ·exact⟨aH ⟨by assumption,by assumption,by assumption,by assumption⟩,rfl⟩
    ·rename_i h;exact⟨au (fun hh=>h hh.2.2.2),rfl⟩
   ·rename_i h;exact⟨au (fun hh=>h hh.2.2.1),rfl⟩
  ·rename_i h;exact⟨au (fun hh=>h hh.2.1),rfl⟩
 ·rename_i h;exact⟨au (fun hh=>h hh.1),rfl⟩
theorem Cb (l:kG):ab Tryz.prog 207 [.agg (cI l)] (fun u=>u= .bool (decide (eh l))):=by
 refine ab.intro ae ag Tryz.func207 rfl (by decide) ?_;(conv=>whnf)
 refine al rfl ?_
 conv=>whnf
 refine dC (ay _ _ _) (fun _=>?_) (fun _=>?_)<;>(conv=>whnf)
 ·refine dC (ay _ _ _) (fun _=>?_) (fun _=>?_)<;>(conv=>whnf)
  ·refine dC (ay _ _ _) (fun _=>?_) (fun _=>?_)<;>(conv=>whnf)
   ·refine dC (ay _ _ _) (fun _=>?_) (fun _=>?_)<;>(conv=>whnf)
    ·exact⟨aH ⟨by assumption,by assumption,by assumption,by assumption⟩,rfl⟩
    ·rename_i h;exact⟨au (fun hh=>h hh.2.2.2),rfl⟩
   ·rename_i h;exact⟨au (fun hh=>h hh.2.2.1),rfl⟩
  ·rename_i h;exact⟨au (fun hh=>h hh.2.1),rfl⟩
 ·rename_i h;exact⟨au (fun hh=>h hh.1),rfl⟩
def fR (k t:Int):Prop:=(k=1\/k=2\/k=3)/\t=1\/(k=4\/k=5)/\t≠1
instance (k t:Int):Decidable (fR k t):=inferInstanceAs (Decidable (_\/_))
theorem JF (k t:Int):ab Tryz.prog 259 [.int .i64 k, .int .i64 t] (fun u=>u= .bool (decide (fR k t))):=by
 refine ab.intro ae ag Tryz.func259 rfl (by decide) ?_;(conv=>whnf)
 repeat' first|(refine at_ ?_;conv=>whnf)|(refine ah (fun _=>?_) (fun _=>?_)<;>conv=>whnf)
 all_goals first
  |exact⟨aH (by unfold fR;omega),rfl⟩
  |exact⟨au (by unfold fR;omega),rfl⟩
def iQ (r:bo) (t:Int):Prop:=(r.kind≠1/\(0<r.guards.length\/0<r.some_.length\/0<r.forall_.length\/0<r.send.length))\/(r.kind≠1/\r.kind≠2/\r.kind≠3/\(r.read≠-1\/r.write≠-1))\/
 (r.kind≠2/\r.kind≠5/\(r.pfrom≠0\/r.pto≠0))\/(r.kind≠3/\0<r.response.length)\/(r.kind≠5/\r.direction≠0)\/(r.kind≠4/\(r.at_≠0\/0<r.left.length\/0<r.right.length))\/(0<r.parent.length/\¬(r.kind=4/\t=4))
instance (r:bo) (t:Int):Decidable (iQ r t):=inferInstanceAs (Decidable (_\/_))
theorem Ej (r:bo) (t:Int) (hr:G5 r) (hf:fR r.kind t):ab Tryz.prog 260 [.agg (eg r), .int .i64 t] (fun u=>u= .bool (decide (iQ r t))):=by
 have hb:=yG hr
 refine ab.intro ae ag Tryz.func260 rfl (by decide) ?_;(conv=>whnf)
 refine BF ?_
 conv=>whnf
 unfold fR at hf
 repeat' first|(refine at_ ?_;conv=>whnf)|(refine ah (fun _=>?_) (fun _=>?_)<;>conv=>whnf)
 all_goals first
  |exact⟨aH (by unfold iQ;omega),rfl⟩
  |exact⟨au (by unfold iQ;omega),rfl⟩
theorem lW (p:an) (r:bo) (hf:fR r.kind p.topology):ab Tryz.prog 269 [.agg (aR p), .agg (eg r)] (fun u=>u= .bool (decide (iQ r p.topology))):=by
 refine ab.intro ae ag Tryz.func269 rfl (by decide) ?_;(conv=>whnf)
 refine al rfl ?_
 conv=>whnf
 refine al rfl ?_
 conv=>whnf
 unfold fR at hf
 repeat' first|(refine at_ ?_;conv=>whnf)|(refine ah (fun _=>?_) (fun _=>?_)<;>conv=>whnf)
 all_goals first
  |exact⟨aH (by unfold iQ;omega),rfl⟩
  |exact⟨au (by unfold iQ;omega),rfl⟩
set_option maxRecDepth 100000
set_option maxHeartbeats 4000000
theorem yH {α:Type} {l:List α} {i:Nat} (d:α) (h:i<l.length):l.drop i=l.getD i d::l.drop (i+1):=by
 rw[List.drop_eq_getElem_cons h]
 simp[List.getD,h]
theorem bW {α:Type} {l:List α} (f:α->Int) {k:Nat} (d:α) (h:k<l.length):ci ((l.drop k).map f)=if f (l.getD k d)≠0 then f (l.getD k d) else ci ((l.drop (k+1)).map f):=by
 rw[yH d h];rfl
def eI (c:Int):Int:=if c<1\/100<c then 1 else 0
def jz (l:kG):Int:=if eh l then 0 else 4
def gE (m:Int) (g:ez):Int:=ci [cM g.message m,eI g.coef,jz g.bound]
def aK (m:Int) (l:List ez):Int:=if ci (l.map (gE m))≠0 then ci (l.map (gE m)) else if 2<l.length then 4 else 0
theorem HH (p:an) (l:List ez) (hl:l.length<=4503599627370496):ab Tryz.prog 261 [.agg (aR p), .sl aC b8 l] (fun u=>u= .int .i64 (aK p.messages.length l)):=by
 refine ab.intro ae ag Tryz.func261 rfl (by decide) ?_;(conv=>whnf)
 refine al rfl ?_
 conv=>whnf
 refine aQ.loopF ae ag (fun k:Nat=>k<=l.length/\ci (l.map (gE p.messages.length))=ci ((l.drop k).map (gE p.messages.length))) (fun k=>[(10, .int .i64 (k:Int))]) (fun _=>[]) (fun k=>l.length-k) 0 ⟨by omega,rfl⟩ ?_;conv=>whnf
 refine⟨sI,?_⟩
 rintro k ⟨hk,he⟩
 conv=>whnf
 refine ah (fun h1=>?_) (fun h1=>?_)<;>conv=>whnf
 ·rw[bW _ aC (by omega)] at he
  refine nI ?_
  rw[tN]
  generalize l.getD k aC=g at he
  conv=>whnf
  refine dI ?_
  conv=>whnf
  (refine oC (gP g.message p.messages.length) ?_;conv=>whnf)
  have fin:∀c:Int,c=eI g.coef->∀b:Int,b=jz g.bound->ci [cM g.message p.messages.length,c,b]=gE p.messages.length g:=by rintro c rfl b rfl;rfl
  by_cases hc:g.coef<1\/100<g.coef
  ·have ec:(1:Int)=eI g.coef:=by rw[eI,if_pos hc]
   repeat' first|(refine at_ ?_;conv=>whnf)|(refine ah (fun _=>?_) (fun _=>?_)<;>conv=>whnf)
   all_goals
    (refine oC (i8 1) ?_;conv=>whnf)
    refine dD (np g.bound) (fun _=>?_) (fun _=>?_)<;>(conv=>whnf)
    ·rename_i hb
     have eb:(0:Int)=jz g.bound:=by rw[jz,if_pos hb]
     (refine oC (gX 4) ?_;conv=>whnf)
     refine dA ?_
     conv=>whnf
     (refine oC (cJ _ (by simp)) ?_;conv=>whnf)
     rw[fin _ ec _ eb]
     refine ah (fun h2=>?_) (fun h2=>?_)<;>conv=>whnf
     ·rw[if_pos h2] at he
      exact⟨ac (by rw[aK,he,if_pos h2]),rfl⟩
     ·rw[if_neg h2] at he
      repeat' first|(refine at_ ?_;conv=>whnf)|(refine ah (fun _=>?_) (fun _=>?_)<;>conv=>whnf)
      exact⟨k+1,sI,⟨by omega,he⟩,by dsimp only;omega⟩
    ·rename_i hb
     have eb:(4:Int)=jz g.bound:=by rw[jz,if_neg hb]
     (refine oC (i8 4) ?_;conv=>whnf)
     refine dA ?_
     conv=>whnf
     (refine oC (cJ _ (by simp)) ?_;conv=>whnf)
     rw[fin _ ec _ eb]
     refine ah (fun h2=>?_) (fun h2=>?_)<;>conv=>whnf
     ·rw[if_pos h2] at he
      exact⟨ac (by rw[aK,he,if_pos h2]),rfl⟩
     ·rw[if_neg h2] at he
      repeat' first|(refine at_ ?_;conv=>whnf)|(refine ah (fun _=>?_) (fun _=>?_)<;>conv=>whnf)
      exact⟨k+1,sI,⟨by omega,he⟩,by dsimp only;omega⟩
  ·have ec:(0:Int)=eI g.coef:=by rw[eI,if_neg hc]
   repeat' first|(refine at_ ?_;conv=>whnf)|(refine ah (fun _=>?_) (fun _=>?_)<;>conv=>whnf)
   (refine oC (gX 1) ?_;conv=>whnf)
   refine dD (np g.bound) (fun _=>?_) (fun _=>?_)<;>(conv=>whnf)
   ·rename_i hb
    have eb:(0:Int)=jz g.bound:=by rw[jz,if_pos hb]
    (refine oC (gX 4) ?_;conv=>whnf)
    refine dA ?_
    conv=>whnf
    (refine oC (cJ _ (by simp)) ?_;conv=>whnf)
    rw[fin _ ec _ eb]
    refine ah (fun h2=>?_) (fun h2=>?_)<;>conv=>whnf
    ·rw[if_pos h2] at he
     exact⟨ac (by rw[aK,he,if_pos h2]),rfl⟩
    ·rw[if_neg h2] at he
     repeat' first|(refine at_ ?_;conv=>whnf)|(refine ah (fun _=>?_) (fun _=>?_)<;>conv=>whnf)
     exact⟨k+1,sI,⟨by omega,he⟩,by dsimp only;omega⟩
   ·rename_i hb
    have eb:(4:Int)=jz g.bound:=by rw[jz,if_neg hb]
    (refine oC (i8 4) ?_;conv=>whnf)
    refine dA ?_
    conv=>whnf
    (refine oC (cJ _ (by simp)) ?_;conv=>whnf)
    rw[fin _ ec _ eb]
    refine ah (fun h2=>?_) (fun h2=>?_)<;>conv=>whnf
    ·rw[if_pos h2] at he
     exact⟨ac (by rw[aK,he,if_pos h2]),rfl⟩
    ·rw[if_neg h2] at he
     repeat' first|(refine at_ ?_;conv=>whnf)|(refine ah (fun _=>?_) (fun _=>?_)<;>conv=>whnf)
     exact⟨k+1,sI,⟨by omega,he⟩,by dsimp only;omega⟩
 ·obtain rfl:k=l.length:=by omega
  rw[List.drop_length] at he
  have h0:ci (l.map (gE p.messages.length))=0:=he
  refine ah (fun h2=>?_) (fun h2=>?_)<;>conv=>whnf
  ·(refine oP (i8 4) ?_;conv=>whnf)
   exact⟨ac (by rw[aK,h0,if_neg (by simp),if_pos (by omega)]),rfl⟩
  ·(refine oP (gX 4) ?_;conv=>whnf)
   exact⟨ac (by rw[aK,h0,if_neg (by simp),if_neg (by omega)]),rfl⟩
def i9 (l:List Int) (n:Int):Int:=if(l.length:Int)≠n then 1 else if lV l n then 0 else 5
theorem yI (l:List Int) (n:Int) (hl:l.length<=4503599627370496):ab Tryz.prog 263 [.sl 0 ao l, .int .i64 n] (fun u=>u= .int .i64 (i9 l n)):=by
 refine ab.intro ae ag Tryz.func263 rfl (by decide) ?_;(conv=>whnf)
 refine ah (fun h0=>?_) (fun h0=>?_)<;>conv=>whnf
 ·exact⟨ac (by rw[i9,if_pos h0]),rfl⟩
 refine aQ.loopF ae ag (fun k:Nat=>k<=l.length/\∀j,j<k->0<=l.getD j 0/\l.getD j 0<n) (fun k=>[(14, .int .i64 (k:Int))]) (fun _=>[]) (fun k=>l.length-k) 0 ⟨by omega,fun j hj=>by omega⟩ ?_;conv=>whnf
 refine⟨sI,?_⟩
 rintro k ⟨hk,ha⟩
 conv=>whnf
 refine ah (fun h1=>?_) (fun h1=>?_)<;>conv=>whnf
 ·refine nI ?_
  rw[tN]
  conv=>whnf
  (refine oP (gP _ _) ?_;conv=>whnf)
  by_cases hb:l.getD k 0<0\/n<=l.getD k 0
  ·rw[cM,if_pos hb]
   repeat' first|(refine at_ ?_;conv=>whnf)|(refine ah (fun _=>?_) (fun _=>?_)<;>conv=>whnf)
   refine⟨ac ?_,rfl⟩
   rw[i9,if_neg h0,if_neg]
   intro h
   have:=h k (by omega)
   omega
  ·rw[cM,if_neg hb]
   repeat' first|(refine at_ ?_;conv=>whnf)|(refine ah (fun _=>?_) (fun _=>?_)<;>conv=>whnf)
   refine⟨k+1,sI,⟨by omega,fun j hj=>?_⟩,by dsimp only;omega⟩
   by_cases e:j=k
   ·subst e;omega
   ·exact ha j (by omega)
 ·exact⟨ac (by rw[i9,if_neg h0,if_pos (show lV l n from fun j hj=>ha j (by omega))]),rfl⟩
def eo (m v:Int):Int:=if v< -1\/m<=v then 5 else 0
theorem oO (p:an) (v:Int):ab Tryz.prog 262 [.agg (aR p), .int .i64 v] (fun u=>u= .int .i64 (eo p.values.length v)):=by
 refine ab.intro ae ag Tryz.func262 rfl (by decide) ?_;(conv=>whnf)
 refine al rfl ?_
 conv=>whnf
 by_cases h:v< -1\/(p.values.length:Int)<=v
 ·rw[eo,if_pos h]
  repeat' first|(refine at_ ?_;conv=>whnf)|(refine ah (fun _=>?_) (fun _=>?_)<;>conv=>whnf)
  all_goals
   (refine oP (i8 5) ?_;conv=>whnf)
   exact⟨rfl,rfl⟩
 ·rw[eo,if_neg h]
  repeat' first|(refine at_ ?_;conv=>whnf)|(refine ah (fun _=>?_) (fun _=>?_)<;>conv=>whnf)
  (refine oP (gX 5) ?_;conv=>whnf)
  exact⟨rfl,rfl⟩
def HI (g:ez):List Int:=[g.message,g.coef,g.bound.c,g.bound.n,g.bound.t,g.bound.f]
theorem iu {a b:ez}:HI a=HI b↔a=b:=by
 constructor
 ·intro h
  obtain⟨m,c,⟨x,y,z,w⟩⟩:=a
  obtain⟨m',c',⟨x',y',z',w'⟩⟩:=b
  simp only[HI,List.cons.injEq,and_true] at h
  obtain⟨rfl,rfl,rfl,rfl,rfl,rfl⟩:=h
  rfl
 ·rintro rfl;rfl
theorem aB {α:Type} {l:List α} {k:Nat} (d:α) (h:k<l.length):l.getD k d∈l:=by
 rw[gD,gL h]
 exact List.getElem_mem _
theorem ba {α:Type} {l:List α} {k:Nat} (d:α) (h:k<l.length):l.take (k+1)=l.take k++[l.getD k d]:=by
 rw[List.take_succ_eq_append_getElem h,gD,gL h]
 rfl
theorem Cc (l:List ez) (g:ez) (hl:l.length<=4503599627370496):ab Tryz.prog 271 [.sl aC b8 l, .agg (b8 g)] (fun u=>∃n:Int,u= .int .i64 n/\(0<=n↔g∈l)):=by
 refine ab.intro ae ag Tryz.func271 rfl (by decide) ?_;(conv=>whnf)
 refine al rfl ?_
 conv=>whnf
 refine aQ.loopF ae ag (fun k:Nat=>k<=l.length/\g∉l.take k) (fun k=>[(8, .int .i64 (k:Int))]) (fun _=>[]) (fun k=>l.length-k) 0 ⟨by omega,by simp⟩ ?_;conv=>whnf
 refine⟨sI,?_⟩
 rintro k ⟨hk,ha⟩
 conv=>whnf
 repeat' first|(refine at_ ?_;conv=>whnf)|(refine ah (fun _=>?_) (fun _=>?_)<;>conv=>whnf)
 ·rename_i h1 h2
  rw[tN] at h2
  have h2:g=l.getD k aC:=iu.1 h2
  refine⟨⟨k,rfl,fun _=>?_,fun _=>by omega⟩,rfl⟩
  rw[h2];exact aB _ (by omega)
 ·rename_i h1 h2
  rw[tN] at h2
  refine⟨k+1,sI,⟨by omega,?_⟩,by dsimp only;omega⟩
  rw[ba aC (by omega),List.mem_append,List.mem_singleton,not_or]
  exact⟨ha,fun e=>h2 (iu.2 e)⟩
 ·obtain rfl:k=l.length:=by omega
  rw[List.take_length] at ha
  exact⟨⟨-1,rfl,fun h=>by omega,fun h=>absurd h ha⟩,rfl⟩
theorem uv (l:List ez) (g:ez) (hl:l.length<=4503599627370496):ab Tryz.prog 264 [.sl aC b8 l, .agg (b8 g)] (fun u=>u= .bool (decide (g∈l))):=by
 refine ab.intro ae ag Tryz.func264 rfl (by decide) ?_;(conv=>whnf)
 refine al rfl ?_
 conv=>whnf
 refine am.of_pure (n:=5) (Cc l g hl) rfl ?_
 rintro _ ⟨n,rfl,hn⟩
 conv=>whnf
 refine ah (fun h=>?_) (fun h=>?_)<;>conv=>whnf
 ·exact⟨aH (hn.1 h),rfl⟩
 ·exact⟨au (fun hh=>h (hn.2 hh)),rfl⟩
def iR (acc:List ez) (g:ez):List ez:=if g∈acc then acc else acc++[g]
def ax (rs:List bo):List ez:=(rs.flatMap (·.guards)).foldl iR []
def HJ (l:List ez):cp:=.row 187 aC b8 l
theorem ra (gs:List ez):∀acc,(gs.foldl iR acc).length<=acc.length+gs.length:=by
 induction gs with
 |nil=>intro acc;simp
 |cons g gs ih=>
  intro acc
  have:=ih (iR acc g)
  have h2:(iR acc g).length<=acc.length+1:=by unfold iR;split<;>simp
  simp only[List.foldl_cons,List.length_cons]
  omega
theorem Ek {rs:List bo} (h:∀r∈rs,r.guards.length<=1000):(rs.flatMap (·.guards)).length<=1000*rs.length:=by
 induction rs with
 |nil=>simp
 |cons r rs ih=>
  have h1:=h r List.mem_cons_self
  have h2:=ih fun x hx=>h x (List.mem_cons_of_mem _ hx)
  simp only[List.flatMap_cons,List.length_append,List.length_cons]
  omega
def Mf (p:an):Prop:=p.rules.length<=1000/\∀j,j<p.rules.length->(p.rules.getD j ap).guards.length<=1000
theorem yJ {p:an} (h:Mf p):∀r∈p.rules,r.guards.length<=1000:=by
 intro r hr
 obtain⟨j,hj,rfl⟩:=List.getElem_of_mem hr
 have:=h.2 j hj
 rwa [gD,gL hj] at this
def rb (rs:List bo) (i:Nat) (r:bo) (j:Nat):List ez:=(((rs.take i).flatMap (·.guards))++r.guards.take j).foldl iR []
theorem tf (rs:List bo) (i:Nat) (r:bo):rb rs i r 0=ax (rs.take i):=by simp[rb,ax]
theorem tg (rs:List bo) (i:Nat) (r:bo) {j:Nat} (h:j<r.guards.length):rb rs i r (j+1)=iR (rb rs i r j) (r.guards.getD j aC):=by
 rw[rb,ba aC h,<-List.append_assoc,List.foldl_append];rfl
theorem wX (rs:List bo) {i:Nat} (h:i<rs.length):rb rs i (rs.getD i ap) (rs.getD i ap).guards.length=ax (rs.take (i+1)):=by
 rw[ax,ba ap h,List.flatMap_append,rb,List.take_length];simp
theorem wY {p:an} (h:Mf p) (i j:Nat):(rb p.rules i (p.rules.getD i ap) j).length<=1001000:=by
 have h1:=Ek (rs:=p.rules.take i) fun r hr=>yJ h r (List.mem_of_mem_take hr)
 have h2:=ra ((((p.rules.take i).flatMap (·.guards))++(p.rules.getD i ap).guards.take j)) []
 have h3:=h.1
 have h4:(p.rules.getD i ap).guards.length<=1000:=by
  by_cases hi:i<p.rules.length
  ·exact h.2 i hi
  ·rw[gD,List.getElem?_eq_none (by omega)];simp[ap]
 unfold rb
 simp only[List.length_append,List.length_take,List.length_nil] at h1 h2
 omega
theorem pA (p:an) (hp:Mf p):ab Tryz.prog 189 [.agg (aR p)] (fun u=>u= .sl aC b8 (ax p.rules)):=by
 have hle:=hp.1
 refine ab.intro ae ag Tryz.func189 rfl (by decide) ?_;(conv=>whnf)
 refine al rfl ?_
 conv=>whnf
 refine aQ.loopF ae ag (fun i:Nat=>i<=p.rules.length) (fun i=>[(11, .int .i64 (i:Int)),(3, .row 1000 (ax (p.rules.take i)).length 6)]) (fun i=>[(1000,HJ (ax (p.rules.take i)))]) (fun i=>p.rules.length-i) 0 (by omega) ?_;conv=>whnf
 refine⟨bn.by_ [(1000, .nil 6)] _ 400 rfl (aa) (aa),?_⟩
 intro i hi
 conv=>whnf
 refine ah (fun h1=>?_) (fun h1=>?_)<;>conv=>whnf
 ·refine nI ?_
  rw[tN]
  have hil:i<p.rules.length:=by omega
  have hgl:=hp.2 i hil
  have hpl:=wY hp i
  have hall:=wX p.rules hil
  have hzero:=tf p.rules i (p.rules.getD i ap)
  have hsucc:=fun j=>tg p.rules i (p.rules.getD i ap) (j:=j)
  generalize p.rules.getD i ap=r at hgl hpl hall hzero hsucc
  rw[<-hzero]
  generalize rb p.rules i r=out at hpl hall hsucc
  conv=>whnf
  refine aQ.loopF ae ag (fun j:Nat=>j<=r.guards.length) (fun j=>[(18, .int .i64 (j:Int)),(3, .row 1000 (out j).length 6),(5, .top),(15, .top)]) (fun j=>[(1000,HJ (out j))]) (fun j=>r.guards.length-j) 0 (by omega) ?_;conv=>whnf
  refine⟨sI,?_⟩
  intro j hj
  conv=>whnf
  refine ah (fun h2=>?_) (fun h2=>?_)<;>conv=>whnf
  ·refine nI ?_
   rw[tN]
   have hs:=hsucc j (by omega)
   have hlj:=hpl j
   generalize r.guards.getD j aC=g at hs
   conv=>whnf
   refine am.borrow (n:=5) (uv (out j) g (by omega)) rfl (by rintro _ rfl;rfl) ?_
   rintro _ rfl
   by_cases hm:g∈out j
   ·rw[decide_eq_true hm]
    conv=>whnf
    repeat' first|(refine at_ ?_;conv=>whnf)|(refine ah (fun _=>?_) (fun _=>?_)<;>conv=>whnf)
    have e:out (j+1)=out j:=by rw[hs,iR,if_pos hm]
    refine⟨j+1,?_,by omega,by dsimp only;omega⟩
    dsimp only
    rw[e]
    exact sI
   ·rw[decide_eq_false hm]
    conv=>whnf
    refine cf aC b8 [g] rfl ?_
    conv=>whnf
    repeat' first|(refine at_ ?_;conv=>whnf)|(refine ah (fun _=>?_) (fun _=>?_)<;>conv=>whnf)
    have e:out (j+1)=out j++[g]:=by rw[hs,iR,if_neg hm]
    refine⟨j+1,?_,by omega,by dsimp only;omega⟩
    dsimp only
    rw[e]
    exact bn.by_ [(1000, .old 29)] _ 400 rfl (aa) (aa)
  ·obtain rfl:j=r.guards.length:=by omega
   repeat' first|(refine at_ ?_;conv=>whnf)|(refine ah (fun _=>?_) (fun _=>?_)<;>conv=>whnf)
   refine⟨i+1,?_,by omega,by dsimp only;omega⟩
   dsimp only
   rw[<-hall]
   exact sI
 ·obtain rfl:i=p.rules.length:=by omega
  rw[List.take_length]
  exact⟨rfl,rfl⟩
set_option maxRecDepth 100000
set_option maxHeartbeats 4000000
theorem El (a b:ez):ab Tryz.prog 270 [.agg (b8 a), .agg (b8 b)] (fun u=>u= .bool (decide (a=b))):=by
 refine ab.intro ae ag Tryz.func270 rfl (by decide) ?_;(conv=>whnf)
 refine al rfl ?_
 conv=>whnf
 refine al rfl ?_
 conv=>whnf
 refine ah (fun h1=>?_) (fun h1=>?_)<;>conv=>whnf
 ·refine ah (fun h2=>?_) (fun h2=>?_)<;>conv=>whnf
  ·refine ah (fun h3=>?_) (fun h3=>?_)<;>conv=>whnf
   ·refine⟨aH (iu.1 ?_),rfl⟩
    simp only[List.cons.injEq,and_true] at h3
    simp only[HI,h1,h2,h3]
   ·exact⟨au (fun h=>h3 (by rw[h])),rfl⟩
  ·exact⟨au (fun h=>h2 (by rw[h])),rfl⟩
 ·exact⟨au (fun h=>h1 (by rw[h])),rfl⟩
theorem HK (l:List ez) (g:ez) (hl:l.length<=4503599627370496):ab Tryz.prog 209 [.sl aC b8 l, .agg (b8 g)] (fun u=>∃n:Int,u= .int .i64 n/\(n<0↔g∉l)):=by
 refine ab.intro ae ag Tryz.func209 rfl (by decide) ?_;(conv=>whnf)
 refine al rfl ?_
 conv=>whnf
 refine aQ.loopF ae ag (fun k:Nat=>k<=l.length/\g∉l.take k) (fun k=>[(5, .int .i64 (k:Int))]) (fun _=>[]) (fun k=>l.length-k) 0 ⟨by omega,by simp⟩ ?_;conv=>whnf
 refine⟨sI,?_⟩
 rintro k ⟨hk,ha⟩
 conv=>whnf
 refine ah (fun h1=>?_) (fun h1=>?_)<;>conv=>whnf
 ·refine dI ?_
  conv=>whnf
  refine nI ?_
  rw[tN]
  conv=>whnf
  refine dD (El (l.getD k aC) g) (fun _=>?_) (fun _=>?_)<;>(conv=>whnf)
  ·rename_i h2
   refine⟨⟨k,rfl,fun h=>by omega,fun h=>absurd ?_ h⟩,rfl⟩
   rw[<-h2];exact aB _ (by omega)
  ·rename_i h2
   repeat' first|(refine at_ ?_;conv=>whnf)|(refine ah (fun _=>?_) (fun _=>?_)<;>conv=>whnf)
   refine⟨k+1,sI,⟨by omega,?_⟩,by dsimp only;omega⟩
   rw[ba aC (by omega),List.mem_append,List.mem_singleton,not_or]
   exact⟨ha,fun e=>h2 e.symm⟩
 ·obtain rfl:k=l.length:=by omega
  rw[List.take_length] at ha
  exact⟨⟨-1,rfl,fun _=>ha,fun _=>by omega⟩,rfl⟩
theorem th (p:an) (hp:Mf p):ab Tryz.prog 114 [.agg (aR p)] (fun u=>u= .sl aC b8 (ax p.rules)):=by
 have hle:=hp.1
 refine ab.intro ae ag Tryz.func114 rfl (by decide) ?_;(conv=>whnf)
 refine al rfl ?_
 conv=>whnf
 refine aQ.loopF ae ag (fun i:Nat=>i<=p.rules.length) (fun i=>[(4, .int .i64 (i:Int)),(3, .row 1000 (ax (p.rules.take i)).length 6)]) (fun i=>[(1000,HJ (ax (p.rules.take i)))]) (fun i=>p.rules.length-i) 0 (by omega) ?_;conv=>whnf
 refine⟨bn.by_ [(1000, .nil 6)] _ 400 rfl (aa) (aa),?_⟩
 intro i hi
 conv=>whnf
 refine ah (fun h1=>?_) (fun h1=>?_)<;>conv=>whnf
 ·have hil:i<p.rules.length:=by omega
  have hgl:=hp.2 i hil
  have hpl:=wY hp i
  have hall:=wX p.rules hil
  have hzero:=tf p.rules i (p.rules.getD i ap)
  have hsucc:=fun j=>tg p.rules i (p.rules.getD i ap) (j:=j)
  rw[<-hzero]
  generalize ho:rb p.rules i (p.rules.getD i ap)=out at hpl hall hsucc
  refine aQ.loopF ae ag (fun j:Nat=>j<=(p.rules.getD i ap).guards.length) (fun j=>[(5, .int .i64 (j:Int)),(3, .row 1000 (out j).length 6)]) (fun j=>[(1000,HJ (out j))]) (fun j=>(p.rules.getD i ap).guards.length-j) 0 (by omega) ?_;conv=>whnf
  refine⟨sI,?_⟩
  intro j hj
  conv=>whnf
  refine nI ?_
  rw[tN]
  conv=>whnf
  refine ah (fun h2=>?_) (fun h2=>?_)<;>conv=>whnf
  ·refine nI ?_
   rw[tN]
   conv=>whnf
   refine nI ?_
   rw[tN]
   have hs:=hsucc j (by omega)
   have hlj:=hpl j
   generalize (p.rules.getD i ap).guards.getD j aC=g at hs
   conv=>whnf
   refine am.borrow (n:=5) (HK (out j) g (by omega)) rfl (by rintro _ ⟨n,rfl,_⟩;rfl) ?_
   rintro _ ⟨n,rfl,hn⟩
   conv=>whnf
   refine ah (fun h3=>?_) (fun h3=>?_)<;>conv=>whnf
   ·have hm:=hn.1 h3
    refine cf aC b8 [g] rfl ?_
    conv=>whnf
    repeat' first|(refine at_ ?_;conv=>whnf)|(refine ah (fun _=>?_) (fun _=>?_)<;>conv=>whnf)
    have e:out (j+1)=out j++[g]:=by rw[hs,iR,if_neg hm]
    refine⟨j+1,?_,by omega,by dsimp only;omega⟩
    dsimp only
    rw[e]
    exact bn.by_ [(1000, .old 41)] _ 400 rfl (aa) (aa)
   ·have hm:g∈out j:=Classical.byContradiction fun h=>h3 (hn.2 h)
    repeat' first|(refine at_ ?_;conv=>whnf)|(refine ah (fun _=>?_) (fun _=>?_)<;>conv=>whnf)
    have e:out (j+1)=out j:=by rw[hs,iR,if_pos hm]
    refine⟨j+1,?_,by omega,by dsimp only;omega⟩
    dsimp only
    rw[e]
    exact sI
  ·obtain rfl:j=(p.rules.getD i ap).guards.length:=by omega
   repeat' first|(refine at_ ?_;conv=>whnf)|(refine ah (fun _=>?_) (fun _=>?_)<;>conv=>whnf)
   refine⟨i+1,?_,by omega,by dsimp only;omega⟩
   dsimp only
   rw[<-hall]
   exact sI
 ·obtain rfl:i=p.rules.length:=by omega
  rw[List.take_length]
  exact⟨rfl,rfl⟩
theorem Cd (x r:bo):ab Tryz.prog 258 [.agg (eg x), .pd (eg r)] (fun u=>u= .bool (decide (x.name=r.name))):=by
 refine ab.intro ae ag Tryz.func258 rfl (by decide) ?_;(conv=>whnf)
 refine al rfl ?_
 conv=>whnf
 refine ah (fun h=>?_) (fun h=>?_)<;>conv=>whnf
 ·exact⟨aH h,rfl⟩
 ·exact⟨au h,rfl⟩
def gQ (rs:List bo) (i:Nat) (r:bo):Prop:=∃j,j<(rs.take i).length/\((rs.take i).getD j ap).name=r.name
instance (rs:List bo) (i:Nat) (r:bo):Decidable (gQ rs i r):=inferInstanceAs (Decidable (∃j,j<(rs.take i).length/\_))
theorem Em (l:List bo) (r:bo) (hl:l.length<=4503599627370496):ab Tryz.prog 267 [.sl ap eg l, .fn 258 [.pd (eg r)]] (fun u=>∃n:Int,u= .int .i64 n/\(0<=n↔∃j,j<l.length/\(l.getD j ap).name=r.name)):=by
 refine ab.intro ae ag Tryz.func267 rfl (by decide) ?_;(conv=>whnf)
 refine aQ.loopF ae ag (fun k:Nat=>k<=l.length/\∀j,j<k->(l.getD j ap).name≠r.name) (fun k=>[(8, .int .i64 (k:Int))]) (fun _=>[]) (fun k=>l.length-k) 0 ⟨by omega,fun j hj=>by omega⟩ ?_;conv=>whnf
 refine⟨sI,?_⟩
 rintro k ⟨hk,ha⟩
 conv=>whnf
 refine ah (fun h1=>?_) (fun h1=>?_)<;>conv=>whnf
 ·refine nI ?_
  rw[tN]
  conv=>whnf
  refine dC (Cd (l.getD k ap) r) (fun _=>?_) (fun _=>?_)<;>(conv=>whnf)
  ·rename_i h2
   exact⟨⟨k,rfl,fun _=>⟨k,by omega,h2⟩,fun _=>by omega⟩,rfl⟩
  ·rename_i h2
   repeat' first|(refine at_ ?_;conv=>whnf)|(refine ah (fun _=>?_) (fun _=>?_)<;>conv=>whnf)
   refine⟨k+1,sI,⟨by omega,fun j hj=>?_⟩,by dsimp only;omega⟩
   by_cases e:j=k
   ·subst e;exact h2
   ·exact ha j (by omega)
 ·exact⟨⟨-1,rfl,fun h=>by omega,fun⟨j,h1,h2⟩=>absurd h2 (ha j (by omega))⟩,rfl⟩
theorem En (rs:List bo) (i:Nat) (r:bo) (hl:rs.length<=4503599627370496):ab Tryz.prog 191 [.sl ap eg (rs.take i), .fn 258 [.pd (eg r)]] (fun u=>u= .bool (decide (gQ rs i r))):=by
 refine ab.intro ae ag Tryz.func191 rfl (by decide) ?_;(conv=>whnf)
 refine am.of_pure (n:=5) (Em (rs.take i) r (by simp;omega)) rfl ?_
 rintro _ ⟨n,rfl,hn⟩
 conv=>whnf
 refine ah (fun h=>?_) (fun h=>?_)<;>conv=>whnf
 ·exact⟨aH (hn.1 h),rfl⟩
 ·exact⟨au (fun hh=>h (hn.2 hh)),rfl⟩
def Eo (a t:Int):Int:=if a<0\/2<a\/(a≠0/\t=3) then 1 else 0
def sE (d t:Int):Int:=if(t=4/\(d<3\/4<d))\/(t≠4/\(d<1\/2<d)) then 1 else 0
def cW (p:an) (r:bo):Int:=
 if r.kind=1 then ci [aK p.messages.length r.guards,bC r.some_ p.states.length,bC r.forall_ p.states.length,eo p.values.length r.read,eo p.values.length r.write,bC r.send p.messages.length]
 else if r.kind=2 then ci [cM r.pfrom p.states.length,cM r.pto p.states.length,eo p.values.length r.read,eo p.values.length r.write]
 else if r.kind=3 then ci [i9 r.response p.states.length,eo p.values.length r.read,eo p.values.length r.write]
 else if r.kind=4 then ci [bC r.left p.states.length,bC r.right p.states.length,bC r.parent p.states.length,Eo r.at_ p.topology]
 else ci [cM r.pfrom p.states.length,cM r.pto p.states.length,sE r.direction p.topology]
def b9 (p:an) (i:Nat) (r:bo):Int:=
 if¬cj r.name\/gQ p.rules i r then 2 else if¬fR r.kind p.topology\/iQ r p.topology then 6
 else ci [cM r.src p.states.length,cM r.dst p.states.length,cW p r]
theorem HL (a b c:Int):ci [a,b,c]=if ci [a,b]≠0 then ci [a,b] else c:=by
 simp only[ci]
 by_cases h1:a=0<;>by_cases h2:b=0<;>by_cases h3:c=0<;>simp[h1,h2,h3]
theorem yK (p:an) (i:Nat) (hp:iO p) (hi:i<p.rules.length):ab Tryz.prog 188 [.agg (aR p), .int .i64 (i:Int)] (fun u=>u= .int .i64 (b9 p i (p.rules.getD i ap))):=by
 have hle:=jh hp
 have hbr:=wR hp hi
 refine ab.intro ae ag Tryz.func188 rfl (by decide) ?_;(conv=>whnf)
 refine al rfl ?_
 conv=>whnf
 refine nI ?_
 rw[tN]
 generalize p.rules.getD i ap=r at hbr
 have hrl:=yG hbr
 conv=>whnf
 refine nI ?_
 rw[tN]
 conv=>whnf
 refine am.borrow (n:=5) (En p.rules i r (by omega)) rfl (by rintro _ rfl;rfl) ?_
 rintro _ rfl
 by_cases hv:cj r.name
 ·by_cases ht:gQ p.rules i r
  ·rw[decide_eq_true ht]
   conv=>whnf
   refine dC (fe r.name (by omega)) (fun _=>?_) (fun _=>?_)<;>(conv=>whnf)
   ·exact⟨ac (by rw[b9,if_pos (.inr ht)]),rfl⟩
   ·exact⟨ac (by rw[b9,if_pos (.inr ht)]),rfl⟩
  ·rw[decide_eq_false ht]
   have e1:∀x,(if¬cj r.name\/gQ p.rules i r then(2:Int) else x)=x:=fun x=>if_neg (by rintro(h|h);exact h hv;exact ht h)
   conv=>whnf
   refine dC (fe r.name (by omega)) (fun _=>?_) (fun _=>?_)<;>(conv=>whnf)
   ·by_cases hf:fR r.kind p.topology
    ·refine dC (JF r.kind p.topology) (fun _=>?_) (fun _=>?_)<;>(conv=>whnf)
     ·refine dC (Ej r p.topology hbr hf) (fun _=>?_) (fun _=>?_)<;>(conv=>whnf)
      ·rename_i hs
       exact⟨ac (by rw[b9,e1,if_pos (.inr hs)]),rfl⟩
      ·rename_i hs
       have e2:b9 p i r=ci [cM r.src p.states.length,cM r.dst p.states.length,cW p r]:=by rw[b9,e1,if_neg (by rintro(h|h);exact h hf;exact hs h)]
       rw[HL] at e2
       refine dI ?_
       conv=>whnf
       (refine oC (gP _ _) ?_;conv=>whnf)
       (refine oC (gP _ _) ?_;conv=>whnf)
       refine dA ?_
       conv=>whnf
       (refine oC (cJ _ (by simp)) ?_;conv=>whnf)
       refine ah (fun h3=>?_) (fun h3=>?_)<;>conv=>whnf
       ·rw[if_pos h3] at e2
        exact⟨ac e2.symm,rfl⟩
       ·rw[if_neg h3] at e2
        have ff:=hf
        unfold fR at ff
        by_cases k1:r.kind=1
        ·refine cC k1 ?_
         conv=>whnf
         refine dI ?_
         conv=>whnf
         (refine oC (HH p r.guards (by omega)) ?_;conv=>whnf)
         (refine oC (mJ r.some_ _ (by omega)) ?_;conv=>whnf)
         (refine oC (mJ r.forall_ _ (by omega)) ?_;conv=>whnf)
         (refine oC (oO p r.read) ?_;conv=>whnf)
         (refine oC (oO p r.write) ?_;conv=>whnf)
         (refine oC (mJ r.send _ (by omega)) ?_;conv=>whnf)
         refine dA ?_
         conv=>whnf
         (refine oC (cJ _ (by simp)) ?_;conv=>whnf)
         exact⟨ac (by rw[e2,cW,if_pos k1]),rfl⟩
        refine fP k1 ?_
        conv=>whnf
        by_cases k2:r.kind=2
        ·refine cC k2 ?_
         conv=>whnf
         refine dI ?_
         conv=>whnf
         (refine oC (gP _ _) ?_;conv=>whnf)
         (refine oC (gP _ _) ?_;conv=>whnf)
         (refine oC (oO p r.read) ?_;conv=>whnf)
         (refine oC (oO p r.write) ?_;conv=>whnf)
         refine dA ?_
         conv=>whnf
         (refine oC (cJ _ (by simp)) ?_;conv=>whnf)
         exact⟨ac (by rw[e2,cW,if_neg k1,if_pos k2]),rfl⟩
        refine fP k2 ?_
        conv=>whnf
        by_cases k3:r.kind=3
        ·refine cC k3 ?_
         conv=>whnf
         refine dI ?_
         conv=>whnf
         (refine oC (yI r.response _ (by omega)) ?_;conv=>whnf)
         (refine oC (oO p r.read) ?_;conv=>whnf)
         (refine oC (oO p r.write) ?_;conv=>whnf)
         refine dA ?_
         conv=>whnf
         (refine oC (cJ _ (by simp)) ?_;conv=>whnf)
         exact⟨ac (by rw[e2,cW,if_neg k1,if_neg k2,if_pos k3]),rfl⟩
        refine fP k3 ?_
        conv=>whnf
        by_cases k4:r.kind=4
        ·refine cC k4 ?_
         conv=>whnf
         by_cases hm:r.at_<0\/2<r.at_\/(r.at_≠0/\p.topology=3)
         ·have ea:(1:Int)=Eo r.at_ p.topology:=by rw[Eo,if_pos hm]
          repeat' (first|(refine tI ?_;conv=>whnf)|(refine fI ?_;conv=>whnf)|(refine ah (fun _=>?_) (fun _=>?_)<;>conv=>whnf))
          all_goals
           refine dI ?_
           conv=>whnf
           (refine oC (mJ r.left _ (by omega)) ?_;conv=>whnf)
           (refine oC (mJ r.right _ (by omega)) ?_;conv=>whnf)
           (refine oC (mJ r.parent _ (by omega)) ?_;conv=>whnf)
           (refine oC (i8 1) ?_;conv=>whnf)
           refine dA ?_
           conv=>whnf
           (refine oC (cJ _ (by simp)) ?_;conv=>whnf)
           exact⟨ac (by rw[e2,cW,if_neg k1,if_neg k2,if_neg k3,if_pos k4,<-ea]),rfl⟩
         ·have ea:(0:Int)=Eo r.at_ p.topology:=by rw[Eo,if_neg hm]
          repeat' (first|(refine tI ?_;conv=>whnf)|(refine fI ?_;conv=>whnf)|(refine ah (fun _=>?_) (fun _=>?_)<;>conv=>whnf))
          all_goals
           refine dI ?_
           conv=>whnf
           (refine oC (mJ r.left _ (by omega)) ?_;conv=>whnf)
           (refine oC (mJ r.right _ (by omega)) ?_;conv=>whnf)
           (refine oC (mJ r.parent _ (by omega)) ?_;conv=>whnf)
           (refine oC (gX 1) ?_;conv=>whnf)
           refine dA ?_
           conv=>whnf
           (refine oC (cJ _ (by simp)) ?_;conv=>whnf)
           exact⟨ac (by rw[e2,cW,if_neg k1,if_neg k2,if_neg k3,if_pos k4,<-ea]),rfl⟩
        refine fP k4 ?_
        conv=>whnf
        by_cases hd:(p.topology=4/\(r.direction<3\/4<r.direction))\/(p.topology≠4/\(r.direction<1\/2<r.direction))
        ·have ea:(1:Int)=sE r.direction p.topology:=by rw[sE,if_pos hd]
         refine ah (fun h4=>?_) (fun h4=>?_)<;>conv=>whnf
         all_goals
          refine dI ?_
          conv=>whnf
          (refine oC (gP _ _) ?_;conv=>whnf)
          (refine oC (gP _ _) ?_;conv=>whnf)
          repeat' (first|(refine tI ?_;conv=>whnf)|(refine fI ?_;conv=>whnf)|(refine ah (fun _=>?_) (fun _=>?_)<;>conv=>whnf))
          all_goals
           (refine oC (i8 1) ?_;conv=>whnf)
           refine dA ?_
           conv=>whnf
           (refine oC (cJ _ (by simp)) ?_;conv=>whnf)
           exact⟨ac (by rw[e2,cW,if_neg k1,if_neg k2,if_neg k3,if_neg k4,<-ea]),rfl⟩
        ·have ea:(0:Int)=sE r.direction p.topology:=by rw[sE,if_neg hd]
         refine ah (fun h4=>?_) (fun h4=>?_)<;>conv=>whnf
         all_goals
          refine dI ?_
          conv=>whnf
          (refine oC (gP _ _) ?_;conv=>whnf)
          (refine oC (gP _ _) ?_;conv=>whnf)
          repeat' (first|(refine tI ?_;conv=>whnf)|(refine fI ?_;conv=>whnf)|(refine ah (fun _=>?_) (fun _=>?_)<;>conv=>whnf))
          all_goals
           (refine oC (gX 1) ?_;conv=>whnf)
           refine dA ?_
           conv=>whnf
           (refine oC (cJ _ (by simp)) ?_;conv=>whnf)
           exact⟨ac (by rw[e2,cW,if_neg k1,if_neg k2,if_neg k3,if_neg k4,<-ea]),rfl⟩
     ·rename_i h;exact absurd hf h
    ·refine dC (JF r.kind p.topology) (fun _=>?_) (fun _=>?_)<;>(conv=>whnf)
     ·rename_i h;exact absurd h hf
     ·exact⟨ac (by rw[b9,e1,if_pos (.inl hf)]),rfl⟩
   ·rename_i h;exact absurd hv h
 ·by_cases ht:gQ p.rules i r
  ·rw[decide_eq_true ht]
   conv=>whnf
   refine dC (fe r.name (by omega)) (fun _=>?_) (fun _=>?_)<;>(conv=>whnf)
   ·exact⟨ac (by rw[b9,if_pos (.inl hv)]),rfl⟩
   ·exact⟨ac (by rw[b9,if_pos (.inl hv)]),rfl⟩
  ·rw[decide_eq_false ht]
   conv=>whnf
   refine dC (fe r.name (by omega)) (fun _=>?_) (fun _=>?_)<;>(conv=>whnf)
   ·rename_i h;exact absurd h hv
   ·exact⟨ac (by rw[b9,if_pos (.inl hv)]),rfl⟩
end Go.Proofs.YtekmminpfhacpaaGreatDoor
