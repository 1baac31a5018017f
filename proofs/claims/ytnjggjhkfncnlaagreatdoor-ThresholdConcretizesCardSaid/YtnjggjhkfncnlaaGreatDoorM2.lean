import Derived.Test.YtnjggjhkfncnlaaGreatDoorFnO
import Derived.Test.YtnjggjhkfncnlaaGreatDoorF2
set_option linter.unusedVariables false
set_option linter.unusedSimpArgs false
namespace Go.Proofs.YtnjggjhkfncnlaaGreatDoor
set_option maxRecDepth 100000
def Ag (c:Nat):Prop:=97<=c/\c<=122\/48<=c/\c<=57\/c=95
instance (c:Nat):Decidable (Ag c):=inferInstanceAs (Decidable (_\/_))
def cx (s:ByteArray):Prop:=(0<s.size/\s.size<=12)/\(97<=lZ s 0/\lZ s 0<=122)/\(∀i,i<s.size->Ag (lZ s i))/\s∉oa
instance (s:ByteArray):Decidable (cx s):=inferInstanceAs (Decidable (_/\_))
theorem x7 {s:ByteArray} {k:Nat} (h:k<s.size):(s.get! (k+0)).toNat=lZ s k:=by
 unfold lZ
 congr 1
theorem zr {s:ByteArray} {k:Nat} (h:k<s.size) (hb:lZ s k<128):Utf8.decode s k=(lZ s k,1):=by
 unfold Utf8.decode
 simp only[x7 h]
 rw[if_pos hb]
theorem zt {s:ByteArray} {k:Nat} (h:k<s.size) (hb:¬lZ s k<128):128<=(Utf8.decode s k).1:=by
 unfold Utf8.decode
 simp only[x7 h]
 rw[if_neg hb]
 (repeat' split)<;>simp only[Utf8.runeError,ge_iff_le,Bool.and_eq_true,decide_eq_true_eq] at*<;>omega
theorem uX {s:ByteArray}:s=t0↔s.size=0:=by
 constructor
 ·rintro rfl;rfl
 ·intro h
  cases s with|mk a=>
  have:a.size=0:=h
  have:a=#[]:=Array.eq_empty_of_size_eq_zero this
  rw[this];rfl
theorem fd (s:ByteArray) (hs:s.size<=4503599627370496):ab Tryz.prog 132 [.str s] (fun u=>u= .bool (decide (cx s))):=by
 refine ab.intro ac ag Tryz.func132 rfl (by decide) ?_;(conv=>whnf)
 refine ah (fun h1=>?_) (fun h1=>?_)<;>conv=>whnf
 ·exact⟨aq (fun h=>by have:=uX.1 h1;have:=h.1;omega),rfl⟩
 have h0:s.size≠0:=fun h=>h1 (uX.2 h)
 refine ah (fun h2=>?_) (fun h2=>?_)<;>conv=>whnf
 ·exact⟨aq (fun h=>by have:=h.1;omega),rfl⟩
 refine aH.loopF ac ag (fun k:Nat=>k<=s.size/\∀j,j<k->Ag (lZ s j)/\(j=0->97<=lZ s 0/\lZ s 0<=122)) (fun _=>[]) (fun k=>[(14, .iter s k)]) (fun k=>s.size-k) 0 ⟨by omega,fun j hj=>by omega⟩ ?_;conv=>whnf
 refine⟨sI,?_⟩
 rintro k ⟨hk,ha⟩
 conv=>whnf
 refine Iz (fun h3=>?_) (fun h3=>?_)<;>conv=>whnf
 ·by_cases hb:lZ s k<128
  ·rw[zr h3 hb]
   by_cases hgood:Ag (lZ s k)/\(k=0->97<=lZ s 0/\lZ s 0<=122)
   ·obtain⟨g1,g2⟩:=hgood
    have g3:k=0->lZ s k=lZ s 0:=fun e=>by rw[e]
    unfold Ag at g1
    repeat' first|(refine at_ ?_;conv=>whnf)|(refine ah (fun _=>?_) (fun _=>?_)<;>conv=>whnf)
    all_goals
     refine⟨k+1,sI,⟨by omega,fun j hj=>?_⟩,by dsimp only;omega⟩
     by_cases e:j=k
     ·subst e;exact⟨g1,g2⟩
     ·exact ha j (by omega)
   ·have hbad:¬cx s:=fun h=>hgood ⟨h.2.2.1 k h3,fun _=>h.2.1⟩
    have g3:k=0->lZ s k=lZ s 0:=fun e=>by rw[e]
    unfold Ag at hgood
    repeat' first|(refine at_ ?_;conv=>whnf)|(refine ah (fun _=>?_) (fun _=>?_)<;>conv=>whnf)
    all_goals exact⟨aq hbad,rfl⟩
  ·have hd:=zt h3 hb
   have hbad:¬cx s:=fun h=>by have:=h.2.2.1 k h3;unfold Ag at this;omega
   generalize Utf8.decode s k=x at hd
   obtain⟨c,w⟩:=x
   dsimp only at hd⊢
   repeat' first|(refine at_ ?_;conv=>whnf)|(refine ah (fun _=>?_) (fun _=>?_)<;>conv=>whnf)
   all_goals exact⟨aq hbad,rfl⟩
 ·have hall:(∀i,i<s.size->Ag (lZ s i)):=fun i hi=>(ha i (by omega)).1
  have hf:=(ha 0 (by omega)).2 rfl
  refine dC (uW s) (fun _=>?_) (fun _=>?_)<;>(conv=>whnf)
  ·rename_i h;exact⟨aq (fun hh=>hh.2.2.2 h),rfl⟩
  ·rename_i h;exact⟨az ⟨by omega,hf,hall,h⟩,rfl⟩
theorem zu:ab Tryz.prog 209 [] (fun u=>u= .sl t0 dX oa):=by
 refine ab.intro ac ag Tryz.func209 rfl (by decide) ?_;(conv=>whnf)
 refine bw t0 dX oa rfl ?_
 conv=>whnf
 exact⟨rfl,rfl⟩
theorem jD (s:ByteArray) (hs:s.size<=4503599627370496):ab Tryz.prog 143 [.str s] (fun u=>u= .bool (decide (cx s))):=by
 refine ab.intro ac ag Tryz.func143 rfl (by decide) ?_;(conv=>whnf)
 refine dC (ax _ _ _) (fun _=>?_) (fun _=>?_)<;>(conv=>whnf)
 ·rename_i h0
  have e0:((s.data.getD (0:Int).toNat 0).toNat:Int)=lZ s 0:=rfl
  by_cases hf:97<=lZ s 0/\lZ s 0<=122
  ·repeat' first|(refine at_ ?_;conv=>whnf)|(refine ah (fun _=>?_) (fun _=>?_)<;>conv=>whnf)
   refine aH.loopF ac ag (fun k:Nat=>k<=s.size/\∀j,j<k->Ag (lZ s j)) (fun k=>[(3, .int .i64 (k:Int))]) (fun _=>[]) (fun k=>s.size-k) 0 ⟨by omega,fun j hj=>by omega⟩ ?_;conv=>whnf
   refine⟨sI,?_⟩
   rintro k ⟨hk,ha⟩
   conv=>whnf
   refine ah (fun h1=>?_) (fun h1=>?_)<;>conv=>whnf
   ·have ek:((s.data.getD (k:Int).toNat 0).toNat:Int)=lZ s k:=rfl
    by_cases hg:Ag (lZ s k)
    ·have hg':=hg
     unfold Ag at hg'
     repeat' first|(refine at_ ?_;conv=>whnf)|(refine ah (fun _=>?_) (fun _=>?_)<;>conv=>whnf)
     all_goals
      refine⟨k+1,sI,⟨by omega,fun j hj=>?_⟩,by dsimp only;omega⟩
      by_cases e:j=k
      ·subst e;exact hg
      ·exact ha j (by omega)
    ·have hbad:¬cx s:=fun h=>hg (h.2.2.1 k (by omega))
     unfold Ag at hg
     repeat' first|(refine at_ ?_;conv=>whnf)|(refine ah (fun _=>?_) (fun _=>?_)<;>conv=>whnf)
     all_goals exact⟨aq hbad,rfl⟩
   ·(refine oP (zu) ?_;conv=>whnf)
    refine dC (uU oa s (by decide)) (fun _=>?_) (fun _=>?_)<;>(conv=>whnf)
    ·rename_i h;exact⟨aq (fun hh=>hh.2.2.2 h),rfl⟩
    ·rename_i h;exact⟨az ⟨by omega,hf,fun i hi=>ha i (by omega),h⟩,rfl⟩
  ·repeat' first|(refine at_ ?_;conv=>whnf)|(refine ah (fun _=>?_) (fun _=>?_)<;>conv=>whnf)
   all_goals exact⟨aq (fun h=>hf h.2.1),rfl⟩
 ·rename_i h0
  exact⟨aq (fun h=>h0 (by have:=h.1;omega)),rfl⟩
set_option maxRecDepth 100000
set_option maxHeartbeats 4000000
theorem cI (l:List Int) (hl:l.length<=4503599627370496):ab Tryz.prog 134 [.sl 0 an l] (fun u=>u= .int .i64 (cz l)):=by
 refine ab.intro ac ag Tryz.func134 rfl (by decide) ?_;(conv=>whnf)
 refine aH.loopF ac ag (fun k:Nat=>k<=l.length/\cz l=cz (l.drop k)) (fun k=>[(7, .int .i64 (k:Int))]) (fun _=>[]) (fun k=>l.length-k) 0 ⟨by omega,rfl⟩ ?_;conv=>whnf
 refine⟨sI,?_⟩
 rintro k ⟨hk,he⟩
 conv=>whnf
 repeat' first|(refine at_ ?_;conv=>whnf)|(refine ah (fun _=>?_) (fun _=>?_)<;>conv=>whnf)
 ·rename_i h1 h2
  rw[uP (by omega),if_pos (by simpa using h2)] at he
  exact⟨ae (by rw[he];rfl),rfl⟩
 ·rename_i h1 h2
  rw[uP (by omega),if_neg (by simpa using h2)] at he
  exact⟨k+1,sI,⟨by omega,he⟩,by dsimp only;omega⟩
 ·obtain rfl:k=l.length:=by omega
  rw[List.drop_length] at he
  exact⟨ae he.symm,rfl⟩
theorem iH (e:Int):ab Tryz.prog 135 [.bool true, .int .i64 e] (fun u=>u= .int .i64 e):=by
 refine ab.intro ac ag Tryz.func135 rfl (by decide) ?_;(conv=>whnf)
 exact⟨rfl,rfl⟩
theorem gH (e:Int):ab Tryz.prog 135 [.bool false, .int .i64 e] (fun u=>u= .int .i64 0):=by
 refine ab.intro ac ag Tryz.func135 rfl (by decide) ?_;(conv=>whnf)
 exact⟨rfl,rfl⟩
def cL (i n:Int):Int:=if i<0\/n<=i then 5 else 0
theorem gx (i n:Int):ab Tryz.prog 203 [.int .i64 i, .int .i64 n] (fun u=>u= .int .i64 (cL i n)):=by
 refine ab.intro ac ag Tryz.func203 rfl (by decide) ?_;(conv=>whnf)
 by_cases h:i<0\/n<=i
 ·rw[cL,if_pos h]
  repeat' first|(refine at_ ?_;conv=>whnf)|(refine ah (fun _=>?_) (fun _=>?_)<;>conv=>whnf)
  all_goals
   (refine oP (iH 5) ?_;conv=>whnf)
   exact⟨rfl,rfl⟩
 ·rw[cL,if_neg h]
  repeat' first|(refine at_ ?_;conv=>whnf)|(refine ah (fun _=>?_) (fun _=>?_)<;>conv=>whnf)
  (refine oP (gH 5) ?_;conv=>whnf)
  exact⟨rfl,rfl⟩
def bO (n:Int):Prop:=-100<=n/\n<=100
instance (n:Int):Decidable (bO n):=inferInstanceAs (Decidable (_/\_))
def c6 (l:g7):Prop:=bO l.c/\bO l.n/\bO l.t/\bO l.f
instance (l:g7):Decidable (c6 l):=inferInstanceAs (Decidable (_/\_))
theorem oB (n:Int):ab Tryz.prog 205 [.int .i64 n] (fun u=>u= .bool (decide (bO n))):=by
 refine ab.intro ac ag Tryz.func205 rfl (by decide) ?_;(conv=>whnf)
 repeat' first|(refine at_ ?_;conv=>whnf)|(refine ah (fun _=>?_) (fun _=>?_)<;>conv=>whnf)
 all_goals first
  |exact⟨az (by unfold bO;omega),rfl⟩
  |exact⟨aq (by unfold bO;omega),rfl⟩
theorem mA (l:g7):ab Tryz.prog 140 [.agg (bM l)] (fun u=>u= .bool (decide (c6 l))):=by
 refine ab.intro ac ag Tryz.func140 rfl (by decide) ?_;(conv=>whnf)
 refine al rfl ?_
 conv=>whnf
 refine dC (oB _) (fun _=>?_) (fun _=>?_)<;>(conv=>whnf)
 ·refine dC (oB _) (fun _=>?_) (fun _=>?_)<;>(conv=>whnf)
  ·refine dC (oB _) (fun _=>?_) (fun _=>?_)<;>(conv=>whnf)
   ·refine dC (oB _) (fun _=>?_) (fun _=>?_)<;>(conv=>whnf)
    ·exact⟨az ⟨by assumption,by assumption,by assumption,by assumption⟩,rfl⟩
    ·rename_i h;exact⟨aq (fun hh=>h hh.2.2.2),rfl⟩
   ·rename_i h;exact⟨aq (fun hh=>h hh.2.2.1),rfl⟩
  ·rename_i h;exact⟨aq (fun hh=>h hh.2.1),rfl⟩
 ·rename_i h;exact⟨aq (fun hh=>h hh.1),rfl⟩
theorem wM (l:g7):ab Tryz.prog 158 [.agg (bM l)] (fun u=>u= .bool (decide (c6 l))):=by
 refine ab.intro ac ag Tryz.func158 rfl (by decide) ?_;(conv=>whnf)
 refine al rfl ?_
 conv=>whnf
 refine dC (ax _ _ _) (fun _=>?_) (fun _=>?_)<;>(conv=>whnf)
 ·refine dC (ax _ _ _) (fun _=>?_) (fun _=>?_)<;>(conv=>whnf)
  ·refine dC (ax _ _ _) (fun _=>?_) (fun _=>?_)<;>(conv=>whnf)
   ·refine dC (ax _ _ _) (fun _=>?_) (fun _=>?_)<;>(conv=>whnf)
    ·exact⟨az ⟨by assumption,by assumption,by assumption,by assumption⟩,rfl⟩
    ·rename_i h;exact⟨aq (fun hh=>h hh.2.2.2),rfl⟩
   ·rename_i h;exact⟨aq (fun hh=>h hh.2.2.1),rfl⟩
  ·rename_i h;exact⟨aq (fun hh=>h hh.2.1),rfl⟩
 ·rename_i h;exact⟨aq (fun hh=>h hh.1),rfl⟩
def fe (k t:Int):Prop:=(k=1\/k=2\/k=3)/\t=1\/(k=4\/k=5)/\t≠1
instance (k t:Int):Decidable (fe k t):=inferInstanceAs (Decidable (_\/_))
theorem F3 (k t:Int):ab Tryz.prog 225 [.int .i64 k, .int .i64 t] (fun u=>u= .bool (decide (fe k t))):=by
 refine ab.intro ac ag Tryz.func225 rfl (by decide) ?_;(conv=>whnf)
 repeat' first|(refine at_ ?_;conv=>whnf)|(refine ah (fun _=>?_) (fun _=>?_)<;>conv=>whnf)
 all_goals first
  |exact⟨az (by unfold fe;omega),rfl⟩
  |exact⟨aq (by unfold fe;omega),rfl⟩
def il (r:bp) (t:Int):Prop:=(r.kind≠1/\(0<r.guards.length\/0<r.some_.length\/0<r.forall_.length\/0<r.send.length))\/(r.kind≠1/\r.kind≠2/\r.kind≠3/\(r.read≠-1\/r.write≠-1))\/
 (r.kind≠2/\r.kind≠5/\(r.pfrom≠0\/r.pto≠0))\/(r.kind≠3/\0<r.response.length)\/(r.kind≠5/\r.direction≠0)\/(r.kind≠4/\(r.at_≠0\/0<r.left.length\/0<r.right.length))\/(0<r.parent.length/\¬(r.kind=4/\t=4))
instance (r:bp) (t:Int):Decidable (il r t):=inferInstanceAs (Decidable (_\/_))
theorem BA (r:bp) (t:Int) (hr:D2 r) (hf:fe r.kind t):ab Tryz.prog 226 [.agg (dF r), .int .i64 t] (fun u=>u= .bool (decide (il r t))):=by
 have hb:=wK hr
 refine ab.intro ac ag Tryz.func226 rfl (by decide) ?_;(conv=>whnf)
 refine wi ?_
 conv=>whnf
 unfold fe at hf
 repeat' first|(refine at_ ?_;conv=>whnf)|(refine ah (fun _=>?_) (fun _=>?_)<;>conv=>whnf)
 all_goals first
  |exact⟨az (by unfold il;omega),rfl⟩
  |exact⟨aq (by unfold il;omega),rfl⟩
theorem kY (p:au) (r:bp) (hf:fe r.kind p.topology):ab Tryz.prog 233 [.agg (aO p), .agg (dF r)] (fun u=>u= .bool (decide (il r p.topology))):=by
 refine ab.intro ac ag Tryz.func233 rfl (by decide) ?_;(conv=>whnf)
 refine al rfl ?_
 conv=>whnf
 refine al rfl ?_
 conv=>whnf
 unfold fe at hf
 repeat' first|(refine at_ ?_;conv=>whnf)|(refine ah (fun _=>?_) (fun _=>?_)<;>conv=>whnf)
 all_goals first
  |exact⟨az (by unfold il;omega),rfl⟩
  |exact⟨aq (by unfold il;omega),rfl⟩
set_option maxRecDepth 100000
set_option maxHeartbeats 4000000
theorem wN {α:Type} {l:List α} {i:Nat} (d:α) (h:i<l.length):l.drop i=l.getD i d::l.drop (i+1):=by
 rw[List.drop_eq_getElem_cons h]
 simp[List.getD,h]
theorem cf {α:Type} {l:List α} (f:α->Int) {k:Nat} (d:α) (h:k<l.length):cz ((l.drop k).map f)=if f (l.getD k d)≠0 then f (l.getD k d) else cz ((l.drop (k+1)).map f):=by
 rw[wN d h];rfl
def eK (c:Int):Int:=if c<1\/100<c then 1 else 0
def je (l:g7):Int:=if c6 l then 0 else 4
def gE (m:Int) (g:eg):Int:=cz [cL g.message m,eK g.coef,je g.bound]
def aG (m:Int) (l:List eg):Int:=if cz (l.map (gE m))≠0 then cz (l.map (gE m)) else if 2<l.length then 4 else 0
theorem EE (p:au) (l:List eg) (hl:l.length<=4503599627370496):ab Tryz.prog 227 [.agg (aO p), .sl aE bT l] (fun u=>u= .int .i64 (aG p.messages.length l)):=by
 refine ab.intro ac ag Tryz.func227 rfl (by decide) ?_;(conv=>whnf)
 refine al rfl ?_
 conv=>whnf
 refine aH.loopF ac ag (fun k:Nat=>k<=l.length/\cz (l.map (gE p.messages.length))=cz ((l.drop k).map (gE p.messages.length))) (fun k=>[(10, .int .i64 (k:Int))]) (fun _=>[]) (fun k=>l.length-k) 0 ⟨by omega,rfl⟩ ?_;conv=>whnf
 refine⟨sI,?_⟩
 rintro k ⟨hk,he⟩
 conv=>whnf
 refine ah (fun h1=>?_) (fun h1=>?_)<;>conv=>whnf
 ·rw[cf _ aE (by omega)] at he
  refine nI ?_
  rw[tN]
  generalize l.getD k aE=g at he
  conv=>whnf
  refine dI ?_
  conv=>whnf
  (refine oC (gx g.message p.messages.length) ?_;conv=>whnf)
  have fin:∀c:Int,c=eK g.coef->∀b:Int,b=je g.bound->cz [cL g.message p.messages.length,c,b]=gE p.messages.length g:=by rintro c rfl b rfl;rfl
  by_cases hc:g.coef<1\/100<g.coef
  ·have ec:(1:Int)=eK g.coef:=by rw[eK,if_pos hc]
   repeat' first|(refine at_ ?_;conv=>whnf)|(refine ah (fun _=>?_) (fun _=>?_)<;>conv=>whnf)
   all_goals
    (refine oC (iH 1) ?_;conv=>whnf)
    refine dD (mA g.bound) (fun _=>?_) (fun _=>?_)<;>(conv=>whnf)
    ·rename_i hb
     have eb:(0:Int)=je g.bound:=by rw[je,if_pos hb]
     (refine oC (gH 4) ?_;conv=>whnf)
     refine dE ?_
     conv=>whnf
     (refine oC (cI _ (by simp)) ?_;conv=>whnf)
     rw[fin _ ec _ eb]
     refine ah (fun h2=>?_) (fun h2=>?_)<;>conv=>whnf
     ·rw[if_pos h2] at he
      exact⟨ae (by rw[aG,he,if_pos h2]),rfl⟩
     ·rw[if_neg h2] at he
      repeat' first|(refine at_ ?_;conv=>whnf)|(refine ah (fun _=>?_) (fun _=>?_)<;>conv=>whnf)
      exact⟨k+1,sI,⟨by omega,he⟩,by dsimp only;omega⟩
    ·rename_i hb
     have eb:(4:Int)=je g.bound:=by rw[je,if_neg hb]
     (refine oC (iH 4) ?_;conv=>whnf)
     refine dE ?_
     conv=>whnf
     (refine oC (cI _ (by simp)) ?_;conv=>whnf)
     rw[fin _ ec _ eb]
     refine ah (fun h2=>?_) (fun h2=>?_)<;>conv=>whnf
     ·rw[if_pos h2] at he
      exact⟨ae (by rw[aG,he,if_pos h2]),rfl⟩
     ·rw[if_neg h2] at he
      repeat' first|(refine at_ ?_;conv=>whnf)|(refine ah (fun _=>?_) (fun _=>?_)<;>conv=>whnf)
      exact⟨k+1,sI,⟨by omega,he⟩,by dsimp only;omega⟩
  ·have ec:(0:Int)=eK g.coef:=by rw[eK,if_neg hc]
   repeat' first|(refine at_ ?_;conv=>whnf)|(refine ah (fun _=>?_) (fun _=>?_)<;>conv=>whnf)
   (refine oC (gH 1) ?_;conv=>whnf)
   refine dD (mA g.bound) (fun _=>?_) (fun _=>?_)<;>(conv=>whnf)
   ·rename_i hb
    have eb:(0:Int)=je g.bound:=by rw[je,if_pos hb]
    (refine oC (gH 4) ?_;conv=>whnf)
    refine dE ?_
    conv=>whnf
    (refine oC (cI _ (by simp)) ?_;conv=>whnf)
    rw[fin _ ec _ eb]
    refine ah (fun h2=>?_) (fun h2=>?_)<;>conv=>whnf
    ·rw[if_pos h2] at he
     exact⟨ae (by rw[aG,he,if_pos h2]),rfl⟩
    ·rw[if_neg h2] at he
     repeat' first|(refine at_ ?_;conv=>whnf)|(refine ah (fun _=>?_) (fun _=>?_)<;>conv=>whnf)
     exact⟨k+1,sI,⟨by omega,he⟩,by dsimp only;omega⟩
   ·rename_i hb
    have eb:(4:Int)=je g.bound:=by rw[je,if_neg hb]
    (refine oC (iH 4) ?_;conv=>whnf)
    refine dE ?_
    conv=>whnf
    (refine oC (cI _ (by simp)) ?_;conv=>whnf)
    rw[fin _ ec _ eb]
    refine ah (fun h2=>?_) (fun h2=>?_)<;>conv=>whnf
    ·rw[if_pos h2] at he
     exact⟨ae (by rw[aG,he,if_pos h2]),rfl⟩
    ·rw[if_neg h2] at he
     repeat' first|(refine at_ ?_;conv=>whnf)|(refine ah (fun _=>?_) (fun _=>?_)<;>conv=>whnf)
     exact⟨k+1,sI,⟨by omega,he⟩,by dsimp only;omega⟩
 ·obtain rfl:k=l.length:=by omega
  rw[List.drop_length] at he
  have h0:cz (l.map (gE p.messages.length))=0:=he
  refine ah (fun h2=>?_) (fun h2=>?_)<;>conv=>whnf
  ·(refine oP (iH 4) ?_;conv=>whnf)
   exact⟨ae (by rw[aG,h0,if_neg (by simp),if_pos (by omega)]),rfl⟩
  ·(refine oP (gH 4) ?_;conv=>whnf)
   exact⟨ae (by rw[aG,h0,if_neg (by simp),if_neg (by omega)]),rfl⟩
def iJ (l:List Int) (n:Int):Int:=if(l.length:Int)≠n then 1 else if jC l n then 0 else 5
theorem wO (l:List Int) (n:Int) (hl:l.length<=4503599627370496):ab Tryz.prog 229 [.sl 0 an l, .int .i64 n] (fun u=>u= .int .i64 (iJ l n)):=by
 refine ab.intro ac ag Tryz.func229 rfl (by decide) ?_;(conv=>whnf)
 refine ah (fun h0=>?_) (fun h0=>?_)<;>conv=>whnf
 ·exact⟨ae (by rw[iJ,if_pos h0]),rfl⟩
 refine aH.loopF ac ag (fun k:Nat=>k<=l.length/\∀j,j<k->0<=l.getD j 0/\l.getD j 0<n) (fun k=>[(14, .int .i64 (k:Int))]) (fun _=>[]) (fun k=>l.length-k) 0 ⟨by omega,fun j hj=>by omega⟩ ?_;conv=>whnf
 refine⟨sI,?_⟩
 rintro k ⟨hk,ha⟩
 conv=>whnf
 refine ah (fun h1=>?_) (fun h1=>?_)<;>conv=>whnf
 ·refine nI ?_
  rw[tN]
  conv=>whnf
  (refine oP (gx _ _) ?_;conv=>whnf)
  by_cases hb:l.getD k 0<0\/n<=l.getD k 0
  ·rw[cL,if_pos hb]
   repeat' first|(refine at_ ?_;conv=>whnf)|(refine ah (fun _=>?_) (fun _=>?_)<;>conv=>whnf)
   refine⟨ae ?_,rfl⟩
   rw[iJ,if_neg h0,if_neg]
   intro h
   have:=h k (by omega)
   omega
  ·rw[cL,if_neg hb]
   repeat' first|(refine at_ ?_;conv=>whnf)|(refine ah (fun _=>?_) (fun _=>?_)<;>conv=>whnf)
   refine⟨k+1,sI,⟨by omega,fun j hj=>?_⟩,by dsimp only;omega⟩
   by_cases e:j=k
   ·subst e;omega
   ·exact ha j (by omega)
 ·exact⟨ae (by rw[iJ,if_neg h0,if_pos (show jC l n from fun j hj=>ha j (by omega))]),rfl⟩
def ew (m v:Int):Int:=if v< -1\/m<=v then 5 else 0
theorem nt (p:au) (v:Int):ab Tryz.prog 228 [.agg (aO p), .int .i64 v] (fun u=>u= .int .i64 (ew p.values.length v)):=by
 refine ab.intro ac ag Tryz.func228 rfl (by decide) ?_;(conv=>whnf)
 refine al rfl ?_
 conv=>whnf
 by_cases h:v< -1\/(p.values.length:Int)<=v
 ·rw[ew,if_pos h]
  repeat' first|(refine at_ ?_;conv=>whnf)|(refine ah (fun _=>?_) (fun _=>?_)<;>conv=>whnf)
  all_goals
   (refine oP (iH 5) ?_;conv=>whnf)
   exact⟨rfl,rfl⟩
 ·rw[ew,if_neg h]
  repeat' first|(refine at_ ?_;conv=>whnf)|(refine ah (fun _=>?_) (fun _=>?_)<;>conv=>whnf)
  (refine oP (gH 5) ?_;conv=>whnf)
  exact⟨rfl,rfl⟩
def EF (g:eg):List Int:=[g.message,g.coef,g.bound.c,g.bound.n,g.bound.t,g.bound.f]
theorem g8 {a b:eg}:EF a=EF b↔a=b:=by
 constructor
 ·intro h
  obtain⟨m,c,⟨x,y,z,w⟩⟩:=a
  obtain⟨m',c',⟨x',y',z',w'⟩⟩:=b
  simp only[EF,List.cons.injEq,and_true] at h
  obtain⟨rfl,rfl,rfl,rfl,rfl,rfl⟩:=h
  rfl
 ·rintro rfl;rfl
theorem aP {α:Type} {l:List α} {k:Nat} (d:α) (h:k<l.length):l.getD k d∈l:=by
 rw[gD,gL h]
 exact List.getElem_mem _
theorem bl {α:Type} {l:List α} {k:Nat} (d:α) (h:k<l.length):l.take (k+1)=l.take k++[l.getD k d]:=by
 rw[List.take_succ_eq_append_getElem h,gD,gL h]
 rfl
theorem zw (l:List eg) (g:eg) (hl:l.length<=4503599627370496):ab Tryz.prog 206 [.sl aE bT l, .agg (bT g)] (fun u=>∃n:Int,u= .int .i64 n/\(0<=n↔g∈l)):=by
 refine ab.intro ac ag Tryz.func206 rfl (by decide) ?_;(conv=>whnf)
 refine al rfl ?_
 conv=>whnf
 refine aH.loopF ac ag (fun k:Nat=>k<=l.length/\g∉l.take k) (fun k=>[(8, .int .i64 (k:Int))]) (fun _=>[]) (fun k=>l.length-k) 0 ⟨by omega,by simp⟩ ?_;conv=>whnf
 refine⟨sI,?_⟩
 rintro k ⟨hk,ha⟩
 conv=>whnf
 repeat' first|(refine at_ ?_;conv=>whnf)|(refine ah (fun _=>?_) (fun _=>?_)<;>conv=>whnf)
 ·rename_i h1 h2
  rw[tN] at h2
  have h2:g=l.getD k aE:=g8.1 h2
  refine⟨⟨k,rfl,fun _=>?_,fun _=>by omega⟩,rfl⟩
  rw[h2];exact aP _ (by omega)
 ·rename_i h1 h2
  rw[tN] at h2
  refine⟨k+1,sI,⟨by omega,?_⟩,by dsimp only;omega⟩
  rw[bl aE (by omega),List.mem_append,List.mem_singleton,not_or]
  exact⟨ha,fun e=>h2 (g8.2 e)⟩
 ·obtain rfl:k=l.length:=by omega
  rw[List.take_length] at ha
  exact⟨⟨-1,rfl,fun h=>by omega,fun h=>absurd h ha⟩,rfl⟩
theorem sQ (l:List eg) (g:eg) (hl:l.length<=4503599627370496):ab Tryz.prog 204 [.sl aE bT l, .agg (bT g)] (fun u=>u= .bool (decide (g∈l))):=by
 refine ab.intro ac ag Tryz.func204 rfl (by decide) ?_;(conv=>whnf)
 refine al rfl ?_
 conv=>whnf
 refine ak.of_pure (n:=5) (zw l g hl) rfl ?_
 rintro _ ⟨n,rfl,hn⟩
 conv=>whnf
 refine ah (fun h=>?_) (fun h=>?_)<;>conv=>whnf
 ·exact⟨az (hn.1 h),rfl⟩
 ·exact⟨aq (fun hh=>h (hn.2 hh)),rfl⟩
def im (acc:List eg) (g:eg):List eg:=if g∈acc then acc else acc++[g]
def aA (rs:List bp):List eg:=(rs.flatMap (·.guards)).foldl im []
def EG (l:List eg):cn:=.row 132 aE bT l
theorem pN (gs:List eg):∀acc,(gs.foldl im acc).length<=acc.length+gs.length:=by
 induction gs with
 |nil=>intro acc;simp
 |cons g gs ih=>
  intro acc
  have:=ih (im acc g)
  have h2:(im acc g).length<=acc.length+1:=by unfold im;split<;>simp
  simp only[List.foldl_cons,List.length_cons]
  omega
theorem BB {rs:List bp} (h:∀r∈rs,r.guards.length<=1000):(rs.flatMap (·.guards)).length<=1000*rs.length:=by
 induction rs with
 |nil=>simp
 |cons r rs ih=>
  have h1:=h r List.mem_cons_self
  have h2:=ih fun x hx=>h x (List.mem_cons_of_mem _ hx)
  simp only[List.flatMap_cons,List.length_append,List.length_cons]
  omega
def Ir (p:au):Prop:=p.rules.length<=1000/\∀j,j<p.rules.length->(p.rules.getD j ar).guards.length<=1000
theorem wP {p:au} (h:Ir p):∀r∈p.rules,r.guards.length<=1000:=by
 intro r hr
 obtain⟨j,hj,rfl⟩:=List.getElem_of_mem hr
 have:=h.2 j hj
 rwa [gD,gL hj] at this
def pO (rs:List bp) (i:Nat) (r:bp) (j:Nat):List eg:=(((rs.take i).flatMap (·.guards))++r.guards.take j).foldl im []
theorem rD (rs:List bp) (i:Nat) (r:bp):pO rs i r 0=aA (rs.take i):=by simp[pO,aA]
theorem rE (rs:List bp) (i:Nat) (r:bp) {j:Nat} (h:j<r.guards.length):pO rs i r (j+1)=im (pO rs i r j) (r.guards.getD j aE):=by
 rw[pO,bl aE h,<-List.append_assoc,List.foldl_append];rfl
theorem uY (rs:List bp) {i:Nat} (h:i<rs.length):pO rs i (rs.getD i ar) (rs.getD i ar).guards.length=aA (rs.take (i+1)):=by
 rw[aA,bl ar h,List.flatMap_append,pO,List.take_length];simp
theorem uZ {p:au} (h:Ir p) (i j:Nat):(pO p.rules i (p.rules.getD i ar) j).length<=1001000:=by
 have h1:=BB (rs:=p.rules.take i) fun r hr=>wP h r (List.mem_of_mem_take hr)
 have h2:=pN ((((p.rules.take i).flatMap (·.guards))++(p.rules.getD i ar).guards.take j)) []
 have h3:=h.1
 have h4:(p.rules.getD i ar).guards.length<=1000:=by
  by_cases hi:i<p.rules.length
  ·exact h.2 i hi
  ·rw[gD,List.getElem?_eq_none (by omega)];simp[ar]
 unfold pO
 simp only[List.length_append,List.length_take,List.length_nil] at h1 h2
 omega
theorem ob (p:au) (hp:Ir p):ab Tryz.prog 139 [.agg (aO p)] (fun u=>u= .sl aE bT (aA p.rules)):=by
 have hle:=hp.1
 refine ab.intro ac ag Tryz.func139 rfl (by decide) ?_;(conv=>whnf)
 refine al rfl ?_
 conv=>whnf
 refine aH.loopF ac ag (fun i:Nat=>i<=p.rules.length) (fun i=>[(11, .int .i64 (i:Int)),(3, .row 1000 (aA (p.rules.take i)).length 6)]) (fun i=>[(1000,EG (aA (p.rules.take i)))]) (fun i=>p.rules.length-i) 0 (by omega) ?_;conv=>whnf
 refine⟨aL.by_ [(1000, .nil 6)] _ 400 rfl (aa) (aa),?_⟩
 intro i hi
 conv=>whnf
 refine ah (fun h1=>?_) (fun h1=>?_)<;>conv=>whnf
 ·refine nI ?_
  rw[tN]
  have hil:i<p.rules.length:=by omega
  have hgl:=hp.2 i hil
  have hpl:=uZ hp i
  have hall:=uY p.rules hil
  have hzero:=rD p.rules i (p.rules.getD i ar)
  have hsucc:=fun j=>rE p.rules i (p.rules.getD i ar) (j:=j)
  generalize p.rules.getD i ar=r at hgl hpl hall hzero hsucc
  rw[<-hzero]
  generalize pO p.rules i r=out at hpl hall hsucc
  conv=>whnf
  refine aH.loopF ac ag (fun j:Nat=>j<=r.guards.length) (fun j=>[(18, .int .i64 (j:Int)),(3, .row 1000 (out j).length 6),(5, .top),(15, .top)]) (fun j=>[(1000,EG (out j))]) (fun j=>r.guards.length-j) 0 (by omega) ?_;conv=>whnf
  refine⟨sI,?_⟩
  intro j hj
  conv=>whnf
  refine ah (fun h2=>?_) (fun h2=>?_)<;>conv=>whnf
  ·refine nI ?_
   rw[tN]
   have hs:=hsucc j (by omega)
   have hlj:=hpl j
   generalize r.guards.getD j aE=g at hs
   conv=>whnf
   refine ak.borrow (n:=5) (sQ (out j) g (by omega)) rfl (by rintro _ rfl;rfl) ?_
   rintro _ rfl
   by_cases hm:g∈out j
   ·rw[decide_eq_true hm]
    conv=>whnf
    repeat' first|(refine at_ ?_;conv=>whnf)|(refine ah (fun _=>?_) (fun _=>?_)<;>conv=>whnf)
    have e:out (j+1)=out j:=by rw[hs,im,if_pos hm]
    refine⟨j+1,?_,by omega,by dsimp only;omega⟩
    dsimp only
    rw[e]
    exact sI
   ·rw[decide_eq_false hm]
    conv=>whnf
    refine bw aE bT [g] rfl ?_
    conv=>whnf
    repeat' first|(refine at_ ?_;conv=>whnf)|(refine ah (fun _=>?_) (fun _=>?_)<;>conv=>whnf)
    have e:out (j+1)=out j++[g]:=by rw[hs,im,if_neg hm]
    refine⟨j+1,?_,by omega,by dsimp only;omega⟩
    dsimp only
    rw[e]
    exact aL.by_ [(1000, .old 29)] _ 400 rfl (aa) (aa)
  ·obtain rfl:j=r.guards.length:=by omega
   repeat' first|(refine at_ ?_;conv=>whnf)|(refine ah (fun _=>?_) (fun _=>?_)<;>conv=>whnf)
   refine⟨i+1,?_,by omega,by dsimp only;omega⟩
   dsimp only
   rw[<-hall]
   exact sI
 ·obtain rfl:i=p.rules.length:=by omega
  rw[List.take_length]
  exact⟨rfl,rfl⟩
set_option maxRecDepth 100000
set_option maxHeartbeats 4000000
theorem BC (a b:eg):ab Tryz.prog 234 [.agg (bT a), .agg (bT b)] (fun u=>u= .bool (decide (a=b))):=by
 refine ab.intro ac ag Tryz.func234 rfl (by decide) ?_;(conv=>whnf)
 refine al rfl ?_
 conv=>whnf
 refine al rfl ?_
 conv=>whnf
 refine ah (fun h1=>?_) (fun h1=>?_)<;>conv=>whnf
 ·refine ah (fun h2=>?_) (fun h2=>?_)<;>conv=>whnf
  ·refine ah (fun h3=>?_) (fun h3=>?_)<;>conv=>whnf
   ·refine⟨az (g8.1 ?_),rfl⟩
    simp only[List.cons.injEq,and_true] at h3
    simp only[EF,h1,h2,h3]
   ·exact⟨aq (fun h=>h3 (by rw[h])),rfl⟩
  ·exact⟨aq (fun h=>h2 (by rw[h])),rfl⟩
 ·exact⟨aq (fun h=>h1 (by rw[h])),rfl⟩
theorem EH (l:List eg) (g:eg) (hl:l.length<=4503599627370496):ab Tryz.prog 211 [.sl aE bT l, .agg (bT g)] (fun u=>∃n:Int,u= .int .i64 n/\(n<0↔g∉l)):=by
 refine ab.intro ac ag Tryz.func211 rfl (by decide) ?_;(conv=>whnf)
 refine al rfl ?_
 conv=>whnf
 refine aH.loopF ac ag (fun k:Nat=>k<=l.length/\g∉l.take k) (fun k=>[(5, .int .i64 (k:Int))]) (fun _=>[]) (fun k=>l.length-k) 0 ⟨by omega,by simp⟩ ?_;conv=>whnf
 refine⟨sI,?_⟩
 rintro k ⟨hk,ha⟩
 conv=>whnf
 refine ah (fun h1=>?_) (fun h1=>?_)<;>conv=>whnf
 ·refine dI ?_
  conv=>whnf
  refine nI ?_
  rw[tN]
  conv=>whnf
  refine dD (BC (l.getD k aE) g) (fun _=>?_) (fun _=>?_)<;>(conv=>whnf)
  ·rename_i h2
   refine⟨⟨k,rfl,fun h=>by omega,fun h=>absurd ?_ h⟩,rfl⟩
   rw[<-h2];exact aP _ (by omega)
  ·rename_i h2
   repeat' first|(refine at_ ?_;conv=>whnf)|(refine ah (fun _=>?_) (fun _=>?_)<;>conv=>whnf)
   refine⟨k+1,sI,⟨by omega,?_⟩,by dsimp only;omega⟩
   rw[bl aE (by omega),List.mem_append,List.mem_singleton,not_or]
   exact⟨ha,fun e=>h2 e.symm⟩
 ·obtain rfl:k=l.length:=by omega
  rw[List.take_length] at ha
  exact⟨⟨-1,rfl,fun _=>ha,fun _=>by omega⟩,rfl⟩
theorem rF (p:au) (hp:Ir p):ab Tryz.prog 157 [.agg (aO p)] (fun u=>u= .sl aE bT (aA p.rules)):=by
 have hle:=hp.1
 refine ab.intro ac ag Tryz.func157 rfl (by decide) ?_;(conv=>whnf)
 refine al rfl ?_
 conv=>whnf
 refine aH.loopF ac ag (fun i:Nat=>i<=p.rules.length) (fun i=>[(4, .int .i64 (i:Int)),(3, .row 1000 (aA (p.rules.take i)).length 6)]) (fun i=>[(1000,EG (aA (p.rules.take i)))]) (fun i=>p.rules.length-i) 0 (by omega) ?_;conv=>whnf
 refine⟨aL.by_ [(1000, .nil 6)] _ 400 rfl (aa) (aa),?_⟩
 intro i hi
 conv=>whnf
 refine ah (fun h1=>?_) (fun h1=>?_)<;>conv=>whnf
 ·have hil:i<p.rules.length:=by omega
  have hgl:=hp.2 i hil
  have hpl:=uZ hp i
  have hall:=uY p.rules hil
  have hzero:=rD p.rules i (p.rules.getD i ar)
  have hsucc:=fun j=>rE p.rules i (p.rules.getD i ar) (j:=j)
  rw[<-hzero]
  generalize ho:pO p.rules i (p.rules.getD i ar)=out at hpl hall hsucc
  refine aH.loopF ac ag (fun j:Nat=>j<=(p.rules.getD i ar).guards.length) (fun j=>[(5, .int .i64 (j:Int)),(3, .row 1000 (out j).length 6)]) (fun j=>[(1000,EG (out j))]) (fun j=>(p.rules.getD i ar).guards.length-j) 0 (by omega) ?_;conv=>whnf
  refine⟨sI,?_⟩
  intro j hj
  conv=>whnf
  refine nI ?_
  rw[tN]
  conv=>whnf
  refine ah (fun h2=>?_) (fun h2=>?_)<;>conv=>whnf
  ·refine nI ?_
   rw[tN]
   conv=>whnf
   refine nI ?_
   rw[tN]
   have hs:=hsucc j (by omega)
   have hlj:=hpl j
   generalize (p.rules.getD i ar).guards.getD j aE=g at hs
   conv=>whnf
   refine ak.borrow (n:=5) (EH (out j) g (by omega)) rfl (by rintro _ ⟨n,rfl,_⟩;rfl) ?_
   rintro _ ⟨n,rfl,hn⟩
   conv=>whnf
   refine ah (fun h3=>?_) (fun h3=>?_)<;>conv=>whnf
   ·have hm:=hn.1 h3
    refine bw aE bT [g] rfl ?_
    conv=>whnf
    repeat' first|(refine at_ ?_;conv=>whnf)|(refine ah (fun _=>?_) (fun _=>?_)<;>conv=>whnf)
    have e:out (j+1)=out j++[g]:=by rw[hs,im,if_neg hm]
    refine⟨j+1,?_,by omega,by dsimp only;omega⟩
    dsimp only
    rw[e]
    exact aL.by_ [(1000, .old 41)] _ 400 rfl (aa) (aa)
   ·have hm:g∈out j:=Classical.byContradiction fun h=>h3 (hn.2 h)
    repeat' first|(refine at_ ?_;conv=>whnf)|(refine ah (fun _=>?_) (fun _=>?_)<;>conv=>whnf)
    have e:out (j+1)=out j:=by rw[hs,im,if_pos hm]
    refine⟨j+1,?_,by omega,by dsimp only;omega⟩
    dsimp only
    rw[e]
    exact sI
  ·obtain rfl:j=(p.rules.getD i ar).guards.length:=by omega
   repeat' first|(refine at_ ?_;conv=>whnf)|(refine ah (fun _=>?_) (fun _=>?_)<;>conv=>whnf)
   refine⟨i+1,?_,by omega,by dsimp only;omega⟩
   dsimp only
   rw[<-hall]
   exact sI
 ·obtain rfl:i=p.rules.length:=by omega
  rw[List.take_length]
  exact⟨rfl,rfl⟩
theorem zx (x r:bp):ab Tryz.prog 224 [.agg (dF x), .pd (dF r)] (fun u=>u= .bool (decide (x.name=r.name))):=by
 refine ab.intro ac ag Tryz.func224 rfl (by decide) ?_;(conv=>whnf)
 refine al rfl ?_
 conv=>whnf
 refine ah (fun h=>?_) (fun h=>?_)<;>conv=>whnf
 ·exact⟨az h,rfl⟩
 ·exact⟨aq h,rfl⟩
def gy (rs:List bp) (i:Nat) (r:bp):Prop:=∃j,j<(rs.take i).length/\((rs.take i).getD j ar).name=r.name
instance (rs:List bp) (i:Nat) (r:bp):Decidable (gy rs i r):=inferInstanceAs (Decidable (∃j,j<(rs.take i).length/\_))
theorem BD (l:List bp) (r:bp) (hl:l.length<=4503599627370496):ab Tryz.prog 212 [.sl ar dF l, .fn 224 [.pd (dF r)]] (fun u=>∃n:Int,u= .int .i64 n/\(0<=n↔∃j,j<l.length/\(l.getD j ar).name=r.name)):=by
 refine ab.intro ac ag Tryz.func212 rfl (by decide) ?_;(conv=>whnf)
 refine aH.loopF ac ag (fun k:Nat=>k<=l.length/\∀j,j<k->(l.getD j ar).name≠r.name) (fun k=>[(8, .int .i64 (k:Int))]) (fun _=>[]) (fun k=>l.length-k) 0 ⟨by omega,fun j hj=>by omega⟩ ?_;conv=>whnf
 refine⟨sI,?_⟩
 rintro k ⟨hk,ha⟩
 conv=>whnf
 refine ah (fun h1=>?_) (fun h1=>?_)<;>conv=>whnf
 ·refine nI ?_
  rw[tN]
  conv=>whnf
  refine dC (zx (l.getD k ar) r) (fun _=>?_) (fun _=>?_)<;>(conv=>whnf)
  ·rename_i h2
   exact⟨⟨k,rfl,fun _=>⟨k,by omega,h2⟩,fun _=>by omega⟩,rfl⟩
  ·rename_i h2
   repeat' first|(refine at_ ?_;conv=>whnf)|(refine ah (fun _=>?_) (fun _=>?_)<;>conv=>whnf)
   refine⟨k+1,sI,⟨by omega,fun j hj=>?_⟩,by dsimp only;omega⟩
   by_cases e:j=k
   ·subst e;exact h2
   ·exact ha j (by omega)
 ·exact⟨⟨-1,rfl,fun h=>by omega,fun⟨j,h1,h2⟩=>absurd h2 (ha j (by omega))⟩,rfl⟩
theorem BE (rs:List bp) (i:Nat) (r:bp) (hl:rs.length<=4503599627370496):ab Tryz.prog 162 [.sl ar dF (rs.take i), .fn 224 [.pd (dF r)]] (fun u=>u= .bool (decide (gy rs i r))):=by
 refine ab.intro ac ag Tryz.func162 rfl (by decide) ?_;(conv=>whnf)
 refine ak.of_pure (n:=5) (BD (rs.take i) r (by simp;omega)) rfl ?_
 rintro _ ⟨n,rfl,hn⟩
 conv=>whnf
 refine ah (fun h=>?_) (fun h=>?_)<;>conv=>whnf
 ·exact⟨az (hn.1 h),rfl⟩
 ·exact⟨aq (fun hh=>h (hn.2 hh)),rfl⟩
def BF (a t:Int):Int:=if a<0\/2<a\/(a≠0/\t=3) then 1 else 0
def qL (d t:Int):Int:=if(t=4/\(d<3\/4<d))\/(t≠4/\(d<1\/2<d)) then 1 else 0
def c7 (p:au) (r:bp):Int:=
 if r.kind=1 then cz [aG p.messages.length r.guards,bQ r.some_ p.states.length,bQ r.forall_ p.states.length,ew p.values.length r.read,ew p.values.length r.write,bQ r.send p.messages.length]
 else if r.kind=2 then cz [cL r.pfrom p.states.length,cL r.pto p.states.length,ew p.values.length r.read,ew p.values.length r.write]
 else if r.kind=3 then cz [iJ r.response p.states.length,ew p.values.length r.read,ew p.values.length r.write]
 else if r.kind=4 then cz [bQ r.left p.states.length,bQ r.right p.states.length,bQ r.parent p.states.length,BF r.at_ p.topology]
 else cz [cL r.pfrom p.states.length,cL r.pto p.states.length,qL r.direction p.topology]
def cg (p:au) (i:Nat) (r:bp):Int:=
 if¬cx r.name\/gy p.rules i r then 2 else if¬fe r.kind p.topology\/il r p.topology then 6
 else cz [cL r.src p.states.length,cL r.dst p.states.length,c7 p r]
theorem EI (a b c:Int):cz [a,b,c]=if cz [a,b]≠0 then cz [a,b] else c:=by
 simp only[cz]
 by_cases h1:a=0<;>by_cases h2:b=0<;>by_cases h3:c=0<;>simp[h1,h2,h3]
theorem wQ (p:au) (i:Nat) (hp:gM p) (hi:i<p.rules.length):ab Tryz.prog 193 [.agg (aO p), .int .i64 (i:Int)] (fun u=>u= .int .i64 (cg p i (p.rules.getD i ar))):=by
 have hle:=iT hp
 have hbr:=uR hp hi
 refine ab.intro ac ag Tryz.func193 rfl (by decide) ?_;(conv=>whnf)
 refine al rfl ?_
 conv=>whnf
 refine nI ?_
 rw[tN]
 generalize p.rules.getD i ar=r at hbr
 have hrl:=wK hbr
 conv=>whnf
 refine nI ?_
 rw[tN]
 conv=>whnf
 refine ak.borrow (n:=5) (BE p.rules i r (by omega)) rfl (by rintro _ rfl;rfl) ?_
 rintro _ rfl
 by_cases hv:cx r.name
 ·by_cases ht:gy p.rules i r
  ·rw[decide_eq_true ht]
   conv=>whnf
   refine dC (fd r.name (by omega)) (fun _=>?_) (fun _=>?_)<;>(conv=>whnf)
   ·exact⟨ae (by rw[cg,if_pos (.inr ht)]),rfl⟩
   ·exact⟨ae (by rw[cg,if_pos (.inr ht)]),rfl⟩
  ·rw[decide_eq_false ht]
   have e1:∀x,(if¬cx r.name\/gy p.rules i r then(2:Int) else x)=x:=fun x=>if_neg (by rintro(h|h);exact h hv;exact ht h)
   conv=>whnf
   refine dC (fd r.name (by omega)) (fun _=>?_) (fun _=>?_)<;>(conv=>whnf)
   ·by_cases hf:fe r.kind p.topology
    ·refine dC (F3 r.kind p.topology) (fun _=>?_) (fun _=>?_)<;>(conv=>whnf)
     ·refine dC (BA r p.topology hbr hf) (fun _=>?_) (fun _=>?_)<;>(conv=>whnf)
      ·rename_i hs
       exact⟨ae (by rw[cg,e1,if_pos (.inr hs)]),rfl⟩
      ·rename_i hs
       have e2:cg p i r=cz [cL r.src p.states.length,cL r.dst p.states.length,c7 p r]:=by rw[cg,e1,if_neg (by rintro(h|h);exact h hf;exact hs h)]
       rw[EI] at e2
       refine dI ?_
       conv=>whnf
       (refine oC (gx _ _) ?_;conv=>whnf)
       (refine oC (gx _ _) ?_;conv=>whnf)
       refine dE ?_
       conv=>whnf
       (refine oC (cI _ (by simp)) ?_;conv=>whnf)
       refine ah (fun h3=>?_) (fun h3=>?_)<;>conv=>whnf
       ·rw[if_pos h3] at e2
        exact⟨ae e2.symm,rfl⟩
       ·rw[if_neg h3] at e2
        have ff:=hf
        unfold fe at ff
        by_cases k1:r.kind=1
        ·refine da k1 ?_
         conv=>whnf
         refine dI ?_
         conv=>whnf
         (refine oC (EE p r.guards (by omega)) ?_;conv=>whnf)
         (refine oC (lM r.some_ _ (by omega)) ?_;conv=>whnf)
         (refine oC (lM r.forall_ _ (by omega)) ?_;conv=>whnf)
         (refine oC (nt p r.read) ?_;conv=>whnf)
         (refine oC (nt p r.write) ?_;conv=>whnf)
         (refine oC (lM r.send _ (by omega)) ?_;conv=>whnf)
         refine dE ?_
         conv=>whnf
         (refine oC (cI _ (by simp)) ?_;conv=>whnf)
         exact⟨ae (by rw[e2,c7,if_pos k1]),rfl⟩
        refine j' k1 ?_
        conv=>whnf
        by_cases k2:r.kind=2
        ·refine da k2 ?_
         conv=>whnf
         refine dI ?_
         conv=>whnf
         (refine oC (gx _ _) ?_;conv=>whnf)
         (refine oC (gx _ _) ?_;conv=>whnf)
         (refine oC (nt p r.read) ?_;conv=>whnf)
         (refine oC (nt p r.write) ?_;conv=>whnf)
         refine dE ?_
         conv=>whnf
         (refine oC (cI _ (by simp)) ?_;conv=>whnf)
         exact⟨ae (by rw[e2,c7,if_neg k1,if_pos k2]),rfl⟩
        refine j' k2 ?_
        conv=>whnf
        by_cases k3:r.kind=3
        ·refine da k3 ?_
         conv=>whnf
         refine dI ?_
         conv=>whnf
         (refine oC (wO r.response _ (by omega)) ?_;conv=>whnf)
         (refine oC (nt p r.read) ?_;conv=>whnf)
         (refine oC (nt p r.write) ?_;conv=>whnf)
         refine dE ?_
         conv=>whnf
         (refine oC (cI _ (by simp)) ?_;conv=>whnf)
         exact⟨ae (by rw[e2,c7,if_neg k1,if_neg k2,if_pos k3]),rfl⟩
        refine j' k3 ?_
        conv=>whnf
        by_cases k4:r.kind=4
        ·refine da k4 ?_
         conv=>whnf
         by_cases hm:r.at_<0\/2<r.at_\/(r.at_≠0/\p.topology=3)
         ·have ea:(1:Int)=BF r.at_ p.topology:=by rw[BF,if_pos hm]
          repeat' (first|(refine tI ?_;conv=>whnf)|(refine fI ?_;conv=>whnf)|(refine ah (fun _=>?_) (fun _=>?_)<;>conv=>whnf))
          all_goals
           refine dI ?_
           conv=>whnf
           (refine oC (lM r.left _ (by omega)) ?_;conv=>whnf)
           (refine oC (lM r.right _ (by omega)) ?_;conv=>whnf)
           (refine oC (lM r.parent _ (by omega)) ?_;conv=>whnf)
           (refine oC (iH 1) ?_;conv=>whnf)
           refine dE ?_
           conv=>whnf
           (refine oC (cI _ (by simp)) ?_;conv=>whnf)
           exact⟨ae (by rw[e2,c7,if_neg k1,if_neg k2,if_neg k3,if_pos k4,<-ea]),rfl⟩
         ·have ea:(0:Int)=BF r.at_ p.topology:=by rw[BF,if_neg hm]
          repeat' (first|(refine tI ?_;conv=>whnf)|(refine fI ?_;conv=>whnf)|(refine ah (fun _=>?_) (fun _=>?_)<;>conv=>whnf))
          all_goals
           refine dI ?_
           conv=>whnf
           (refine oC (lM r.left _ (by omega)) ?_;conv=>whnf)
           (refine oC (lM r.right _ (by omega)) ?_;conv=>whnf)
           (refine oC (lM r.parent _ (by omega)) ?_;conv=>whnf)
           (refine oC (gH 1) ?_;conv=>whnf)
           refine dE ?_
           conv=>whnf
           (refine oC (cI _ (by simp)) ?_;conv=>whnf)
           exact⟨ae (by rw[e2,c7,if_neg k1,if_neg k2,if_neg k3,if_pos k4,<-ea]),rfl⟩
        refine j' k4 ?_
        conv=>whnf
        by_cases hd:(p.topology=4/\(r.direction<3\/4<r.direction))\/(p.topology≠4/\(r.direction<1\/2<r.direction))
        ·have ea:(1:Int)=qL r.direction p.topology:=by rw[qL,if_pos hd]
         refine ah (fun h4=>?_) (fun h4=>?_)<;>conv=>whnf
         all_goals
          refine dI ?_
          conv=>whnf
          (refine oC (gx _ _) ?_;conv=>whnf)
          (refine oC (gx _ _) ?_;conv=>whnf)
          repeat' (first|(refine tI ?_;conv=>whnf)|(refine fI ?_;conv=>whnf)|(refine ah (fun _=>?_) (fun _=>?_)<;>conv=>whnf))
          all_goals
           (refine oC (iH 1) ?_;conv=>whnf)
           refine dE ?_
           conv=>whnf
           (refine oC (cI _ (by simp)) ?_;conv=>whnf)
           exact⟨ae (by rw[e2,c7,if_neg k1,if_neg k2,if_neg k3,if_neg k4,<-ea]),rfl⟩
        ·have ea:(0:Int)=qL r.direction p.topology:=by rw[qL,if_neg hd]
         refine ah (fun h4=>?_) (fun h4=>?_)<;>conv=>whnf
         all_goals
          refine dI ?_
          conv=>whnf
          (refine oC (gx _ _) ?_;conv=>whnf)
          (refine oC (gx _ _) ?_;conv=>whnf)
          repeat' (first|(refine tI ?_;conv=>whnf)|(refine fI ?_;conv=>whnf)|(refine ah (fun _=>?_) (fun _=>?_)<;>conv=>whnf))
          all_goals
           (refine oC (gH 1) ?_;conv=>whnf)
           refine dE ?_
           conv=>whnf
           (refine oC (cI _ (by simp)) ?_;conv=>whnf)
           exact⟨ae (by rw[e2,c7,if_neg k1,if_neg k2,if_neg k3,if_neg k4,<-ea]),rfl⟩
     ·rename_i h;exact absurd hf h
    ·refine dC (F3 r.kind p.topology) (fun _=>?_) (fun _=>?_)<;>(conv=>whnf)
     ·rename_i h;exact absurd h hf
     ·exact⟨ae (by rw[cg,e1,if_pos (.inl hf)]),rfl⟩
   ·rename_i h;exact absurd hv h
 ·by_cases ht:gy p.rules i r
  ·rw[decide_eq_true ht]
   conv=>whnf
   refine dC (fd r.name (by omega)) (fun _=>?_) (fun _=>?_)<;>(conv=>whnf)
   ·exact⟨ae (by rw[cg,if_pos (.inl hv)]),rfl⟩
   ·exact⟨ae (by rw[cg,if_pos (.inl hv)]),rfl⟩
  ·rw[decide_eq_false ht]
   conv=>whnf
   refine dC (fd r.name (by omega)) (fun _=>?_) (fun _=>?_)<;>(conv=>whnf)
   ·rename_i h;exact absurd h hv
   ·exact⟨ae (by rw[cg,if_pos (.inl hv)]),rfl⟩
end Go.Proofs.YtnjggjhkfncnlaaGreatDoor
