import Derived.Test.YtekmminpfhacpaaGreatDoorFnO
set_option linter.unusedVariables false
set_option linter.unusedSimpArgs false
namespace Go.Proofs.YtekmminpfhacpaaGreatDoor
set_option maxRecDepth 100000
def Fh (c:Nat):Prop:=97<=c/\c<=122\/48<=c/\c<=57\/c=95
instance (c:Nat):Decidable (Fh c):=inferInstanceAs (Decidable (_\/_))
def c9 (s:ByteArray):Prop:=(0<s.size/\s.size<=12)/\(97<=oG s 0/\oG s 0<=122)/\(∀i,i<s.size->Fh (oG s i))/\s∉rh
instance (s:ByteArray):Decidable (c9 s):=inferInstanceAs (Decidable (_/\_))
theorem CC {s:ByteArray} {k:Nat} (h:k<s.size):(s.get! (k+0)).toNat=oG s k:=by
 unfold oG
 congr 1
theorem Ef {s:ByteArray} {k:Nat} (h:k<s.size) (hb:oG s k<128):Utf8.decode s k=(oG s k,1):=by
 unfold Utf8.decode
 simp only[CC h]
 rw[if_pos hb]
theorem Eg {s:ByteArray} {k:Nat} (h:k<s.size) (hb:¬oG s k<128):128<=(Utf8.decode s k).1:=by
 unfold Utf8.decode
 simp only[CC h]
 rw[if_neg hb]
 (repeat' split)<;>simp only[Utf8.runeError,ge_iff_le,Bool.and_eq_true,decide_eq_true_eq] at*<;>omega
theorem y7 {s:ByteArray}:s=t0↔s.size=0:=by
 constructor
 ·rintro rfl;rfl
 ·intro h
  cases s with|mk a=>
  have:a.size=0:=h
  have:a=#[]:=Array.eq_empty_of_size_eq_zero this
  rw[this];rfl
theorem fX (s:ByteArray) (hs:s.size<=4503599627370496):ah Tryz.prog 154 [.str s] (fun u=>u= .bool (decide (c9 s))):=by
 refine ah.intro ab ac Tryz.func154 rfl (by decide) ?_;(conv=>whnf)
 refine ae (fun h1=>?_) (fun h1=>?_)<;>conv=>whnf
 ·exact⟨aA (fun h=>by have:=y7.1 h1;have:=h.1;omega),rfl⟩
 have h0:s.size≠0:=fun h=>h1 (y7.2 h)
 refine ae (fun h2=>?_) (fun h2=>?_)<;>conv=>whnf
 ·exact⟨aA (fun h=>by have:=h.1;omega),rfl⟩
 refine aJ.loopF ab ac (fun k:Nat=>k<=s.size/\∀j,j<k->Fh (oG s j)/\(j=0->97<=oG s 0/\oG s 0<=122)) (fun _=>[]) (fun k=>[(14, .iter s k)]) (fun k=>s.size-k) 0 ⟨by omega,fun j hj=>by omega⟩ ?_;conv=>whnf
 refine⟨sI,?_⟩
 rintro k ⟨hk,ha⟩
 conv=>whnf
 refine NL (fun h3=>?_) (fun h3=>?_)<;>conv=>whnf
 ·by_cases hb:oG s k<128
  ·rw[Ef h3 hb]
   by_cases hgood:Fh (oG s k)/\(k=0->97<=oG s 0/\oG s 0<=122)
   ·obtain⟨g1,g2⟩:=hgood
    have g3:k=0->oG s k=oG s 0:=fun e=>by rw[e]
    unfold Fh at g1
    repeat' first|(refine at_ ?_;conv=>whnf)|(refine ae (fun _=>?_) (fun _=>?_)<;>conv=>whnf)
    all_goals
     refine⟨k+1,sI,⟨by omega,fun j hj=>?_⟩,by dsimp only;omega⟩
     by_cases e:j=k
     ·subst e;exact⟨g1,g2⟩
     ·exact ha j (by omega)
   ·have hbad:¬c9 s:=fun h=>hgood ⟨h.2.2.1 k h3,fun _=>h.2.1⟩
    have g3:k=0->oG s k=oG s 0:=fun e=>by rw[e]
    unfold Fh at hgood
    repeat' first|(refine at_ ?_;conv=>whnf)|(refine ae (fun _=>?_) (fun _=>?_)<;>conv=>whnf)
    all_goals exact⟨aA hbad,rfl⟩
  ·have hd:=Eg h3 hb
   have hbad:¬c9 s:=fun h=>by have:=h.2.2.1 k h3;unfold Fh at this;omega
   generalize Utf8.decode s k=x at hd
   obtain⟨c,w⟩:=x
   dsimp only at hd⊢
   repeat' first|(refine at_ ?_;conv=>whnf)|(refine ae (fun _=>?_) (fun _=>?_)<;>conv=>whnf)
   all_goals exact⟨aA hbad,rfl⟩
 ·have hall:(∀i,i<s.size->Fh (oG s i)):=fun i hi=>(ha i (by omega)).1
  have hf:=(ha 0 (by omega)).2 rfl
  refine dC (y6 s) (fun _=>?_) (fun _=>?_)<;>(conv=>whnf)
  ·rename_i h;exact⟨aA (fun hh=>hh.2.2.2 h),rfl⟩
  ·rename_i h;exact⟨bE ⟨by omega,hf,hall,h⟩,rfl⟩
theorem Eh:ah Tryz.prog 268 [] (fun u=>u= .sl t0 fo rh):=by
 refine ah.intro ab ac Tryz.func268 rfl (by decide) ?_;(conv=>whnf)
 refine bp t0 fo rh rfl ?_
 conv=>whnf
 exact⟨rfl,rfl⟩
theorem lq (s:ByteArray) (hs:s.size<=4503599627370496):ah Tryz.prog 201 [.str s] (fun u=>u= .bool (decide (c9 s))):=by
 refine ah.intro ab ac Tryz.func201 rfl (by decide) ?_;(conv=>whnf)
 refine dC (bV _ _ _) (fun _=>?_) (fun _=>?_)<;>(conv=>whnf)
 ·rename_i h0
  have e0:((s.data.getD (0:Int).toNat 0).toNat:Int)=oG s 0:=rfl
  by_cases hf:97<=oG s 0/\oG s 0<=122
  ·repeat' first|(refine at_ ?_;conv=>whnf)|(refine ae (fun _=>?_) (fun _=>?_)<;>conv=>whnf)
   refine aJ.loopF ab ac (fun k:Nat=>k<=s.size/\∀j,j<k->Fh (oG s j)) (fun k=>[(3, .int .i64 (k:Int))]) (fun _=>[]) (fun k=>s.size-k) 0 ⟨by omega,fun j hj=>by omega⟩ ?_;conv=>whnf
   refine⟨sI,?_⟩
   rintro k ⟨hk,ha⟩
   conv=>whnf
   refine ae (fun h1=>?_) (fun h1=>?_)<;>conv=>whnf
   ·have ek:((s.data.getD (k:Int).toNat 0).toNat:Int)=oG s k:=rfl
    by_cases hg:Fh (oG s k)
    ·have hg':=hg
     unfold Fh at hg'
     repeat' first|(refine at_ ?_;conv=>whnf)|(refine ae (fun _=>?_) (fun _=>?_)<;>conv=>whnf)
     all_goals
      refine⟨k+1,sI,⟨by omega,fun j hj=>?_⟩,by dsimp only;omega⟩
      by_cases e:j=k
      ·subst e;exact hg
      ·exact ha j (by omega)
    ·have hbad:¬c9 s:=fun h=>hg (h.2.2.1 k (by omega))
     unfold Fh at hg
     repeat' first|(refine at_ ?_;conv=>whnf)|(refine ae (fun _=>?_) (fun _=>?_)<;>conv=>whnf)
     all_goals exact⟨aA hbad,rfl⟩
   ·(refine oP (Eh) ?_;conv=>whnf)
    refine dC (y5 rh s (by decide)) (fun _=>?_) (fun _=>?_)<;>(conv=>whnf)
    ·rename_i h;exact⟨aA (fun hh=>hh.2.2.2 h),rfl⟩
    ·rename_i h;exact⟨bE ⟨by omega,hf,fun i hi=>ha i (by omega),h⟩,rfl⟩
  ·repeat' first|(refine at_ ?_;conv=>whnf)|(refine ae (fun _=>?_) (fun _=>?_)<;>conv=>whnf)
   all_goals exact⟨aA (fun h=>hf h.2.1),rfl⟩
 ·rename_i h0
  exact⟨aA (fun h=>h0 (by have:=h.1;omega)),rfl⟩
set_option maxRecDepth 100000
set_option maxHeartbeats 4000000
theorem dh (l:List Int) (hl:l.length<=4503599627370496):ah Tryz.prog 156 [.sl 0 al l] (fun u=>u= .int .i64 (dH l)):=by
 refine ah.intro ab ac Tryz.func156 rfl (by decide) ?_;(conv=>whnf)
 refine aJ.loopF ab ac (fun k:Nat=>k<=l.length/\dH l=dH (l.drop k)) (fun k=>[(7, .int .i64 (k:Int))]) (fun _=>[]) (fun k=>l.length-k) 0 ⟨by omega,rfl⟩ ?_;conv=>whnf
 refine⟨sI,?_⟩
 rintro k ⟨hk,he⟩
 conv=>whnf
 repeat' first|(refine at_ ?_;conv=>whnf)|(refine ae (fun _=>?_) (fun _=>?_)<;>conv=>whnf)
 ·rename_i h1 h2
  rw[yX (by omega),if_pos (by simpa using h2)] at he
  exact⟨ao (by rw[he];rfl),rfl⟩
 ·rename_i h1 h2
  rw[yX (by omega),if_neg (by simpa using h2)] at he
  exact⟨k+1,sI,⟨by omega,he⟩,by dsimp only;omega⟩
 ·obtain rfl:k=l.length:=by omega
  rw[List.drop_length] at he
  exact⟨ao he.symm,rfl⟩
theorem jW (e:Int):ah Tryz.prog 157 [.bool true, .int .i64 e] (fun u=>u= .int .i64 e):=by
 refine ah.intro ab ac Tryz.func157 rfl (by decide) ?_;(conv=>whnf)
 exact⟨rfl,rfl⟩
theorem iY (e:Int):ah Tryz.prog 157 [.bool false, .int .i64 e] (fun u=>u= .int .i64 0):=by
 refine ah.intro ab ac Tryz.func157 rfl (by decide) ?_;(conv=>whnf)
 exact⟨rfl,rfl⟩
def dA (i n:Int):Int:=if i<0\/n<=i then 5 else 0
theorem iM (i n:Int):ah Tryz.prog 240 [.int .i64 i, .int .i64 n] (fun u=>u= .int .i64 (dA i n)):=by
 refine ah.intro ab ac Tryz.func240 rfl (by decide) ?_;(conv=>whnf)
 by_cases h:i<0\/n<=i
 ·rw[dA,if_pos h]
  repeat' first|(refine at_ ?_;conv=>whnf)|(refine ae (fun _=>?_) (fun _=>?_)<;>conv=>whnf)
  all_goals
   (refine oP (jW 5) ?_;conv=>whnf)
   exact⟨rfl,rfl⟩
 ·rw[dA,if_neg h]
  repeat' first|(refine at_ ?_;conv=>whnf)|(refine ae (fun _=>?_) (fun _=>?_)<;>conv=>whnf)
  (refine oP (iY 5) ?_;conv=>whnf)
  exact⟨rfl,rfl⟩
def cd (n:Int):Prop:=-100<=n/\n<=100
instance (n:Int):Decidable (cd n):=inferInstanceAs (Decidable (_/\_))
def eY (l:lp):Prop:=cd l.c/\cd l.n/\cd l.t/\cd l.f
instance (l:lp):Decidable (eY l):=inferInstanceAs (Decidable (_/\_))
theorem rR (n:Int):ah Tryz.prog 257 [.int .i64 n] (fun u=>u= .bool (decide (cd n))):=by
 refine ah.intro ab ac Tryz.func257 rfl (by decide) ?_;(conv=>whnf)
 repeat' first|(refine at_ ?_;conv=>whnf)|(refine ae (fun _=>?_) (fun _=>?_)<;>conv=>whnf)
 all_goals first
  |exact⟨bE (by unfold cd;omega),rfl⟩
  |exact⟨aA (by unfold cd;omega),rfl⟩
theorem tA (l:lp):ah Tryz.prog 187 [.agg (cq l)] (fun u=>u= .bool (decide (eY l))):=by
 refine ah.intro ab ac Tryz.func187 rfl (by decide) ?_;(conv=>whnf)
 refine au rfl ?_
 conv=>whnf
 refine dC (rR _) (fun _=>?_) (fun _=>?_)<;>(conv=>whnf)
 ·refine dC (rR _) (fun _=>?_) (fun _=>?_)<;>(conv=>whnf)
  ·refine dC (rR _) (fun _=>?_) (fun _=>?_)<;>(conv=>whnf)
   ·refine dC (rR _) (fun _=>?_) (fun _=>?_)<;>(conv=>whnf)
    ·exact⟨bE ⟨by assumption,by assumption,by assumption,by assumption⟩,rfl⟩
    ·rename_i h;exact⟨aA (fun hh=>h hh.2.2.2),rfl⟩
   ·rename_i h;exact⟨aA (fun hh=>h hh.2.2.1),rfl⟩
  ·rename_i h;exact⟨aA (fun hh=>h hh.2.1),rfl⟩
 ·rename_i h;exact⟨aA (fun hh=>h hh.1),rfl⟩
theorem N5 (l:lp):ah Tryz.prog 207 [.agg (cq l)] (fun u=>u= .bool (decide (eY l))):=by
 refine ah.intro ab ac Tryz.func207 rfl (by decide) ?_;(conv=>whnf)
 refine au rfl ?_
 conv=>whnf
 refine dC (bV _ _ _) (fun _=>?_) (fun _=>?_)<;>(conv=>whnf)
 ·refine dC (bV _ _ _) (fun _=>?_) (fun _=>?_)<;>(conv=>whnf)
  ·refine dC (bV _ _ _) (fun _=>?_) (fun _=>?_)<;>(conv=>whnf)
   ·refine dC (bV _ _ _) (fun _=>?_) (fun _=>?_)<;>(conv=>whnf)
    ·exact⟨bE ⟨by assumption,by assumption,by assumption,by assumption⟩,rfl⟩
    ·rename_i h;exact⟨aA (fun hh=>h hh.2.2.2),rfl⟩
   ·rename_i h;exact⟨aA (fun hh=>h hh.2.2.1),rfl⟩
  ·rename_i h;exact⟨aA (fun hh=>h hh.2.1),rfl⟩
 ·rename_i h;exact⟨aA (fun hh=>h hh.1),rfl⟩
def i7 (k t:Int):Prop:=(k=1\/k=2\/k=3)/\t=1\/(k=4\/k=5)/\t≠1
instance (k t:Int):Decidable (i7 k t):=inferInstanceAs (Decidable (_\/_))
theorem KP (k t:Int):ah Tryz.prog 259 [.int .i64 k, .int .i64 t] (fun u=>u= .bool (decide (i7 k t))):=by
 refine ah.intro ab ac Tryz.func259 rfl (by decide) ?_;(conv=>whnf)
 repeat' first|(refine at_ ?_;conv=>whnf)|(refine ae (fun _=>?_) (fun _=>?_)<;>conv=>whnf)
 all_goals first
  |exact⟨bE (by unfold i7;omega),rfl⟩
  |exact⟨aA (by unfold i7;omega),rfl⟩
def jI (r:cf) (t:Int):Prop:=(r.kind≠1/\(0<r.guards.length\/0<r.some_.length\/0<r.forall_.length\/0<r.send.length))\/(r.kind≠1/\r.kind≠2/\r.kind≠3/\(r.read≠-1\/r.write≠-1))\/
 (r.kind≠2/\r.kind≠5/\(r.pfrom≠0\/r.pto≠0))\/(r.kind≠3/\0<r.response.length)\/(r.kind≠5/\r.direction≠0)\/(r.kind≠4/\(r.at_≠0\/0<r.left.length\/0<r.right.length))\/(0<r.parent.length/\¬(r.kind=4/\t=4))
instance (r:cf) (t:Int):Decidable (jI r t):=inferInstanceAs (Decidable (_\/_))
theorem Gd (r:cf) (t:Int) (hr:IC r) (hf:i7 r.kind t):ah Tryz.prog 260 [.agg (iL r), .int .i64 t] (fun u=>u= .bool (decide (jI r t))):=by
 have hb:=Ba hr
 refine ah.intro ab ac Tryz.func260 rfl (by decide) ?_;(conv=>whnf)
 refine DM ?_
 conv=>whnf
 unfold i7 at hf
 repeat' first|(refine at_ ?_;conv=>whnf)|(refine ae (fun _=>?_) (fun _=>?_)<;>conv=>whnf)
 all_goals first
  |exact⟨bE (by unfold jI;omega),rfl⟩
  |exact⟨aA (by unfold jI;omega),rfl⟩
theorem CD (p:av) (r:cf) (hf:i7 r.kind p.topology):ah Tryz.prog 269 [.agg (cV p), .agg (iL r)] (fun u=>u= .bool (decide (jI r p.topology))):=by
 refine ah.intro ab ac Tryz.func269 rfl (by decide) ?_;(conv=>whnf)
 refine au rfl ?_
 conv=>whnf
 refine au rfl ?_
 conv=>whnf
 unfold i7 at hf
 repeat' first|(refine at_ ?_;conv=>whnf)|(refine ae (fun _=>?_) (fun _=>?_)<;>conv=>whnf)
 all_goals first
  |exact⟨bE (by unfold jI;omega),rfl⟩
  |exact⟨aA (by unfold jI;omega),rfl⟩
set_option maxRecDepth 100000
set_option maxHeartbeats 4000000
theorem Bc {α:Type} {l:List α} {i:Nat} (d:α) (h:i<l.length):l.drop i=l.getD i d::l.drop (i+1):=by
 rw[List.drop_eq_getElem_cons h]
 simp[List.getD,h]
theorem fp {α:Type} {l:List α} (f:α->Int) {k:Nat} (d:α) (h:k<l.length):dH ((l.drop k).map f)=if f (l.getD k d)≠0 then f (l.getD k d) else dH ((l.drop (k+1)).map f):=by
 rw[Bc d h];rfl
def mB (c:Int):Int:=if c<1\/100<c then 1 else 0
def pk (l:lp):Int:=if eY l then 0 else 4
def gE (m:Int) (g:fH):Int:=dH [dA g.message m,mB g.coef,pk g.bound]
def ci (m:Int) (l:List fH):Int:=if dH (l.map (gE m))≠0 then dH (l.map (gE m)) else if 2<l.length then 4 else 0
theorem Jq (p:av) (l:List fH) (hl:l.length<=4503599627370496):ah Tryz.prog 261 [.agg (cV p), .sl aM cg l] (fun u=>u= .int .i64 (ci p.messages.length l)):=by
 refine ah.intro ab ac Tryz.func261 rfl (by decide) ?_;(conv=>whnf)
 refine au rfl ?_
 conv=>whnf
 refine aJ.loopF ab ac (fun k:Nat=>k<=l.length/\dH (l.map (gE p.messages.length))=dH ((l.drop k).map (gE p.messages.length))) (fun k=>[(10, .int .i64 (k:Int))]) (fun _=>[]) (fun k=>l.length-k) 0 ⟨by omega,rfl⟩ ?_;conv=>whnf
 refine⟨sI,?_⟩
 rintro k ⟨hk,he⟩
 conv=>whnf
 refine ae (fun h1=>?_) (fun h1=>?_)<;>conv=>whnf
 ·rw[fp _ aM (by omega)] at he
  refine nI ?_
  rw[tN]
  generalize l.getD k aM=g at he
  conv=>whnf
  refine dI ?_
  conv=>whnf
  (refine oC (iM g.message p.messages.length) ?_;conv=>whnf)
  have fin:∀c:Int,c=mB g.coef->∀b:Int,b=pk g.bound->dH [dA g.message p.messages.length,c,b]=gE p.messages.length g:=by rintro c rfl b rfl;rfl
  by_cases hc:g.coef<1\/100<g.coef
  ·have ec:(1:Int)=mB g.coef:=by rw[mB,if_pos hc]
   repeat' first|(refine at_ ?_;conv=>whnf)|(refine ae (fun _=>?_) (fun _=>?_)<;>conv=>whnf)
   all_goals
    (refine oC (jW 1) ?_;conv=>whnf)
    refine dD (tA g.bound) (fun _=>?_) (fun _=>?_)<;>(conv=>whnf)
    ·rename_i hb
     have eb:(0:Int)=pk g.bound:=by rw[pk,if_pos hb]
     (refine oC (iY 4) ?_;conv=>whnf)
     refine eH ?_
     conv=>whnf
     (refine oC (dh _ (by simp)) ?_;conv=>whnf)
     rw[fin _ ec _ eb]
     refine ae (fun h2=>?_) (fun h2=>?_)<;>conv=>whnf
     ·rw[if_pos h2] at he
      exact⟨ao (by rw[ci,he,if_pos h2]),rfl⟩
     ·rw[if_neg h2] at he
      repeat' first|(refine at_ ?_;conv=>whnf)|(refine ae (fun _=>?_) (fun _=>?_)<;>conv=>whnf)
      exact⟨k+1,sI,⟨by omega,he⟩,by dsimp only;omega⟩
    ·rename_i hb
     have eb:(4:Int)=pk g.bound:=by rw[pk,if_neg hb]
     (refine oC (jW 4) ?_;conv=>whnf)
     refine eH ?_
     conv=>whnf
     (refine oC (dh _ (by simp)) ?_;conv=>whnf)
     rw[fin _ ec _ eb]
     refine ae (fun h2=>?_) (fun h2=>?_)<;>conv=>whnf
     ·rw[if_pos h2] at he
      exact⟨ao (by rw[ci,he,if_pos h2]),rfl⟩
     ·rw[if_neg h2] at he
      repeat' first|(refine at_ ?_;conv=>whnf)|(refine ae (fun _=>?_) (fun _=>?_)<;>conv=>whnf)
      exact⟨k+1,sI,⟨by omega,he⟩,by dsimp only;omega⟩
  ·have ec:(0:Int)=mB g.coef:=by rw[mB,if_neg hc]
   repeat' first|(refine at_ ?_;conv=>whnf)|(refine ae (fun _=>?_) (fun _=>?_)<;>conv=>whnf)
   (refine oC (iY 1) ?_;conv=>whnf)
   refine dD (tA g.bound) (fun _=>?_) (fun _=>?_)<;>(conv=>whnf)
   ·rename_i hb
    have eb:(0:Int)=pk g.bound:=by rw[pk,if_pos hb]
    (refine oC (iY 4) ?_;conv=>whnf)
    refine eH ?_
    conv=>whnf
    (refine oC (dh _ (by simp)) ?_;conv=>whnf)
    rw[fin _ ec _ eb]
    refine ae (fun h2=>?_) (fun h2=>?_)<;>conv=>whnf
    ·rw[if_pos h2] at he
     exact⟨ao (by rw[ci,he,if_pos h2]),rfl⟩
    ·rw[if_neg h2] at he
     repeat' first|(refine at_ ?_;conv=>whnf)|(refine ae (fun _=>?_) (fun _=>?_)<;>conv=>whnf)
     exact⟨k+1,sI,⟨by omega,he⟩,by dsimp only;omega⟩
   ·rename_i hb
    have eb:(4:Int)=pk g.bound:=by rw[pk,if_neg hb]
    (refine oC (jW 4) ?_;conv=>whnf)
    refine eH ?_
    conv=>whnf
    (refine oC (dh _ (by simp)) ?_;conv=>whnf)
    rw[fin _ ec _ eb]
    refine ae (fun h2=>?_) (fun h2=>?_)<;>conv=>whnf
    ·rw[if_pos h2] at he
     exact⟨ao (by rw[ci,he,if_pos h2]),rfl⟩
    ·rw[if_neg h2] at he
     repeat' first|(refine at_ ?_;conv=>whnf)|(refine ae (fun _=>?_) (fun _=>?_)<;>conv=>whnf)
     exact⟨k+1,sI,⟨by omega,he⟩,by dsimp only;omega⟩
 ·obtain rfl:k=l.length:=by omega
  rw[List.drop_length] at he
  have h0:dH (l.map (gE p.messages.length))=0:=he
  refine ae (fun h2=>?_) (fun h2=>?_)<;>conv=>whnf
  ·(refine oP (jW 4) ?_;conv=>whnf)
   exact⟨ao (by rw[ci,h0,if_neg (by simp),if_pos (by omega)]),rfl⟩
  ·(refine oP (iY 4) ?_;conv=>whnf)
   exact⟨ao (by rw[ci,h0,if_neg (by simp),if_neg (by omega)]),rfl⟩
def jX (l:List Int) (n:Int):Int:=if(l.length:Int)≠n then 1 else if rE l n then 0 else 5
theorem Bd (l:List Int) (n:Int) (hl:l.length<=4503599627370496):ah Tryz.prog 263 [.sl 0 al l, .int .i64 n] (fun u=>u= .int .i64 (jX l n)):=by
 refine ah.intro ab ac Tryz.func263 rfl (by decide) ?_;(conv=>whnf)
 refine ae (fun h0=>?_) (fun h0=>?_)<;>conv=>whnf
 ·exact⟨ao (by rw[jX,if_pos h0]),rfl⟩
 refine aJ.loopF ab ac (fun k:Nat=>k<=l.length/\∀j,j<k->0<=l.getD j 0/\l.getD j 0<n) (fun k=>[(14, .int .i64 (k:Int))]) (fun _=>[]) (fun k=>l.length-k) 0 ⟨by omega,fun j hj=>by omega⟩ ?_;conv=>whnf
 refine⟨sI,?_⟩
 rintro k ⟨hk,ha⟩
 conv=>whnf
 refine ae (fun h1=>?_) (fun h1=>?_)<;>conv=>whnf
 ·refine nI ?_
  rw[tN]
  conv=>whnf
  (refine oP (iM _ _) ?_;conv=>whnf)
  by_cases hb:l.getD k 0<0\/n<=l.getD k 0
  ·rw[dA,if_pos hb]
   repeat' first|(refine at_ ?_;conv=>whnf)|(refine ae (fun _=>?_) (fun _=>?_)<;>conv=>whnf)
   refine⟨ao ?_,rfl⟩
   rw[jX,if_neg h0,if_neg]
   intro h
   have:=h k (by omega)
   omega
  ·rw[dA,if_neg hb]
   repeat' first|(refine at_ ?_;conv=>whnf)|(refine ae (fun _=>?_) (fun _=>?_)<;>conv=>whnf)
   refine⟨k+1,sI,⟨by omega,fun j hj=>?_⟩,by dsimp only;omega⟩
   by_cases e:j=k
   ·subst e;omega
   ·exact ha j (by omega)
 ·exact⟨ao (by rw[jX,if_neg h0,if_pos (show rE l n from fun j hj=>ha j (by omega))]),rfl⟩
def iO (m v:Int):Int:=if v< -1\/m<=v then 5 else 0
theorem qp (p:av) (v:Int):ah Tryz.prog 262 [.agg (cV p), .int .i64 v] (fun u=>u= .int .i64 (iO p.values.length v)):=by
 refine ah.intro ab ac Tryz.func262 rfl (by decide) ?_;(conv=>whnf)
 refine au rfl ?_
 conv=>whnf
 by_cases h:v< -1\/(p.values.length:Int)<=v
 ·rw[iO,if_pos h]
  repeat' first|(refine at_ ?_;conv=>whnf)|(refine ae (fun _=>?_) (fun _=>?_)<;>conv=>whnf)
  all_goals
   (refine oP (jW 5) ?_;conv=>whnf)
   exact⟨rfl,rfl⟩
 ·rw[iO,if_neg h]
  repeat' first|(refine at_ ?_;conv=>whnf)|(refine ae (fun _=>?_) (fun _=>?_)<;>conv=>whnf)
  (refine oP (iY 5) ?_;conv=>whnf)
  exact⟨rfl,rfl⟩
def Jr (g:fH):List Int:=[g.message,g.coef,g.bound.c,g.bound.n,g.bound.t,g.bound.f]
theorem jx {a b:fH}:Jr a=Jr b↔a=b:=by
 constructor
 ·intro h
  obtain⟨m,c,⟨x,y,z,w⟩⟩:=a
  obtain⟨m',c',⟨x',y',z',w'⟩⟩:=b
  simp only[Jr,List.cons.injEq,and_true] at h
  obtain⟨rfl,rfl,rfl,rfl,rfl,rfl⟩:=h
  rfl
 ·rintro rfl;rfl
theorem bu {α:Type} {l:List α} {k:Nat} (d:α) (h:k<l.length):l.getD k d∈l:=by
 rw[gD,gL h]
 exact List.getElem_mem _
theorem cp {α:Type} {l:List α} {k:Nat} (d:α) (h:k<l.length):l.take (k+1)=l.take k++[l.getD k d]:=by
 rw[List.take_succ_eq_append_getElem h,gD,gL h]
 rfl
theorem Ei (l:List fH) (g:fH) (hl:l.length<=4503599627370496):ah Tryz.prog 271 [.sl aM cg l, .agg (cg g)] (fun u=>∃n:Int,u= .int .i64 n/\(0<=n↔g∈l)):=by
 refine ah.intro ab ac Tryz.func271 rfl (by decide) ?_;(conv=>whnf)
 refine au rfl ?_
 conv=>whnf
 refine aJ.loopF ab ac (fun k:Nat=>k<=l.length/\g∉l.take k) (fun k=>[(8, .int .i64 (k:Int))]) (fun _=>[]) (fun k=>l.length-k) 0 ⟨by omega,by simp⟩ ?_;conv=>whnf
 refine⟨sI,?_⟩
 rintro k ⟨hk,ha⟩
 conv=>whnf
 repeat' first|(refine at_ ?_;conv=>whnf)|(refine ae (fun _=>?_) (fun _=>?_)<;>conv=>whnf)
 ·rename_i h1 h2
  rw[tN] at h2
  have h2:g=l.getD k aM:=jx.1 h2
  refine⟨⟨k,rfl,fun _=>?_,fun _=>by omega⟩,rfl⟩
  rw[h2];exact bu _ (by omega)
 ·rename_i h1 h2
  rw[tN] at h2
  refine⟨k+1,sI,⟨by omega,?_⟩,by dsimp only;omega⟩
  rw[cp aM (by omega),List.mem_append,List.mem_singleton,not_or]
  exact⟨ha,fun e=>h2 (jx.2 e)⟩
 ·obtain rfl:k=l.length:=by omega
  rw[List.take_length] at ha
  exact⟨⟨-1,rfl,fun h=>by omega,fun h=>absurd h ha⟩,rfl⟩
theorem wZ (l:List fH) (g:fH) (hl:l.length<=4503599627370496):ah Tryz.prog 264 [.sl aM cg l, .agg (cg g)] (fun u=>u= .bool (decide (g∈l))):=by
 refine ah.intro ab ac Tryz.func264 rfl (by decide) ?_;(conv=>whnf)
 refine au rfl ?_
 conv=>whnf
 refine aj.of_pure (n:=5) (Ei l g hl) rfl ?_
 rintro _ ⟨n,rfl,hn⟩
 conv=>whnf
 refine ae (fun h=>?_) (fun h=>?_)<;>conv=>whnf
 ·exact⟨bE (hn.1 h),rfl⟩
 ·exact⟨aA (fun hh=>h (hn.2 hh)),rfl⟩
def jJ (acc:List fH) (g:fH):List fH:=if g∈acc then acc else acc++[g]
def ay (rs:List cf):List fH:=(rs.flatMap (·.guards)).foldl jJ []
def Js (l:List fH):bf:=.row 187 aM cg l
theorem tB (gs:List fH):∀acc,(gs.foldl jJ acc).length<=acc.length+gs.length:=by
 induction gs with
 |nil=>intro acc;simp
 |cons g gs ih=>
  intro acc
  have:=ih (jJ acc g)
  have h2:(jJ acc g).length<=acc.length+1:=by unfold jJ;split<;>simp
  simp only[List.foldl_cons,List.length_cons]
  omega
theorem Ge {rs:List cf} (h:∀r∈rs,r.guards.length<=1000):(rs.flatMap (·.guards)).length<=1000*rs.length:=by
 induction rs with
 |nil=>simp
 |cons r rs ih=>
  have h1:=h r List.mem_cons_self
  have h2:=ih fun x hx=>h x (List.mem_cons_of_mem _ hx)
  simp only[List.flatMap_cons,List.length_append,List.length_cons]
  omega
def NA (p:av):Prop:=p.rules.length<=1000/\∀j,j<p.rules.length->(p.rules.getD j ax).guards.length<=1000
theorem Be {p:av} (h:NA p):∀r∈p.rules,r.guards.length<=1000:=by
 intro r hr
 obtain⟨j,hj,rfl⟩:=List.getElem_of_mem hr
 have:=h.2 j hj
 rwa [gD,gL hj] at this
def tC (rs:List cf) (i:Nat) (r:cf) (j:Nat):List fH:=(((rs.take i).flatMap (·.guards))++r.guards.take j).foldl jJ []
theorem vD (rs:List cf) (i:Nat) (r:cf):tC rs i r 0=ay (rs.take i):=by simp[tC,ay]
theorem vE (rs:List cf) (i:Nat) (r:cf) {j:Nat} (h:j<r.guards.length):tC rs i r (j+1)=jJ (tC rs i r j) (r.guards.getD j aM):=by
 rw[tC,cp aM h,<-List.append_assoc,List.foldl_append];rfl
theorem y8 (rs:List cf) {i:Nat} (h:i<rs.length):tC rs i (rs.getD i ax) (rs.getD i ax).guards.length=ay (rs.take (i+1)):=by
 rw[ay,cp ax h,List.flatMap_append,tC,List.take_length];simp
theorem y9 {p:av} (h:NA p) (i j:Nat):(tC p.rules i (p.rules.getD i ax) j).length<=1001000:=by
 have h1:=Ge (rs:=p.rules.take i) fun r hr=>Be h r (List.mem_of_mem_take hr)
 have h2:=tB ((((p.rules.take i).flatMap (·.guards))++(p.rules.getD i ax).guards.take j)) []
 have h3:=h.1
 have h4:(p.rules.getD i ax).guards.length<=1000:=by
  by_cases hi:i<p.rules.length
  ·exact h.2 i hi
  ·rw[gD,List.getElem?_eq_none (by omega)];simp[ax]
 unfold tC
 simp only[List.length_append,List.length_take,List.length_nil] at h1 h2
 omega
theorem ri (p:av) (hp:NA p):ah Tryz.prog 189 [.agg (cV p)] (fun u=>u= .sl aM cg (ay p.rules)):=by
 have hle:=hp.1
 refine ah.intro ab ac Tryz.func189 rfl (by decide) ?_;(conv=>whnf)
 refine au rfl ?_
 conv=>whnf
 refine aJ.loopF ab ac (fun i:Nat=>i<=p.rules.length) (fun i=>[(11, .int .i64 (i:Int)),(3, .row 1000 (ay (p.rules.take i)).length 6)]) (fun i=>[(1000,Js (ay (p.rules.take i)))]) (fun i=>p.rules.length-i) 0 (by omega) ?_;conv=>whnf
 refine⟨aH.by_ [(1000, .nil 6)] _ 400 rfl (aa) (aa),?_⟩
 intro i hi
 conv=>whnf
 refine ae (fun h1=>?_) (fun h1=>?_)<;>conv=>whnf
 ·refine nI ?_
  rw[tN]
  have hil:i<p.rules.length:=by omega
  have hgl:=hp.2 i hil
  have hpl:=y9 hp i
  have hall:=y8 p.rules hil
  have hzero:=vD p.rules i (p.rules.getD i ax)
  have hsucc:=fun j=>vE p.rules i (p.rules.getD i ax) (j:=j)
  generalize p.rules.getD i ax=r at hgl hpl hall hzero hsucc
  rw[<-hzero]
  generalize tC p.rules i r=out at hpl hall hsucc
  conv=>whnf
  refine aJ.loopF ab ac (fun j:Nat=>j<=r.guards.length) (fun j=>[(18, .int .i64 (j:Int)),(3, .row 1000 (out j).length 6),(5, .top),(15, .top)]) (fun j=>[(1000,Js (out j))]) (fun j=>r.guards.length-j) 0 (by omega) ?_;conv=>whnf
  refine⟨sI,?_⟩
  intro j hj
  conv=>whnf
  refine ae (fun h2=>?_) (fun h2=>?_)<;>conv=>whnf
  ·refine nI ?_
   rw[tN]
   have hs:=hsucc j (by omega)
   have hlj:=hpl j
   generalize r.guards.getD j aM=g at hs
   conv=>whnf
   refine aj.borrow (n:=5) (wZ (out j) g (by omega)) rfl (by rintro _ rfl;rfl) ?_
   rintro _ rfl
   by_cases hm:g∈out j
   ·rw[decide_eq_true hm]
    conv=>whnf
    repeat' first|(refine at_ ?_;conv=>whnf)|(refine ae (fun _=>?_) (fun _=>?_)<;>conv=>whnf)
    have e:out (j+1)=out j:=by rw[hs,jJ,if_pos hm]
    refine⟨j+1,?_,by omega,by dsimp only;omega⟩
    dsimp only
    rw[e]
    exact sI
   ·rw[decide_eq_false hm]
    conv=>whnf
    refine bp aM cg [g] rfl ?_
    conv=>whnf
    repeat' first|(refine at_ ?_;conv=>whnf)|(refine ae (fun _=>?_) (fun _=>?_)<;>conv=>whnf)
    have e:out (j+1)=out j++[g]:=by rw[hs,jJ,if_neg hm]
    refine⟨j+1,?_,by omega,by dsimp only;omega⟩
    dsimp only
    rw[e]
    exact aH.by_ [(1000, .old 29)] _ 400 rfl (aa) (aa)
  ·obtain rfl:j=r.guards.length:=by omega
   repeat' first|(refine at_ ?_;conv=>whnf)|(refine ae (fun _=>?_) (fun _=>?_)<;>conv=>whnf)
   refine⟨i+1,?_,by omega,by dsimp only;omega⟩
   dsimp only
   rw[<-hall]
   exact sI
 ·obtain rfl:i=p.rules.length:=by omega
  rw[List.take_length]
  exact⟨rfl,rfl⟩
set_option maxRecDepth 100000
set_option maxHeartbeats 4000000
theorem Gf (a b:fH):ah Tryz.prog 270 [.agg (cg a), .agg (cg b)] (fun u=>u= .bool (decide (a=b))):=by
 refine ah.intro ab ac Tryz.func270 rfl (by decide) ?_;(conv=>whnf)
 refine au rfl ?_
 conv=>whnf
 refine au rfl ?_
 conv=>whnf
 refine ae (fun h1=>?_) (fun h1=>?_)<;>conv=>whnf
 ·refine ae (fun h2=>?_) (fun h2=>?_)<;>conv=>whnf
  ·refine ae (fun h3=>?_) (fun h3=>?_)<;>conv=>whnf
   ·refine⟨bE (jx.1 ?_),rfl⟩
    simp only[List.cons.injEq,and_true] at h3
    simp only[Jr,h1,h2,h3]
   ·exact⟨aA (fun h=>h3 (by rw[h])),rfl⟩
  ·exact⟨aA (fun h=>h2 (by rw[h])),rfl⟩
 ·exact⟨aA (fun h=>h1 (by rw[h])),rfl⟩
theorem Jt (l:List fH) (g:fH) (hl:l.length<=4503599627370496):ah Tryz.prog 209 [.sl aM cg l, .agg (cg g)] (fun u=>∃n:Int,u= .int .i64 n/\(n<0↔g∉l)):=by
 refine ah.intro ab ac Tryz.func209 rfl (by decide) ?_;(conv=>whnf)
 refine au rfl ?_
 conv=>whnf
 refine aJ.loopF ab ac (fun k:Nat=>k<=l.length/\g∉l.take k) (fun k=>[(5, .int .i64 (k:Int))]) (fun _=>[]) (fun k=>l.length-k) 0 ⟨by omega,by simp⟩ ?_;conv=>whnf
 refine⟨sI,?_⟩
 rintro k ⟨hk,ha⟩
 conv=>whnf
 refine ae (fun h1=>?_) (fun h1=>?_)<;>conv=>whnf
 ·refine dI ?_
  conv=>whnf
  refine nI ?_
  rw[tN]
  conv=>whnf
  refine dD (Gf (l.getD k aM) g) (fun _=>?_) (fun _=>?_)<;>(conv=>whnf)
  ·rename_i h2
   refine⟨⟨k,rfl,fun h=>by omega,fun h=>absurd ?_ h⟩,rfl⟩
   rw[<-h2];exact bu _ (by omega)
  ·rename_i h2
   repeat' first|(refine at_ ?_;conv=>whnf)|(refine ae (fun _=>?_) (fun _=>?_)<;>conv=>whnf)
   refine⟨k+1,sI,⟨by omega,?_⟩,by dsimp only;omega⟩
   rw[cp aM (by omega),List.mem_append,List.mem_singleton,not_or]
   exact⟨ha,fun e=>h2 e.symm⟩
 ·obtain rfl:k=l.length:=by omega
  rw[List.take_length] at ha
  exact⟨⟨-1,rfl,fun _=>ha,fun _=>by omega⟩,rfl⟩
theorem vF (p:av) (hp:NA p):ah Tryz.prog 114 [.agg (cV p)] (fun u=>u= .sl aM cg (ay p.rules)):=by
 have hle:=hp.1
 refine ah.intro ab ac Tryz.func114 rfl (by decide) ?_;(conv=>whnf)
 refine au rfl ?_
 conv=>whnf
 refine aJ.loopF ab ac (fun i:Nat=>i<=p.rules.length) (fun i=>[(4, .int .i64 (i:Int)),(3, .row 1000 (ay (p.rules.take i)).length 6)]) (fun i=>[(1000,Js (ay (p.rules.take i)))]) (fun i=>p.rules.length-i) 0 (by omega) ?_;conv=>whnf
 refine⟨aH.by_ [(1000, .nil 6)] _ 400 rfl (aa) (aa),?_⟩
 intro i hi
 conv=>whnf
 refine ae (fun h1=>?_) (fun h1=>?_)<;>conv=>whnf
 ·have hil:i<p.rules.length:=by omega
  have hgl:=hp.2 i hil
  have hpl:=y9 hp i
  have hall:=y8 p.rules hil
  have hzero:=vD p.rules i (p.rules.getD i ax)
  have hsucc:=fun j=>vE p.rules i (p.rules.getD i ax) (j:=j)
  rw[<-hzero]
  generalize ho:tC p.rules i (p.rules.getD i ax)=out at hpl hall hsucc
  refine aJ.loopF ab ac (fun j:Nat=>j<=(p.rules.getD i ax).guards.length) (fun j=>[(5, .int .i64 (j:Int)),(3, .row 1000 (out j).length 6)]) (fun j=>[(1000,Js (out j))]) (fun j=>(p.rules.getD i ax).guards.length-j) 0 (by omega) ?_;conv=>whnf
  refine⟨sI,?_⟩
  intro j hj
  conv=>whnf
  refine nI ?_
  rw[tN]
  conv=>whnf
  refine ae (fun h2=>?_) (fun h2=>?_)<;>conv=>whnf
  ·refine nI ?_
   rw[tN]
   conv=>whnf
   refine nI ?_
   rw[tN]
   have hs:=hsucc j (by omega)
   have hlj:=hpl j
   generalize (p.rules.getD i ax).guards.getD j aM=g at hs
   conv=>whnf
   refine aj.borrow (n:=5) (Jt (out j) g (by omega)) rfl (by rintro _ ⟨n,rfl,_⟩;rfl) ?_
   rintro _ ⟨n,rfl,hn⟩
   conv=>whnf
   refine ae (fun h3=>?_) (fun h3=>?_)<;>conv=>whnf
   ·have hm:=hn.1 h3
    refine bp aM cg [g] rfl ?_
    conv=>whnf
    repeat' first|(refine at_ ?_;conv=>whnf)|(refine ae (fun _=>?_) (fun _=>?_)<;>conv=>whnf)
    have e:out (j+1)=out j++[g]:=by rw[hs,jJ,if_neg hm]
    refine⟨j+1,?_,by omega,by dsimp only;omega⟩
    dsimp only
    rw[e]
    exact aH.by_ [(1000, .old 41)] _ 400 rfl (aa) (aa)
   ·have hm:g∈out j:=Classical.byContradiction fun h=>h3 (hn.2 h)
    repeat' first|(refine at_ ?_;conv=>whnf)|(refine ae (fun _=>?_) (fun _=>?_)<;>conv=>whnf)
    have e:out (j+1)=out j:=by rw[hs,jJ,if_pos hm]
    refine⟨j+1,?_,by omega,by dsimp only;omega⟩
    dsimp only
    rw[e]
    exact sI
  ·obtain rfl:j=(p.rules.getD i ax).guards.length:=by omega
   repeat' first|(refine at_ ?_;conv=>whnf)|(refine ae (fun _=>?_) (fun _=>?_)<;>conv=>whnf)
   refine⟨i+1,?_,by omega,by dsimp only;omega⟩
   dsimp only
   rw[<-hall]
   exact sI
 ·obtain rfl:i=p.rules.length:=by omega
  rw[List.take_length]
  exact⟨rfl,rfl⟩
theorem Ej (x r:cf):ah Tryz.prog 258 [.agg (iL x), .pd (iL r)] (fun u=>u= .bool (decide (x.name=r.name))):=by
 refine ah.intro ab ac Tryz.func258 rfl (by decide) ?_;(conv=>whnf)
 refine au rfl ?_
 conv=>whnf
 refine ae (fun h=>?_) (fun h=>?_)<;>conv=>whnf
 ·exact⟨bE h,rfl⟩
 ·exact⟨aA h,rfl⟩
def iP (rs:List cf) (i:Nat) (r:cf):Prop:=∃j,j<(rs.take i).length/\((rs.take i).getD j ax).name=r.name
instance (rs:List cf) (i:Nat) (r:cf):Decidable (iP rs i r):=inferInstanceAs (Decidable (∃j,j<(rs.take i).length/\_))
theorem Gg (l:List cf) (r:cf) (hl:l.length<=4503599627370496):ah Tryz.prog 267 [.sl ax iL l, .fn 258 [.pd (iL r)]] (fun u=>∃n:Int,u= .int .i64 n/\(0<=n↔∃j,j<l.length/\(l.getD j ax).name=r.name)):=by
 refine ah.intro ab ac Tryz.func267 rfl (by decide) ?_;(conv=>whnf)
 refine aJ.loopF ab ac (fun k:Nat=>k<=l.length/\∀j,j<k->(l.getD j ax).name≠r.name) (fun k=>[(8, .int .i64 (k:Int))]) (fun _=>[]) (fun k=>l.length-k) 0 ⟨by omega,fun j hj=>by omega⟩ ?_;conv=>whnf
 refine⟨sI,?_⟩
 rintro k ⟨hk,ha⟩
 conv=>whnf
 refine ae (fun h1=>?_) (fun h1=>?_)<;>conv=>whnf
 ·refine nI ?_
  rw[tN]
  conv=>whnf
  refine dC (Ej (l.getD k ax) r) (fun _=>?_) (fun _=>?_)<;>(conv=>whnf)
  ·rename_i h2
   exact⟨⟨k,rfl,fun _=>⟨k,by omega,h2⟩,fun _=>by omega⟩,rfl⟩
  ·rename_i h2
   repeat' first|(refine at_ ?_;conv=>whnf)|(refine ae (fun _=>?_) (fun _=>?_)<;>conv=>whnf)
   refine⟨k+1,sI,⟨by omega,fun j hj=>?_⟩,by dsimp only;omega⟩
   by_cases e:j=k
   ·subst e;exact h2
   ·exact ha j (by omega)
 ·exact⟨⟨-1,rfl,fun h=>by omega,fun⟨j,h1,h2⟩=>absurd h2 (ha j (by omega))⟩,rfl⟩
theorem Gh (rs:List cf) (i:Nat) (r:cf) (hl:rs.length<=4503599627370496):ah Tryz.prog 191 [.sl ax iL (rs.take i), .fn 258 [.pd (iL r)]] (fun u=>u= .bool (decide (iP rs i r))):=by
 refine ah.intro ab ac Tryz.func191 rfl (by decide) ?_;(conv=>whnf)
 refine aj.of_pure (n:=5) (Gg (rs.take i) r (by simp;omega)) rfl ?_
 rintro _ ⟨n,rfl,hn⟩
 conv=>whnf
 refine ae (fun h=>?_) (fun h=>?_)<;>conv=>whnf
 ·exact⟨bE (hn.1 h),rfl⟩
 ·exact⟨aA (fun hh=>h (hn.2 hh)),rfl⟩
def Ju (a t:Int):Int:=if a<0\/2<a\/(a≠0/\t=3) then 1 else 0
def za (d t:Int):Int:=if(t=4/\(d<3\/4<d))\/(t≠4/\(d<1\/2<d)) then 1 else 0
def dN (p:av) (r:cf):Int:=
 if r.kind=1 then dH [ci p.messages.length r.guards,ca r.some_ p.states.length,ca r.forall_ p.states.length,iO p.values.length r.read,iO p.values.length r.write,ca r.send p.messages.length]
 else if r.kind=2 then dH [dA r.pfrom p.states.length,dA r.pto p.states.length,iO p.values.length r.read,iO p.values.length r.write]
 else if r.kind=3 then dH [jX r.response p.states.length,iO p.values.length r.read,iO p.values.length r.write]
 else if r.kind=4 then dH [ca r.left p.states.length,ca r.right p.states.length,ca r.parent p.states.length,Ju r.at_ p.topology]
 else dH [dA r.pfrom p.states.length,dA r.pto p.states.length,za r.direction p.topology]
def da (p:av) (i:Nat) (r:cf):Int:=
 if¬c9 r.name\/iP p.rules i r then 2 else if¬i7 r.kind p.topology\/jI r p.topology then 6
 else dH [dA r.src p.states.length,dA r.dst p.states.length,dN p r]
theorem Jv (a b c:Int):dH [a,b,c]=if dH [a,b]≠0 then dH [a,b] else c:=by
 simp only[dH]
 by_cases h1:a=0<;>by_cases h2:b=0<;>by_cases h3:c=0<;>simp[h1,h2,h3]
theorem Bf (p:av) (i:Nat) (hp:lO p) (hi:i<p.rules.length):ah Tryz.prog 188 [.agg (cV p), .int .i64 (i:Int)] (fun u=>u= .int .i64 (da p i (p.rules.getD i ax))):=by
 have hle:=kj hp
 have hbr:=yZ hp hi
 refine ah.intro ab ac Tryz.func188 rfl (by decide) ?_;(conv=>whnf)
 refine au rfl ?_
 conv=>whnf
 refine nI ?_
 rw[tN]
 generalize p.rules.getD i ax=r at hbr
 have hrl:=Ba hbr
 conv=>whnf
 refine nI ?_
 rw[tN]
 conv=>whnf
 refine aj.borrow (n:=5) (Gh p.rules i r (by omega)) rfl (by rintro _ rfl;rfl) ?_
 rintro _ rfl
 by_cases hv:c9 r.name
 ·by_cases ht:iP p.rules i r
  ·rw[decide_eq_true ht]
   conv=>whnf
   refine dC (fX r.name (by omega)) (fun _=>?_) (fun _=>?_)<;>(conv=>whnf)
   ·exact⟨ao (by rw[da,if_pos (.inr ht)]),rfl⟩
   ·exact⟨ao (by rw[da,if_pos (.inr ht)]),rfl⟩
  ·rw[decide_eq_false ht]
   have e1:∀x,(if¬c9 r.name\/iP p.rules i r then(2:Int) else x)=x:=fun x=>if_neg (by rintro(h|h);exact h hv;exact ht h)
   conv=>whnf
   refine dC (fX r.name (by omega)) (fun _=>?_) (fun _=>?_)<;>(conv=>whnf)
   ·by_cases hf:i7 r.kind p.topology
    ·refine dC (KP r.kind p.topology) (fun _=>?_) (fun _=>?_)<;>(conv=>whnf)
     ·refine dC (Gd r p.topology hbr hf) (fun _=>?_) (fun _=>?_)<;>(conv=>whnf)
      ·rename_i hs
       exact⟨ao (by rw[da,e1,if_pos (.inr hs)]),rfl⟩
      ·rename_i hs
       have e2:da p i r=dH [dA r.src p.states.length,dA r.dst p.states.length,dN p r]:=by rw[da,e1,if_neg (by rintro(h|h);exact h hf;exact hs h)]
       rw[Jv] at e2
       refine dI ?_
       conv=>whnf
       (refine oC (iM _ _) ?_;conv=>whnf)
       (refine oC (iM _ _) ?_;conv=>whnf)
       refine eH ?_
       conv=>whnf
       (refine oC (dh _ (by simp)) ?_;conv=>whnf)
       refine ae (fun h3=>?_) (fun h3=>?_)<;>conv=>whnf
       ·rw[if_pos h3] at e2
        exact⟨ao e2.symm,rfl⟩
       ·rw[if_neg h3] at e2
        have ff:=hf
        unfold i7 at ff
        by_cases k1:r.kind=1
        ·refine cO k1 ?_
         conv=>whnf
         refine dI ?_
         conv=>whnf
         (refine oC (Jq p r.guards (by omega)) ?_;conv=>whnf)
         (refine oC (oc r.some_ _ (by omega)) ?_;conv=>whnf)
         (refine oC (oc r.forall_ _ (by omega)) ?_;conv=>whnf)
         (refine oC (qp p r.read) ?_;conv=>whnf)
         (refine oC (qp p r.write) ?_;conv=>whnf)
         (refine oC (oc r.send _ (by omega)) ?_;conv=>whnf)
         refine eH ?_
         conv=>whnf
         (refine oC (dh _ (by simp)) ?_;conv=>whnf)
         exact⟨ao (by rw[e2,dN,if_pos k1]),rfl⟩
        refine cX k1 ?_
        conv=>whnf
        by_cases k2:r.kind=2
        ·refine cO k2 ?_
         conv=>whnf
         refine dI ?_
         conv=>whnf
         (refine oC (iM _ _) ?_;conv=>whnf)
         (refine oC (iM _ _) ?_;conv=>whnf)
         (refine oC (qp p r.read) ?_;conv=>whnf)
         (refine oC (qp p r.write) ?_;conv=>whnf)
         refine eH ?_
         conv=>whnf
         (refine oC (dh _ (by simp)) ?_;conv=>whnf)
         exact⟨ao (by rw[e2,dN,if_neg k1,if_pos k2]),rfl⟩
        refine cX k2 ?_
        conv=>whnf
        by_cases k3:r.kind=3
        ·refine cO k3 ?_
         conv=>whnf
         refine dI ?_
         conv=>whnf
         (refine oC (Bd r.response _ (by omega)) ?_;conv=>whnf)
         (refine oC (qp p r.read) ?_;conv=>whnf)
         (refine oC (qp p r.write) ?_;conv=>whnf)
         refine eH ?_
         conv=>whnf
         (refine oC (dh _ (by simp)) ?_;conv=>whnf)
         exact⟨ao (by rw[e2,dN,if_neg k1,if_neg k2,if_pos k3]),rfl⟩
        refine cX k3 ?_
        conv=>whnf
        by_cases k4:r.kind=4
        ·refine cO k4 ?_
         conv=>whnf
         by_cases hm:r.at_<0\/2<r.at_\/(r.at_≠0/\p.topology=3)
         ·have ea:(1:Int)=Ju r.at_ p.topology:=by rw[Ju,if_pos hm]
          repeat' (first|(refine tI ?_;conv=>whnf)|(refine fI ?_;conv=>whnf)|(refine ae (fun _=>?_) (fun _=>?_)<;>conv=>whnf))
          all_goals
           refine dI ?_
           conv=>whnf
           (refine oC (oc r.left _ (by omega)) ?_;conv=>whnf)
           (refine oC (oc r.right _ (by omega)) ?_;conv=>whnf)
           (refine oC (oc r.parent _ (by omega)) ?_;conv=>whnf)
           (refine oC (jW 1) ?_;conv=>whnf)
           refine eH ?_
           conv=>whnf
           (refine oC (dh _ (by simp)) ?_;conv=>whnf)
           exact⟨ao (by rw[e2,dN,if_neg k1,if_neg k2,if_neg k3,if_pos k4,<-ea]),rfl⟩
         ·have ea:(0:Int)=Ju r.at_ p.topology:=by rw[Ju,if_neg hm]
          repeat' (first|(refine tI ?_;conv=>whnf)|(refine fI ?_;conv=>whnf)|(refine ae (fun _=>?_) (fun _=>?_)<;>conv=>whnf))
          all_goals
           refine dI ?_
           conv=>whnf
           (refine oC (oc r.left _ (by omega)) ?_;conv=>whnf)
           (refine oC (oc r.right _ (by omega)) ?_;conv=>whnf)
           (refine oC (oc r.parent _ (by omega)) ?_;conv=>whnf)
           (refine oC (iY 1) ?_;conv=>whnf)
           refine eH ?_
           conv=>whnf
           (refine oC (dh _ (by simp)) ?_;conv=>whnf)
           exact⟨ao (by rw[e2,dN,if_neg k1,if_neg k2,if_neg k3,if_pos k4,<-ea]),rfl⟩
        refine cX k4 ?_
        conv=>whnf
        by_cases hd:(p.topology=4/\(r.direction<3\/4<r.direction))\/(p.topology≠4/\(r.direction<1\/2<r.direction))
        ·have ea:(1:Int)=za r.direction p.topology:=by rw[za,if_pos hd]
         refine ae (fun h4=>?_) (fun h4=>?_)<;>conv=>whnf
         all_goals
          refine dI ?_
          conv=>whnf
          (refine oC (iM _ _) ?_;conv=>whnf)
          (refine oC (iM _ _) ?_;conv=>whnf)
          repeat' (first|(refine tI ?_;conv=>whnf)|(refine fI ?_;conv=>whnf)|(refine ae (fun _=>?_) (fun _=>?_)<;>conv=>whnf))
          all_goals
           (refine oC (jW 1) ?_;conv=>whnf)
           refine eH ?_
           conv=>whnf
           (refine oC (dh _ (by simp)) ?_;conv=>whnf)
           exact⟨ao (by rw[e2,dN,if_neg k1,if_neg k2,if_neg k3,if_neg k4,<-ea]),rfl⟩
        ·have ea:(0:Int)=za r.direction p.topology:=by rw[za,if_neg hd]
         refine ae (fun h4=>?_) (fun h4=>?_)<;>conv=>whnf
         all_goals
          refine dI ?_
          conv=>whnf
          (refine oC (iM _ _) ?_;conv=>whnf)
          (refine oC (iM _ _) ?_;conv=>whnf)
          repeat' (first|(refine tI ?_;conv=>whnf)|(refine fI ?_;conv=>whnf)|(refine ae (fun _=>?_) (fun _=>?_)<;>conv=>whnf))
          all_goals
           (refine oC (iY 1) ?_;conv=>whnf)
           refine eH ?_
           conv=>whnf
           (refine oC (dh _ (by simp)) ?_;conv=>whnf)
           exact⟨ao (by rw[e2,dN,if_neg k1,if_neg k2,if_neg k3,if_neg k4,<-ea]),rfl⟩
     ·rename_i h;exact absurd hf h
    ·refine dC (KP r.kind p.topology) (fun _=>?_) (fun _=>?_)<;>(conv=>whnf)
     ·rename_i h;exact absurd h hf
     ·exact⟨ao (by rw[da,e1,if_pos (.inl hf)]),rfl⟩
   ·rename_i h;exact absurd hv h
 ·by_cases ht:iP p.rules i r
  ·rw[decide_eq_true ht]
   conv=>whnf
   refine dC (fX r.name (by omega)) (fun _=>?_) (fun _=>?_)<;>(conv=>whnf)
   ·exact⟨ao (by rw[da,if_pos (.inl hv)]),rfl⟩
   ·exact⟨ao (by rw[da,if_pos (.inl hv)]),rfl⟩
  ·rw[decide_eq_false ht]
   conv=>whnf
   refine dC (fX r.name (by omega)) (fun _=>?_) (fun _=>?_)<;>(conv=>whnf)
   ·rename_i h;exact absurd h hv
   ·exact⟨ao (by rw[da,if_pos (.inl hv)]),rfl⟩
end Go.Proofs.YtekmminpfhacpaaGreatDoor
