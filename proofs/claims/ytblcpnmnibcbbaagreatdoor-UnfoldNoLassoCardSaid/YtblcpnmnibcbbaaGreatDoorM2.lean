import Derived.Test.YtblcpnmnibcbbaaGreatDoorFnO
set_option linter.unusedVariables false
set_option linter.unusedSimpArgs false
namespace Go.Proofs.YtblcpnmnibcbbaaGreatDoor
set_option maxRecDepth 100000
def z3 (c:Nat):Prop:=97<=c/\c<=122\/48<=c/\c<=57\/c=95
instance (c:Nat):Decidable (z3 c):=inferInstanceAs (Decidable (_\/_))
def cR (s:ByteArray):Prop:=(0<s.size/\s.size<=12)/\(97<=lP s 0/\lP s 0<=122)/\(∀i,i<s.size->z3 (lP s i))/\s∉lp
instance (s:ByteArray):Decidable (cR s):=inferInstanceAs (Decidable (_/\_))
theorem xD {s:ByteArray} {k:Nat} (h:k<s.size):(s.get! (k+0)).toNat=lP s k:=by
 unfold lP
 congr 1
theorem yX {s:ByteArray} {k:Nat} (h:k<s.size) (hb:lP s k<128):Utf8.decode s k=(lP s k,1):=by
 unfold Utf8.decode
 simp only[xD h]
 rw[if_pos hb]
theorem yY {s:ByteArray} {k:Nat} (h:k<s.size) (hb:¬lP s k<128):128<=(Utf8.decode s k).1:=by
 unfold Utf8.decode
 simp only[xD h]
 rw[if_neg hb]
 (repeat' split)<;>simp only[Utf8.runeError,ge_iff_le,Bool.and_eq_true,decide_eq_true_eq] at*<;>omega
theorem uJ {s:ByteArray}:s=t0↔s.size=0:=by
 constructor
 ·rintro rfl;rfl
 ·intro h
  cases s with|mk a=>
  have:a.size=0:=h
  have:a=#[]:=Array.eq_empty_of_size_eq_zero this
  rw[this];rfl
theorem eV (s:ByteArray) (hs:s.size<=4503599627370496):aa Tryz.prog 94 [.str s] (fun u=>u= .bool (decide (cR s))):=by
 refine aa.intro ab ac Tryz.func94 rfl (by decide) ?_;(conv=>whnf)
 refine ag (fun h1=>?_) (fun h1=>?_)<;>conv=>whnf
 ·exact⟨an (fun h=>by have:=uJ.1 h1;have:=h.1;omega),rfl⟩
 have h0:s.size≠0:=fun h=>h1 (uJ.2 h)
 refine ag (fun h2=>?_) (fun h2=>?_)<;>conv=>whnf
 ·exact⟨an (fun h=>by have:=h.1;omega),rfl⟩
 refine aR.loopF ab ac (fun k:Nat=>k<=s.size/\∀j,j<k->z3 (lP s j)/\(j=0->97<=lP s 0/\lP s 0<=122)) (fun _=>[]) (fun k=>[(14, .iter s k)]) (fun k=>s.size-k) 0 ⟨by omega,fun j hj=>by omega⟩ ?_;conv=>whnf
 refine⟨sI,?_⟩
 rintro k ⟨hk,ha⟩
 conv=>whnf
 refine G' (fun h3=>?_) (fun h3=>?_)<;>conv=>whnf
 ·by_cases hb:lP s k<128
  ·rw[yX h3 hb]
   by_cases hgood:z3 (lP s k)/\(k=0->97<=lP s 0/\lP s 0<=122)
   ·obtain⟨g1,g2⟩:=hgood
    have g3:k=0->lP s k=lP s 0:=fun e=>by rw[e]
    unfold z3 at g1
    repeat' first|(refine at_ ?_;conv=>whnf)|(refine ag (fun _=>?_) (fun _=>?_)<;>conv=>whnf)
    all_goals
     refine⟨k+1,sI,⟨by omega,fun j hj=>?_⟩,by dsimp only;omega⟩
     by_cases e:j=k
     ·subst e;exact⟨g1,g2⟩
     ·exact ha j (by omega)
   ·have hbad:¬cR s:=fun h=>hgood ⟨h.2.2.1 k h3,fun _=>h.2.1⟩
    have g3:k=0->lP s k=lP s 0:=fun e=>by rw[e]
    unfold z3 at hgood
    repeat' first|(refine at_ ?_;conv=>whnf)|(refine ag (fun _=>?_) (fun _=>?_)<;>conv=>whnf)
    all_goals exact⟨an hbad,rfl⟩
  ·have hd:=yY h3 hb
   have hbad:¬cR s:=fun h=>by have:=h.2.2.1 k h3;unfold z3 at this;omega
   generalize Utf8.decode s k=x at hd
   obtain⟨c,w⟩:=x
   dsimp only at hd⊢
   repeat' first|(refine at_ ?_;conv=>whnf)|(refine ag (fun _=>?_) (fun _=>?_)<;>conv=>whnf)
   all_goals exact⟨an hbad,rfl⟩
 ·have hall:(∀i,i<s.size->z3 (lP s i)):=fun i hi=>(ha i (by omega)).1
  have hf:=(ha 0 (by omega)).2 rfl
  refine dC (uH s) (fun _=>?_) (fun _=>?_)<;>(conv=>whnf)
  ·rename_i h;exact⟨an (fun hh=>hh.2.2.2 h),rfl⟩
  ·rename_i h;exact⟨aH ⟨by omega,hf,hall,h⟩,rfl⟩
theorem yZ:aa Tryz.prog 123 [] (fun u=>u= .sl t0 gU lp):=by
 refine aa.intro ab ac Tryz.func123 rfl (by decide) ?_;(conv=>whnf)
 refine c8 t0 gU lp rfl ?_
 conv=>whnf
 exact⟨rfl,rfl⟩
theorem jy (s:ByteArray) (hs:s.size<=4503599627370496):aa Tryz.prog 72 [.str s] (fun u=>u= .bool (decide (cR s))):=by
 refine aa.intro ab ac Tryz.func72 rfl (by decide) ?_;(conv=>whnf)
 refine dC (bd _ _ _) (fun _=>?_) (fun _=>?_)<;>(conv=>whnf)
 ·rename_i h0
  have e0:((s.data.getD (0:Int).toNat 0).toNat:Int)=lP s 0:=rfl
  by_cases hf:97<=lP s 0/\lP s 0<=122
  ·repeat' first|(refine at_ ?_;conv=>whnf)|(refine ag (fun _=>?_) (fun _=>?_)<;>conv=>whnf)
   refine aR.loopF ab ac (fun k:Nat=>k<=s.size/\∀j,j<k->z3 (lP s j)) (fun k=>[(3, .int .i64 (k:Int))]) (fun _=>[]) (fun k=>s.size-k) 0 ⟨by omega,fun j hj=>by omega⟩ ?_;conv=>whnf
   refine⟨sI,?_⟩
   rintro k ⟨hk,ha⟩
   conv=>whnf
   refine ag (fun h1=>?_) (fun h1=>?_)<;>conv=>whnf
   ·have ek:((s.data.getD (k:Int).toNat 0).toNat:Int)=lP s k:=rfl
    by_cases hg:z3 (lP s k)
    ·have hg':=hg
     unfold z3 at hg'
     repeat' first|(refine at_ ?_;conv=>whnf)|(refine ag (fun _=>?_) (fun _=>?_)<;>conv=>whnf)
     all_goals
      refine⟨k+1,sI,⟨by omega,fun j hj=>?_⟩,by dsimp only;omega⟩
      by_cases e:j=k
      ·subst e;exact hg
      ·exact ha j (by omega)
    ·have hbad:¬cR s:=fun h=>hg (h.2.2.1 k (by omega))
     unfold z3 at hg
     repeat' first|(refine at_ ?_;conv=>whnf)|(refine ag (fun _=>?_) (fun _=>?_)<;>conv=>whnf)
     all_goals exact⟨an hbad,rfl⟩
   ·(refine oP (yZ) ?_;conv=>whnf)
    refine dC (uG lp s (by decide)) (fun _=>?_) (fun _=>?_)<;>(conv=>whnf)
    ·rename_i h;exact⟨an (fun hh=>hh.2.2.2 h),rfl⟩
    ·rename_i h;exact⟨aH ⟨by omega,hf,fun i hi=>ha i (by omega),h⟩,rfl⟩
  ·repeat' first|(refine at_ ?_;conv=>whnf)|(refine ag (fun _=>?_) (fun _=>?_)<;>conv=>whnf)
   all_goals exact⟨an (fun h=>hf h.2.1),rfl⟩
 ·rename_i h0
  exact⟨an (fun h=>h0 (by have:=h.1;omega)),rfl⟩
set_option maxRecDepth 100000
set_option maxHeartbeats 4000000
theorem cI (l:List Int) (hl:l.length<=4503599627370496):aa Tryz.prog 96 [.sl 0 aD l] (fun u=>u= .int .i64 (co l)):=by
 refine aa.intro ab ac Tryz.func96 rfl (by decide) ?_;(conv=>whnf)
 refine aR.loopF ab ac (fun k:Nat=>k<=l.length/\co l=co (l.drop k)) (fun k=>[(7, .int .i64 (k:Int))]) (fun _=>[]) (fun k=>l.length-k) 0 ⟨by omega,rfl⟩ ?_;conv=>whnf
 refine⟨sI,?_⟩
 rintro k ⟨hk,he⟩
 conv=>whnf
 repeat' first|(refine at_ ?_;conv=>whnf)|(refine ag (fun _=>?_) (fun _=>?_)<;>conv=>whnf)
 ·rename_i h1 h2
  rw[mq (by omega),if_pos (by simpa using h2)] at he
  exact⟨aj (by rw[he];rfl),rfl⟩
 ·rename_i h1 h2
  rw[mq (by omega),if_neg (by simpa using h2)] at he
  exact⟨k+1,sI,⟨by omega,he⟩,by dsimp only;omega⟩
 ·obtain rfl:k=l.length:=by omega
  rw[List.drop_length] at he
  exact⟨aj he.symm,rfl⟩
theorem ir (e:Int):aa Tryz.prog 97 [.bool true, .int .i64 e] (fun u=>u= .int .i64 e):=by
 refine aa.intro ab ac Tryz.func97 rfl (by decide) ?_;(conv=>whnf)
 exact⟨rfl,rfl⟩
theorem gh (e:Int):aa Tryz.prog 97 [.bool false, .int .i64 e] (fun u=>u= .int .i64 0):=by
 refine aa.intro ab ac Tryz.func97 rfl (by decide) ?_;(conv=>whnf)
 exact⟨rfl,rfl⟩
def cZ (i n:Int):Int:=if i<0\/n<=i then 5 else 0
theorem f8 (i n:Int):aa Tryz.prog 143 [.int .i64 i, .int .i64 n] (fun u=>u= .int .i64 (cZ i n)):=by
 refine aa.intro ab ac Tryz.func143 rfl (by decide) ?_;(conv=>whnf)
 by_cases h:i<0\/n<=i
 ·rw[cZ,if_pos h]
  repeat' first|(refine at_ ?_;conv=>whnf)|(refine ag (fun _=>?_) (fun _=>?_)<;>conv=>whnf)
  all_goals
   (refine oP (ir 5) ?_;conv=>whnf)
   exact⟨rfl,rfl⟩
 ·rw[cZ,if_neg h]
  repeat' first|(refine at_ ?_;conv=>whnf)|(refine ag (fun _=>?_) (fun _=>?_)<;>conv=>whnf)
  (refine oP (gh 5) ?_;conv=>whnf)
  exact⟨rfl,rfl⟩
def qN (n:Int):Prop:=-100<=n/\n<=100
instance (n:Int):Decidable (qN n):=inferInstanceAs (Decidable (_/\_))
def mt (l:wA):Prop:=qN l.c/\qN l.n/\qN l.t/\qN l.f
instance (l:wA):Decidable (mt l):=inferInstanceAs (Decidable (_/\_))
theorem oA (n:Int):aa Tryz.prog 161 [.int .i64 n] (fun u=>u= .bool (decide (qN n))):=by
 refine aa.intro ab ac Tryz.func161 rfl (by decide) ?_;(conv=>whnf)
 repeat' first|(refine at_ ?_;conv=>whnf)|(refine ag (fun _=>?_) (fun _=>?_)<;>conv=>whnf)
 all_goals first
  |exact⟨aH (by unfold qN;omega),rfl⟩
  |exact⟨an (by unfold qN;omega),rfl⟩
theorem mv (l:wA):aa Tryz.prog 139 [.agg (lD l)] (fun u=>u= .bool (decide (mt l))):=by
 refine aa.intro ab ac Tryz.func139 rfl (by decide) ?_;(conv=>whnf)
 refine am rfl ?_
 conv=>whnf
 refine dC (oA _) (fun _=>?_) (fun _=>?_)<;>(conv=>whnf)
 ·refine dC (oA _) (fun _=>?_) (fun _=>?_)<;>(conv=>whnf)
  ·refine dC (oA _) (fun _=>?_) (fun _=>?_)<;>(conv=>whnf)
   ·refine dC (oA _) (fun _=>?_) (fun _=>?_)<;>(conv=>whnf)
    ·exact⟨aH ⟨by assumption,by assumption,by assumption,by assumption⟩,rfl⟩
    ·rename_i h;exact⟨an (fun hh=>h hh.2.2.2),rfl⟩
   ·rename_i h;exact⟨an (fun hh=>h hh.2.2.1),rfl⟩
  ·rename_i h;exact⟨an (fun hh=>h hh.2.1),rfl⟩
 ·rename_i h;exact⟨an (fun hh=>h hh.1),rfl⟩
theorem FZ (l:wA):aa Tryz.prog 120 [.agg (lD l)] (fun u=>u= .bool (decide (mt l))):=by
 refine aa.intro ab ac Tryz.func120 rfl (by decide) ?_;(conv=>whnf)
 refine am rfl ?_
 conv=>whnf
 refine dC (bd _ _ _) (fun _=>?_) (fun _=>?_)<;>(conv=>whnf)
 ·refine dC (bd _ _ _) (fun _=>?_) (fun _=>?_)<;>(conv=>whnf)
  ·refine dC (bd _ _ _) (fun _=>?_) (fun _=>?_)<;>(conv=>whnf)
   ·refine dC (bd _ _ _) (fun _=>?_) (fun _=>?_)<;>(conv=>whnf)
    ·exact⟨aH ⟨by assumption,by assumption,by assumption,by assumption⟩,rfl⟩
    ·rename_i h;exact⟨an (fun hh=>h hh.2.2.2),rfl⟩
   ·rename_i h;exact⟨an (fun hh=>h hh.2.2.1),rfl⟩
  ·rename_i h;exact⟨an (fun hh=>h hh.2.1),rfl⟩
 ·rename_i h;exact⟨an (fun hh=>h hh.1),rfl⟩
def cb (k t:Int):Prop:=(k=1\/k=2\/k=3)/\t=1\/(k=4\/k=5)/\t≠1
instance (k t:Int):Decidable (cb k t):=inferInstanceAs (Decidable (_\/_))
theorem Fe (k t:Int):aa Tryz.prog 164 [.int .i64 k, .int .i64 t] (fun u=>u= .bool (decide (cb k t))):=by
 refine aa.intro ab ac Tryz.func164 rfl (by decide) ?_;(conv=>whnf)
 repeat' first|(refine at_ ?_;conv=>whnf)|(refine ag (fun _=>?_) (fun _=>?_)<;>conv=>whnf)
 all_goals first
  |exact⟨aH (by unfold cb;omega),rfl⟩
  |exact⟨an (by unfold cb;omega),rfl⟩
def jz (r:cY) (t:Int):Prop:=(r.kind≠1/\(0<r.guards.length\/0<r.some_.length\/0<r.forall_.length\/0<r.send.length))\/(r.kind≠1/\r.kind≠2/\r.kind≠3/\(r.read≠-1\/r.write≠-1))\/
 (r.kind≠2/\r.kind≠5/\(r.pfrom≠0\/r.pto≠0))\/(r.kind≠3/\0<r.response.length)\/(r.kind≠5/\r.direction≠0)\/(r.kind≠4/\(r.at_≠0\/0<r.left.length\/0<r.right.length))\/(0<r.parent.length/\¬(r.kind=4/\t=4))
instance (r:cY) (t:Int):Decidable (jz r t):=inferInstanceAs (Decidable (_\/_))
theorem Bs (r:cY) (t:Int) (hr:GS r) (hf:cb r.kind t):aa Tryz.prog 165 [.agg (iY r), .int .i64 t] (fun u=>u= .bool (decide (jz r t))):=by
 have hb:=wB hr
 refine aa.intro ab ac Tryz.func165 rfl (by decide) ?_;(conv=>whnf)
 refine Dx ?_
 conv=>whnf
 unfold cb at hf
 repeat' first|(refine at_ ?_;conv=>whnf)|(refine ag (fun _=>?_) (fun _=>?_)<;>conv=>whnf)
 all_goals first
  |exact⟨aH (by unfold jz;omega),rfl⟩
  |exact⟨an (by unfold jz;omega),rfl⟩
theorem xE (p:aq) (r:cY) (hf:cb r.kind p.topology):aa Tryz.prog 154 [.agg (bc p), .agg (iY r)] (fun u=>u= .bool (decide (jz r p.topology))):=by
 refine aa.intro ab ac Tryz.func154 rfl (by decide) ?_;(conv=>whnf)
 refine am rfl ?_
 conv=>whnf
 refine am rfl ?_
 conv=>whnf
 unfold cb at hf
 repeat' first|(refine at_ ?_;conv=>whnf)|(refine ag (fun _=>?_) (fun _=>?_)<;>conv=>whnf)
 all_goals first
  |exact⟨aH (by unfold jz;omega),rfl⟩
  |exact⟨an (by unfold jz;omega),rfl⟩
set_option maxRecDepth 100000
set_option maxHeartbeats 4000000
theorem wC {α:Type} {l:List α} {i:Nat} (d:α) (h:i<l.length):l.drop i=l.getD i d::l.drop (i+1):=by
 rw[List.drop_eq_getElem_cons h]
 simp[List.getD,h]
theorem d7 {α:Type} {l:List α} (f:α->Int) {k:Nat} (d:α) (h:k<l.length):co ((l.drop k).map f)=if f (l.getD k d)≠0 then f (l.getD k d) else co ((l.drop (k+1)).map f):=by
 rw[wC d h];rfl
def ky (c:Int):Int:=if c<1\/100<c then 1 else 0
def mw (l:wA):Int:=if mt l then 0 else 4
def gE (m:Int) (g:mY):Int:=co [cZ g.message m,ky g.coef,mw g.bound]
def bQ (m:Int) (l:List mY):Int:=if co (l.map (gE m))≠0 then co (l.map (gE m)) else if 2<l.length then 4 else 0
theorem D6 (p:aq) (l:List mY) (hl:l.length<=4503599627370496):aa Tryz.prog 166 [.agg (bc p), .sl du eU l] (fun u=>u= .int .i64 (bQ p.messages.length l)):=by
 refine aa.intro ab ac Tryz.func166 rfl (by decide) ?_;(conv=>whnf)
 refine am rfl ?_
 conv=>whnf
 refine aR.loopF ab ac (fun k:Nat=>k<=l.length/\co (l.map (gE p.messages.length))=co ((l.drop k).map (gE p.messages.length))) (fun k=>[(10, .int .i64 (k:Int))]) (fun _=>[]) (fun k=>l.length-k) 0 ⟨by omega,rfl⟩ ?_;conv=>whnf
 refine⟨sI,?_⟩
 rintro k ⟨hk,he⟩
 conv=>whnf
 refine ag (fun h1=>?_) (fun h1=>?_)<;>conv=>whnf
 ·rw[d7 _ du (by omega)] at he
  refine nI ?_
  rw[tN]
  generalize l.getD k du=g at he
  conv=>whnf
  refine dI ?_
  conv=>whnf
  (refine oC (f8 g.message p.messages.length) ?_;conv=>whnf)
  have fin:∀c:Int,c=ky g.coef->∀b:Int,b=mw g.bound->co [cZ g.message p.messages.length,c,b]=gE p.messages.length g:=by rintro c rfl b rfl;rfl
  by_cases hc:g.coef<1\/100<g.coef
  ·have ec:(1:Int)=ky g.coef:=by rw[ky,if_pos hc]
   repeat' first|(refine at_ ?_;conv=>whnf)|(refine ag (fun _=>?_) (fun _=>?_)<;>conv=>whnf)
   all_goals
    (refine oC (ir 1) ?_;conv=>whnf)
    refine dD (mv g.bound) (fun _=>?_) (fun _=>?_)<;>(conv=>whnf)
    ·rename_i hb
     have eb:(0:Int)=mw g.bound:=by rw[mw,if_pos hb]
     (refine oC (gh 4) ?_;conv=>whnf)
     refine dF ?_
     conv=>whnf
     (refine oC (cI _ (by simp)) ?_;conv=>whnf)
     rw[fin _ ec _ eb]
     refine ag (fun h2=>?_) (fun h2=>?_)<;>conv=>whnf
     ·rw[if_pos h2] at he
      exact⟨aj (by rw[bQ,he,if_pos h2]),rfl⟩
     ·rw[if_neg h2] at he
      repeat' first|(refine at_ ?_;conv=>whnf)|(refine ag (fun _=>?_) (fun _=>?_)<;>conv=>whnf)
      exact⟨k+1,sI,⟨by omega,he⟩,by dsimp only;omega⟩
    ·rename_i hb
     have eb:(4:Int)=mw g.bound:=by rw[mw,if_neg hb]
     (refine oC (ir 4) ?_;conv=>whnf)
     refine dF ?_
     conv=>whnf
     (refine oC (cI _ (by simp)) ?_;conv=>whnf)
     rw[fin _ ec _ eb]
     refine ag (fun h2=>?_) (fun h2=>?_)<;>conv=>whnf
     ·rw[if_pos h2] at he
      exact⟨aj (by rw[bQ,he,if_pos h2]),rfl⟩
     ·rw[if_neg h2] at he
      repeat' first|(refine at_ ?_;conv=>whnf)|(refine ag (fun _=>?_) (fun _=>?_)<;>conv=>whnf)
      exact⟨k+1,sI,⟨by omega,he⟩,by dsimp only;omega⟩
  ·have ec:(0:Int)=ky g.coef:=by rw[ky,if_neg hc]
   repeat' first|(refine at_ ?_;conv=>whnf)|(refine ag (fun _=>?_) (fun _=>?_)<;>conv=>whnf)
   (refine oC (gh 1) ?_;conv=>whnf)
   refine dD (mv g.bound) (fun _=>?_) (fun _=>?_)<;>(conv=>whnf)
   ·rename_i hb
    have eb:(0:Int)=mw g.bound:=by rw[mw,if_pos hb]
    (refine oC (gh 4) ?_;conv=>whnf)
    refine dF ?_
    conv=>whnf
    (refine oC (cI _ (by simp)) ?_;conv=>whnf)
    rw[fin _ ec _ eb]
    refine ag (fun h2=>?_) (fun h2=>?_)<;>conv=>whnf
    ·rw[if_pos h2] at he
     exact⟨aj (by rw[bQ,he,if_pos h2]),rfl⟩
    ·rw[if_neg h2] at he
     repeat' first|(refine at_ ?_;conv=>whnf)|(refine ag (fun _=>?_) (fun _=>?_)<;>conv=>whnf)
     exact⟨k+1,sI,⟨by omega,he⟩,by dsimp only;omega⟩
   ·rename_i hb
    have eb:(4:Int)=mw g.bound:=by rw[mw,if_neg hb]
    (refine oC (ir 4) ?_;conv=>whnf)
    refine dF ?_
    conv=>whnf
    (refine oC (cI _ (by simp)) ?_;conv=>whnf)
    rw[fin _ ec _ eb]
    refine ag (fun h2=>?_) (fun h2=>?_)<;>conv=>whnf
    ·rw[if_pos h2] at he
     exact⟨aj (by rw[bQ,he,if_pos h2]),rfl⟩
    ·rw[if_neg h2] at he
     repeat' first|(refine at_ ?_;conv=>whnf)|(refine ag (fun _=>?_) (fun _=>?_)<;>conv=>whnf)
     exact⟨k+1,sI,⟨by omega,he⟩,by dsimp only;omega⟩
 ·obtain rfl:k=l.length:=by omega
  rw[List.drop_length] at he
  have h0:co (l.map (gE p.messages.length))=0:=he
  refine ag (fun h2=>?_) (fun h2=>?_)<;>conv=>whnf
  ·(refine oP (ir 4) ?_;conv=>whnf)
   exact⟨aj (by rw[bQ,h0,if_neg (by simp),if_pos (by omega)]),rfl⟩
  ·(refine oP (gh 4) ?_;conv=>whnf)
   exact⟨aj (by rw[bQ,h0,if_neg (by simp),if_neg (by omega)]),rfl⟩
def kz (l:List Int) (n:Int):Int:=if(l.length:Int)≠n then 1 else if jT l n then 0 else 5
theorem wD (l:List Int) (n:Int) (hl:l.length<=4503599627370496):aa Tryz.prog 168 [.sl 0 aD l, .int .i64 n] (fun u=>u= .int .i64 (kz l n)):=by
 refine aa.intro ab ac Tryz.func168 rfl (by decide) ?_;(conv=>whnf)
 refine ag (fun h0=>?_) (fun h0=>?_)<;>conv=>whnf
 ·exact⟨aj (by rw[kz,if_pos h0]),rfl⟩
 refine aR.loopF ab ac (fun k:Nat=>k<=l.length/\∀j,j<k->0<=l.getD j 0/\l.getD j 0<n) (fun k=>[(14, .int .i64 (k:Int))]) (fun _=>[]) (fun k=>l.length-k) 0 ⟨by omega,fun j hj=>by omega⟩ ?_;conv=>whnf
 refine⟨sI,?_⟩
 rintro k ⟨hk,ha⟩
 conv=>whnf
 refine ag (fun h1=>?_) (fun h1=>?_)<;>conv=>whnf
 ·refine nI ?_
  rw[tN]
  conv=>whnf
  (refine oP (f8 _ _) ?_;conv=>whnf)
  by_cases hb:l.getD k 0<0\/n<=l.getD k 0
  ·rw[cZ,if_pos hb]
   repeat' first|(refine at_ ?_;conv=>whnf)|(refine ag (fun _=>?_) (fun _=>?_)<;>conv=>whnf)
   refine⟨aj ?_,rfl⟩
   rw[kz,if_neg h0,if_neg]
   intro h
   have:=h k (by omega)
   omega
  ·rw[cZ,if_neg hb]
   repeat' first|(refine at_ ?_;conv=>whnf)|(refine ag (fun _=>?_) (fun _=>?_)<;>conv=>whnf)
   refine⟨k+1,sI,⟨by omega,fun j hj=>?_⟩,by dsimp only;omega⟩
   by_cases e:j=k
   ·subst e;omega
   ·exact ha j (by omega)
 ·exact⟨aj (by rw[kz,if_neg h0,if_pos (show jT l n from fun j hj=>ha j (by omega))]),rfl⟩
def f9 (m v:Int):Int:=if v< -1\/m<=v then 5 else 0
theorem nw (p:aq) (v:Int):aa Tryz.prog 167 [.agg (bc p), .int .i64 v] (fun u=>u= .int .i64 (f9 p.values.length v)):=by
 refine aa.intro ab ac Tryz.func167 rfl (by decide) ?_;(conv=>whnf)
 refine am rfl ?_
 conv=>whnf
 by_cases h:v< -1\/(p.values.length:Int)<=v
 ·rw[f9,if_pos h]
  repeat' first|(refine at_ ?_;conv=>whnf)|(refine ag (fun _=>?_) (fun _=>?_)<;>conv=>whnf)
  all_goals
   (refine oP (ir 5) ?_;conv=>whnf)
   exact⟨rfl,rfl⟩
 ·rw[f9,if_neg h]
  repeat' first|(refine at_ ?_;conv=>whnf)|(refine ag (fun _=>?_) (fun _=>?_)<;>conv=>whnf)
  (refine oP (gh 5) ?_;conv=>whnf)
  exact⟨rfl,rfl⟩
def D7 (g:mY):List Int:=[g.message,g.coef,g.bound.c,g.bound.n,g.bound.t,g.bound.f]
theorem pN {a b:mY}:D7 a=D7 b↔a=b:=by
 constructor
 ·intro h
  obtain⟨m,c,⟨x,y,z,w⟩⟩:=a
  obtain⟨m',c',⟨x',y',z',w'⟩⟩:=b
  simp only[D7,List.cons.injEq,and_true] at h
  obtain⟨rfl,rfl,rfl,rfl,rfl,rfl⟩:=h
  rfl
 ·rintro rfl;rfl
theorem pO {α:Type} {l:List α} {k:Nat} (d:α) (h:k<l.length):l.getD k d∈l:=by
 rw[gD,gL h]
 exact List.getElem_mem _
theorem dX {α:Type} {l:List α} {k:Nat} (d:α) (h:k<l.length):l.take (k+1)=l.take k++[l.getD k d]:=by
 rw[List.take_succ_eq_append_getElem h,gD,gL h]
 rfl
theorem y1 (l:List mY) (g:mY) (hl:l.length<=4503599627370496):aa Tryz.prog 188 [.sl du eU l, .agg (eU g)] (fun u=>∃n:Int,u= .int .i64 n/\(0<=n↔g∈l)):=by
 refine aa.intro ab ac Tryz.func188 rfl (by decide) ?_;(conv=>whnf)
 refine am rfl ?_
 conv=>whnf
 refine aR.loopF ab ac (fun k:Nat=>k<=l.length/\g∉l.take k) (fun k=>[(8, .int .i64 (k:Int))]) (fun _=>[]) (fun k=>l.length-k) 0 ⟨by omega,by simp⟩ ?_;conv=>whnf
 refine⟨sI,?_⟩
 rintro k ⟨hk,ha⟩
 conv=>whnf
 repeat' first|(refine at_ ?_;conv=>whnf)|(refine ag (fun _=>?_) (fun _=>?_)<;>conv=>whnf)
 ·rename_i h1 h2
  rw[tN] at h2
  have h2:g=l.getD k du:=pN.1 h2
  refine⟨⟨k,rfl,fun _=>?_,fun _=>by omega⟩,rfl⟩
  rw[h2];exact pO _ (by omega)
 ·rename_i h1 h2
  rw[tN] at h2
  refine⟨k+1,sI,⟨by omega,?_⟩,by dsimp only;omega⟩
  rw[dX du (by omega),List.mem_append,List.mem_singleton,not_or]
  exact⟨ha,fun e=>h2 (pN.2 e)⟩
 ·obtain rfl:k=l.length:=by omega
  rw[List.take_length] at ha
  exact⟨⟨-1,rfl,fun h=>by omega,fun h=>absurd h ha⟩,rfl⟩
theorem sW (l:List mY) (g:mY) (hl:l.length<=4503599627370496):aa Tryz.prog 169 [.sl du eU l, .agg (eU g)] (fun u=>u= .bool (decide (g∈l))):=by
 refine aa.intro ab ac Tryz.func169 rfl (by decide) ?_;(conv=>whnf)
 refine am rfl ?_
 conv=>whnf
 refine ar.of_pure (n:=5) (y1 l g hl) rfl ?_
 rintro _ ⟨n,rfl,hn⟩
 conv=>whnf
 refine ag (fun h=>?_) (fun h=>?_)<;>conv=>whnf
 ·exact⟨aH (hn.1 h),rfl⟩
 ·exact⟨an (fun hh=>h (hn.2 hh)),rfl⟩
def pP (acc:List mY) (g:mY):List mY:=if g∈acc then acc else acc++[g]
def my (rs:List cY):List mY:=(rs.flatMap (·.guards)).foldl pP []
def D8 (l:List mY):bj:=.row 214 du eU l
theorem pQ (gs:List mY):∀acc,(gs.foldl pP acc).length<=acc.length+gs.length:=by
 induction gs with
 |nil=>intro acc;simp
 |cons g gs ih=>
  intro acc
  have:=ih (pP acc g)
  have h2:(pP acc g).length<=acc.length+1:=by unfold pP;split<;>simp
  simp only[List.foldl_cons,List.length_cons]
  omega
theorem Bt {rs:List cY} (h:∀r∈rs,r.guards.length<=1000):(rs.flatMap (·.guards)).length<=1000*rs.length:=by
 induction rs with
 |nil=>simp
 |cons r rs ih=>
  have h1:=h r List.mem_cons_self
  have h2:=ih fun x hx=>h x (List.mem_cons_of_mem _ hx)
  simp only[List.flatMap_cons,List.length_append,List.length_cons]
  omega
def HA (p:aq):Prop:=p.rules.length<=1000/\∀j,j<p.rules.length->(p.rules.getD j au).guards.length<=1000
theorem wE {p:aq} (h:HA p):∀r∈p.rules,r.guards.length<=1000:=by
 intro r hr
 obtain⟨j,hj,rfl⟩:=List.getElem_of_mem hr
 have:=h.2 j hj
 rwa [gD,gL hj] at this
def pR (rs:List cY) (i:Nat) (r:cY) (j:Nat):List mY:=(((rs.take i).flatMap (·.guards))++r.guards.take j).foldl pP []
theorem rM (rs:List cY) (i:Nat) (r:cY):pR rs i r 0=my (rs.take i):=by simp[pR,my]
theorem rN (rs:List cY) (i:Nat) (r:cY) {j:Nat} (h:j<r.guards.length):pR rs i r (j+1)=pP (pR rs i r j) (r.guards.getD j du):=by
 rw[pR,dX du h,<-List.append_assoc,List.foldl_append];rfl
theorem uK (rs:List cY) {i:Nat} (h:i<rs.length):pR rs i (rs.getD i au) (rs.getD i au).guards.length=my (rs.take (i+1)):=by
 rw[my,dX au h,List.flatMap_append,pR,List.take_length];simp
theorem uL {p:aq} (h:HA p) (i j:Nat):(pR p.rules i (p.rules.getD i au) j).length<=1001000:=by
 have h1:=Bt (rs:=p.rules.take i) fun r hr=>wE h r (List.mem_of_mem_take hr)
 have h2:=pQ ((((p.rules.take i).flatMap (·.guards))++(p.rules.getD i au).guards.take j)) []
 have h3:=h.1
 have h4:(p.rules.getD i au).guards.length<=1000:=by
  by_cases hi:i<p.rules.length
  ·exact h.2 i hi
  ·rw[gD,List.getElem?_eq_none (by omega)];simp[au]
 unfold pR
 simp only[List.length_append,List.length_take,List.length_nil] at h1 h2
 omega
theorem uM (p:aq) (hp:HA p):aa Tryz.prog 141 [.agg (bc p)] (fun u=>u= .sl du eU (my p.rules)):=by
 have hle:=hp.1
 refine aa.intro ab ac Tryz.func141 rfl (by decide) ?_;(conv=>whnf)
 refine am rfl ?_
 conv=>whnf
 refine aR.loopF ab ac (fun i:Nat=>i<=p.rules.length) (fun i=>[(11, .int .i64 (i:Int)),(3, .row 1000 (my (p.rules.take i)).length 6)]) (fun i=>[(1000,D8 (my (p.rules.take i)))]) (fun i=>p.rules.length-i) 0 (by omega) ?_;conv=>whnf
 refine⟨bE.by_ [(1000, .nil 6)] _ 400 rfl (ai) (ai),?_⟩
 intro i hi
 conv=>whnf
 refine ag (fun h1=>?_) (fun h1=>?_)<;>conv=>whnf
 ·refine nI ?_
  rw[tN]
  have hil:i<p.rules.length:=by omega
  have hgl:=hp.2 i hil
  have hpl:=uL hp i
  have hall:=uK p.rules hil
  have hzero:=rM p.rules i (p.rules.getD i au)
  have hsucc:=fun j=>rN p.rules i (p.rules.getD i au) (j:=j)
  generalize p.rules.getD i au=r at hgl hpl hall hzero hsucc
  rw[<-hzero]
  generalize pR p.rules i r=out at hpl hall hsucc
  conv=>whnf
  refine aR.loopF ab ac (fun j:Nat=>j<=r.guards.length) (fun j=>[(18, .int .i64 (j:Int)),(3, .row 1000 (out j).length 6),(5, .top),(15, .top)]) (fun j=>[(1000,D8 (out j))]) (fun j=>r.guards.length-j) 0 (by omega) ?_;conv=>whnf
  refine⟨sI,?_⟩
  intro j hj
  conv=>whnf
  refine ag (fun h2=>?_) (fun h2=>?_)<;>conv=>whnf
  ·refine nI ?_
   rw[tN]
   have hs:=hsucc j (by omega)
   have hlj:=hpl j
   generalize r.guards.getD j du=g at hs
   conv=>whnf
   refine ar.borrow (n:=5) (sW (out j) g (by omega)) rfl (by rintro _ rfl;rfl) ?_
   rintro _ rfl
   by_cases hm:g∈out j
   ·rw[decide_eq_true hm]
    conv=>whnf
    repeat' first|(refine at_ ?_;conv=>whnf)|(refine ag (fun _=>?_) (fun _=>?_)<;>conv=>whnf)
    have e:out (j+1)=out j:=by rw[hs,pP,if_pos hm]
    refine⟨j+1,?_,by omega,by dsimp only;omega⟩
    dsimp only
    rw[e]
    exact sI
   ·rw[decide_eq_false hm]
    conv=>whnf
    refine c8 du eU [g] rfl ?_
    conv=>whnf
    repeat' first|(refine at_ ?_;conv=>whnf)|(refine ag (fun _=>?_) (fun _=>?_)<;>conv=>whnf)
    have e:out (j+1)=out j++[g]:=by rw[hs,pP,if_neg hm]
    refine⟨j+1,?_,by omega,by dsimp only;omega⟩
    dsimp only
    rw[e]
    exact bE.by_ [(1000, .old 29)] _ 400 rfl (ai) (ai)
  ·obtain rfl:j=r.guards.length:=by omega
   repeat' first|(refine at_ ?_;conv=>whnf)|(refine ag (fun _=>?_) (fun _=>?_)<;>conv=>whnf)
   refine⟨i+1,?_,by omega,by dsimp only;omega⟩
   dsimp only
   rw[<-hall]
   exact sI
 ·obtain rfl:i=p.rules.length:=by omega
  rw[List.take_length]
  exact⟨rfl,rfl⟩
set_option maxRecDepth 100000
set_option maxHeartbeats 4000000
theorem Bu (a b:mY):aa Tryz.prog 174 [.agg (eU a), .agg (eU b)] (fun u=>u= .bool (decide (a=b))):=by
 refine aa.intro ab ac Tryz.func174 rfl (by decide) ?_;(conv=>whnf)
 refine am rfl ?_
 conv=>whnf
 refine am rfl ?_
 conv=>whnf
 refine ag (fun h1=>?_) (fun h1=>?_)<;>conv=>whnf
 ·refine ag (fun h2=>?_) (fun h2=>?_)<;>conv=>whnf
  ·refine ag (fun h3=>?_) (fun h3=>?_)<;>conv=>whnf
   ·refine⟨aH (pN.1 ?_),rfl⟩
    simp only[List.cons.injEq,and_true] at h3
    simp only[D7,h1,h2,h3]
   ·exact⟨an (fun h=>h3 (by rw[h])),rfl⟩
  ·exact⟨an (fun h=>h2 (by rw[h])),rfl⟩
 ·exact⟨an (fun h=>h1 (by rw[h])),rfl⟩
theorem D9 (l:List mY) (g:mY) (hl:l.length<=4503599627370496):aa Tryz.prog 155 [.sl du eU l, .agg (eU g)] (fun u=>∃n:Int,u= .int .i64 n/\(n<0↔g∉l)):=by
 refine aa.intro ab ac Tryz.func155 rfl (by decide) ?_;(conv=>whnf)
 refine am rfl ?_
 conv=>whnf
 refine aR.loopF ab ac (fun k:Nat=>k<=l.length/\g∉l.take k) (fun k=>[(5, .int .i64 (k:Int))]) (fun _=>[]) (fun k=>l.length-k) 0 ⟨by omega,by simp⟩ ?_;conv=>whnf
 refine⟨sI,?_⟩
 rintro k ⟨hk,ha⟩
 conv=>whnf
 refine ag (fun h1=>?_) (fun h1=>?_)<;>conv=>whnf
 ·refine dI ?_
  conv=>whnf
  refine nI ?_
  rw[tN]
  conv=>whnf
  refine dD (Bu (l.getD k du) g) (fun _=>?_) (fun _=>?_)<;>(conv=>whnf)
  ·rename_i h2
   refine⟨⟨k,rfl,fun h=>by omega,fun h=>absurd ?_ h⟩,rfl⟩
   rw[<-h2];exact pO _ (by omega)
  ·rename_i h2
   repeat' first|(refine at_ ?_;conv=>whnf)|(refine ag (fun _=>?_) (fun _=>?_)<;>conv=>whnf)
   refine⟨k+1,sI,⟨by omega,?_⟩,by dsimp only;omega⟩
   rw[dX du (by omega),List.mem_append,List.mem_singleton,not_or]
   exact⟨ha,fun e=>h2 e.symm⟩
 ·obtain rfl:k=l.length:=by omega
  rw[List.take_length] at ha
  exact⟨⟨-1,rfl,fun _=>ha,fun _=>by omega⟩,rfl⟩
theorem y3 (p:aq) (hp:HA p):aa Tryz.prog 122 [.agg (bc p)] (fun u=>u= .sl du eU (my p.rules)):=by
 have hle:=hp.1
 refine aa.intro ab ac Tryz.func122 rfl (by decide) ?_;(conv=>whnf)
 refine am rfl ?_
 conv=>whnf
 refine aR.loopF ab ac (fun i:Nat=>i<=p.rules.length) (fun i=>[(4, .int .i64 (i:Int)),(3, .row 1000 (my (p.rules.take i)).length 6)]) (fun i=>[(1000,D8 (my (p.rules.take i)))]) (fun i=>p.rules.length-i) 0 (by omega) ?_;conv=>whnf
 refine⟨bE.by_ [(1000, .nil 6)] _ 400 rfl (ai) (ai),?_⟩
 intro i hi
 conv=>whnf
 refine ag (fun h1=>?_) (fun h1=>?_)<;>conv=>whnf
 ·have hil:i<p.rules.length:=by omega
  have hgl:=hp.2 i hil
  have hpl:=uL hp i
  have hall:=uK p.rules hil
  have hzero:=rM p.rules i (p.rules.getD i au)
  have hsucc:=fun j=>rN p.rules i (p.rules.getD i au) (j:=j)
  rw[<-hzero]
  generalize ho:pR p.rules i (p.rules.getD i au)=out at hpl hall hsucc
  refine aR.loopF ab ac (fun j:Nat=>j<=(p.rules.getD i au).guards.length) (fun j=>[(5, .int .i64 (j:Int)),(3, .row 1000 (out j).length 6)]) (fun j=>[(1000,D8 (out j))]) (fun j=>(p.rules.getD i au).guards.length-j) 0 (by omega) ?_;conv=>whnf
  refine⟨sI,?_⟩
  intro j hj
  conv=>whnf
  refine nI ?_
  rw[tN]
  conv=>whnf
  refine ag (fun h2=>?_) (fun h2=>?_)<;>conv=>whnf
  ·refine nI ?_
   rw[tN]
   conv=>whnf
   refine nI ?_
   rw[tN]
   have hs:=hsucc j (by omega)
   have hlj:=hpl j
   generalize (p.rules.getD i au).guards.getD j du=g at hs
   conv=>whnf
   refine ar.borrow (n:=5) (D9 (out j) g (by omega)) rfl (by rintro _ ⟨n,rfl,_⟩;rfl) ?_
   rintro _ ⟨n,rfl,hn⟩
   conv=>whnf
   refine ag (fun h3=>?_) (fun h3=>?_)<;>conv=>whnf
   ·have hm:=hn.1 h3
    refine c8 du eU [g] rfl ?_
    conv=>whnf
    repeat' first|(refine at_ ?_;conv=>whnf)|(refine ag (fun _=>?_) (fun _=>?_)<;>conv=>whnf)
    have e:out (j+1)=out j++[g]:=by rw[hs,pP,if_neg hm]
    refine⟨j+1,?_,by omega,by dsimp only;omega⟩
    dsimp only
    rw[e]
    exact bE.by_ [(1000, .old 41)] _ 400 rfl (ai) (ai)
   ·have hm:g∈out j:=Classical.byContradiction fun h=>h3 (hn.2 h)
    repeat' first|(refine at_ ?_;conv=>whnf)|(refine ag (fun _=>?_) (fun _=>?_)<;>conv=>whnf)
    have e:out (j+1)=out j:=by rw[hs,pP,if_pos hm]
    refine⟨j+1,?_,by omega,by dsimp only;omega⟩
    dsimp only
    rw[e]
    exact sI
  ·obtain rfl:j=(p.rules.getD i au).guards.length:=by omega
   repeat' first|(refine at_ ?_;conv=>whnf)|(refine ag (fun _=>?_) (fun _=>?_)<;>conv=>whnf)
   refine⟨i+1,?_,by omega,by dsimp only;omega⟩
   dsimp only
   rw[<-hall]
   exact sI
 ·obtain rfl:i=p.rules.length:=by omega
  rw[List.take_length]
  exact⟨rfl,rfl⟩
theorem y4 (x r:cY):aa Tryz.prog 163 [.agg (iY x), .pd (iY r)] (fun u=>u= .bool (decide (x.name=r.name))):=by
 refine aa.intro ab ac Tryz.func163 rfl (by decide) ?_;(conv=>whnf)
 refine am rfl ?_
 conv=>whnf
 refine ag (fun h=>?_) (fun h=>?_)<;>conv=>whnf
 ·exact⟨aH h,rfl⟩
 ·exact⟨an h,rfl⟩
def ga (rs:List cY) (i:Nat) (r:cY):Prop:=∃j,j<(rs.take i).length/\((rs.take i).getD j au).name=r.name
instance (rs:List cY) (i:Nat) (r:cY):Decidable (ga rs i r):=inferInstanceAs (Decidable (∃j,j<(rs.take i).length/\_))
theorem Bv (l:List cY) (r:cY) (hl:l.length<=4503599627370496):aa Tryz.prog 187 [.sl au iY l, .fn 163 [.pd (iY r)]] (fun u=>∃n:Int,u= .int .i64 n/\(0<=n↔∃j,j<l.length/\(l.getD j au).name=r.name)):=by
 refine aa.intro ab ac Tryz.func187 rfl (by decide) ?_;(conv=>whnf)
 refine aR.loopF ab ac (fun k:Nat=>k<=l.length/\∀j,j<k->(l.getD j au).name≠r.name) (fun k=>[(8, .int .i64 (k:Int))]) (fun _=>[]) (fun k=>l.length-k) 0 ⟨by omega,fun j hj=>by omega⟩ ?_;conv=>whnf
 refine⟨sI,?_⟩
 rintro k ⟨hk,ha⟩
 conv=>whnf
 refine ag (fun h1=>?_) (fun h1=>?_)<;>conv=>whnf
 ·refine nI ?_
  rw[tN]
  conv=>whnf
  refine dC (y4 (l.getD k au) r) (fun _=>?_) (fun _=>?_)<;>(conv=>whnf)
  ·rename_i h2
   exact⟨⟨k,rfl,fun _=>⟨k,by omega,h2⟩,fun _=>by omega⟩,rfl⟩
  ·rename_i h2
   repeat' first|(refine at_ ?_;conv=>whnf)|(refine ag (fun _=>?_) (fun _=>?_)<;>conv=>whnf)
   refine⟨k+1,sI,⟨by omega,fun j hj=>?_⟩,by dsimp only;omega⟩
   by_cases e:j=k
   ·subst e;exact h2
   ·exact ha j (by omega)
 ·exact⟨⟨-1,rfl,fun h=>by omega,fun⟨j,h1,h2⟩=>absurd h2 (ha j (by omega))⟩,rfl⟩
theorem Bw (rs:List cY) (i:Nat) (r:cY) (hl:rs.length<=4503599627370496):aa Tryz.prog 162 [.sl au iY (rs.take i), .fn 163 [.pd (iY r)]] (fun u=>u= .bool (decide (ga rs i r))):=by
 refine aa.intro ab ac Tryz.func162 rfl (by decide) ?_;(conv=>whnf)
 refine ar.of_pure (n:=5) (Bv (rs.take i) r (by simp;omega)) rfl ?_
 rintro _ ⟨n,rfl,hn⟩
 conv=>whnf
 refine ag (fun h=>?_) (fun h=>?_)<;>conv=>whnf
 ·exact⟨aH (hn.1 h),rfl⟩
 ·exact⟨an (fun hh=>h (hn.2 hh)),rfl⟩
def Bx (a t:Int):Int:=if a<0\/2<a\/(a≠0/\t=3) then 1 else 0
def uN (d t:Int):Int:=if(t=4/\(d<3\/4<d))\/(t≠4/\(d<1\/2<d)) then 1 else 0
def dH (p:aq) (r:cY):Int:=
 if r.kind=1 then co [bQ p.messages.length r.guards,cO r.some_ p.states.length,cO r.forall_ p.states.length,f9 p.values.length r.read,f9 p.values.length r.write,cO r.send p.messages.length]
 else if r.kind=2 then co [cZ r.pfrom p.states.length,cZ r.pto p.states.length,f9 p.values.length r.read,f9 p.values.length r.write]
 else if r.kind=3 then co [kz r.response p.states.length,f9 p.values.length r.read,f9 p.values.length r.write]
 else if r.kind=4 then co [cO r.left p.states.length,cO r.right p.states.length,cO r.parent p.states.length,Bx r.at_ p.topology]
 else co [cZ r.pfrom p.states.length,cZ r.pto p.states.length,uN r.direction p.topology]
def cW (p:aq) (i:Nat) (r:cY):Int:=
 if¬cR r.name\/ga p.rules i r then 2 else if¬cb r.kind p.topology\/jz r p.topology then 6
 else co [cZ r.src p.states.length,cZ r.dst p.states.length,dH p r]
theorem Ea (a b c:Int):co [a,b,c]=if co [a,b]≠0 then co [a,b] else c:=by
 simp only[co]
 by_cases h1:a=0<;>by_cases h2:b=0<;>by_cases h3:c=0<;>simp[h1,h2,h3]
theorem wF (p:aq) (i:Nat) (hp:Bn p) (hi:i<p.rules.length):aa Tryz.prog 140 [.agg (bc p), .int .i64 (i:Int)] (fun u=>u= .int .i64 (cW p i (p.rules.getD i au))):=by
 have hle:=nu hp
 have hbr:=uD hp hi
 refine aa.intro ab ac Tryz.func140 rfl (by decide) ?_;(conv=>whnf)
 refine am rfl ?_
 conv=>whnf
 refine nI ?_
 rw[tN]
 generalize p.rules.getD i au=r at hbr
 have hrl:=wB hbr
 conv=>whnf
 refine nI ?_
 rw[tN]
 conv=>whnf
 refine ar.borrow (n:=5) (Bw p.rules i r (by omega)) rfl (by rintro _ rfl;rfl) ?_
 rintro _ rfl
 by_cases hv:cR r.name
 ·by_cases ht:ga p.rules i r
  ·rw[decide_eq_true ht]
   conv=>whnf
   refine dC (eV r.name (by omega)) (fun _=>?_) (fun _=>?_)<;>(conv=>whnf)
   ·exact⟨aj (by rw[cW,if_pos (.inr ht)]),rfl⟩
   ·exact⟨aj (by rw[cW,if_pos (.inr ht)]),rfl⟩
  ·rw[decide_eq_false ht]
   have e1:∀x,(if¬cR r.name\/ga p.rules i r then(2:Int) else x)=x:=fun x=>if_neg (by rintro(h|h);exact h hv;exact ht h)
   conv=>whnf
   refine dC (eV r.name (by omega)) (fun _=>?_) (fun _=>?_)<;>(conv=>whnf)
   ·by_cases hf:cb r.kind p.topology
    ·refine dC (Fe r.kind p.topology) (fun _=>?_) (fun _=>?_)<;>(conv=>whnf)
     ·refine dC (Bs r p.topology hbr hf) (fun _=>?_) (fun _=>?_)<;>(conv=>whnf)
      ·rename_i hs
       exact⟨aj (by rw[cW,e1,if_pos (.inr hs)]),rfl⟩
      ·rename_i hs
       have e2:cW p i r=co [cZ r.src p.states.length,cZ r.dst p.states.length,dH p r]:=by rw[cW,e1,if_neg (by rintro(h|h);exact h hf;exact hs h)]
       rw[Ea] at e2
       refine dI ?_
       conv=>whnf
       (refine oC (f8 _ _) ?_;conv=>whnf)
       (refine oC (f8 _ _) ?_;conv=>whnf)
       refine dF ?_
       conv=>whnf
       (refine oC (cI _ (by simp)) ?_;conv=>whnf)
       refine ag (fun h3=>?_) (fun h3=>?_)<;>conv=>whnf
       ·rw[if_pos h3] at e2
        exact⟨aj e2.symm,rfl⟩
       ·rw[if_neg h3] at e2
        have ff:=hf
        unfold cb at ff
        by_cases k1:r.kind=1
        ·refine fc k1 ?_
         conv=>whnf
         refine dI ?_
         conv=>whnf
         (refine oC (D6 p r.guards (by omega)) ?_;conv=>whnf)
         (refine oC (lE r.some_ _ (by omega)) ?_;conv=>whnf)
         (refine oC (lE r.forall_ _ (by omega)) ?_;conv=>whnf)
         (refine oC (nw p r.read) ?_;conv=>whnf)
         (refine oC (nw p r.write) ?_;conv=>whnf)
         (refine oC (lE r.send _ (by omega)) ?_;conv=>whnf)
         refine dF ?_
         conv=>whnf
         (refine oC (cI _ (by simp)) ?_;conv=>whnf)
         exact⟨aj (by rw[e2,dH,if_pos k1]),rfl⟩
        refine fE k1 ?_
        conv=>whnf
        by_cases k2:r.kind=2
        ·refine fc k2 ?_
         conv=>whnf
         refine dI ?_
         conv=>whnf
         (refine oC (f8 _ _) ?_;conv=>whnf)
         (refine oC (f8 _ _) ?_;conv=>whnf)
         (refine oC (nw p r.read) ?_;conv=>whnf)
         (refine oC (nw p r.write) ?_;conv=>whnf)
         refine dF ?_
         conv=>whnf
         (refine oC (cI _ (by simp)) ?_;conv=>whnf)
         exact⟨aj (by rw[e2,dH,if_neg k1,if_pos k2]),rfl⟩
        refine fE k2 ?_
        conv=>whnf
        by_cases k3:r.kind=3
        ·refine fc k3 ?_
         conv=>whnf
         refine dI ?_
         conv=>whnf
         (refine oC (wD r.response _ (by omega)) ?_;conv=>whnf)
         (refine oC (nw p r.read) ?_;conv=>whnf)
         (refine oC (nw p r.write) ?_;conv=>whnf)
         refine dF ?_
         conv=>whnf
         (refine oC (cI _ (by simp)) ?_;conv=>whnf)
         exact⟨aj (by rw[e2,dH,if_neg k1,if_neg k2,if_pos k3]),rfl⟩
        refine fE k3 ?_
        conv=>whnf
        by_cases k4:r.kind=4
        ·refine fc k4 ?_
         conv=>whnf
         by_cases hm:r.at_<0\/2<r.at_\/(r.at_≠0/\p.topology=3)
         ·have ea:(1:Int)=Bx r.at_ p.topology:=by rw[Bx,if_pos hm]
          repeat' (first|(refine tI ?_;conv=>whnf)|(refine fI ?_;conv=>whnf)|(refine ag (fun _=>?_) (fun _=>?_)<;>conv=>whnf))
          all_goals
           refine dI ?_
           conv=>whnf
           (refine oC (lE r.left _ (by omega)) ?_;conv=>whnf)
           (refine oC (lE r.right _ (by omega)) ?_;conv=>whnf)
           (refine oC (lE r.parent _ (by omega)) ?_;conv=>whnf)
           (refine oC (ir 1) ?_;conv=>whnf)
           refine dF ?_
           conv=>whnf
           (refine oC (cI _ (by simp)) ?_;conv=>whnf)
           exact⟨aj (by rw[e2,dH,if_neg k1,if_neg k2,if_neg k3,if_pos k4,<-ea]),rfl⟩
         ·have ea:(0:Int)=Bx r.at_ p.topology:=by rw[Bx,if_neg hm]
          repeat' (first|(refine tI ?_;conv=>whnf)|(refine fI ?_;conv=>whnf)|(refine ag (fun _=>?_) (fun _=>?_)<;>conv=>whnf))
          all_goals
           refine dI ?_
           conv=>whnf
           (refine oC (lE r.left _ (by omega)) ?_;conv=>whnf)
           (refine oC (lE r.right _ (by omega)) ?_;conv=>whnf)
           (refine oC (lE r.parent _ (by omega)) ?_;conv=>whnf)
           (refine oC (gh 1) ?_;conv=>whnf)
           refine dF ?_
           conv=>whnf
           (refine oC (cI _ (by simp)) ?_;conv=>whnf)
           exact⟨aj (by rw[e2,dH,if_neg k1,if_neg k2,if_neg k3,if_pos k4,<-ea]),rfl⟩
        refine fE k4 ?_
        conv=>whnf
        by_cases hd:(p.topology=4/\(r.direction<3\/4<r.direction))\/(p.topology≠4/\(r.direction<1\/2<r.direction))
        ·have ea:(1:Int)=uN r.direction p.topology:=by rw[uN,if_pos hd]
         refine ag (fun h4=>?_) (fun h4=>?_)<;>conv=>whnf
         all_goals
          refine dI ?_
          conv=>whnf
          (refine oC (f8 _ _) ?_;conv=>whnf)
          (refine oC (f8 _ _) ?_;conv=>whnf)
          repeat' (first|(refine tI ?_;conv=>whnf)|(refine fI ?_;conv=>whnf)|(refine ag (fun _=>?_) (fun _=>?_)<;>conv=>whnf))
          all_goals
           (refine oC (ir 1) ?_;conv=>whnf)
           refine dF ?_
           conv=>whnf
           (refine oC (cI _ (by simp)) ?_;conv=>whnf)
           exact⟨aj (by rw[e2,dH,if_neg k1,if_neg k2,if_neg k3,if_neg k4,<-ea]),rfl⟩
        ·have ea:(0:Int)=uN r.direction p.topology:=by rw[uN,if_neg hd]
         refine ag (fun h4=>?_) (fun h4=>?_)<;>conv=>whnf
         all_goals
          refine dI ?_
          conv=>whnf
          (refine oC (f8 _ _) ?_;conv=>whnf)
          (refine oC (f8 _ _) ?_;conv=>whnf)
          repeat' (first|(refine tI ?_;conv=>whnf)|(refine fI ?_;conv=>whnf)|(refine ag (fun _=>?_) (fun _=>?_)<;>conv=>whnf))
          all_goals
           (refine oC (gh 1) ?_;conv=>whnf)
           refine dF ?_
           conv=>whnf
           (refine oC (cI _ (by simp)) ?_;conv=>whnf)
           exact⟨aj (by rw[e2,dH,if_neg k1,if_neg k2,if_neg k3,if_neg k4,<-ea]),rfl⟩
     ·rename_i h;exact absurd hf h
    ·refine dC (Fe r.kind p.topology) (fun _=>?_) (fun _=>?_)<;>(conv=>whnf)
     ·rename_i h;exact absurd h hf
     ·exact⟨aj (by rw[cW,e1,if_pos (.inl hf)]),rfl⟩
   ·rename_i h;exact absurd hv h
 ·by_cases ht:ga p.rules i r
  ·rw[decide_eq_true ht]
   conv=>whnf
   refine dC (eV r.name (by omega)) (fun _=>?_) (fun _=>?_)<;>(conv=>whnf)
   ·exact⟨aj (by rw[cW,if_pos (.inl hv)]),rfl⟩
   ·exact⟨aj (by rw[cW,if_pos (.inl hv)]),rfl⟩
  ·rw[decide_eq_false ht]
   conv=>whnf
   refine dC (eV r.name (by omega)) (fun _=>?_) (fun _=>?_)<;>(conv=>whnf)
   ·rename_i h;exact absurd h hv
   ·exact⟨aj (by rw[cW,if_pos (.inl hv)]),rfl⟩
end Go.Proofs.YtblcpnmnibcbbaaGreatDoor
