import Derived.Test.YtokjgegkhlkopaaGreatDoorG4
import Derived.RowKit3
import Derived.Test.YtokjgegkhlkopaaGreatDoorRows
import Derived.WalkKit
import Derived.ProofKit
import Derived.OpenShut
import Derived.WideKeyArgs
set_option linter.unusedVariables false
set_option linter.unusedSimpArgs false
namespace Go.Proofs.YtokjgegkhlkopaaGreatDoor
section
open Go.RowKit
def ag.ofW (w:World):ag:=fun b=>w.heap[b]?
def zn (W w':World):Prop:=W.keptBut w' (fun _=>False)/\(∀a:Addr,a.block<W.heap.size->w'.frozen? a=W.frozen? a)/\W.heap.size<=w'.heap.size
theorem zn.frame {W w':World} (h:zn W w') (may:MemPlace->Prop):W.keptBut w' may:=World.keptBut_mono (fun _ f=>f.elim) h.1
end
section
open Go.ChangeShapes Go.WideShapes Go.ChangeAt Go.RowKit
def Hh (W W':World):Prop:=(∀(b:Nat) (o:Obj),W.heap[b]? =some o->W'.heap[b]? =some o)/\zn W W'
theorem ae.walkK {P:Program} {f:FuncId} {us:List AV} (h:ae P f us (fun u=>u= .bool true)) (vs:List Value) (w:World) (hG:Gl (ag.ofW w)) (hv:iY (ag.ofW w) vs us):
  Calls P f vs.toArray w fun e w'=>e= .returned (.bool true)/\Hh w w':=by
 rw[eM] at h
 refine(h.2 (ag.ofW w) (fun _=>none) vs w hG (fun _ _ e=>e) (fun _ _ e=>by cases e) (fun _=>.inr rfl) hv).mono ?_
 rintro e w' ⟨v,u,S',rfl,rfl,hle,hs,_,_,hr,hw⟩
 cases hr
 refine⟨rfl,fun b o hb=>hs b o (hle b o hb),⟨hw.os,hw.output,fun i hi=>?_⟩,hw.fz,hw.size⟩
 have e:w.heap[i]? =some w.heap[i]:=by simp[hi]
 rw[e,hs i _ (hle i _ e)]
 cases w.heap[i]<;>simp
theorem tY {H:Type} {enc:TypeId×Value->H} {P:Program} {f:Func} {s:ChangeSpec} {apart fresh handsOn again:Bool} {W W':World} {args:Array Value} {v:Value} {ds gs:List (DataW H)} {before pa pv:List MemPlace}
  (hW:DataW.Whole enc P f.params.toList s.vars apart W args.toList ds gs before)
  (hres:∀(b:Nat) (sp:Nat->Bool) (hd:Bool),DataW.TrodAll enc P W' b sp hd f.resultTypes.toList (v.resultList f.resultTypes.size) (s.fn H (ds++gs)).results [])
  (hargs:∀sp:Nat->Bool,(∀p∈before,sp p.block=true)->DataW.TrodAll enc P W' 0 sp true f.params.toList args.toList (s.fn H (ds++gs)).args pa)
  (hvars:∀sp:Nat->Bool,(∀p∈before,sp p.block=true)->DataW.TrodVars enc P W' sp s.vars (s.fn H (ds++gs)).vars pv)
  (hps:before=pa++pv) (hg:Hh W W')
  (hok:∀(j:Nat) (t:TypeId) (r:Value),f.resultTypes[j]? =some t->(v.resultList f.resultTypes.size)[j]? =some r->Value.okWide P W' .any 0 t r):
  s.post enc P f apart fresh handsOn again W args v W':=by
 have hlt:∀p∈before,p.block<W.heap.size:=fun p hp=>hW.lt p hp
 have hold:∀p∈before,(fun b=>decide (b<W.heap.size)) p.block=true:=fun p hp=>by simpa using hlt p hp
 refine⟨ds,gs,before,[],pa,pv,hW,hres _ _ _,hargs _ hold,hvars _ hold,World.keptBut_mono (fun p hp=>⟨hp,?_⟩) (hg.2.frame (·∈before)),fun _=>?_⟩
 ·rw[hps,List.mem_append] at hp
  exact Or.inr hp
 ·obtain⟨_,_,_,_,_,hz,hn⟩:=hW
  refine⟨hok,_,_,([]++pa)++pv,⟨[]++pa,pv,trodAll_append (hargs _ (fun _ _=>rfl)) (hres _ _ _),hvars _ (fun _ _=>rfl),rfl,?_,?_⟩,?_⟩
  ·intro b off hp
   have hm:MemPlace.cell b off∈before:=by rw[hps];simpa using hp
   rw[hg.2.2.1 _ (hlt _ hm)]
   exact hz b off hm
  ·intro ha
   have:=hn ha
   rw[hps] at this
   simpa using this
  ·intro p hp _
   rw[hps]
   simpa using hp
theorem Hh.sameAt {W W':World} (h:Hh W W') {p:MemPlace} (hp:p.block<W.heap.size):W.sameAt W' p:=by
 cases p with
 |cell b off=>
  obtain⟨o,e⟩:∃o,W.heap[b]? =some o:=⟨_,Array.getElem?_eq_getElem hp⟩
  show W'.cell? _=W.cell? _
  simp only[World.cell?,e,h.1 b _ e]
 |map b=>
  obtain⟨o,e⟩:∃o,W.heap[b]? =some o:=⟨_,Array.getElem?_eq_getElem hp⟩
  show W'.heap[b]? =W.heap[b]?
  rw[e,h.1 b _ e]
theorem jz {H:Type} {enc:TypeId×Value->H} {P:Program} {base:Nat} {W W':World} {sp':Nat->Bool} (hl:laidOutB P=true):
  ∀{ts:List TypeId} {vs:List Value} {ds:List (DataW H)} {ps:List MemPlace},(∀t∈ts,P.readableRec t=true/\t<P.types.size)->DataW.TrodAll enc P W base (fun _=>true) true ts vs ds ps->
   (∀p∈ps,W.sameAt W' p)->(∀p∈ps,sp' p.block=true)->DataW.TrodAll enc P W' base sp' true ts vs ds ps
 |[],[],[],_,_,h,_,_=>h
 |t::ts,_::_,_::_,_,hT,⟨p,q,h1,h2,e⟩,hs,hq=>⟨p,q,
   Go.WideElems.Trod_stays hl (hT t List.mem_cons_self).1 (hT t List.mem_cons_self).2 h1 (fun x hx=>hs x (by rw[e];exact List.mem_append_left _ hx)) (fun x hx=>hq x (by rw[e];exact List.mem_append_left _ hx)),
   jz hl (fun t ht=>hT t (List.mem_cons_of_mem _ ht)) h2 (fun x hx=>hs x (by rw[e];exact List.mem_append_right _ hx)) (fun x hx=>hq x (by rw[e];exact List.mem_append_right _ hx)),e⟩
theorem w9 {w:World} {a:Addr} {v:Value} (h:w.cell? a=some v):(ag.ofW w).cell a=some v:=by
 unfold ag.cell ag.ofW
 unfold World.cell? at h
 exact h
end
section
open Go.ChangeShapes Go.WideShapes Go.ChangeAt Go.RowKit
inductive Sh
 |nil
 |int (r:Sh)
 |bool (r:Sh)
 |str (r:Sh)
 |sl (e r:Sh)
def Sh.len:Sh->Nat
 | .nil=>0
 | .int r| .bool r| .str r| .sl _ r=>r.len+1
def Sh.app:Sh->Sh->Sh
 | .nil,s=>s
 | .int r,s=>.int (r.app s)
 | .bool r,s=>.bool (r.app s)
 | .str r,s=>.str (r.app s)
 | .sl e r,s=>.sl e (r.app s)
def jC:Sh->Type
 | .nil=>Unit
 | .int r=>Int×jC r
 | .bool r=>Bool×jC r
 | .str r=>ByteArray×jC r
 | .sl e r=>List (jC e)×jC r
def jQ:(s:Sh)->jC s
 | .nil=>()
 | .int r=>((0:Int),jQ r)
 | .bool r=>(false,jQ r)
 | .str r=>(⟨#[]⟩,jQ r)
 | .sl _ r=>([],jQ r)
def cy:(s:Sh)->jC s->List AV
 | .nil,_=>[]
 | .int r,(n,x)=>.int .i64 n::cy r x
 | .bool r,(b,x)=>.bool b::cy r x
 | .str r,(t,x)=>.str t::cy r x
 | .sl e r,(l,x)=>.sl (jQ e) (cy e) l::cy r x
def AB:(s:Sh)->jC s->Prop
 | .nil,_=>True
 | .int r,(n,x)=>(-9223372036854775808<=n/\n<=9223372036854775807)/\AB r x
 | .bool r,(_,x)=>AB r x
 | .str r,(t,x)=>t.size<=maxLen/\AB r x
 | .sl e r,(l,x)=>(l.length<=maxLen/\∀a∈l,AB e a)/\AB r x
def lu:(s s':Sh)->jC s->jC s'->jC (s.app s')
 | .nil,_,_,y=>y
 | .int r,s',(n,x),y=>(n,lu r s' x y)
 | .bool r,s',(b,x),y=>(b,lu r s' x y)
 | .str r,s',(t,x),y=>(t,lu r s' x y)
 | .sl _ r,s',(l,x),y=>(l,lu r s' x y)
theorem iL:∀(s:Sh) (y:jC s),(cy s y).length=s.len
 | .nil,_=>rfl
 | .int r,(n,x)=>by simp[cy,Sh.len,iL r x]
 | .bool r,(n,x)=>by simp[cy,Sh.len,iL r x]
 | .str r,(n,x)=>by simp[cy,Sh.len,iL r x]
 | .sl e r,(n,x)=>by simp[cy,Sh.len,iL r x]
theorem lw:∀(s:Sh) (y:jC s),allOne (cy s y)=true
 | .nil,_=>rfl
 | .int r,(n,x)=>by simp[cy,allOne,nc,lw r x]
 | .bool r,(n,x)=>by simp[cy,allOne,nc,lw r x]
 | .str r,(n,x)=>by simp[cy,allOne,nc,lw r x]
 | .sl e r,(n,x)=>by simp[cy,allOne,nc,lw r x]
theorem jR:∀(s s':Sh) (x:jC s) (y:jC s'),cy (s.app s') (lu s s' x y)=cy s x++cy s' y
 | .nil,_,_,_=>rfl
 | .int r,s',(n,x),y=>by simp only[Sh.app,lu,cy,jR r s' x y,List.cons_append]
 | .bool r,s',(n,x),y=>by simp only[Sh.app,lu,cy,jR r s' x y,List.cons_append]
 | .str r,s',(n,x),y=>by simp only[Sh.app,lu,cy,jR r s' x y,List.cons_append]
 | .sl e r,s',(n,x),y=>by simp only[Sh.app,lu,cy,jR r s' x y,List.cons_append]
theorem lx:∀(s s':Sh) (x:jC s) (y:jC s'),AB s x->AB s' y->AB (s.app s') (lu s s' x y)
 | .nil,_,_,_,_,h=>h
 | .int r,s',(n,x),y,h,h'=>⟨h.1,lx r s' x y h.2 h'⟩
 | .bool r,s',(n,x),y,h,h'=>lx r s' x y h h'
 | .str r,s',(n,x),y,h,h'=>⟨h.1,lx r s' x y h.2 h'⟩
 | .sl e r,s',(n,x),y,h,h'=>⟨h.1,lx r s' x y h.2 h'⟩
theorem nL:∀(s s':Sh),(s.app s').len=s.len+s'.len
 | .nil,s'=>by simp[Sh.app,Sh.len]
 | .int r,s'=>by simp only[Sh.app,Sh.len,nL r s'];omega
 | .bool r,s'=>by simp only[Sh.app,Sh.len,nL r s'];omega
 | .str r,s'=>by simp only[Sh.app,Sh.len,nL r s'];omega
 | .sl e r,s'=>by simp only[Sh.app,Sh.len,nL r s'];omega
def ly (P:Program) (sh:TypeId->Option Sh):List Field->Nat->Option Sh
 |[],_=>some .nil
 |f::fs,off=>match decide (f.offset=off),sh f.type with
  |true,some s=>match decide (s.len=P.cellsOf f.type),ly P sh fs (off+s.len) with
   |true,some r=>some (s.app r)
   |_,_=>none
  |_,_=>none
def sY (P:Program):Nat->TypeId->Option Sh
 |0,_=>none
 |n+1,t=>match P.underlying t with
  |some (.int .i64)=>some (.int .nil)
  |some .bool=>some (.bool .nil)
  |some .string=>some (.str .nil)
  |some (.slice e)=>match sY P n e with
   |some s=>match decide (s.len=P.cellsOf e) with
    |true=>some (.sl s .nil)
    |false=>none
   |none=>none
  |some (.struct fs)=>match ly P (sY P n) fs.toList 0 with
   |some s=>match decide (s.len=P.cellsOf t) with
    |true=>some s
    |false=>none
   |none=>none
  |_=>none
section
variable {H:Type} {enc:TypeId×Value->H} {P:Program} {w:World} {base:Nat} {sp:Nat->Bool} {held:Bool}
theorem iY.append {S:ag} {vs vs':List Value} {us us':List AV} (h:iY S vs us) (h':iY S vs' us'):iY S (vs++vs') (us++us'):=
 ⟨by simp[h.1,h'.1],fun i u hu=>by
  by_cases hi:i<us.length
  ·rw[List.getElem?_append_left hi] at hu
   obtain⟨v,e,hv⟩:=h.2 _ u hu
   exact⟨v,by rw[List.getElem?_append_left (by rw[h.1];exact hi)];exact e,hv⟩
  ·rw[List.getElem?_append_right (by omega)] at hu
   obtain⟨v,e,hv⟩:=h'.2 _ u hu
   exact⟨v,by rw[List.getElem?_append_right (by rw[h.1];omega),h.1];exact e,hv⟩⟩
theorem xa {fuel:Nat} (sh:TypeId->Option Sh)
  (ih:∀t s cs x,sh t=some s->DataW.trod enc P w base sp held fuel t cs=some x->∃y,AB s y/\iY (ag.ofW w) cs (cy s y)):
  ∀(fs:List Field) (off:Nat) (s:Sh) (cs:List Value),ly P sh fs off=some s->(∀f∈fs,∃x,DataW.trod enc P w base sp held fuel f.type ((cs.drop f.offset).take (P.cellsOf f.type))=some x)->
   ∃y,AB s y/\iY (ag.ofW w) ((cs.drop off).take s.len) (cy s y):=by
 intro fs
 induction fs with
 |nil=>
  intro off s cs h _
  simp only[ly,Option.some.injEq] at h
  subst h
  exact⟨(),trivial,by simpa[Sh.len,cy] using iY.nil _⟩
 |cons f fs ihf=>
  intro off s cs h hx
  simp only[ly] at h
  split at h
  ·rename_i s1 ho h1
   have ho:=of_decide_eq_true ho
   split at h
   ·rename_i r hl hr
    have hl:=of_decide_eq_true hl
    simp only[Option.some.injEq] at h
    subst h
    obtain⟨x,hx1⟩:=hx f List.mem_cons_self
    obtain⟨y1,w1,r1⟩:=ih f.type s1 _ x h1 hx1
    obtain⟨y2,w2,r2⟩:=ihf (off+s1.len) r cs hr (fun g hg=>hx g (List.mem_cons_of_mem _ hg))
    refine⟨lu s1 r y1 y2,lx _ _ _ _ w1 w2,?_⟩
    rw[jR,nL]
    have:=r1.append r2
    rw[ho,<-hl] at this
    have e:(cs.drop off).take (s1.len+r.len)=(cs.drop off).take s1.len++(cs.drop (off+s1.len)).take r.len:=by
     rw[List.take_add,List.drop_drop]
    rw[e]
    exact this
   ·cases h
  ·cases h
theorem zo:∀(n fuel:Nat) (t:TypeId) (s:Sh) (cs:List Value) (x:DataW H×List MemPlace),sY P n t=some s->DataW.trod enc P w base sp held fuel t cs=some x->
  ∃y,AB s y/\iY (ag.ofW w) cs (cy s y):=by
 intro n
 induction n with
 |zero=>intro fuel t s cs x h;simp[sY] at h
 |succ n ih=>
  intro fuel t s cs x h hx
  simp only[sY] at h
  split at h
  ·rename_i ht
   cases h
   obtain⟨m,rfl,_,hw⟩:=DataW.trod_int ht hx
   refine⟨(m,()),⟨?_,trivial⟩, .cons (.int _ _) (.nil _)⟩
   simp[Lit.wf] at hw
   have k:IntKind.i64.min=-9223372036854775808:=by decide
   have k':IntKind.i64.max=9223372036854775807:=by decide
   omega
  ·rename_i ht
   cases h
   obtain⟨b,rfl,_⟩:=DataW.trod_bool ht hx
   exact⟨(b,()),trivial, .cons (.bool _) (.nil _)⟩
  ·rename_i ht
   cases h
   obtain⟨b,rfl,_,hw⟩:=DataW.trod_string ht hx
   exact⟨(b,()),⟨hw,trivial⟩, .cons (.str _) (.nil _)⟩
  ·rename_i e ht
   split at h
   ·rename_i se hse
    split at h
    ·rename_i hl
     have hl:=of_decide_eq_true hl
     cases h
     rcases DataW.trod_slice ht hx with ⟨rfl,_⟩|⟨a,len,cap,elems,rest,m,_,rfl,_,hb,hlc,hm,hlen,hel,_,_⟩
     ·refine⟨([],()),⟨⟨by simp,by simp⟩,trivial⟩, .cons ?_ (.nil _)⟩
      exact .sl (jQ se) (cy se) [] none 0 1 (fun _ _=>.int .i64 0) (by simp) (by simp) (by simp) (fun i j hi=>by simp at hi) (by simp) (fun i a j u hi=>by simp at hi)
     ·have each:∀i,i<len->∃y,AB se y/\∃cs',(∀j,j<se.len->w.cell? (a.add (i*se.len+j))=cs'[j]?)/\iY (ag.ofW w) cs' (cy se y):=by
       intro i hi
       have h1:=hel i hi
       have h2:∃z,elems[i]? =some z:=⟨elems[i]'(by omega),gL (by omega)⟩
       obtain⟨z,hz⟩:=h2
       rw[hz,Option.bind_eq_some_iff] at h1
       obtain⟨cs',hc1,hc2⟩:=h1
       obtain⟨y,hy1,hy2⟩:=ih m e se cs' z hse hc2
       refine⟨y,hy1,cs',fun j hj=>?_,hy2⟩
       have:=(World.cells?_some hc1).2.2 j (by omega)
       rw[Go.Proofs.YtokjgegkhlkopaaGreatDoor.Addr.add_add,<-hl] at this
       exact this
      let f:Nat->jC se:=fun i=>if h:i<len then Classical.choose (each i h) else jQ se
      have hf:∀i,(h:i<len)->AB se (f i)/\∃cs',(∀j,j<se.len->w.cell? (a.add (i*se.len+j))=cs'[j]?)/\iY (ag.ofW w) cs' (cy se (f i)):=by
       intro i h
       have:f i=Classical.choose (each i h):=by simp[f,h]
       rw[this]
       exact Classical.choose_spec (each i h)
      have hlf:((List.range len).map f).length=len:=by simp
      refine⟨((List.range len).map f,()),⟨⟨by rw[hlf];omega,fun y hy=>?_⟩,trivial⟩, .cons ?_ (.nil _)⟩
      ·obtain⟨i,hi,rfl⟩:=List.mem_map.1 hy
       exact(hf i (by simpa using hi)).1
      ·have hi':∀i,i<((List.range len).map f).length->i<len:=fun i hi=>by rw[hlf] at hi;exact hi
       have:=RP.sl (S:=ag.ofW w) (jQ se) (cy se) ((List.range len).map f) (some a) cap se.len (fun i j=>(w.cell? (a.add (i*se.len+j))).getD undef) (by rw[hlf];exact hlc) (fun y _=>lw se y) (fun y _=>iL se y)
        (fun i j hi hj=>⟨a,rfl,by
         obtain⟨_,cs',h1,h2⟩:=hf i (hi' i hi)
         have hl2:=h2.1
         rw[iL] at hl2
         have h3:=h1 j hj
         have h4:cs'[j]? =some (cs'[j]'(by omega)):=gL (by omega)
         rw[h4] at h3
         simp only[h3,Option.getD_some]
         exact w9 h3⟩) (by simp) (fun i y j u hi hu=>by
         have hil:i<len:=hi' i (List.getElem?_eq_some_iff.1 hi).1
         have hy:y=f i:=by
          rw[List.getElem?_map,List.getElem?_range hil] at hi
          simpa using hi.symm
         subst hy
         obtain⟨_,cs',h1,h2⟩:=hf i hil
         obtain⟨v,hv,hr⟩:=h2.2 j u hu
         have hj:j<se.len:=by rw[<-iL se (f i)];exact(List.getElem?_eq_some_iff.1 hu).1
         have h3:=h1 j hj
         rw[hv] at h3
         simp only[h3,Option.getD_some]
         exact hr)
       rwa [hlf] at this
    ·cases h
   ·cases h
  ·rename_i fs ht
   split at h
   ·rename_i s' hs
    split at h
    ·rename_i hl
     have hl:=of_decide_eq_true hl
     cases h
     obtain⟨xs,m,_,_,hlen,hxl,hf⟩:=DataW.trod_struct ht hx
     obtain⟨y,h1,h2⟩:=xa (fuel:=m) (enc:=enc) (w:=w) (base:=base) (sp:=sp) (held:=held) (sY P n) (fun t s cs x=>ih m t s cs x) fs.toList 0 s cs hs (fun f hf'=>by
      obtain⟨i,hi⟩:=List.getElem?_of_mem hf'
      have hi2:fs[i]? =some f:=by simpa using hi
      have:=hf i f hi2
      have hlt:i<xs.length:=by rw[hxl];exact(Array.getElem?_eq_some_iff.1 hi2).1
      rw[gL hlt] at this
      exact⟨_,this⟩)
     refine⟨y,h1,?_⟩
     rw[List.drop_zero,List.take_of_length_le (by omega)] at h2
     exact h2
    ·cases h
   ·cases h
  ·cases h
theorem zp {t:TypeId} {fs:Array Field} {n:Nat} {s:Sh} {r:Reach} {b0:Nat} {v:Value} {d:DataW H} {ps:List MemPlace} (ht:P.underlying t=some (.struct fs)) (hs:sY P n t=some s)
  (hval:Value.okWide P w r b0 t v) (hd:DataW.Trod enc P w base sp held t v d ps):∃y,AB s y/\RP (ag.ofW w) v (.agg (cy s y)):=by
 obtain⟨cs,rfl,_⟩:=okWide_struct ht hval
 obtain⟨fuel,hf⟩:=hd
 obtain⟨y,h1,h2⟩:=zo n fuel t s _ _ hs hf
 refine⟨y,h1, .agg _ cs (by simpa[Value.cells] using h2.1) (fun i=>cs.getD i undef) (fun i hi=>by simp[hi]) (fun j u hu=>?_)⟩
 obtain⟨v,hv,hr⟩:=h2.2 j u hu
 have:cs[j]? =some v:=by simpa[Value.cells] using hv
 simpa[this] using hr
theorem J2 {t:TypeId} {r:Reach} {b0:Nat} {v:Value} {d:DataW H} {ps:List MemPlace} (ht:P.underlying t=some (.int .i64))
  (hval:Value.okWide P w r b0 t v) (hd:DataW.Trod enc P w base sp held t v d ps):∃m:Int,(-9223372036854775808<=m/\m<=9223372036854775807)/\v= .int .i64 m:=by
 obtain⟨fuel,hf⟩:=hd
 obtain⟨m,hm,_,hw⟩:=DataW.trod_int ht hf
 refine⟨m,?_,?_⟩
 ·simp[Lit.wf] at hw
  have k:IntKind.i64.min=-9223372036854775808:=by decide
  have k':IntKind.i64.max=9223372036854775807:=by decide
  omega
 ·simp only[Value.okWide,ht,Cell.okWide] at hval
  cases v<;>simp_all [Value.cells,Cell.ok]
end
def Cv (S:ag) (u u':AV):Prop:=∀v,RP S v u->RP S v u'
def yE (S:ag):List AV->List AV->Prop
 |[],[]=>True
 |u::us,v::vs=>Cv S u v/\yE S us vs
 |_,_=>False
theorem Cv.refl (S:ag) (u:AV):Cv S u u:=fun _ h=>h
theorem yE.len {S:ag}:∀{us vs:List AV},yE S us vs->us.length=vs.length
 |[],[],_=>rfl
 |_::us,_::vs,h=>by simp[yE.len h.2]
 |[],_::_,h=>h.elim
 |_::_,[],h=>h.elim
theorem yE.get {S:ag}:∀{us vs:List AV},yE S us vs->∀(j:Nat) u',vs[j]? =some u'->∃u,us[j]? =some u/\Cv S u u'
 |[],[],_,j,u',h=>by simp at h
 |u::us,v::vs,h,j,u',hj=>by
  cases j with
  |zero=>simp at hj;subst hj;exact⟨u,by simp,h.1⟩
  |succ j=>simp at hj;obtain⟨x,hx,hc⟩:=yE.get h.2 j u' hj;exact⟨x,by simpa using hx,hc⟩
 |[],_::_,h,_,_,_=>h.elim
 |_::_,[],h,_,_,_=>h.elim
theorem RP.agg_cv {S:ag} {v:Value} {cs cs':List AV} (h:RP S v (.agg cs)) (hc:yE S cs cs'):RP S v (.agg cs'):=by
 cases h with
 |agg _ vs hs vals he hv=>
  refine .agg cs' vs (by rw[hs,hc.len]) vals he fun j u' hu=>?_
  obtain⟨u,hu1,hu2⟩:=hc.get j u' hu
  exact hu2 _ (hv j u hu1)
theorem Cv.sl {S:ag} {α β:Type} {d:α} {enc:α->List AV} {l:List α} (d':β) (enc':β->List AV) (f:α->β) (hf:∀a∈l,yE S (enc a) (enc' (f a))/\allOne (enc' (f a))=true):Cv S (.sl d enc l) (.sl d' enc' (l.map f)):=by
 intro v h
 cases h with
 |sl _ _ _ base cap sz vals hcap ho hsz hb hn hv=>
  have e:l.length=(l.map f).length:=by simp
  rw[e]
  refine .sl d' enc' (l.map f) base cap sz vals (by simpa using hcap) (fun a ha=>?_) (fun a ha=>?_) (fun i j hi hj=>hb i j (by simpa using hi) hj) (fun h=>hn (by simpa using h)) (fun i a j u hi hu=>?_)
  ·obtain⟨b,hb',rfl⟩:=List.mem_map.1 ha;exact(hf b hb').2
  ·obtain⟨b,hb',rfl⟩:=List.mem_map.1 ha;rw[<-(hf b hb').1.len];exact hsz b hb'
  ·rw[List.getElem?_map,Option.map_eq_some_iff] at hi
   obtain⟨b,hb',rfl⟩:=hi
   obtain⟨u0,hu0,hc⟩:=(hf b (List.mem_of_getElem? hb')).1.get j u hu
   exact hc _ (hv i b j u0 hb' hu0)
theorem Cv.ints {S:ag} (l:List (jC (.int .nil))):Cv S (.sl (jQ (.int .nil)) (cy (.int .nil)) l) (.sl 0 aD (l.map (fun x=>x.1))):=
 Cv.sl (d:=jQ (.int .nil)) (enc:=cy (.int .nil)) 0 aD (fun x=>x.1) fun _ _=>⟨⟨Cv.refl _ _,trivial⟩,rfl⟩
def cR (s:ByteArray):List AV:=[.str s]
theorem Cv.strs {S:ag} (l:List (jC (.str .nil))):Cv S (.sl (jQ (.str .nil)) (cy (.str .nil)) l) (.sl ⟨#[]⟩ cR (l.map (fun x=>x.1))):=
 Cv.sl (d:=jQ (.str .nil)) (enc:=cy (.str .nil)) ⟨#[]⟩ cR (fun x=>x.1) fun _ _=>⟨⟨Cv.refl _ _,trivial⟩,rfl⟩
end
end Go.Proofs.YtokjgegkhlkopaaGreatDoor
