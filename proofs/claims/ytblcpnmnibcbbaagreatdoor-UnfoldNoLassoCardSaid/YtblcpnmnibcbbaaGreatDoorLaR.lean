import Derived.Test.YtblcpnmnibcbbaaGreatDoorLaHJ
import Derived.Test.YtblcpnmnibcbbaaGreatDoorRdW
import Derived.Test.YtblcpnmnibcbbaaGreatDoorTopC
set_option linter.unusedVariables false
set_option linter.unusedSimpArgs false
namespace Go.Proofs.YtblcpnmnibcbbaaGreatDoor
set_option linter.unusedVariables false
set_option linter.unusedSimpArgs false
section
open Go.RowKit
def ae.ofWTop (w:World):ae:=fun b=>w.heap[b]?
def Np (W w':World):Prop:=W.keptBut w' (fun _=>False)/\(∀a:Addr,a.block<W.heap.size->w'.frozen? a=W.frozen? a)/\W.heap.size<=w'.heap.size
theorem Np.frameTop {W w':World} (h:Np W w') (may:MemPlace->Prop):W.keptBut w' may:=World.keptBut_mono (fun _ f=>f.elim) h.1
end
section
open Go.ChangeShapes Go.WideShapes Go.ChangeAt Go.RowKit
def Nr (W W':World):Prop:=(∀(b:Nat) (o:Obj),W.heap[b]? =some o->W'.heap[b]? =some o)/\Np W W'
theorem aa.walkKTop {P:Program} {f:FuncId} {us:List AV} (h:aa P f us (fun u=>u= .bool true)) (vs:List Value) (w:World) (hG:Gl (ae.ofWTop w)) (hv:lr (ae.ofWTop w) vs us):
  Calls P f vs.toArray w fun e w'=>e= .returned (.bool true)/\Nr w w':=by
 rw[fG] at h
 refine(h.2 (ae.ofWTop w) (fun _=>none) vs w hG (fun _ _ e=>e) (fun _ _ e=>by cases e) (fun _=>.inr rfl) hv).mono ?_
 rintro e w' ⟨v,u,S',rfl,rfl,hle,hs,_,_,hr,hw⟩
 cases hr
 refine⟨rfl,fun b o hb=>hs b o (hle b o hb),⟨hw.os,hw.output,fun i hi=>?_⟩,hw.fz,hw.size⟩
 have e:w.heap[i]? =some w.heap[i]:=by simp[hi]
 rw[e,hs i _ (hle i _ e)]
 cases w.heap[i]<;>simp
theorem Nv {H:Type} {enc:TypeId×Value->H} {P:Program} {f:Func} {s:ChangeSpec} {apart fresh handsOn again:Bool} {W W':World} {args:Array Value} {v:Value} {ds gs:List (DataW H)} {before pa pv:List MemPlace}
  (hW:DataW.Whole enc P f.params.toList s.vars apart W args.toList ds gs before)
  (hres:∀(b:Nat) (sp:Nat->Bool) (hd:Bool),DataW.TrodAll enc P W' b sp hd f.resultTypes.toList (v.resultList f.resultTypes.size) (s.fn H (ds++gs)).results [])
  (hargs:∀sp:Nat->Bool,(∀p∈before,sp p.block=true)->DataW.TrodAll enc P W' 0 sp true f.params.toList args.toList (s.fn H (ds++gs)).args pa)
  (hvars:∀sp:Nat->Bool,(∀p∈before,sp p.block=true)->DataW.TrodVars enc P W' sp s.vars (s.fn H (ds++gs)).vars pv)
  (hps:before=pa++pv) (hg:Nr W W')
  (hok:∀(j:Nat) (t:TypeId) (r:Value),f.resultTypes[j]? =some t->(v.resultList f.resultTypes.size)[j]? =some r->Value.okWide P W' .any 0 t r):
  s.post enc P f apart fresh handsOn again W args v W':=by
 have hlt:∀p∈before,p.block<W.heap.size:=fun p hp=>hW.lt p hp
 have hold:∀p∈before,(fun b=>decide (b<W.heap.size)) p.block=true:=fun p hp=>by simpa using hlt p hp
 refine⟨ds,gs,before,[],pa,pv,hW,hres _ _ _,hargs _ hold,hvars _ hold,World.keptBut_mono (fun p hp=>⟨hp,?_⟩) (hg.2.frameTop (·∈before)),fun _=>?_⟩
 ·rw[hps,List.mem_append] at hp
  exact Or.inr hp
 ·obtain⟨_,_,_,_,_,hz,hn⟩:=hW
  refine⟨hok,_,_,([]++pa)++pv,⟨[]++pa,pv,trodAll_append (hargs _ (fun _ _=>rfl)) (hres _ _ _),hvars _ (fun _ _=>rfl),rfl,?_,?_⟩,?_⟩
  ·intro b off hp
   have hm:MemPlace.cell b off∈before:=by rw[hps];simpa using hp
   rw[hg.2.2.1 _ (hlt _ hm)]
   exact hz b off hm
  ·intro ha
   have:=hn ha
   rw[hps] at this
   simpa using this
  ·intro p hp _
   rw[hps]
   simpa using hp
theorem Nr.sameAtTop {W W':World} (h:Nr W W') {p:MemPlace} (hp:p.block<W.heap.size):W.sameAt W' p:=by
 cases p with
 |cell b off=>
  obtain⟨o,e⟩:∃o,W.heap[b]? =some o:=⟨_,Array.getElem?_eq_getElem hp⟩
  show W'.cell? _=W.cell? _
  simp only[World.cell?,e,h.1 b _ e]
 |map b=>
  obtain⟨o,e⟩:∃o,W.heap[b]? =some o:=⟨_,Array.getElem?_eq_getElem hp⟩
  show W'.heap[b]? =W.heap[b]?
  rw[e,h.1 b _ e]
theorem Nh {H:Type} {enc:TypeId×Value->H} {P:Program} {base:Nat} {W W':World} {sp':Nat->Bool} (hl:laidOutB P=true):
  ∀{ts:List TypeId} {vs:List Value} {ds:List (DataW H)} {ps:List MemPlace},(∀t∈ts,P.readableRec t=true/\t<P.types.size)->DataW.TrodAll enc P W base (fun _=>true) true ts vs ds ps->
   (∀p∈ps,W.sameAt W' p)->(∀p∈ps,sp' p.block=true)->DataW.TrodAll enc P W' base sp' true ts vs ds ps
 |[],[],[],_,_,h,_,_=>h
 |t::ts,_::_,_::_,_,hT,⟨p,q,h1,h2,e⟩,hs,hq=>⟨p,q,
   Go.WideElems.Trod_stays hl (hT t List.mem_cons_self).1 (hT t List.mem_cons_self).2 h1 (fun x hx=>hs x (by rw[e];exact List.mem_append_left _ hx)) (fun x hx=>hq x (by rw[e];exact List.mem_append_left _ hx)),
   Nh hl (fun t ht=>hT t (List.mem_cons_of_mem _ ht)) h2 (fun x hx=>hs x (by rw[e];exact List.mem_append_right _ hx)) (fun x hx=>hq x (by rw[e];exact List.mem_append_right _ hx)),e⟩
theorem Nq {w:World} {a:Addr} {v:Value} (h:w.cell? a=some v):(ae.ofWTop w).cell a=some v:=by
 unfold ae.cell ae.ofWTop
 unfold World.cell? at h
 exact h
end
section
open Go.ChangeShapes Go.WideShapes Go.ChangeAt Go.RowKit
def M7:(s:Sh)->xy s->Prop
 |.nil,_=>True
 |.int r,(n,x)=>(-9223372036854775808<=n/\n<=9223372036854775807)/\M7 r x
 |.bool r,(_,x)=>M7 r x
 |.str r,(t,x)=>t.size<=maxLen/\M7 r x
 |.sl e r,(l,x)=>(l.length<=maxLen/\∀a∈l,M7 e a)/\M7 r x
def M5:(s s':Sh)->xy s->xy s'->xy (s.app s')
 |.nil,_,_,y=>y
 |.int r,s',(n,x),y=>(n,M5 r s' x y)
 |.bool r,s',(b,x),y=>(b,M5 r s' x y)
 |.str r,s',(t,x),y=>(t,M5 r s' x y)
 |.sl _ r,s',(l,x),y=>(l,M5 r s' x y)
theorem M6:∀(s:Sh) (y:xy s),(pD s y).length=s.len
 |.nil,_=>rfl
 |.int r,(n,x)=>by simp[pD,Sh.len,M6 r x]
 |.bool r,(n,x)=>by simp[pD,Sh.len,M6 r x]
 |.str r,(n,x)=>by simp[pD,Sh.len,M6 r x]
 |.sl e r,(n,x)=>by simp[pD,Sh.len,M6 r x]
theorem M9:∀(s:Sh) (y:xy s),allOne (pD s y)=true
 |.nil,_=>rfl
 |.int r,(n,x)=>by simp[pD,allOne,qF,M9 r x]
 |.bool r,(n,x)=>by simp[pD,allOne,qF,M9 r x]
 |.str r,(n,x)=>by simp[pD,allOne,qF,M9 r x]
 |.sl e r,(n,x)=>by simp[pD,allOne,qF,M9 r x]
theorem M8:∀(s s':Sh) (x:xy s) (y:xy s'),pD (s.app s') (M5 s s' x y)=pD s x++pD s' y
 |.nil,_,_,_=>rfl
 |.int r,s',(n,x),y=>by simp only[Sh.app,M5,pD,M8 r s' x y,List.cons_append]
 |.bool r,s',(n,x),y=>by simp only[Sh.app,M5,pD,M8 r s' x y,List.cons_append]
 |.str r,s',(n,x),y=>by simp only[Sh.app,M5,pD,M8 r s' x y,List.cons_append]
 |.sl e r,s',(n,x),y=>by simp only[Sh.app,M5,pD,M8 r s' x y,List.cons_append]
theorem Na:∀(s s':Sh) (x:xy s) (y:xy s'),M7 s x->M7 s' y->M7 (s.app s') (M5 s s' x y)
 |.nil,_,_,_,_,h=>h
 |.int r,s',(n,x),y,h,h'=>⟨h.1,Na r s' x y h.2 h'⟩
 |.bool r,s',(n,x),y,h,h'=>Na r s' x y h h'
 |.str r,s',(n,x),y,h,h'=>⟨h.1,Na r s' x y h.2 h'⟩
 |.sl e r,s',(n,x),y,h,h'=>⟨h.1,Na r s' x y h.2 h'⟩
theorem Ng:∀(s s':Sh),(s.app s').len=s.len+s'.len
 |.nil,s'=>by simp[Sh.app,Sh.len]
 |.int r,s'=>by simp only[Sh.app,Sh.len,Ng r s'];omega
 |.bool r,s'=>by simp only[Sh.app,Sh.len,Ng r s'];omega
 |.str r,s'=>by simp only[Sh.app,Sh.len,Ng r s'];omega
 |.sl e r,s'=>by simp only[Sh.app,Sh.len,Ng r s'];omega
section
variable {H:Type} {enc:TypeId×Value->H} {P:Program} {w:World} {base:Nat} {sp:Nat->Bool} {held:Bool}
theorem Ns {fuel:Nat} (sh:TypeId->Option Sh)
  (ih:∀t s cs x,sh t=some s->DataW.trod enc P w base sp held fuel t cs=some x->∃y,M7 s y/\lr (ae.ofWTop w) cs (pD s y)):
  ∀(fs:List Field) (off:Nat) (s:Sh) (cs:List Value),uA P sh fs off=some s->(∀f∈fs,∃x,DataW.trod enc P w base sp held fuel f.type ((cs.drop f.offset).take (P.cellsOf f.type))=some x)->
   ∃y,M7 s y/\lr (ae.ofWTop w) ((cs.drop off).take s.len) (pD s y):=by
 intro fs
 induction fs with
 |nil=>
  intro off s cs h _
  simp only[uA,Option.some.injEq] at h
  subst h
  exact⟨(),trivial,by simpa[Sh.len,pD] using lr.nil _⟩
 |cons f fs ihf=>
  intro off s cs h hx
  simp only[uA] at h
  split at h
  ·rename_i s1 ho h1
   have ho:=of_decide_eq_true ho
   split at h
   ·rename_i r hl hr
    have hl:=of_decide_eq_true hl
    simp only[Option.some.injEq] at h
    subst h
    obtain⟨x,hx1⟩:=hx f List.mem_cons_self
    obtain⟨y1,w1,r1⟩:=ih f.type s1 _ x h1 hx1
    obtain⟨y2,w2,r2⟩:=ihf (off+s1.len) r cs hr (fun g hg=>hx g (List.mem_cons_of_mem _ hg))
    refine⟨M5 s1 r y1 y2,Na _ _ _ _ w1 w2,?_⟩
    rw[M8,Ng]
    have:=r1.append r2
    rw[ho,<-hl] at this
    have e:(cs.drop off).take (s1.len+r.len)=(cs.drop off).take s1.len++(cs.drop (off+s1.len)).take r.len:=by
     rw[List.take_add,List.drop_drop]
    rw[e]
    exact this
   ·cases h
  ·cases h
theorem Nt:∀(n fuel:Nat) (t:TypeId) (s:Sh) (cs:List Value) (x:DataW H×List MemPlace),FW P n t=some s->DataW.trod enc P w base sp held fuel t cs=some x->
  ∃y,M7 s y/\lr (ae.ofWTop w) cs (pD s y):=by
 intro n
 induction n with
 |zero=>intro fuel t s cs x h;simp[FW] at h
 |succ n ih=>
  intro fuel t s cs x h hx
  simp only[FW] at h
  split at h
  ·rename_i ht
   cases h
   obtain⟨m,rfl,_,hw⟩:=DataW.trod_int ht hx
   refine⟨(m,()),⟨?_,trivial⟩, .cons (.int _ _) (.nil _)⟩
   simp[Lit.wf] at hw
   have k:IntKind.i64.min=-9223372036854775808:=by decide
   have k':IntKind.i64.max=9223372036854775807:=by decide
   omega
  ·rename_i ht
   cases h
   obtain⟨b,rfl,_⟩:=DataW.trod_bool ht hx
   exact⟨(b,()),trivial, .cons (.bool _) (.nil _)⟩
  ·rename_i ht
   cases h
   obtain⟨b,rfl,_,hw⟩:=DataW.trod_string ht hx
   exact⟨(b,()),⟨hw,trivial⟩, .cons (.str _) (.nil _)⟩
  ·rename_i e ht
   split at h
   ·rename_i se hse
    split at h
    ·rename_i hl
     have hl:=of_decide_eq_true hl
     cases h
     rcases DataW.trod_slice ht hx with ⟨rfl,_⟩|⟨a,len,cap,elems,rest,m,_,rfl,_,hb,hlc,hm,hlen,hel,_,_⟩
     ·refine⟨([],()),⟨⟨by simp,by simp⟩,trivial⟩, .cons ?_ (.nil _)⟩
      exact .sl (sU se) (pD se) [] none 0 1 (fun _ _=>.int .i64 0) (by simp) (by simp) (by simp) (fun i j hi=>by simp at hi) (by simp) (fun i a j u hi=>by simp at hi)
     ·have each:∀i,i<len->∃y,M7 se y/\∃cs',(∀j,j<se.len->w.cell? (a.add (i*se.len+j))=cs'[j]?)/\lr (ae.ofWTop w) cs' (pD se y):=by
       intro i hi
       have h1:=hel i hi
       have h2:∃z,elems[i]? =some z:=⟨elems[i]'(by omega),gL (by omega)⟩
       obtain⟨z,hz⟩:=h2
       rw[hz,Option.bind_eq_some_iff] at h1
       obtain⟨cs',hc1,hc2⟩:=h1
       obtain⟨y,hy1,hy2⟩:=ih m e se cs' z hse hc2
       refine⟨y,hy1,cs',fun j hj=>?_,hy2⟩
       have:=(World.cells?_some hc1).2.2 j (by omega)
       rw[Go.Proofs.YtblcpnmnibcbbaaGreatDoor.Addr.add_add,<-hl] at this
       exact this
      let f:Nat->xy se:=fun i=>if h:i<len then Classical.choose (each i h) else sU se
      have hf:∀i,(h:i<len)->M7 se (f i)/\∃cs',(∀j,j<se.len->w.cell? (a.add (i*se.len+j))=cs'[j]?)/\lr (ae.ofWTop w) cs' (pD se (f i)):=by
       intro i h
       have:f i=Classical.choose (each i h):=by simp[f,h]
       rw[this]
       exact Classical.choose_spec (each i h)
      have hlf:((List.range len).map f).length=len:=by simp
      refine⟨((List.range len).map f,()),⟨⟨by rw[hlf];omega,fun y hy=>?_⟩,trivial⟩, .cons ?_ (.nil _)⟩
      ·obtain⟨i,hi,rfl⟩:=List.mem_map.1 hy
       exact(hf i (by simpa using hi)).1
      ·have hi':∀i,i<((List.range len).map f).length->i<len:=fun i hi=>by rw[hlf] at hi;exact hi
       have:=RP.sl (S:=ae.ofWTop w) (sU se) (pD se) ((List.range len).map f) (some a) cap se.len (fun i j=>(w.cell? (a.add (i*se.len+j))).getD undef) (by rw[hlf];exact hlc) (fun y _=>M9 se y) (fun y _=>M6 se y)
        (fun i j hi hj=>⟨a,rfl,by
         obtain⟨_,cs',h1,h2⟩:=hf i (hi' i hi)
         have hl2:=h2.1
         rw[M6] at hl2
         have h3:=h1 j hj
         have h4:cs'[j]? =some (cs'[j]'(by omega)):=gL (by omega)
         rw[h4] at h3
         simp only[h3,Option.getD_some]
         exact Nq h3⟩) (by simp) (fun i y j u hi hu=>by
         have hil:i<len:=hi' i (List.getElem?_eq_some_iff.1 hi).1
         have hy:y=f i:=by
          rw[List.getElem?_map,List.getElem?_range hil] at hi
          simpa using hi.symm
         subst hy
         obtain⟨_,cs',h1,h2⟩:=hf i hil
         obtain⟨v,hv,hr⟩:=h2.2 j u hu
         have hj:j<se.len:=by rw[<-M6 se (f i)];exact(List.getElem?_eq_some_iff.1 hu).1
         have h3:=h1 j hj
         rw[hv] at h3
         simp only[h3,Option.getD_some]
         exact hr)
       rwa [hlf] at this
    ·cases h
   ·cases h
  ·rename_i fs ht
   split at h
   ·rename_i s' hs
    split at h
    ·rename_i hl
     have hl:=of_decide_eq_true hl
     cases h
     obtain⟨xs,m,_,_,hlen,hxl,hf⟩:=DataW.trod_struct ht hx
     obtain⟨y,h1,h2⟩:=Ns (fuel:=m) (enc:=enc) (w:=w) (base:=base) (sp:=sp) (held:=held) (FW P n) (fun t s cs x=>ih m t s cs x) fs.toList 0 s cs hs (fun f hf'=>by
      obtain⟨i,hi⟩:=List.getElem?_of_mem hf'
      have hi2:fs[i]? =some f:=by simpa using hi
      have:=hf i f hi2
      have hlt:i<xs.length:=by rw[hxl];exact(Array.getElem?_eq_some_iff.1 hi2).1
      rw[gL hlt] at this
      exact⟨_,this⟩)
     refine⟨y,h1,?_⟩
     rw[List.drop_zero,List.take_of_length_le (by omega)] at h2
     exact h2
    ·cases h
   ·cases h
  ·cases h
theorem Nu {t:TypeId} {fs:Array Field} {n:Nat} {s:Sh} {r:Reach} {b0:Nat} {v:Value} {d:DataW H} {ps:List MemPlace} (ht:P.underlying t=some (.struct fs)) (hs:FW P n t=some s)
  (hval:Value.okWide P w r b0 t v) (hd:DataW.Trod enc P w base sp held t v d ps):∃y,M7 s y/\RP (ae.ofWTop w) v (.agg (pD s y)):=by
 obtain⟨cs,rfl,_⟩:=okWide_struct ht hval
 obtain⟨fuel,hf⟩:=hd
 obtain⟨y,h1,h2⟩:=Nt n fuel t s _ _ hs hf
 refine⟨y,h1, .agg _ cs (by simpa[Value.cells] using h2.1) (fun i=>cs.getD i undef) (fun i hi=>by simp[hi]) (fun j u hu=>?_)⟩
 obtain⟨v,hv,hr⟩:=h2.2 j u hu
 have:cs[j]? =some v:=by simpa[Value.cells] using hv
 simpa[this] using hr
end
theorem RP.agg_cvTop {S:ae} {v:Value} {cs cs':List AV} (h:RP S v (.agg cs)) (hc:Dj S cs cs'):RP S v (.agg cs'):=by
 cases h with
 |agg _ vs hs vals he hv=>
  refine .agg cs' vs (by rw[hs,hc.len]) vals he fun j u' hu=>?_
  obtain⟨u,hu1,hu2⟩:=hc.get j u' hu
  exact hu2 _ (hv j u hu1)
theorem Cv.strsTop {S:ae} (l:List (xy (.str .nil))):Cv S (.sl (sU (.str .nil)) (pD (.str .nil)) l) (.sl ⟨#[]⟩ gU (l.map (fun x=>x.1))):=
 Cv.sl (d:=sU (.str .nil)) (enc:=pD (.str .nil)) ⟨#[]⟩ gU (fun x=>x.1) fun _ _=>⟨⟨Cv.refl _ _,trivial⟩,rfl⟩
end
set_option maxRecDepth 100000
set_option maxHeartbeats 4000000
def Nb:Sh:=.int (.int (.int (.int .nil)))
def Nc:Sh:=.int (.int (.int (.int (.int (.int .nil)))))
def Nd:Sh:=.str (.int (.int (.int (.int (.int (xH (.sl Nc (xH (xH (.int (.int (xH (.int (xH (xH (xH (.int .nil)))))))))))))))))
def Nw (l:List (xy (.str .nil))):List ByteArray:=l.map (fun x=>x.1)
def Nk:xy Nb->wA
 |(a,b,c,d,_)=>⟨a,b,c,d⟩
def Nl:xy Nc->mY
 |(a,b,c,d,e,f,_)=>⟨a,b,⟨c,d,e,f⟩⟩
def Nm:xy Nd->cY
 |(a,b,c,d,e,f,g,h,i,j,k,l,m,n,o,p,q,r,_)=>⟨a,b,c,d,e,f,nums g,List.map Nl h,nums i,nums j,k,l,nums m,n,nums o,nums p,nums q,r⟩
section
variable {S:ae}
theorem NG (y:xy Nb):Dj S (pD Nb y) (lD (Nk y)):=by
 obtain⟨a,b,c,d,⟨⟩⟩:=y
 exact⟨Cv.refl _ _,Cv.refl _ _,Cv.refl _ _,Cv.refl _ _,trivial⟩
theorem NH (y:xy Nc):Dj S (pD Nc y) (eU (Nl y)):=by
 obtain⟨a,b,c,d,e,f,⟨⟩⟩:=y
 exact⟨Cv.refl _ _,Cv.refl _ _,Cv.refl _ _,Cv.refl _ _,Cv.refl _ _,Cv.refl _ _,trivial⟩
theorem Ny (l:List (xy Nb)):Cv S (.sl (sU Nb) (pD Nb) l) (.sl nq lD (l.map Nk)):=
 Cv.sl (d:=sU Nb) (enc:=pD Nb) nq lD Nk fun y _=>⟨NG y,rfl⟩
theorem Nz (l:List (xy Nc)):Cv S (.sl (sU Nc) (pD Nc) l) (.sl du eU (l.map Nl)):=
 Cv.sl (d:=sU Nc) (enc:=pD Nc) du eU Nl fun y _=>⟨NH y,rfl⟩
theorem NI (y:xy Nd):Dj S (pD Nd y) (iY (Nm y)):=by
 obtain⟨a,b,c,d,e,f,g,h,i,j,k,l,m,n,o,p,q,r,⟨⟩⟩:=y
 exact⟨Cv.refl _ _,Cv.refl _ _,Cv.refl _ _,Cv.refl _ _,Cv.refl _ _,Cv.refl _ _,Cv.ints g,Nz h,Cv.ints i,Cv.ints j,Cv.refl _ _,Cv.refl _ _,Cv.ints m,Cv.refl _ _,Cv.ints o,Cv.ints p,Cv.ints q,Cv.refl _ _,trivial⟩
theorem NA (l:List (xy Nd)):Cv S (.sl (sU Nd) (pD Nd) l) (.sl au iY (l.map Nm)):=
 Cv.sl (d:=sU Nd) (enc:=pD Nd) au iY Nm fun y _=>⟨NI y,rfl⟩
end
open Go.ChangeShapes Go.WideShapes Go.ChangeAt Go.RowKit
def Ni:List (String×DataW Unit):=[("unicode.White_Space",Rows.laid_unicode_White_Space),("strings.asciiSpace",Rows.laid_strings_asciiSpace)]
theorem NQ:laidOutB Tryz.prog=true:=by kernel_rfl
theorem NJ:Tryz.prog.globalNamed "strings.asciiSpace" =some 0:=by kernel_rfl
theorem NK:(Tryz.prog.globals[0]?).map (·.type)=some 247:=by kernel_rfl
theorem NL:Tryz.prog.cellsOf 5=1:=by kernel_rfl
theorem NO:(Rows.laid_strings_asciiSpace:DataW Unit)= .agg (oT.map fun n=>.lit (.int .u8 n)):=by kernel_rfl
theorem NP {W:World} (h:laidMetH Tryz.prog Ni W):Gl (ae.ofWTop W):=by
 rw[MakeChecks.laidMetH_plain _ _ _ (by kernel_rfl)] at h
 obtain⟨ps,⟨g0,t0,cs0,f0,p0,q0,hg0,ht0,hv0,hd0,⟨g1,t1,cs1,f1,p1,q1,hg1,ht1,hv1,hd1,_,_⟩,_⟩,_,_⟩:=h
 obtain rfl:=Option.some.inj (NJ.symm.trans hg1)
 obtain rfl:=Option.some.inj (NK.symm.trans ht1)
 obtain⟨xs,m1,rfl,hx1,hlen,hn,hel⟩:=DataW.trod_array Tryz.underlying247 hd1
 simp only[Prod.mk.injEq] at hx1
 have hx:=hx1.1
 rw[show(Rows.laid_strings_asciiSpace:DataW Unit)=_ from NO] at hx
 simp only[DataW.agg.injEq] at hx
 intro g k l hg j n hj
 unfold G5 at hg
 split at hg
 ·rename_i hb
  have:=Nat.eq_of_beq_eq_true hb
  subst this
  simp only[Option.some.injEq,Prod.mk.injEq] at hg
  obtain⟨rfl,rfl⟩:=hg
  have hj2:(xs.map (·.1))[j]? =some (DataW.lit (.int .u8 n)):=by rw[<-hx,List.getElem?_map,hj];rfl
  rw[List.getElem?_map,Option.map_eq_some_iff] at hj2
  obtain⟨x,hxj,hxl⟩:=hj2
  have hjl:j<xs.length:=(List.getElem?_eq_some_iff.1 hxj).1
  have h1:=hel j (by omega)
  rw[hxj] at h1
  obtain⟨q,e1,e2,_⟩:=DataW.trod_int Tryz.underlying5 h1
  rw[e2] at hxl
  simp only[DataW.lit.injEq,Lit.int.injEq,true_and] at hxl
  subst hxl
  have h2:=World.var?_cell hg1 hv1 j
  refine Nq ?_
  rw[h2]
  rw[NL,Nat.mul_one] at e1
  have h3:((cs1.toList.drop j).take 1)[0]? =some (.int .u8 q):=by rw[e1];rfl
  rw[List.getElem?_take,if_pos (by decide),List.getElem?_drop,Nat.add_zero] at h3
  simpa using h3
 ·cases hg
theorem Nx (os:Os) (args:Array Value):laidMetH Tryz.prog Ni ((World.doorLaid Tryz.prog 4000 os).forCall (fun _ _=>0) ⟨#[],args,[]⟩).memory:=
 laidMetH_of_parts3 (fuel:=8) (laidMet_of_run' 8 (by kernel_rfl) (by kernel_rfl)) (by kernel_rfl) (by kernel_rfl)
section
set_option maxHeartbeats 8000000
def Nf:Sh:=xH (.int .nil)
def Nn:xy Nf->GT
 |(a,b,_)=>⟨nums a,b⟩
section
variable {S:ae}
theorem NM (y:xy Nf):Dj S (pD Nf y) (BG (Nn y)):=by
 obtain⟨a,b,⟨⟩⟩:=y
 exact⟨Cv.ints a,Cv.refl _ _,trivial⟩
theorem NB (l:List (xy Nf)):Cv S (.sl (sU Nf) (pD Nf) l) (.sl i0 BG (l.map Nn)):=
 Cv.sl (d:=sU Nf) (enc:=pD Nf) i0 BG Nn fun y _=>⟨NM y,rfl⟩
end
end
section
section
variable {c:ap} {l:List Int} {i:Int} {k:Nat}
end
end
section
end
set_option maxHeartbeats 16000000
def Nj:Sh:=.str (.int (.sl (.str .nil) (.sl (.str .nil) (.sl (.str .nil) (.int (.sl Nb (xH (xH (.sl Nd (.str (.int (xH (.sl Nf (xH (xH (.int (.int (.int .nil))))))))))))))))))
theorem NN:FW Tryz.prog 9 34=some Nj:=by kernel_rfl
def ND:xy Nj->aq
 |(a,b,c,d,e,f,g,h,i,j,_)=>⟨a,b,Nw c,Nw d,Nw e,f,List.map Nk g,nums h,nums i,List.map Nm j⟩
def NE:xy Nj->bO
 |(_,_,_,_,_,_,_,_,_,_,a,b,c,d,e,f,_)=>⟨a,b,nums c,List.map Nn d,nums e,nums f⟩
def NF:xy Nj->aB
 |(_,_,_,_,_,_,_,_,_,_,_,_,_,_,_,_,a,b,c,_)=>⟨a,b,c⟩
theorem NC {S:ae} (y:xy Nj):Dj S (pD Nj y) (HS (ND y) (NE y) (NF y)):=by
 obtain⟨a,b,c,d,e,f,g,h,i,j,a2,b2,c2,d2,e2,f2,a1,b1,c1,⟨⟩⟩:=y
 exact⟨Cv.refl _ _,Cv.refl _ _,Cv.strsTop c,Cv.strsTop d,Cv.strsTop e,Cv.refl _ _,Ny g,Cv.ints h,Cv.ints i,NA j,Cv.refl _ _,Cv.refl _ _,Cv.ints c2,NB d2,Cv.ints e2,Cv.ints f2,Cv.refl _ _,Cv.refl _ _,Cv.refl _ _,trivial⟩
end Go.Proofs.YtblcpnmnibcbbaaGreatDoor
