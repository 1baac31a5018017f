import Derived.Test.YtekmminpfhacpaaGreatDoorG4
import Derived.RowKit3
import Derived.Test.YtekmminpfhacpaaGreatDoorRows
import Derived.WalkKit
import Derived.ProofKit
import Derived.OpenShut
import Derived.WideKeyArgs
set_option linter.unusedVariables false
set_option linter.unusedSimpArgs false
namespace Go.Proofs.YtekmminpfhacpaaGreatDoor
section
open Go.RowKit
def ai.ofW (w:World):ai:=fun b=>w.heap[b]?
def A9 (W w':World):Prop:=W.keptBut w' (fun _=>False)/\(∀a:Addr,a.block<W.heap.size->w'.frozen? a=W.frozen? a)/\W.heap.size<=w'.heap.size
theorem A9.frame {W w':World} (h:A9 W w') (may:MemPlace->Prop):W.keptBut w' may:=World.keptBut_mono (fun _ f=>f.elim) h.1
end
section
open Go.ChangeShapes Go.WideShapes Go.ChangeAt Go.RowKit
def Ji (W W':World):Prop:=(∀(b:Nat) (o:Obj),W.heap[b]? =some o->W'.heap[b]? =some o)/\A9 W W'
theorem ah.walkK {P:Program} {f:FuncId} {us:List AV} (h:ah P f us (fun u=>u= .bool true)) (vs:List Value) (w:World) (hG:Gl (ai.ofW w)) (hv:ir (ai.ofW w) vs us):
  Calls P f vs.toArray w fun e w'=>e= .returned (.bool true)/\Ji w w':=by
 rw[dM] at h
 refine(h.2 (ai.ofW w) (fun _=>none) vs w hG (fun _ _ e=>e) (fun _ _ e=>by cases e) (fun _=>.inr rfl) hv).mono ?_
 rintro e w' ⟨v,u,S',rfl,rfl,hle,hs,_,_,hr,hw⟩
 cases hr
 refine⟨rfl,fun b o hb=>hs b o (hle b o hb),⟨hw.os,hw.output,fun i hi=>?_⟩,hw.fz,hw.size⟩
 have e:w.heap[i]? =some w.heap[i]:=by simp[hi]
 rw[e,hs i _ (hle i _ e)]
 cases w.heap[i]<;>simp
theorem Ee {H:Type} {enc:TypeId×Value->H} {P:Program} {f:Func} {s:ChangeSpec} {apart fresh handsOn again:Bool} {W W':World} {args:Array Value} {v:Value} {ds gs:List (DataW H)} {before pa pv:List MemPlace}
  (hW:DataW.Whole enc P f.params.toList s.vars apart W args.toList ds gs before)
  (hres:∀(b:Nat) (sp:Nat->Bool) (hd:Bool),DataW.TrodAll enc P W' b sp hd f.resultTypes.toList (v.resultList f.resultTypes.size) (s.fn H (ds++gs)).results [])
  (hargs:∀sp:Nat->Bool,(∀p∈before,sp p.block=true)->DataW.TrodAll enc P W' 0 sp true f.params.toList args.toList (s.fn H (ds++gs)).args pa)
  (hvars:∀sp:Nat->Bool,(∀p∈before,sp p.block=true)->DataW.TrodVars enc P W' sp s.vars (s.fn H (ds++gs)).vars pv)
  (hps:before=pa++pv) (hg:Ji W W')
  (hok:∀(j:Nat) (t:TypeId) (r:Value),f.resultTypes[j]? =some t->(v.resultList f.resultTypes.size)[j]? =some r->Value.okWide P W' .any 0 t r):
  s.post enc P f apart fresh handsOn again W args v W':=by
 have hlt:∀p∈before,p.block<W.heap.size:=fun p hp=>hW.lt p hp
 have hold:∀p∈before,(fun b=>decide (b<W.heap.size)) p.block=true:=fun p hp=>by simpa using hlt p hp
 refine⟨ds,gs,before,[],pa,pv,hW,hres _ _ _,hargs _ hold,hvars _ hold,World.keptBut_mono (fun p hp=>⟨hp,?_⟩) (hg.2.frame (·∈before)),fun _=>?_⟩
 ·rw[hps,List.mem_append] at hp
  exact Or.inr hp
 ·obtain⟨_,_,_,_,_,hz,hn⟩:=hW
  refine⟨hok,_,_,([]++pa)++pv,⟨[]++pa,pv,trodAll_append (hargs _ (fun _ _=>rfl)) (hres _ _ _),hvars _ (fun _ _=>rfl),rfl,?_,?_⟩,?_⟩
  ·intro b off hp
   have hm:MemPlace.cell b off∈before:=by rw[hps];simpa using hp
   rw[hg.2.2.1 _ (hlt _ hm)]
   exact hz b off hm
  ·intro ha
   have:=hn ha
   rw[hps] at this
   simpa using this
  ·intro p hp _
   rw[hps]
   simpa using hp
theorem Ji.sameAt {W W':World} (h:Ji W W') {p:MemPlace} (hp:p.block<W.heap.size):W.sameAt W' p:=by
 cases p with
 |cell b off=>
  obtain⟨o,e⟩:∃o,W.heap[b]? =some o:=⟨_,Array.getElem?_eq_getElem hp⟩
  show W'.cell? _=W.cell? _
  simp only[World.cell?,e,h.1 b _ e]
 |map b=>
  obtain⟨o,e⟩:∃o,W.heap[b]? =some o:=⟨_,Array.getElem?_eq_getElem hp⟩
  show W'.heap[b]? =W.heap[b]?
  rw[e,h.1 b _ e]
theorem nW {H:Type} {enc:TypeId×Value->H} {P:Program} {base:Nat} {W W':World} {sp':Nat->Bool} (hl:laidOutB P=true):
  ∀{ts:List TypeId} {vs:List Value} {ds:List (DataW H)} {ps:List MemPlace},(∀t∈ts,P.readableRec t=true/\t<P.types.size)->DataW.TrodAll enc P W base (fun _=>true) true ts vs ds ps->
   (∀p∈ps,W.sameAt W' p)->(∀p∈ps,sp' p.block=true)->DataW.TrodAll enc P W' base sp' true ts vs ds ps
 |[],[],[],_,_,h,_,_=>h
 |t::ts,_::_,_::_,_,hT,⟨p,q,h1,h2,e⟩,hs,hq=>⟨p,q,
   Go.WideElems.Trod_stays hl (hT t List.mem_cons_self).1 (hT t List.mem_cons_self).2 h1 (fun x hx=>hs x (by rw[e];exact List.mem_append_left _ hx)) (fun x hx=>hq x (by rw[e];exact List.mem_append_left _ hx)),
   nW hl (fun t ht=>hT t (List.mem_cons_of_mem _ ht)) h2 (fun x hx=>hs x (by rw[e];exact List.mem_append_right _ hx)) (fun x hx=>hq x (by rw[e];exact List.mem_append_right _ hx)),e⟩
theorem yU {w:World} {a:Addr} {v:Value} (h:w.cell? a=some v):(ai.ofW w).cell a=some v:=by
 unfold ai.cell ai.ofW
 unfold World.cell? at h
 exact h
end
section
open Go.ChangeShapes Go.WideShapes Go.ChangeAt Go.RowKit
inductive Sh
 |nil
 |int (r:Sh)
 |bool (r:Sh)
 |str (r:Sh)
 |sl (e r:Sh)
def Sh.len:Sh->Nat
 | .nil=>0
 | .int r| .bool r| .str r| .sl _ r=>r.len+1
def Sh.app:Sh->Sh->Sh
 | .nil,s=>s
 | .int r,s=>.int (r.app s)
 | .bool r,s=>.bool (r.app s)
 | .str r,s=>.str (r.app s)
 | .sl e r,s=>.sl e (r.app s)
def iX:Sh->Type
 | .nil=>Unit
 | .int r=>Int×iX r
 | .bool r=>Bool×iX r
 | .str r=>ByteArray×iX r
 | .sl e r=>List (iX e)×iX r
def jH:(s:Sh)->iX s
 | .nil=>()
 | .int r=>((0:Int),jH r)
 | .bool r=>(false,jH r)
 | .str r=>(⟨#[]⟩,jH r)
 | .sl _ r=>([],jH r)
def cQ:(s:Sh)->iX s->List AV
 | .nil,_=>[]
 | .int r,(n,x)=>.int .i64 n::cQ r x
 | .bool r,(b,x)=>.bool b::cQ r x
 | .str r,(t,x)=>.str t::cQ r x
 | .sl e r,(l,x)=>.sl (jH e) (cQ e) l::cQ r x
def Cz:(s:Sh)->iX s->Prop
 | .nil,_=>True
 | .int r,(n,x)=>(-9223372036854775808<=n/\n<=9223372036854775807)/\Cz r x
 | .bool r,(_,x)=>Cz r x
 | .str r,(t,x)=>t.size<=maxLen/\Cz r x
 | .sl e r,(l,x)=>(l.length<=maxLen/\∀a∈l,Cz e a)/\Cz r x
def lL:(s s':Sh)->iX s->iX s'->iX (s.app s')
 | .nil,_,_,y=>y
 | .int r,s',(n,x),y=>(n,lL r s' x y)
 | .bool r,s',(b,x),y=>(b,lL r s' x y)
 | .str r,s',(t,x),y=>(t,lL r s' x y)
 | .sl _ r,s',(l,x),y=>(l,lL r s' x y)
theorem jv:∀(s:Sh) (y:iX s),(cQ s y).length=s.len
 | .nil,_=>rfl
 | .int r,(n,x)=>by simp[cQ,Sh.len,jv r x]
 | .bool r,(n,x)=>by simp[cQ,Sh.len,jv r x]
 | .str r,(n,x)=>by simp[cQ,Sh.len,jv r x]
 | .sl e r,(n,x)=>by simp[cQ,Sh.len,jv r x]
theorem mw:∀(s:Sh) (y:iX s),allOne (cQ s y)=true
 | .nil,_=>rfl
 | .int r,(n,x)=>by simp[cQ,allOne,oK,mw r x]
 | .bool r,(n,x)=>by simp[cQ,allOne,oK,mw r x]
 | .str r,(n,x)=>by simp[cQ,allOne,oK,mw r x]
 | .sl e r,(n,x)=>by simp[cQ,allOne,oK,mw r x]
theorem ky:∀(s s':Sh) (x:iX s) (y:iX s'),cQ (s.app s') (lL s s' x y)=cQ s x++cQ s' y
 | .nil,_,_,_=>rfl
 | .int r,s',(n,x),y=>by simp only[Sh.app,lL,cQ,ky r s' x y,List.cons_append]
 | .bool r,s',(n,x),y=>by simp only[Sh.app,lL,cQ,ky r s' x y,List.cons_append]
 | .str r,s',(n,x),y=>by simp only[Sh.app,lL,cQ,ky r s' x y,List.cons_append]
 | .sl e r,s',(n,x),y=>by simp only[Sh.app,lL,cQ,ky r s' x y,List.cons_append]
theorem my:∀(s s':Sh) (x:iX s) (y:iX s'),Cz s x->Cz s' y->Cz (s.app s') (lL s s' x y)
 | .nil,_,_,_,_,h=>h
 | .int r,s',(n,x),y,h,h'=>⟨h.1,my r s' x y h.2 h'⟩
 | .bool r,s',(n,x),y,h,h'=>my r s' x y h h'
 | .str r,s',(n,x),y,h,h'=>⟨h.1,my r s' x y h.2 h'⟩
 | .sl e r,s',(n,x),y,h,h'=>⟨h.1,my r s' x y h.2 h'⟩
theorem pi:∀(s s':Sh),(s.app s').len=s.len+s'.len
 | .nil,s'=>by simp[Sh.app,Sh.len]
 | .int r,s'=>by simp only[Sh.app,Sh.len,pi r s'];omega
 | .bool r,s'=>by simp only[Sh.app,Sh.len,pi r s'];omega
 | .str r,s'=>by simp only[Sh.app,Sh.len,pi r s'];omega
 | .sl e r,s'=>by simp only[Sh.app,Sh.len,pi r s'];omega
def mz (P:Program) (sh:TypeId->Option Sh):List Field->Nat->Option Sh
 |[],_=>some .nil
 |f::fs,off=>match decide (f.offset=off),sh f.type with
  |true,some s=>match decide (s.len=P.cellsOf f.type),mz P sh fs (off+s.len) with
   |true,some r=>some (s.app r)
   |_,_=>none
  |_,_=>none
def yV (P:Program):Nat->TypeId->Option Sh
 |0,_=>none
 |n+1,t=>match P.underlying t with
  |some (.int .i64)=>some (.int .nil)
  |some .bool=>some (.bool .nil)
  |some .string=>some (.str .nil)
  |some (.slice e)=>match yV P n e with
   |some s=>match decide (s.len=P.cellsOf e) with
    |true=>some (.sl s .nil)
    |false=>none
   |none=>none
  |some (.struct fs)=>match mz P (yV P n) fs.toList 0 with
   |some s=>match decide (s.len=P.cellsOf t) with
    |true=>some s
    |false=>none
   |none=>none
  |_=>none
section
variable {H:Type} {enc:TypeId×Value->H} {P:Program} {w:World} {base:Nat} {sp:Nat->Bool} {held:Bool}
theorem ir.append {S:ai} {vs vs':List Value} {us us':List AV} (h:ir S vs us) (h':ir S vs' us'):ir S (vs++vs') (us++us'):=
 ⟨by simp[h.1,h'.1],fun i u hu=>by
  by_cases hi:i<us.length
  ·rw[List.getElem?_append_left hi] at hu
   obtain⟨v,e,hv⟩:=h.2 _ u hu
   exact⟨v,by rw[List.getElem?_append_left (by rw[h.1];exact hi)];exact e,hv⟩
  ·rw[List.getElem?_append_right (by omega)] at hu
   obtain⟨v,e,hv⟩:=h'.2 _ u hu
   exact⟨v,by rw[List.getElem?_append_right (by rw[h.1];omega),h.1];exact e,hv⟩⟩
theorem LI {t:TypeId} {r:Reach} {b0:Nat} {v:Value} {d:DataW H} {ps:List MemPlace} (ht:P.underlying t=some (.int .i64))
  (hval:Value.okWide P w r b0 t v) (hd:DataW.Trod enc P w base sp held t v d ps):∃m:Int,(-9223372036854775808<=m/\m<=9223372036854775807)/\v= .int .i64 m:=by
 obtain⟨fuel,hf⟩:=hd
 obtain⟨m,hm,_,hw⟩:=DataW.trod_int ht hf
 refine⟨m,?_,?_⟩
 ·simp[Lit.wf] at hw
  have k:IntKind.i64.min=-9223372036854775808:=by decide
  have k':IntKind.i64.max=9223372036854775807:=by decide
  omega
 ·simp only[Value.okWide,ht,Cell.okWide] at hval
  cases v<;>simp_all [Value.cells,Cell.ok]
end
def Cv (S:ai) (u u':AV):Prop:=∀v,RP S v u->RP S v u'
def A' (S:ai):List AV->List AV->Prop
 |[],[]=>True
 |u::us,v::vs=>Cv S u v/\A' S us vs
 |_,_=>False
theorem Cv.refl (S:ai) (u:AV):Cv S u u:=fun _ h=>h
theorem A'.len {S:ai}:∀{us vs:List AV},A' S us vs->us.length=vs.length
 |[],[],_=>rfl
 |_::us,_::vs,h=>by simp[A'.len h.2]
 |[],_::_,h=>h.elim
 |_::_,[],h=>h.elim
theorem A'.get {S:ai}:∀{us vs:List AV},A' S us vs->∀(j:Nat) u',vs[j]? =some u'->∃u,us[j]? =some u/\Cv S u u'
 |[],[],_,j,u',h=>by simp at h
 |u::us,v::vs,h,j,u',hj=>by
  cases j with
  |zero=>simp at hj;subst hj;exact⟨u,by simp,h.1⟩
  |succ j=>simp at hj;obtain⟨x,hx,hc⟩:=A'.get h.2 j u' hj;exact⟨x,by simpa using hx,hc⟩
 |[],_::_,h,_,_,_=>h.elim
 |_::_,[],h,_,_,_=>h.elim
theorem RP.agg_cv {S:ai} {v:Value} {cs cs':List AV} (h:RP S v (.agg cs)) (hc:A' S cs cs'):RP S v (.agg cs'):=by
 cases h with
 |agg _ vs hs vals he hv=>
  refine .agg cs' vs (by rw[hs,hc.len]) vals he fun j u' hu=>?_
  obtain⟨u,hu1,hu2⟩:=hc.get j u' hu
  exact hu2 _ (hv j u hu1)
theorem Cv.sl {S:ai} {α β:Type} {d:α} {enc:α->List AV} {l:List α} (d':β) (enc':β->List AV) (f:α->β) (hf:∀a∈l,A' S (enc a) (enc' (f a))/\allOne (enc' (f a))=true):Cv S (.sl d enc l) (.sl d' enc' (l.map f)):=by
 intro v h
 cases h with
 |sl _ _ _ base cap sz vals hcap ho hsz hb hn hv=>
  have e:l.length=(l.map f).length:=by simp
  rw[e]
  refine .sl d' enc' (l.map f) base cap sz vals (by simpa using hcap) (fun a ha=>?_) (fun a ha=>?_) (fun i j hi hj=>hb i j (by simpa using hi) hj) (fun h=>hn (by simpa using h)) (fun i a j u hi hu=>?_)
  ·obtain⟨b,hb',rfl⟩:=List.mem_map.1 ha;exact(hf b hb').2
  ·obtain⟨b,hb',rfl⟩:=List.mem_map.1 ha;rw[<-(hf b hb').1.len];exact hsz b hb'
  ·rw[List.getElem?_map,Option.map_eq_some_iff] at hi
   obtain⟨b,hb',rfl⟩:=hi
   obtain⟨u0,hu0,hc⟩:=(hf b (List.mem_of_getElem? hb')).1.get j u hu
   exact hc _ (hv i b j u0 hb' hu0)
theorem Cv.ints {S:ai} (l:List (iX (.int .nil))):Cv S (.sl (jH (.int .nil)) (cQ (.int .nil)) l) (.sl 0 al (l.map (fun x=>x.1))):=
 Cv.sl (d:=jH (.int .nil)) (enc:=cQ (.int .nil)) 0 al (fun x=>x.1) fun _ _=>⟨⟨Cv.refl _ _,trivial⟩,rfl⟩
def fo (s:ByteArray):List AV:=[.str s]
theorem Cv.strs {S:ai} (l:List (iX (.str .nil))):Cv S (.sl (jH (.str .nil)) (cQ (.str .nil)) l) (.sl ⟨#[]⟩ fo (l.map (fun x=>x.1))):=
 Cv.sl (d:=jH (.str .nil)) (enc:=cQ (.str .nil)) ⟨#[]⟩ fo (fun x=>x.1) fun _ _=>⟨⟨Cv.refl _ _,trivial⟩,rfl⟩
end
end Go.Proofs.YtekmminpfhacpaaGreatDoor
