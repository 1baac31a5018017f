import Derived.Test.YtnjggjhkfncnlaaGreatDoorG4
import Derived.RowKit3
import Derived.Test.YtnjggjhkfncnlaaGreatDoorRows
import Derived.WalkKit
import Derived.ProofKit
import Derived.OpenShut
import Derived.WideKeyArgs
set_option linter.unusedVariables false
set_option linter.unusedSimpArgs false
namespace Go.Proofs.YtnjggjhkfncnlaaGreatDoor
open Go.RowKit
def ai.ofW (w:World):ai:=fun b=>w.heap[b]?
def wG (W w':World):Prop:=W.keptBut w' (fun _=>False)/\(∀a:Addr,a.block<W.heap.size->w'.frozen? a=W.frozen? a)/\W.heap.size<=w'.heap.size
theorem wG.frame {W w':World} (h:wG W w') (may:MemPlace->Prop):W.keptBut w' may:=World.keptBut_mono (fun _ f=>f.elim) h.1
end Go.Proofs.YtnjggjhkfncnlaaGreatDoor
namespace Go.Proofs.YtnjggjhkfncnlaaGreatDoor
open Go.ChangeShapes Go.WideShapes Go.ChangeAt Go.RowKit
def Ey (W W':World):Prop:=(∀(b:Nat) (o:Obj),W.heap[b]? =some o->W'.heap[b]? =some o)/\wG W W'
theorem ab.walkK {P:Program} {f:FuncId} {us:List AV} (h:ab P f us (fun u=>u= .bool true)) (vs:List Value) (w:World) (hG:Gl (ai.ofW w)) (hv:ir (ai.ofW w) vs us):
  Calls P f vs.toArray w fun e w'=>e= .returned (.bool true)/\Ey w w':=by
 rw[dj] at h
 refine(h.2 (ai.ofW w) (fun _=>none) vs w hG (fun _ _ e=>e) (fun _ _ e=>by cases e) (fun _=>.inr rfl) hv).mono ?_
 rintro e w' ⟨v,u,S',rfl,rfl,hle,hs,_,_,hr,hw⟩
 cases hr
 refine⟨rfl,fun b o hb=>hs b o (hle b o hb),⟨hw.os,hw.output,fun i hi=>?_⟩,hw.fz,hw.size⟩
 have e:w.heap[i]? =some w.heap[i]:=by simp[hi]
 rw[e,hs i _ (hle i _ e)]
 cases w.heap[i]<;>simp
theorem zo {H:Type} {enc:TypeId×Value->H} {P:Program} {f:Func} {s:ChangeSpec} {apart fresh handsOn again:Bool} {W W':World} {args:Array Value} {v:Value} {ds gs:List (DataW H)} {before pa pv:List MemPlace}
  (hW:DataW.Whole enc P f.params.toList s.vars apart W args.toList ds gs before)
  (hres:∀(b:Nat) (sp:Nat->Bool) (hd:Bool),DataW.TrodAll enc P W' b sp hd f.resultTypes.toList (v.resultList f.resultTypes.size) (s.fn H (ds++gs)).results [])
  (hargs:∀sp:Nat->Bool,(∀p∈before,sp p.block=true)->DataW.TrodAll enc P W' 0 sp true f.params.toList args.toList (s.fn H (ds++gs)).args pa)
  (hvars:∀sp:Nat->Bool,(∀p∈before,sp p.block=true)->DataW.TrodVars enc P W' sp s.vars (s.fn H (ds++gs)).vars pv)
  (hps:before=pa++pv) (hg:Ey W W')
  (hok:∀(j:Nat) (t:TypeId) (r:Value),f.resultTypes[j]? =some t->(v.resultList f.resultTypes.size)[j]? =some r->Value.okWide P W' .any 0 t r):
  s.post enc P f apart fresh handsOn again W args v W':=by
 have hlt:∀p∈before,p.block<W.heap.size:=fun p hp=>hW.lt p hp
 have hold:∀p∈before,(fun b=>decide (b<W.heap.size)) p.block=true:=fun p hp=>by simpa using hlt p hp
 refine⟨ds,gs,before,[],pa,pv,hW,hres _ _ _,hargs _ hold,hvars _ hold,World.keptBut_mono (fun p hp=>⟨hp,?_⟩) (hg.2.frame (·∈before)),fun _=>?_⟩
 ·rw[hps,List.mem_append] at hp
  exact Or.inr hp
 ·obtain⟨_,_,_,_,_,hz,hn⟩:=hW
  refine⟨hok,_,_,([]++pa)++pv,⟨[]++pa,pv,trodAll_append (hargs _ (fun _ _=>rfl)) (hres _ _ _),hvars _ (fun _ _=>rfl),rfl,?_,?_⟩,?_⟩
  ·intro b off hp
   have hm:MemPlace.cell b off∈before:=by rw[hps];simpa using hp
   rw[hg.2.2.1 _ (hlt _ hm)]
   exact hz b off hm
  ·intro ha
   have:=hn ha
   rw[hps] at this
   simpa using this
  ·intro p hp _
   rw[hps]
   simpa using hp
theorem Ey.sameAt {W W':World} (h:Ey W W') {p:MemPlace} (hp:p.block<W.heap.size):W.sameAt W' p:=by
 cases p with
 |cell b off=>
  obtain⟨o,e⟩:∃o,W.heap[b]? =some o:=⟨_,Array.getElem?_eq_getElem hp⟩
  show W'.cell? _=W.cell? _
  simp only[World.cell?,e,h.1 b _ e]
 |map b=>
  obtain⟨o,e⟩:∃o,W.heap[b]? =some o:=⟨_,Array.getElem?_eq_getElem hp⟩
  show W'.heap[b]? =W.heap[b]?
  rw[e,h.1 b _ e]
theorem ly {H:Type} {enc:TypeId×Value->H} {P:Program} {base:Nat} {W W':World} {sp':Nat->Bool} (hl:laidOutB P=true):
  ∀{ts:List TypeId} {vs:List Value} {ds:List (DataW H)} {ps:List MemPlace},(∀t∈ts,P.readableRec t=true/\t<P.types.size)->DataW.TrodAll enc P W base (fun _=>true) true ts vs ds ps->
   (∀p∈ps,W.sameAt W' p)->(∀p∈ps,sp' p.block=true)->DataW.TrodAll enc P W' base sp' true ts vs ds ps
 |[],[],[],_,_,h,_,_=>h
 |t::ts,_::_,_::_,_,hT,⟨p,q,h1,h2,e⟩,hs,hq=>⟨p,q,
   Go.WideElems.Trod_stays hl (hT t List.mem_cons_self).1 (hT t List.mem_cons_self).2 h1 (fun x hx=>hs x (by rw[e];exact List.mem_append_left _ hx)) (fun x hx=>hq x (by rw[e];exact List.mem_append_left _ hx)),
   ly hl (fun t ht=>hT t (List.mem_cons_of_mem _ ht)) h2 (fun x hx=>hs x (by rw[e];exact List.mem_append_right _ hx)) (fun x hx=>hq x (by rw[e];exact List.mem_append_right _ hx)),e⟩
theorem uO {w:World} {a:Addr} {v:Value} (h:w.cell? a=some v):(ai.ofW w).cell a=some v:=by
 unfold ai.cell ai.ofW
 unfold World.cell? at h
 exact h
end Go.Proofs.YtnjggjhkfncnlaaGreatDoor
namespace Go.Proofs.YtnjggjhkfncnlaaGreatDoor
open Go.ChangeShapes Go.WideShapes Go.ChangeAt Go.RowKit
inductive Sh
 |nil
 |int (r:Sh)
 |bool (r:Sh)
 |str (r:Sh)
 |sl (e r:Sh)
def Sh.len:Sh->Nat
 | .nil=>0
 | .int r| .bool r| .str r| .sl _ r=>r.len+1
def Sh.app:Sh->Sh->Sh
 | .nil,s=>s
 | .int r,s=>.int (r.app s)
 | .bool r,s=>.bool (r.app s)
 | .str r,s=>.str (r.app s)
 | .sl e r,s=>.sl e (r.app s)
def fT:Sh->Type
 | .nil=>Unit
 | .int r=>Int×fT r
 | .bool r=>Bool×fT r
 | .str r=>ByteArray×fT r
 | .sl e r=>List (fT e)×fT r
def ik:(s:Sh)->fT s
 | .nil=>()
 | .int r=>((0:Int),ik r)
 | .bool r=>(false,ik r)
 | .str r=>(⟨#[]⟩,ik r)
 | .sl _ r=>([],ik r)
def ce:(s:Sh)->fT s->List AV
 | .nil,_=>[]
 | .int r,(n,x)=>.int .i64 n::ce r x
 | .bool r,(b,x)=>.bool b::ce r x
 | .str r,(t,x)=>.str t::ce r x
 | .sl e r,(l,x)=>.sl (ik e) (ce e) l::ce r x
def wH:(s:Sh)->fT s->Prop
 | .nil,_=>True
 | .int r,(n,x)=>(-9223372036854775808<=n/\n<=9223372036854775807)/\wH r x
 | .bool r,(_,x)=>wH r x
 | .str r,(t,x)=>t.size<=maxLen/\wH r x
 | .sl e r,(l,x)=>(l.length<=maxLen/\∀a∈l,wH e a)/\wH r x
def jT:(s s':Sh)->fT s->fT s'->fT (s.app s')
 | .nil,_,_,y=>y
 | .int r,s',(n,x),y=>(n,jT r s' x y)
 | .bool r,s',(b,x),y=>(b,jT r s' x y)
 | .str r,s',(t,x),y=>(t,jT r s' x y)
 | .sl _ r,s',(l,x),y=>(l,jT r s' x y)
theorem g6:∀(s:Sh) (y:fT s),(ce s y).length=s.len
 | .nil,_=>rfl
 | .int r,(n,x)=>by simp[ce,Sh.len,g6 r x]
 | .bool r,(n,x)=>by simp[ce,Sh.len,g6 r x]
 | .str r,(n,x)=>by simp[ce,Sh.len,g6 r x]
 | .sl e r,(n,x)=>by simp[ce,Sh.len,g6 r x]
theorem kv:∀(s:Sh) (y:fT s),allOne (ce s y)=true
 | .nil,_=>rfl
 | .int r,(n,x)=>by simp[ce,allOne,l5,kv r x]
 | .bool r,(n,x)=>by simp[ce,allOne,l5,kv r x]
 | .str r,(n,x)=>by simp[ce,allOne,l5,kv r x]
 | .sl e r,(n,x)=>by simp[ce,allOne,l5,kv r x]
theorem jb:∀(s s':Sh) (x:fT s) (y:fT s'),ce (s.app s') (jT s s' x y)=ce s x++ce s' y
 | .nil,_,_,_=>rfl
 | .int r,s',(n,x),y=>by simp only[Sh.app,jT,ce,jb r s' x y,List.cons_append]
 | .bool r,s',(n,x),y=>by simp only[Sh.app,jT,ce,jb r s' x y,List.cons_append]
 | .str r,s',(n,x),y=>by simp only[Sh.app,jT,ce,jb r s' x y,List.cons_append]
 | .sl e r,s',(n,x),y=>by simp only[Sh.app,jT,ce,jb r s' x y,List.cons_append]
theorem kw:∀(s s':Sh) (x:fT s) (y:fT s'),wH s x->wH s' y->wH (s.app s') (jT s s' x y)
 | .nil,_,_,_,_,h=>h
 | .int r,s',(n,x),y,h,h'=>⟨h.1,kw r s' x y h.2 h'⟩
 | .bool r,s',(n,x),y,h,h'=>kw r s' x y h h'
 | .str r,s',(n,x),y,h,h'=>⟨h.1,kw r s' x y h.2 h'⟩
 | .sl e r,s',(n,x),y,h,h'=>⟨h.1,kw r s' x y h.2 h'⟩
theorem mu:∀(s s':Sh),(s.app s').len=s.len+s'.len
 | .nil,s'=>by simp[Sh.app,Sh.len]
 | .int r,s'=>by simp only[Sh.app,Sh.len,mu r s'];omega
 | .bool r,s'=>by simp only[Sh.app,Sh.len,mu r s'];omega
 | .str r,s'=>by simp only[Sh.app,Sh.len,mu r s'];omega
 | .sl e r,s'=>by simp only[Sh.app,Sh.len,mu r s'];omega
def kx (P:Program) (sh:TypeId->Option Sh):List Field->Nat->Option Sh
 |[],_=>some .nil
 |f::fs,off=>match decide (f.offset=off),sh f.type with
  |true,some s=>match decide (s.len=P.cellsOf f.type),kx P sh fs (off+s.len) with
   |true,some r=>some (s.app r)
   |_,_=>none
  |_,_=>none
def pD (P:Program):Nat->TypeId->Option Sh
 |0,_=>none
 |n+1,t=>match P.underlying t with
  |some (.int .i64)=>some (.int .nil)
  |some .bool=>some (.bool .nil)
  |some .string=>some (.str .nil)
  |some (.slice e)=>match pD P n e with
   |some s=>match decide (s.len=P.cellsOf e) with
    |true=>some (.sl s .nil)
    |false=>none
   |none=>none
  |some (.struct fs)=>match kx P (pD P n) fs.toList 0 with
   |some s=>match decide (s.len=P.cellsOf t) with
    |true=>some s
    |false=>none
   |none=>none
  |_=>none
section
variable {H:Type} {enc:TypeId×Value->H} {P:Program} {w:World} {base:Nat} {sp:Nat->Bool} {held:Bool}
theorem ir.append {S:ai} {vs vs':List Value} {us us':List AV} (h:ir S vs us) (h':ir S vs' us'):ir S (vs++vs') (us++us'):=
 ⟨by simp[h.1,h'.1],fun i u hu=>by
  by_cases hi:i<us.length
  ·rw[List.getElem?_append_left hi] at hu
   obtain⟨v,e,hv⟩:=h.2 _ u hu
   exact⟨v,by rw[List.getElem?_append_left (by rw[h.1];exact hi)];exact e,hv⟩
  ·rw[List.getElem?_append_right (by omega)] at hu
   obtain⟨v,e,hv⟩:=h'.2 _ u hu
   exact⟨v,by rw[List.getElem?_append_right (by rw[h.1];omega),h.1];exact e,hv⟩⟩
end
def Cv (S:ai) (u u':AV):Prop:=∀v,RP S v u->RP S v u'
def v5 (S:ai):List AV->List AV->Prop
 |[],[]=>True
 |u::us,v::vs=>Cv S u v/\v5 S us vs
 |_,_=>False
theorem Cv.refl (S:ai) (u:AV):Cv S u u:=fun _ h=>h
theorem v5.len {S:ai}:∀{us vs:List AV},v5 S us vs->us.length=vs.length
 |[],[],_=>rfl
 |_::us,_::vs,h=>by simp[v5.len h.2]
 |[],_::_,h=>h.elim
 |_::_,[],h=>h.elim
theorem v5.get {S:ai}:∀{us vs:List AV},v5 S us vs->∀(j:Nat) u',vs[j]? =some u'->∃u,us[j]? =some u/\Cv S u u'
 |[],[],_,j,u',h=>by simp at h
 |u::us,v::vs,h,j,u',hj=>by
  cases j with
  |zero=>simp at hj;subst hj;exact⟨u,by simp,h.1⟩
  |succ j=>simp at hj;obtain⟨x,hx,hc⟩:=v5.get h.2 j u' hj;exact⟨x,by simpa using hx,hc⟩
 |[],_::_,h,_,_,_=>h.elim
 |_::_,[],h,_,_,_=>h.elim
theorem RP.agg_cv {S:ai} {v:Value} {cs cs':List AV} (h:RP S v (.agg cs)) (hc:v5 S cs cs'):RP S v (.agg cs'):=by
 cases h with
 |agg _ vs hs vals he hv=>
  refine .agg cs' vs (by rw[hs,hc.len]) vals he fun j u' hu=>?_
  obtain⟨u,hu1,hu2⟩:=hc.get j u' hu
  exact hu2 _ (hv j u hu1)
theorem Cv.sl {S:ai} {α β:Type} {d:α} {enc:α->List AV} {l:List α} (d':β) (enc':β->List AV) (f:α->β) (hf:∀a∈l,v5 S (enc a) (enc' (f a))/\allOne (enc' (f a))=true):Cv S (.sl d enc l) (.sl d' enc' (l.map f)):=by
 intro v h
 cases h with
 |sl _ _ _ base cap sz vals hcap ho hsz hb hn hv=>
  have e:l.length=(l.map f).length:=by simp
  rw[e]
  refine .sl d' enc' (l.map f) base cap sz vals (by simpa using hcap) (fun a ha=>?_) (fun a ha=>?_) (fun i j hi hj=>hb i j (by simpa using hi) hj) (fun h=>hn (by simpa using h)) (fun i a j u hi hu=>?_)
  ·obtain⟨b,hb',rfl⟩:=List.mem_map.1 ha;exact(hf b hb').2
  ·obtain⟨b,hb',rfl⟩:=List.mem_map.1 ha;rw[<-(hf b hb').1.len];exact hsz b hb'
  ·rw[List.getElem?_map,Option.map_eq_some_iff] at hi
   obtain⟨b,hb',rfl⟩:=hi
   obtain⟨u0,hu0,hc⟩:=(hf b (List.mem_of_getElem? hb')).1.get j u hu
   exact hc _ (hv i b j u0 hb' hu0)
theorem Cv.ints {S:ai} (l:List (fT (.int .nil))):Cv S (.sl (ik (.int .nil)) (ce (.int .nil)) l) (.sl 0 an (l.map (fun x=>x.1))):=
 Cv.sl (d:=ik (.int .nil)) (enc:=ce (.int .nil)) 0 an (fun x=>x.1) fun _ _=>⟨⟨Cv.refl _ _,trivial⟩,rfl⟩
def dX (s:ByteArray):List AV:=[.str s]
theorem Cv.strs {S:ai} (l:List (fT (.str .nil))):Cv S (.sl (ik (.str .nil)) (ce (.str .nil)) l) (.sl ⟨#[]⟩ dX (l.map (fun x=>x.1))):=
 Cv.sl (d:=ik (.str .nil)) (enc:=ce (.str .nil)) ⟨#[]⟩ dX (fun x=>x.1) fun _ _=>⟨⟨Cv.refl _ _,trivial⟩,rfl⟩
end Go.Proofs.YtnjggjhkfncnlaaGreatDoor
