import Derived.Test.YtekmminpfhacpaaGreatDoorT1
import Derived.SizedLaws
set_option linter.unusedVariables false
set_option linter.unusedSimpArgs false
namespace Go.Proofs.YtekmminpfhacpaaGreatDoor
open Go.ChangeShapes Go.WideShapes Go.ChangeAt Go.RowKit
def xg:(s:Sh)->iX s->Prop
 |.nil,_=>True
 |.int r,(_,x)=>xg r x
 |.bool r,(_,x)=>xg r x
 |.str r,(t,x)=>t.size<=140737488355328/\xg r x
 |.sl e r,(l,x)=>(l.length<=140737488355328/\∀a∈l,xg e a)/\xg r x
theorem mI:∀(s s':Sh) (x:iX s) (y:iX s'),xg s x->xg s' y->xg (s.app s') (lL s s' x y)
 |.nil,_,_,_,_,h=>h
 |.int r,s',(_,x),y,h,h'=>mI r s' x y h h'
 |.bool r,s',(_,x),y,h,h'=>mI r s' x y h h'
 |.str r,s',(_,x),y,h,h'=>⟨h.1,mI r s' x y h.2 h'⟩
 |.sl _ r,s',(_,x),y,h,h'=>⟨h.1,mI r s' x y h.2 h'⟩
def Bo (P:Program):Nat->TypeId->Bool
 |0,_=>false
 |n+1,t=>match P.underlying t with
  |some (.slice e)=>Nat.blt 0 (P.bytesOf e)&&Bo P n e
  |some (.struct fs)=>fs.toList.all fun f=>Bo P n f.type
  |_=>true
section
variable {H:Type} {enc:TypeId×Value->H} {P:Program} {w:World} {base:Nat} {sp:Nat->Bool} {held:Bool}
theorem GM {fuel:Nat} (sh:TypeId->Option Sh) (bt:TypeId->Bool)
  (ih:∀t s cs x,sh t=some s->bt t=true->DataW.trod enc P w base sp held fuel t cs=some x->(x.1.weights P t).all (·<=reachBytes)=true->∃y,Cz s y/\ir (ai.ofW w) cs (cQ s y)/\xg s y):
  ∀(fs:List Field) (off:Nat) (s:Sh) (cs:List Value),mz P sh fs off=some s->(∀f∈fs,bt f.type=true)->
   (∀f∈fs,∃x,DataW.trod enc P w base sp held fuel f.type ((cs.drop f.offset).take (P.cellsOf f.type))=some x/\(x.1.weights P f.type).all (·<=reachBytes)=true)->
   ∃y,Cz s y/\ir (ai.ofW w) ((cs.drop off).take s.len) (cQ s y)/\xg s y:=by
 intro fs
 induction fs with
 |nil=>
  intro off s cs h _ _
  simp only[mz,Option.some.injEq] at h
  subst h
  exact⟨(),trivial,by simpa[Sh.len,cQ] using ir.nil _,trivial⟩
 |cons f fs ihf=>
  intro off s cs h hb hx
  simp only[mz] at h
  split at h
  ·rename_i s1 ho h1
   have ho:=of_decide_eq_true ho
   split at h
   ·rename_i r hl hr
    have hl:=of_decide_eq_true hl
    simp only[Option.some.injEq] at h
    subst h
    obtain⟨x,hx1,hx2⟩:=hx f List.mem_cons_self
    obtain⟨y1,w1,r1,z1⟩:=ih f.type s1 _ x h1 (hb f List.mem_cons_self) hx1 hx2
    obtain⟨y2,w2,r2,z2⟩:=ihf (off+s1.len) r cs hr (fun g hg=>hb g (List.mem_cons_of_mem _ hg)) (fun g hg=>hx g (List.mem_cons_of_mem _ hg))
    refine⟨lL s1 r y1 y2,my _ _ _ _ w1 w2,?_,mI _ _ _ _ z1 z2⟩
    rw[ky,pi]
    have:=r1.append r2
    rw[ho,<-hl] at this
    have e:(cs.drop off).take (s1.len+r.len)=(cs.drop off).take s1.len++(cs.drop (off+s1.len)).take r.len:=by
     rw[List.take_add,List.drop_drop]
    rw[e]
    exact this
   ·cases h
  ·cases h
theorem JR:∀(n fuel:Nat) (t:TypeId) (s:Sh) (cs:List Value) (x:DataW H×List MemPlace),yV P n t=some s->Bo P n t=true->DataW.trod enc P w base sp held fuel t cs=some x->
  (x.1.weights P t).all (·<=reachBytes)=true->∃y,Cz s y/\ir (ai.ofW w) cs (cQ s y)/\xg s y:=by
 intro n
 induction n with
 |zero=>intro fuel t s cs x h;simp[yV] at h
 |succ n ih=>
  intro fuel t s cs x h hbt hx hwt
  simp only[yV] at h
  simp only[Bo] at hbt
  have hreach:reachBytes<=140737488355328:=by decide
  split at h
  ·rename_i ht
   cases h
   obtain⟨m,rfl,_,hw⟩:=DataW.trod_int ht hx
   refine⟨(m,()),⟨?_,trivial⟩, .cons (.int _ _) (.nil _),trivial⟩
   simp[Lit.wf] at hw
   have k:IntKind.i64.min=-9223372036854775808:=by decide
   have k':IntKind.i64.max=9223372036854775807:=by decide
   omega
  ·rename_i ht
   cases h
   obtain⟨b,rfl,_⟩:=DataW.trod_bool ht hx
   exact⟨(b,()),trivial, .cons (.bool _) (.nil _),trivial⟩
  ·rename_i ht
   cases h
   obtain⟨b,rfl,hx,hw⟩:=DataW.trod_string ht hx
   subst hx
   refine⟨(b,()),⟨hw,trivial⟩, .cons (.str _) (.nil _),?_,trivial⟩
   have h':([b.data.toList.length]:List Nat).all (·<=reachBytes)=true:=hwt
   have:b.data.toList.length<=reachBytes:=of_decide_eq_true (List.all_eq_true.1 h' _ (List.mem_singleton.2 rfl))
   have e:b.data.toList.length=b.size:=by rw[Array.length_toList];rfl
   omega
  ·rename_i e ht
   rw[ht] at hbt
   simp only[Bool.and_eq_true] at hbt
   obtain⟨hb1,hb2⟩:=hbt
   have hb1:0<P.bytesOf e:=Nat.le_of_ble_eq_true hb1
   split at h
   ·rename_i se hse
    split at h
    ·rename_i hl
     have hl:=of_decide_eq_true hl
     cases h
     rcases DataW.trod_slice ht hx with ⟨rfl,_⟩|⟨a,len,cap,elems,rest,m,_,rfl,hxe,hb,hlc,hm,hlen,hel,_,_⟩
     ·refine⟨([],()),⟨⟨by simp,by simp⟩,trivial⟩, .cons ?_ (.nil _),⟨by simp,by simp⟩,trivial⟩
      exact .sl (jH se) (cQ se) [] none 0 1 (fun _ _=>.int .i64 0) (by simp) (by simp) (by simp) (fun i j hi=>by simp at hi) (by simp) (fun i a j u hi=>by simp at hi)
     ·subst hxe
      simp only[DataW.weights,ht,List.all_cons,List.all_append,Bool.and_eq_true,decide_eq_true_eq] at hwt
      obtain⟨hw1,hw2,_⟩:=hwt
      have hlz:len<=140737488355328:=by
       have:(elems.length+rest.length)*1<=(elems.length+rest.length)*P.bytesOf e:=Nat.mul_le_mul_left _ hb1
       simp only[List.length_map] at hw1
       omega
      have wall:∀(l:List (DataW H×List MemPlace)),(DataW.weightsAll P e (l.map (·.1))).all (·<=reachBytes)=true->∀z∈l,(z.1.weights P e).all (·<=reachBytes)=true:=by
       intro l
       induction l with
       |nil=>intro _ z hz;cases hz
       |cons y l ihl=>
        intro h z hz
        simp only[List.map_cons,DataW.weightsAll,List.all_append,Bool.and_eq_true] at h
        rcases List.mem_cons.1 hz with rfl|hz
        ·exact h.1
        ·exact ihl h.2 z hz
      have each:∀i,i<len->∃y,Cz se y/\(∃cs',(∀j,j<se.len->w.cell? (a.add (i*se.len+j))=cs'[j]?)/\ir (ai.ofW w) cs' (cQ se y))/\xg se y:=by
       intro i hi
       have h1:=hel i hi
       have h2:∃z,elems[i]? =some z:=⟨elems[i]'(by omega),gL (by omega)⟩
       obtain⟨z,hz⟩:=h2
       rw[hz,Option.bind_eq_some_iff] at h1
       obtain⟨cs',hc1,hc2⟩:=h1
       obtain⟨y,hy1,hy2,hy3⟩:=ih m e se cs' z hse hb2 hc2 (wall elems hw2 z (List.mem_of_getElem? hz))
       refine⟨y,hy1,⟨cs',fun j hj=>?_,hy2⟩,hy3⟩
       have:=(World.cells?_some hc1).2.2 j (by omega)
       rw[Go.Proofs.YtekmminpfhacpaaGreatDoor.Addr.add_add,<-hl] at this
       exact this
      let f:Nat->iX se:=fun i=>if h:i<len then Classical.choose (each i h) else jH se
      have hf:∀i,(h:i<len)->Cz se (f i)/\(∃cs',(∀j,j<se.len->w.cell? (a.add (i*se.len+j))=cs'[j]?)/\ir (ai.ofW w) cs' (cQ se (f i)))/\xg se (f i):=by
       intro i h
       have:f i=Classical.choose (each i h):=by simp[f,h]
       rw[this]
       exact Classical.choose_spec (each i h)
      have hlf:((List.range len).map f).length=len:=by simp
      refine⟨((List.range len).map f,()),⟨⟨by rw[hlf];omega,fun y hy=>?_⟩,trivial⟩, .cons ?_ (.nil _),⟨by rw[hlf];exact hlz,fun y hy=>?_⟩,trivial⟩
      ·obtain⟨i,hi,rfl⟩:=List.mem_map.1 hy
       exact(hf i (by simpa using hi)).1
      ·have hi':∀i,i<((List.range len).map f).length->i<len:=fun i hi=>by rw[hlf] at hi;exact hi
       have:=RP.sl (S:=ai.ofW w) (jH se) (cQ se) ((List.range len).map f) (some a) cap se.len (fun i j=>(w.cell? (a.add (i*se.len+j))).getD undef) (by rw[hlf];exact hlc) (fun y _=>mw se y) (fun y _=>jv se y)
        (fun i j hi hj=>⟨a,rfl,by
         obtain⟨_,⟨cs',h1,h2⟩,_⟩:=hf i (hi' i hi)
         have hl2:=h2.1
         rw[jv] at hl2
         have h3:=h1 j hj
         have h4:cs'[j]? =some (cs'[j]'(by omega)):=gL (by omega)
         rw[h4] at h3
         simp only[h3,Option.getD_some]
         exact yU h3⟩) (by simp) (fun i y j u hi hu=>by
         have hil:i<len:=hi' i (List.getElem?_eq_some_iff.1 hi).1
         have hy:y=f i:=by
          rw[List.getElem?_map,List.getElem?_range hil] at hi
          simpa using hi.symm
         subst hy
         obtain⟨_,⟨cs',h1,h2⟩,_⟩:=hf i hil
         obtain⟨v,hv,hr⟩:=h2.2 j u hu
         have hj:j<se.len:=by rw[<-jv se (f i)];exact(List.getElem?_eq_some_iff.1 hu).1
         have h3:=h1 j hj
         rw[hv] at h3
         simp only[h3,Option.getD_some]
         exact hr)
       rwa [hlf] at this
      ·obtain⟨i,hi,rfl⟩:=List.mem_map.1 hy
       exact(hf i (by simpa using hi)).2.2
    ·cases h
   ·cases h
  ·rename_i fs ht
   rw[ht] at hbt
   split at h
   ·rename_i s' hs
    split at h
    ·rename_i hl
     have hl:=of_decide_eq_true hl
     cases h
     obtain⟨xs,m,_,hxe,hlen,hxl,hf⟩:=DataW.trod_struct ht hx
     subst hxe
     simp only[DataW.weights,ht] at hwt
     have weach:∀(ts:List TypeId) (l:List (DataW H×List MemPlace)),(DataW.weightsEach P ts (l.map (·.1))).all (·<=reachBytes)=true->∀(i:Nat) t z,ts[i]? =some t->l[i]? =some z->(z.1.weights P t).all (·<=reachBytes)=true:=by
      intro ts l h i t z h1 h2
      refine List.all_eq_true.2 fun n hn=>?_
      exact List.all_eq_true.1 h n (DataW.weights_mem_each h1 (by rw[List.getElem?_map,h2];rfl) n hn)
     obtain⟨y,h1,h2,h3⟩:=GM (fuel:=m) (enc:=enc) (w:=w) (base:=base) (sp:=sp) (held:=held) (yV P n) (Bo P n) (fun t s cs x=>ih m t s cs x) fs.toList 0 s cs hs (fun f hf'=>List.all_eq_true.1 hbt f hf') (fun f hf'=>by
      obtain⟨i,hi⟩:=List.getElem?_of_mem hf'
      have hi2:fs[i]? =some f:=by simpa using hi
      have:=hf i f hi2
      have hlt:i<xs.length:=by rw[hxl];exact(Array.getElem?_eq_some_iff.1 hi2).1
      rw[gL hlt] at this
      exact⟨_,this,weach _ xs hwt i f.type _ (by rw[List.getElem?_map,hi];rfl) (gL hlt)⟩)
     refine⟨y,h1,?_,h3⟩
     rw[List.drop_zero,List.take_of_length_le (by omega)] at h2
     exact h2
    ·cases h
   ·cases h
  ·cases h
theorem Ou {ts:List TypeId} {ds:List (DataW H)} {j:Nat} {t:TypeId} {d:DataW H} (h:(DataW.weightsEach P ts ds).all (·<=reachBytes)=true) (ht:ts[j]? =some t) (hd:ds[j]? =some d):(d.weights P t).all (·<=reachBytes)=true:=
 List.all_eq_true.2 fun n hn=>List.all_eq_true.1 h n (DataW.weights_mem_each ht hd n hn)
theorem JS {t:TypeId} {fs:Array Field} {n:Nat} {s:Sh} {r:Reach} {b0:Nat} {v:Value} {d:DataW H} {ps:List MemPlace} (ht:P.underlying t=some (.struct fs)) (hs:yV P n t=some s) (hb:Bo P n t=true)
  (hval:Value.okWide P w r b0 t v) (hd:DataW.Trod enc P w base sp held t v d ps) (hw:(d.weights P t).all (·<=reachBytes)=true):∃y,Cz s y/\xg s y/\RP (ai.ofW w) v (.agg (cQ s y)):=by
 obtain⟨cs,rfl,_⟩:=okWide_struct ht hval
 obtain⟨fuel,hf⟩:=hd
 obtain⟨y,h1,h2,h3⟩:=JR n fuel t s _ _ hs hb hf hw
 refine⟨y,h1,h3, .agg _ cs (by simpa[Value.cells] using h2.1) (fun i=>cs.getD i undef) (fun i hi=>by simp[hi]) (fun j u hu=>?_)⟩
 obtain⟨v,hv,hr⟩:=h2.2 j u hu
 have:cs[j]? =some v:=by simpa[Value.cells] using hv
 simpa[this] using hr
end
end Go.Proofs.YtekmminpfhacpaaGreatDoor
