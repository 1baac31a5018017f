import Derived.Test.YtblcpnmnibcbbaaGreatDoorG4
import Derived.RowKit3
import Derived.Test.YtblcpnmnibcbbaaGreatDoorRows
import Derived.WalkKit
import Derived.ProofKit
import Derived.OpenShut
import Derived.WideKeyArgs
set_option linter.unusedVariables false
set_option linter.unusedSimpArgs false
namespace Go.Proofs.YtblcpnmnibcbbaaGreatDoor
section
open Go.RowKit
end
section
open Go.ChangeShapes Go.WideShapes Go.ChangeAt Go.RowKit
end
section
open Go.ChangeShapes Go.WideShapes Go.ChangeAt Go.RowKit
inductive Sh
 |nil
 |int (r:Sh)
 |bool (r:Sh)
 |str (r:Sh)
 |sl (e r:Sh)
def Sh.len:Sh->Nat
 | .nil=>0
 | .int r| .bool r| .str r| .sl _ r=>r.len+1
def Sh.app:Sh->Sh->Sh
 | .nil,s=>s
 | .int r,s=>.int (r.app s)
 | .bool r,s=>.bool (r.app s)
 | .str r,s=>.str (r.app s)
 | .sl e r,s=>.sl e (r.app s)
def xy:Sh->Type
 | .nil=>Unit
 | .int r=>Int×xy r
 | .bool r=>Bool×xy r
 | .str r=>ByteArray×xy r
 | .sl e r=>List (xy e)×xy r
def sU:(s:Sh)->xy s
 | .nil=>()
 | .int r=>((0:Int),sU r)
 | .bool r=>(false,sU r)
 | .str r=>(⟨#[]⟩,sU r)
 | .sl _ r=>([],sU r)
def pD:(s:Sh)->xy s->List AV
 | .nil,_=>[]
 | .int r,(n,x)=>.int .i64 n::pD r x
 | .bool r,(b,x)=>.bool b::pD r x
 | .str r,(t,x)=>.str t::pD r x
 | .sl e r,(l,x)=>.sl (sU e) (pD e) l::pD r x
def uA (P:Program) (sh:TypeId->Option Sh):List Field->Nat->Option Sh
 |[],_=>some .nil
 |f::fs,off=>match decide (f.offset=off),sh f.type with
  |true,some s=>match decide (s.len=P.cellsOf f.type),uA P sh fs (off+s.len) with
   |true,some r=>some (s.app r)
   |_,_=>none
  |_,_=>none
def FW (P:Program):Nat->TypeId->Option Sh
 |0,_=>none
 |n+1,t=>match P.underlying t with
  |some (.int .i64)=>some (.int .nil)
  |some .bool=>some (.bool .nil)
  |some .string=>some (.str .nil)
  |some (.slice e)=>match FW P n e with
   |some s=>match decide (s.len=P.cellsOf e) with
    |true=>some (.sl s .nil)
    |false=>none
   |none=>none
  |some (.struct fs)=>match uA P (FW P n) fs.toList 0 with
   |some s=>match decide (s.len=P.cellsOf t) with
    |true=>some s
    |false=>none
   |none=>none
  |_=>none
section
variable {H:Type} {enc:TypeId×Value->H} {P:Program} {w:World} {base:Nat} {sp:Nat->Bool} {held:Bool}
theorem lr.append {S:ae} {vs vs':List Value} {us us':List AV} (h:lr S vs us) (h':lr S vs' us'):lr S (vs++vs') (us++us'):=
 ⟨by simp[h.1,h'.1],fun i u hu=>by
  by_cases hi:i<us.length
  ·rw[List.getElem?_append_left hi] at hu
   obtain⟨v,e,hv⟩:=h.2 _ u hu
   exact⟨v,by rw[List.getElem?_append_left (by rw[h.1];exact hi)];exact e,hv⟩
  ·rw[List.getElem?_append_right (by omega)] at hu
   obtain⟨v,e,hv⟩:=h'.2 _ u hu
   exact⟨v,by rw[List.getElem?_append_right (by rw[h.1];omega),h.1];exact e,hv⟩⟩
end
def Cv (S:ae) (u u':AV):Prop:=∀v,RP S v u->RP S v u'
def Dj (S:ae):List AV->List AV->Prop
 |[],[]=>True
 |u::us,v::vs=>Cv S u v/\Dj S us vs
 |_,_=>False
theorem Cv.refl (S:ae) (u:AV):Cv S u u:=fun _ h=>h
theorem Dj.len {S:ae}:∀{us vs:List AV},Dj S us vs->us.length=vs.length
 |[],[],_=>rfl
 |_::us,_::vs,h=>by simp[Dj.len h.2]
 |[],_::_,h=>h.elim
 |_::_,[],h=>h.elim
theorem Dj.get {S:ae}:∀{us vs:List AV},Dj S us vs->∀(j:Nat) u',vs[j]? =some u'->∃u,us[j]? =some u/\Cv S u u'
 |[],[],_,j,u',h=>by simp at h
 |u::us,v::vs,h,j,u',hj=>by
  cases j with
  |zero=>simp at hj;subst hj;exact⟨u,by simp,h.1⟩
  |succ j=>simp at hj;obtain⟨x,hx,hc⟩:=Dj.get h.2 j u' hj;exact⟨x,by simpa using hx,hc⟩
 |[],_::_,h,_,_,_=>h.elim
 |_::_,[],h,_,_,_=>h.elim
theorem Cv.sl {S:ae} {α β:Type} {d:α} {enc:α->List AV} {l:List α} (d':β) (enc':β->List AV) (f:α->β) (hf:∀a∈l,Dj S (enc a) (enc' (f a))/\allOne (enc' (f a))=true):Cv S (.sl d enc l) (.sl d' enc' (l.map f)):=by
 intro v h
 cases h with
 |sl _ _ _ base cap sz vals hcap ho hsz hb hn hv=>
  have e:l.length=(l.map f).length:=by simp
  rw[e]
  refine .sl d' enc' (l.map f) base cap sz vals (by simpa using hcap) (fun a ha=>?_) (fun a ha=>?_) (fun i j hi hj=>hb i j (by simpa using hi) hj) (fun h=>hn (by simpa using h)) (fun i a j u hi hu=>?_)
  ·obtain⟨b,hb',rfl⟩:=List.mem_map.1 ha;exact(hf b hb').2
  ·obtain⟨b,hb',rfl⟩:=List.mem_map.1 ha;rw[<-(hf b hb').1.len];exact hsz b hb'
  ·rw[List.getElem?_map,Option.map_eq_some_iff] at hi
   obtain⟨b,hb',rfl⟩:=hi
   obtain⟨u0,hu0,hc⟩:=(hf b (List.mem_of_getElem? hb')).1.get j u hu
   exact hc _ (hv i b j u0 hb' hu0)
theorem Cv.ints {S:ae} (l:List (xy (.int .nil))):Cv S (.sl (sU (.int .nil)) (pD (.int .nil)) l) (.sl 0 aD (l.map (fun x=>x.1))):=
 Cv.sl (d:=sU (.int .nil)) (enc:=pD (.int .nil)) 0 aD (fun x=>x.1) fun _ _=>⟨⟨Cv.refl _ _,trivial⟩,rfl⟩
def gU (s:ByteArray):List AV:=[.str s]
end
end Go.Proofs.YtblcpnmnibcbbaaGreatDoor
