import Derived.Orders
import Derived.KernelRfl
import Derived.Below
import Derived.WalkKit
import Derived.Laws.StructEq
set_option linter.unusedVariables false
set_option linter.unusedSimpArgs false
namespace Go.Proofs.YtokjgegkhlkopaaGreatDoor
section
theorem aa {p:Prop} (h:p:=by repeat' (first|exact True.intro|exact rfl|(refine And.intro ?_ ?_)|((conv=>whnf);omega)|((conv=>whnf);simp only[List.length_append,List.length_cons,List.length_nil];done)|((conv=>whnf);simp only[List.length_append,List.length_cons,List.length_nil];omega))):p:=h
theorem tN (n:Nat):(n:Int).toNat=n:=Int.toNat_natCast n
theorem gD {α:Type _} {l:List α} {i:Nat} {a:α}:l.getD i a=(l[i]?).getD a:=List.getD_eq_getElem?_getD
theorem gL {α:Type _} {l:List α} {i:Nat} (h:i<l.length):l[i]? =some l[i]:=List.getElem?_eq_getElem h
abbrev ag:=Nat->Option Obj
def ag.le (S S':ag):Prop:=∀b o,S b=some o->S' b=some o
def ag.inW (S:ag) (w:World):Prop:=∀b o,S b=some o->w.heap[b]? =some o
def ag.cell (S:ag) (a:Addr):Option Value:=
 match S a.block with
 |some (.cells c _ _)=>if a.spot.isSome then none else c[a.off]?
 |_=>none
theorem ag.le_refl (S:ag):S.le S:=fun _ _ h=>h
theorem ag.le_trans {S S' S'':ag} (h:S.le S') (h':S'.le S''):S.le S'':=fun b o e=>h' b o (h b o e)
theorem ag.cell_mono {S S':ag} (h:S.le S') {a:Addr} {v:Value} (hc:S.cell a=some v):S'.cell a=some v:=by
 unfold ag.cell at*
 cases hb:S a.block with
 |none=>simp[hb] at hc
 |some o=>rw[h _ _ hb];rw[hb] at hc;exact hc
theorem ag.cell_w {S:ag} {w:World} (h:S.inW w) {a:Addr} {v:Value} (hc:S.cell a=some v):w.cell? a=some v:=by
 unfold ag.cell at hc
 unfold World.cell?
 cases hb:S a.block with
 |none=>simp[hb] at hc
 |some o=>rw[h _ _ hb];rw[hb] at hc;exact hc
theorem Addr.add_mk (b o n:Nat):(⟨b,o,none⟩:Addr).add n=⟨b,o+n,none⟩:=by
 unfold Addr.add;split
 ·subst_vars;rfl
 ·rfl
theorem Addr.add_add (a:Addr) (i j:Nat):(a.add i).add j=a.add (i+j):=by
 unfold Addr.add
 by_cases hi:i=0<;>by_cases hj:j=0<;>simp[hi,hj,Nat.add_assoc]
theorem Addr.add_zero (a:Addr):a.add 0=a:=by simp[Addr.add]
def na:List Int:=[0,0,0,0,0,0,0,0,0,1,1,1,1,1,0,0,0,0,0,0,0,0,0,0,0,0,0,0,0,0,0,0,1,0,0,0,0,0,0,0,0,0,0,0,0,0,0,0,0,0,0,0,0,0,0,0,0,0,0,0,0,0,0,0,0,0,0,0,0,0,0,0,0,0,0,0,0,0,0,0,0,0,0,0,0,0,0,0,0,0,0,0,0,0,0,0,0,0,0,0,0,0,0,0,0,0,0,0,0,0,0,0,0,0,0,0,0,0,0,0,0,0,0,0,0,0,0,0,0,0,0,0,0,0,0,0,0,0,0,0,0,0,0,0,0,0,0,0,0,0,0,0,0,0,0,0,0,0,0,0,0,0,0,0,0,0,0,0,0,0,0,0,0,0,0,0,0,0,0,0,0,0,0,0,0,0,0,0,0,0,0,0,0,0,0,0,0,0,0,0,0,0,0,0,0,0,0,0,0,0,0,0,0,0,0,0,0,0,0,0,0,0,0,0,0,0,0,0,0,0,0,0,0,0,0,0,0,0,0,0,0,0,0,0,0,0,0,0,0,0,0,0,0,0,0,0]
def Jy (g:Nat):Option (IntKind×List Int):=match Nat.beq g 0 with|true=>some (.u8,na)|false=>none
def Gl (S:ag):Prop:=∀g k l,Jy g=some (k,l)->∀(j:Nat) n,l[j]? =some n->S.cell ⟨g,j,none⟩=some (.int k n)
theorem Gl.mono {S S':ag} (h:Gl S) (hle:S.le S'):Gl S':=fun g k l hg j n hn=>ag.cell_mono hle (h g k l hg j n hn)
inductive AV:Type 1
 |top
 |int (k:IntKind) (n:Int)
 |bool (b:Bool)
 |str (s:ByteArray)
 |nilsl
 |val (v:Value)
 |sl {α:Type} (d:α) (enc:α->List AV) (l:List α)
 |slc {α:Type} (d:α) (enc:α->List AV) (l:List α)
 |pd (cells:List AV)
 |fn (f:FuncId) (caps:List AV)
 |agg (cs:List AV)
 |tup (vs:List AV)
 |ptr (ℓ off:Nat)
 |row (ℓ n sz:Nat)
 |rel (ℓ i off:Nat)
 |part (ℓ lo n sz:Nat)
 |mp (ℓ:Nat)
def sR:Value->Bool
 | .agg _| .tuple _=>false
 |_=>true
def nc:AV->Bool
 | .top| .agg _| .tup _=>false
 | .val v=>sR v
 |_=>true
def allOne:List AV->Bool
 |[]=>true
 |u::us=>match nc u with|true=>allOne us|false=>false
inductive RP (S:ag):Value->AV->Prop
 |top (v:Value):RP S v .top
 |int (k:IntKind) (n:Int):RP S (.int k n) (.int k n)
 |bool (b:Bool):RP S (.bool b) (.bool b)
 |str (s:ByteArray):RP S (.string s) (.str s)
 |nilsl:RP S (.slice none 0 0) .nilsl
 |val (v:Value):RP S v (.val v)
 |sl {α:Type} (d:α) (enc:α->List AV) (l:List α) (base:Option Addr) (cap sz:Nat) (vals:Nat->Nat->Value)
   (hcap:l.length<=cap) (ho:∀a∈l,allOne (enc a)=true) (hsz:∀a∈l,(enc a).length=sz)
   (hb:∀i j,i<l.length->j<sz->∃ad,base=some ad/\S.cell (ad.add (i*sz+j))=some (vals i j))
   (hn:l≠[]->base≠none)
   (hv:∀i a j u,l[i]? =some a->(enc a)[j]? =some u->RP S (vals i j) u):RP S (.slice base l.length cap) (.sl d enc l)
 |slc {α:Type} (d:α) (enc:α->List AV) (l:List α) (base:Option Addr) (h:RP S (.slice base l.length l.length) (.sl d enc l)):RP S (.slice base l.length l.length) (.slc d enc l)
 |pd (cells:List AV) (ad:Addr) (vals:Nat->Value)
   (hb:∀j,j<cells.length->S.cell (ad.add j)=some (vals j))
   (hv:∀(j:Nat) u,cells[j]? =some u->RP S (vals j) u):RP S (.pointer (some ad)) (.pd cells)
 |fn (f:FuncId) (caps:List AV) (vs:Array Value) (hs:vs.size=caps.length) (vals:Nat->Value)
   (he:∀i,i<vs.size->vs[i]? =some (vals i)) (hv:∀(j:Nat) u,caps[j]? =some u->RP S (vals j) u):RP S (.func (.func f) #[] vs) (.fn f caps)
 |agg (cs:List AV) (vs:Array Value) (hs:vs.size=cs.length) (vals:Nat->Value)
   (he:∀i,i<vs.size->vs[i]? =some (vals i)) (hv:∀(j:Nat) u,cs[j]? =some u->RP S (vals j) u):RP S (.agg vs) (.agg cs)
 |tup (cs:List AV) (vs:Array Value) (hs:vs.size=cs.length) (vals:Nat->Value)
   (he:∀i,i<vs.size->vs[i]? =some (vals i)) (hv:∀(j:Nat) u,cs[j]? =some u->RP S (vals j) u):RP S (.tuple vs) (.tup cs)
theorem RP.mono {S S':ag} (h:S.le S') {v:Value} {u:AV} (hr:RP S v u):RP S' v u:=by
 induction hr with
 |top v=>exact .top v
 |int k n=>exact .int k n
 |bool b=>exact .bool b
 |str s=>exact .str s
 |nilsl=>exact .nilsl
 |val v=>exact .val v
 |sl d enc l base cap sz vals hcap ho hsz hb hn _ ih=>
  exact .sl d enc l base cap sz vals hcap ho hsz (fun i j hi hj=>let ⟨ad,e,hc⟩:=hb i j hi hj;⟨ad,e,ag.cell_mono h hc⟩) hn ih
 |slc d enc l base _ ih=>exact .slc d enc l base ih
 |pd cells ad vals hb _ ih=>exact .pd cells ad vals (fun j hj=>ag.cell_mono h (hb j hj)) ih
 |fn f caps vs hs vals he _ ih=>exact .fn f caps vs hs vals he ih
 |agg cs vs hs vals he _ ih=>exact .agg cs vs hs vals he ih
 |tup cs vs hs vals he _ ih=>exact .tup cs vs hs vals he ih
structure dU where
 blk:Nat
 len:Nat
 cap:Nat
 sz:Nat
 nil:Bool
def dU.hdr (b:dU):Value:= .slice (if b.nil then none else some ⟨b.blk,0,none⟩) b.len b.cap
abbrev aw:=Nat->Option dU
def aw.le (ρ ρ':aw):Prop:=∀ℓ b,ρ ℓ=some b->ρ' ℓ=some b
theorem aw.le_refl (ρ:aw):aw.le ρ ρ:=fun _ _ h=>h
theorem aw.le_trans {ρ ρ' ρ'':aw} (h:aw.le ρ ρ') (h':aw.le ρ' ρ''):aw.le ρ ρ'':=fun b o e=>h' b o (h b o e)
inductive RV (S:ag) (ρ:aw):Value->AV->Prop
 |p {v:Value} {u:AV} (h:RP S v u):RV S ρ v u
 |ptr (ℓ off:Nat) (b:dU) (h:ρ ℓ=some b):RV S ρ (.pointer (some ⟨b.blk,off,none⟩)) (.ptr ℓ off)
 |row (ℓ n sz:Nat) (b:dU) (h:ρ ℓ=some b) (hn:b.len=n) (hs:b.sz=sz) (hz:b.nil=true->b.len=0):RV S ρ b.hdr (.row ℓ n sz)
 |rel (ℓ i off:Nat) (b:dU) (h:ρ ℓ=some b) (hi:i<b.len):RV S ρ (.pointer (some ⟨b.blk,i*b.sz+off,none⟩)) (.rel ℓ i off)
 |part (ℓ lo n sz:Nat) (b:dU) (a:Option Addr) (c:Nat) (h:ρ ℓ=some b) (hs:b.sz=sz) (hn:lo+n<=b.len) (ha:0<n->b.nil=false/\a=some ⟨b.blk,lo*b.sz,none⟩) (hc:0<n->lo+c=b.cap):RV S ρ (.slice a n c) (.part ℓ lo n sz)
 |mp (ℓ:Nat) (b:dU) (h:ρ ℓ=some b):RV S ρ (.map (some b.blk)) (.mp ℓ)
 |fn (f:FuncId) (caps:List AV) (vs:Array Value) (hs:vs.size=caps.length) (vals:Nat->Value)
   (he:∀i,i<vs.size->vs[i]? =some (vals i)) (hv:∀(j:Nat) u,caps[j]? =some u->RV S ρ (vals j) u):RV S ρ (.func (.func f) #[] vs) (.fn f caps)
 |agg (cs:List AV) (vs:Array Value) (hs:vs.size=cs.length) (vals:Nat->Value)
   (he:∀i,i<vs.size->vs[i]? =some (vals i)) (hv:∀(j:Nat) u,cs[j]? =some u->RV S ρ (vals j) u):RV S ρ (.agg vs) (.agg cs)
 |tup (cs:List AV) (vs:Array Value) (hs:vs.size=cs.length) (vals:Nat->Value)
   (he:∀i,i<vs.size->vs[i]? =some (vals i)) (hv:∀(j:Nat) u,cs[j]? =some u->RV S ρ (vals j) u):RV S ρ (.tuple vs) (.tup cs)
theorem RV.mono {S S':ag} {ρ ρ':aw} (h:S.le S') (hρ:aw.le ρ ρ') {v:Value} {u:AV} (hr:RV S ρ v u):RV S' ρ' v u:=by
 induction hr with
 |p hp=>exact .p (hp.mono h)
 |ptr ℓ off b hb=>exact .ptr ℓ off b (hρ _ _ hb)
 |row ℓ n sz b hb hn hs hz=>exact .row ℓ n sz b (hρ _ _ hb) hn hs hz
 |rel ℓ i off b hb hi=>exact .rel ℓ i off b (hρ _ _ hb) hi
 |part ℓ lo n sz b a c hb hs hn ha hc=>exact .part ℓ lo n sz b a c (hρ _ _ hb) hs hn ha hc
 |mp ℓ b hb=>exact .mp ℓ b (hρ _ _ hb)
 |fn f caps vs hs vals he _ ih=>exact .fn f caps vs hs vals he ih
 |agg cs vs hs vals he _ ih=>exact .agg cs vs hs vals he ih
 |tup cs vs hs vals he _ ih=>exact .tup cs vs hs vals he ih
def be (S:ag) (ρ:aw) (vs:List Value) (us:List AV):Prop:=vs.length=us.length/\∀(i:Nat) u,us[i]? =some u->∃v,vs[i]? =some v/\RV S ρ v u
def iY (S:ag) (vs:List Value) (us:List AV):Prop:=vs.length=us.length/\∀(i:Nat) u,us[i]? =some u->∃v,vs[i]? =some v/\RP S v u
theorem be.mono {S S':ag} {ρ ρ':aw} (h:S.le S') (hρ:aw.le ρ ρ') {vs:List Value} {us:List AV} (hr:be S ρ vs us):be S' ρ' vs us:=
 ⟨hr.1,fun i u hu=>let ⟨v,e,hv⟩:=hr.2 i u hu;⟨v,e,hv.mono h hρ⟩⟩
theorem iY.mono {S S':ag} (h:S.le S') {vs:List Value} {us:List AV} (hr:iY S vs us):iY S' vs us:=
 ⟨hr.1,fun i u hu=>let ⟨v,e,hv⟩:=hr.2 i u hu;⟨v,e,hv.mono h⟩⟩
theorem iY.rv {S:ag} (ρ:aw) {vs:List Value} {us:List AV} (hr:iY S vs us):be S ρ vs us:=
 ⟨hr.1,fun i u hu=>let ⟨v,e,hv⟩:=hr.2 i u hu;⟨v,e, .p hv⟩⟩
theorem be.nil (S:ag) (ρ:aw):be S ρ [] []:=⟨rfl,fun i u hu=>by simp at hu⟩
theorem iY.nil (S:ag):iY S [] []:=⟨rfl,fun i u hu=>by simp at hu⟩
theorem be.cons {S:ag} {ρ:aw} {v:Value} {u:AV} {vs:List Value} {us:List AV} (h:RV S ρ v u) (hr:be S ρ vs us):be S ρ (v::vs) (u::us):=by
 refine⟨by simp[hr.1],fun i x hx=>?_⟩
 cases i with
 |zero=>simp at hx;subst hx;exact⟨v,by simp,h⟩
 |succ i=>simp at hx;obtain⟨y,hy,hh⟩:=hr.2 i x hx;exact⟨y,by simpa using hy,hh⟩
theorem iY.cons {S:ag} {v:Value} {u:AV} {vs:List Value} {us:List AV} (h:RP S v u) (hr:iY S vs us):iY S (v::vs) (u::us):=by
 refine⟨by simp[hr.1],fun i x hx=>?_⟩
 cases i with
 |zero=>simp at hx;subst hx;exact⟨v,by simp,h⟩
 |succ i=>simp at hx;obtain⟨y,hy,hh⟩:=hr.2 i x hx;exact⟨y,by simpa using hy,hh⟩
theorem be.cons_inv {S:ag} {ρ:aw} {vs:List Value} {u:AV} {us:List AV} (h:be S ρ vs (u::us)):∃v vs',vs=v::vs'/\RV S ρ v u/\be S ρ vs' us:=by
 cases vs with
 |nil=>simp[be] at h
 |cons v vs=>
  refine⟨v,vs,rfl,?_,by simpa using h.1,fun i x hx=>?_⟩
  ·obtain⟨y,hy,hh⟩:=h.2 0 u (by simp);simp at hy;subst hy;exact hh
  ·obtain⟨y,hy,hh⟩:=h.2 (i+1) x (by simpa using hx);exact⟨y,by simpa using hy,hh⟩
theorem iY.cons_inv {S:ag} {vs:List Value} {u:AV} {us:List AV} (h:iY S vs (u::us)):∃v vs',vs=v::vs'/\RP S v u/\iY S vs' us:=by
 cases vs with
 |nil=>simp[iY] at h
 |cons v vs=>
  refine⟨v,vs,rfl,?_,by simpa using h.1,fun i x hx=>?_⟩
  ·obtain⟨y,hy,hh⟩:=h.2 0 u (by simp);simp at hy;subst hy;exact hh
  ·obtain⟨y,hy,hh⟩:=h.2 (i+1) x (by simpa using hx);exact⟨y,by simpa using hy,hh⟩
theorem be.nil_inv {S:ag} {ρ:aw} {vs:List Value} (h:be S ρ vs []):vs=[]:=by
 have:=h.1;simpa using this
def bj (vs:List Value):List AV:=vs.map .val
inductive aX:Type 1
 |box (t:TypeId) (cells:List AV)
 |row (t:TypeId) {α:Type} (d:α) (enc:α->List AV) (l:List α)
 |gone {α:Type} (d:α) (enc:α->List AV) (l:List α)
 |iter (s:ByteArray) (pos:Nat)
 |map {κ β:Type} (ek:κ->Value) (ev:β->Value) (f:κ->Option β)
 |obj (o:Obj)
 |hdr (t:TypeId) (g:Nat->List AV) (m:Nat)
 |dead
abbrev ai:=Nat->Option aX
def ai.set (M:ai) (ℓ:Nat) (B:aX):ai:=fun x=>match Nat.beq x ℓ with|true=>some B|false=>M x
def ai.none:ai:=fun _=>Option.none
theorem ai.set_eq (M:ai) (ℓ:Nat) (B:aX):M.set ℓ B ℓ=some B:=by simp[ai.set]
theorem ai.set_ne (M:ai) {ℓ x:Nat} (B:aX) (h:x≠ℓ):M.set ℓ B x=M x:=by
 have:Nat.beq x ℓ=false:=by rw[Bool.eq_false_iff];intro hh;exact h (Nat.eq_of_beq_eq_true hh)
 simp[ai.set,this]
theorem ai.set_comm (M:ai) {ℓ ℓ':Nat} (B B':aX) (h:ℓ≠ℓ'):(M.set ℓ B).set ℓ' B'=(M.set ℓ' B').set ℓ B:=by
 funext x
 by_cases h1:x=ℓ
 ·subst h1;rw[ai.set_ne _ _ h,ai.set_eq,ai.set_eq]
 ·by_cases h2:x=ℓ'
  ·subst h2;rw[ai.set_eq,ai.set_ne _ _ h1,ai.set_eq]
  ·rw[ai.set_ne _ _ h2,ai.set_ne _ _ h1,ai.set_ne _ _ h1,ai.set_ne _ _ h2]
def aX.live:aX->dU->Prop
 | .box _ _,_=>True
 | .row _ _ _ _,b=>b.nil=false
 | .iter _ _,_=>True
 | .map _ _ _,_=>True
 | .obj _,_=>True
 | .hdr _ _ _,b=>b.nil=false
 |_,_=>False
def Dp {κ β:Type} (ek:κ->Value) (ev:β->Value) (f:κ->Option β) (es:Array MapEntry):Prop:=
 (es.toList.map (·.key)).Nodup/\(∀e∈es.toList,∃k b,e.key=ek k/\f k=some b/\e.val=ev b)/\∀k b,f k=some b->∃e∈es.toList,e.key=ek k
def da (S F:ag) (ρ:aw) (w:World) (b:dU):aX->Prop
 | .box t cells=>∃vs:Array Value,w.heap[b.blk]? =some (.cells vs t (0,0))/\be S ρ vs.toList cells/\S b.blk=none/\F b.blk=none
 | .row t _ enc l=>b.len=l.length/\(∀a∈l,(enc a).length=b.sz/\allOne (enc a)=true)/\((b.nil=true/\l=[]/\b.cap=0)\/(b.nil=false/\l.length<=b.cap/\
   ∃vs:Array Value,w.heap[b.blk]? =some (.cells vs t (0,0))/\vs.size=b.cap*b.sz/\
    (∀i a j u,l[i]? =some a->(enc a)[j]? =some u->∃v,vs[i*b.sz+j]? =some v/\RP S v u)/\S b.blk=none/\F b.blk=none))
 | .gone d enc l=>b.len=l.length/\RP S b.hdr (.sl d enc l)
 | .iter s pos=>w.heap[b.blk]? =some (.stringIter s pos)/\S b.blk=none/\F b.blk=none
 | .map ek ev f=>∃es clock,w.heap[b.blk]? =some (.map es clock)/\Dp ek ev f es/\S b.blk=none/\F b.blk=none
 | .obj o=>w.heap[b.blk]? =some o/\S b.blk=none/\F b.blk=none
 | .hdr t g m=>∃l:List (List Value),l.length=m/\(∀i,i<m->be S ρ (l.getD i []) (g i))/\
   (b.len=l.length/\(∀a∈l,(bj a).length=b.sz/\allOne (bj a)=true)/\((b.nil=true/\l=[]/\b.cap=0)\/(b.nil=false/\l.length<=b.cap/\
   ∃vs:Array Value,w.heap[b.blk]? =some (.cells vs t (0,0))/\vs.size=b.cap*b.sz/\
    (∀i a j u,l[i]? =some a->(bj a)[j]? =some u->∃v,vs[i*b.sz+j]? =some v/\RP S v u)/\S b.blk=none/\F b.blk=none)))
 | .dead=>True
structure ax (S F:ag) (ρ:aw) (M:ai) (w:World):Prop where
 sw:S.inW w
 fw:F.inW w
 sf:∀b,S b=none\/F b=none
 dom:∀ℓ b,ρ ℓ=some b->M ℓ≠none
 blk:∀ℓ B,M ℓ=some B->∃b,ρ ℓ=some b/\da S F ρ w b B
 inj:∀ℓ ℓ' B B' b b',M ℓ=some B->M ℓ'=some B'->ρ ℓ=some b->ρ ℓ'=some b'->B.live b->B'.live b'->ℓ≠ℓ'->b.blk≠b'.blk
 gl:Gl S
structure ce (w w':World):Prop where
 os:w'.os=w.os
 output:w'.output=w.output
 tape:w'.tape=w.tape
 dr:w.drawn<=w'.drawn
 size:w.heap.size<=w'.heap.size
 fz:∀a:Addr,a.block<w.heap.size->w'.frozen? a=w.frozen? a
theorem ce.refl (w:World):ce w w:=⟨rfl,rfl,rfl,Nat.le_refl _,Nat.le_refl _,fun _ _=>rfl⟩
theorem ce.trans {a b c:World} (h:ce a b) (k:ce b c):ce a c:=
 ⟨k.os.trans h.os,k.output.trans h.output,k.tape.trans h.tape,Nat.le_trans h.dr k.dr,Nat.le_trans h.size k.size,fun x hx=>(k.fz x (Nat.lt_of_lt_of_le hx h.size)).trans (h.fz x hx)⟩
theorem ce.drawn (w:World) (n:Nat) (h:w.drawn<=n):ce w {w with drawn:=n}:=⟨rfl,rfl,rfl,h,Nat.le_refl _,fun _ _=>rfl⟩
def ei (S:ag) (ρ:aw) (a:Act) (fr:List AV):Prop:=be S ρ a.tmps.toList fr/\a.defers=[]
inductive TK
 |int (k:IntKind)|bool|string|slice (e:TypeId)|struct (fs:List (Nat×TypeId)) (eq:Bool)|array (n:Nat) (e:TypeId)|ptr (e:TypeId)|func|map (k e:TypeId)|other
structure TI where
 size:Nat
 bytes:Nat
 kind:TK
 zero:List Value
abbrev TT:=List (Nat×TI)
def TT.find:TT->Nat->Option TI
 |[],_=>none
 |(u,i)::r,t=>match Nat.beq u t with|true=>some i|false=>TT.find r t
def TK.isAgg:TK->Bool
 | .struct _ _| .array _ _=>true
 |_=>false
def Dq:Value->Value->Bool
 | .bool a, .bool b=>a==b
 | .int k n, .int k' n'=>decide (k=k')&&decide (n=n')
 | .string a, .string b=>a.data.toList==b.data.toList
 | .pointer none, .pointer none=>true
 | .slice none 0 0, .slice none 0 0=>true
 | .map none, .map none=>true
 | .nilFunc, .nilFunc=>true
 | .nilIface, .nilIface=>true
 |_,_=>false
theorem Dr {a b:Value} (h:Dq a b=true):a=b:=by
 unfold Dq at h
 split at h<;>simp_all
 rename_i s t
 cases s with|mk a=>cases t with|mk b=>simp_all
def oD:List Value->List Value->Bool
 |[],[]=>true
 |a::r,b::s=>Dq a b&&oD r s
 |_,_=>false
theorem tp:∀{a b:List Value},oD a b=true->a=b
 |[],[],_=>rfl
 |a::r,b::s,h=>by
  simp only[oD,Bool.and_eq_true] at h
  rw[Dr h.1,tp h.2]
 |[],_::_,h=>by simp[oD] at h
 |_::_,[],h=>by simp[oD] at h
def iA (P:Program):Option TypeDesc->TK->Bool
 |some (.int k), .int k'=>decide (k=k')
 |some .bool, .bool=>true
 |some .string, .string=>true
 |some (.slice e), .slice e'=>decide (e=e')
 |some (.struct fs), .struct gs _=>decide (fs.toList.map (fun f=>(f.offset,f.type))=gs)&&fs.toList.all fun f=>!(decide (P.cellsOf f.type=0))&&(P.info? f.type).isSome
 |some (.array n e), .array n' e'=>decide (n=n')&&decide (e=e')
 |some (.pointer e), .ptr e'=>decide (e=e')
 |some (.func _ _ _), .func=>true
 |some (.map k e), .map k' e'=>decide (k=k')&&decide (e=e')
 |some (.interface _), .other=>true
 |some (.tuple _), .other=>true
 |_,_=>false
def GI:Value->Bool
 | .agg _=>true
 |_=>false
def wj (P:Program) (g:TypeId->Option Nat):List Field->Nat->Option Nat
 |[],off=>some off
 |f::fs,off=>match decide (f.name≠ "_"),decide (f.offset=off),g f.type with
  |true,true,some k=>match decide (k=P.cellsOf f.type) with
   |true=>wj P g fs (off+k)
   |false=>none
  |_,_,_=>none
def yL (P:Program):Nat->TypeId->Option Nat
 |0,_=>none
 |n+1,t=>match P.underlying t with
  |some (.int .i64)=>some 1
  |some (.struct fs)=>match P.stoodInHeld t with
   |true=>none
   |false=>match wj P (yL P n) fs.toList 0 with
    |some k=>match decide (k=P.cellsOf t) with
     |true=>some k
     |false=>none
    |none=>none
  |_=>none
def Nz (P:Program) (t:TypeId) (i:TI):Bool:=
 match i.kind with
 | .struct _ true=>decide (yL P 9 t=some i.size)&&!(P.eqGuardType P.depth t)
 |_=>true
def qq (P:Program) (t:TypeId) (i:TI):Bool:=
 match P.info? t with
 |some x=>decide (x.size=i.size)&&decide (x.bytes=i.bytes)&&(match x.zero with|some z=>oD z.cells.toList i.zero&&(GI z==i.kind.isAgg)&&decide (i.zero.length=i.size)|none=>false)&&iA P (P.underlying t) i.kind&&Nz P t i
 |none=>false
def aW (P:Program) (tt:TT):Bool:=tt.all fun e=>qq P e.1 e.2
theorem TT.find_mem {tt:TT} {t:TypeId} {i:TI} (h:tt.find t=some i):(t,i)∈tt:=by
 induction tt with
 |nil=>simp[TT.find] at h
 |cons e r ih=>
  obtain⟨u,j⟩:=e
  simp only[TT.find] at h
  split at h
  ·rename_i hu
   have:=Nat.eq_of_beq_eq_true hu
   subst this
   injection h with h;subst h;exact List.mem_cons_self
  ·exact List.mem_cons_of_mem _ (ih h)
section
variable {P:Program} {tt:TT}
theorem TOk.entry (hT:aW P tt=true) {t:TypeId} {i:TI} (h:tt.find t=some i):qq P t i=true:=
 (List.all_eq_true.1 hT) _ (TT.find_mem h)
theorem TOk.info (hT:aW P tt=true) {t:TypeId} {i:TI} (h:tt.find t=some i):
  ∃x z,P.info? t=some x/\x.size=i.size/\x.bytes=i.bytes/\x.zero=some z/\z.cells.toList=i.zero/\GI z=i.kind.isAgg/\i.zero.length=i.size:=by
 have:=TOk.entry hT h
 unfold qq at this
 split at this
 ·rename_i x hx
  simp only[Bool.and_eq_true,decide_eq_true_eq] at this
  obtain⟨⟨⟨⟨h1,h2⟩,h3⟩,_⟩,_⟩:=this
  split at h3
  ·rename_i z hz
   simp only[Bool.and_eq_true,beq_iff_eq,decide_eq_true_eq] at h3
   exact⟨x,z,hx,h1,h2,hz,tp h3.1.1,h3.1.2,h3.2⟩
  ·simp at h3
 ·simp at this
theorem TOk.kind (hT:aW P tt=true) {t:TypeId} {i:TI} (h:tt.find t=some i):iA P (P.underlying t) i.kind=true:=by
 have:=TOk.entry hT h
 unfold qq at this
 split at this
 ·simp only[Bool.and_eq_true] at this;exact this.1.2
 ·simp at this
theorem TOk.eqb (hT:aW P tt=true) {t:TypeId} {i:TI} (h:tt.find t=some i):Nz P t i=true:=by
 have:=TOk.entry hT h
 unfold qq at this
 split at this
 ·simp only[Bool.and_eq_true] at this;exact this.2
 ·simp at this
theorem TOk.array (hT:aW P tt=true) {t e:TypeId} {n a b:Nat} {z:List Value} (h:tt.find t=some ⟨a,b, .array n e,z⟩):P.underlying t=some (.array n e):=by
 have:=TOk.kind hT h
 unfold iA at this
 split at this<;>simp_all
theorem TOk.slice (hT:aW P tt=true) {t e:TypeId} {a b:Nat} {z:List Value} (h:tt.find t=some ⟨a,b, .slice e,z⟩):P.underlying t=some (.slice e):=by
 have:=TOk.kind hT h
 unfold iA at this
 split at this<;>simp_all
theorem TOk.int (hT:aW P tt=true) {t:TypeId} {k:IntKind} {a b:Nat} {z:List Value} (h:tt.find t=some ⟨a,b, .int k,z⟩):P.underlying t=some (.int k):=by
 have:=TOk.kind hT h
 unfold iA at this
 split at this<;>simp_all
theorem TOk.ptr (hT:aW P tt=true) {t e:TypeId} {a b:Nat} {z:List Value} (h:tt.find t=some ⟨a,b, .ptr e,z⟩):P.underlying t=some (.pointer e):=by
 have:=TOk.kind hT h
 unfold iA at this
 split at this<;>simp_all
theorem TOk.bool (hT:aW P tt=true) {t:TypeId} {a b:Nat} {z:List Value} (h:tt.find t=some ⟨a,b, .bool,z⟩):P.underlying t=some .bool:=by
 have:=TOk.kind hT h
 unfold iA at this
 split at this<;>simp_all
theorem TOk.string (hT:aW P tt=true) {t:TypeId} {a b:Nat} {z:List Value} (h:tt.find t=some ⟨a,b, .string,z⟩):P.underlying t=some .string:=by
 have:=TOk.kind hT h
 unfold iA at this
 split at this<;>simp_all
theorem TOk.struct (hT:aW P tt=true) {t:TypeId} {gs:List (Nat×TypeId)} {q:Bool} {a b:Nat} {z:List Value} (h:tt.find t=some ⟨a,b, .struct gs q,z⟩):
  ∃fs,P.underlying t=some (.struct fs)/\fs.toList.map (fun f=>(f.offset,f.type))=gs/\∀f∈fs.toList,P.cellsOf f.type≠0/\∃x,P.info? f.type=some x:=by
 have:=TOk.kind hT h
 cases hu:P.underlying t with
 |none=>rw[hu] at this;simp[iA] at this
 |some d=>
  rw[hu] at this
  cases d with
  |struct fs=>
   simp only[iA,Bool.and_eq_true,decide_eq_true_eq,List.all_eq_true,Bool.not_eq_true',decide_eq_false_iff_not] at this
   exact⟨fs,rfl,this.1,fun f hf=>⟨(this.2 f hf).1,Option.isSome_iff_exists.1 (this.2 f hf).2⟩⟩
  |_=>simp[iA] at this
theorem TOk.agg (hT:aW P tt=true) {t:TypeId} {i:TI} (h:tt.find t=some i) (w:World):(isAgg t).run P w= .ok i.kind.isAgg w:=by
 have:=TOk.kind hT h
 unfold iA at this
 unfold isAgg
 split at this<;>simp_all [TK.isAgg,run_underlying]
theorem TOk.size (hT:aW P tt=true) {t:TypeId} {i:TI} (h:tt.find t=some i) (w:World):(Go.sizeOf t).run P w= .ok i.size w:=by
 obtain⟨x,z,hx,h1,_⟩:=TOk.info hT h
 simp[Go.sizeOf,typeInfo,hx,h1]
end
inductive Rs:Type 1
 |no
 |val (u:AV)
 |need (c:Prop) (u:AV)
 |arith (c:Prop) (k:IntKind) (n:Int)
 |cmp (p:Prop) (i:Decidable p)
def kn:IntKind->Nat
 | .i8=>0| .i16=>1| .i32=>2| .i64=>3| .u8=>4| .u16=>5| .u32=>6| .u64=>7
theorem Du {a b:IntKind} (h:Nat.beq (kn a) (kn b)=true):a=b:=by
 cases a<;>cases b<;>first|rfl|simp[kn] at h
def kR (op:BinOp) (k:IntKind) (x y:Int):Int:=
 match op with
 | .and=>k.wrap (BitVec.ofInt k.bits x&&& BitVec.ofInt k.bits y).toNat
 | .or=>k.wrap (BitVec.ofInt k.bits x|||BitVec.ofInt k.bits y).toNat
 | .xor=>k.wrap (BitVec.ofInt k.bits x^^^BitVec.ofInt k.bits y).toNat
 |_=>k.wrap (BitVec.ofInt k.bits x&&& ~~~ BitVec.ofInt k.bits y).toNat
def Dv (op:BinOp) (k:IntKind) (a b:Int):Rs:=
 match op with
 | .add=> .arith True k (a+b)
 | .sub=> .arith True k (a-b)
 | .mul=> .arith True k (a*b)
 | .quo=> .arith (b≠0) k (a.tdiv b)
 | .rem=> .need (b≠0) (.int k (a.tmod b))
 | .eql=> .cmp (a=b) inferInstance
 | .neq=> .cmp (a≠b) inferInstance
 | .lss=> .cmp (a<b) inferInstance
 | .leq=> .cmp (a<=b) inferInstance
 | .gtr=> .cmp (b<a) inferInstance
 | .geq=> .cmp (b<=a) inferInstance
 | .and=> .val (.int k (kR .and k a b))
 | .or=> .val (.int k (kR .or k a b))
 | .xor=> .val (.int k (kR .xor k a b))
 | .andNot=> .val (.int k (kR .andNot k a b))
 |_=> .no
def qr (neg:Bool):AV->Rs
 | .nilsl=> .val (.bool (!neg))
 | .sl _ _ l=> .need (l≠[]) (.bool neg)
 | .row _ n _=> .need (0<n) (.bool neg)
 | .val (.slice (some _) _ _)=> .val (.bool neg)
 | .val (.slice none _ _)=> .val (.bool (!neg))
 |_=> .no
def cZ (tt:TT) (t:TypeId):Bool:=
 match tt.find t with
 |some ⟨_,_, .slice _,_⟩=>true
 |_=>false
def yM (neg:Bool):AV->Rs
 | .pd _=> .val (.bool neg)
 | .ptr _ _=> .val (.bool neg)
 | .val (.pointer none)=> .val (.bool (!neg))
 |_=> .no
def z9 (tt:TT) (t:TypeId):Bool:=
 match tt.find t with
 |some ⟨_,_, .ptr _,_⟩=>true
 |_=>false
def uJ (tt:TT) (t:TypeId):Bool:=
 match tt.find t with
 |some ⟨_,_, .bool,_⟩=>true
 |_=>false
def Jz:Bool->Bool->Bool
 |true,b=>b
 |false,b=>!b
def tq:List AV->Option (List Int)
 |[]=>some []
 | .int .i64 n::r=>match tq r with
  |some l=>some (n::l)
  |none=>none
 |_=>none
def Dw (tt:TT) (op:BinOp) (t:TypeId) (xs ys:List AV):Rs:=
 match tt.find t with
 |some ⟨sz,_, .struct _ true,_⟩=>match tq xs,tq ys with
  |some as,some bs=>match Nat.beq as.length sz,Nat.beq bs.length sz with
   |true,true=>match op with
    | .eql=> .cmp (as=bs) inferInstance
    | .neq=> .cmp (as≠bs) inferInstance
    |_=> .no
   |_,_=> .no
  |_,_=> .no
 |_=> .no
def Dx (tt:TT) (op:BinOp) (t:TypeId):AV->AV->Rs
 | .int k a, .int k' b=>match op with
  | .shr=> .need (0<=b) (.int k (a.fdiv (2^min b.toNat k.bits)))
  | .shl=> .arith (0<=b) k (a*2^min b.toNat k.bits)
  |op=>match Nat.beq (kn k) (kn k') with|true=>Dv op k a b|false=> .no
 | .str a, .str b=>match op with
  | .eql=> .cmp (a=b) inferInstance
  | .neq=> .cmp (a≠b) inferInstance
  |_=> .no
 | .bool a, .bool b=>match op,uJ tt t with
  | .eql,true=> .val (.bool (Jz a b))
  | .neq,true=> .val (.bool (!Jz a b))
  |_,_=> .no
 | .agg xs, .agg ys=>Dw tt op t xs ys
 |x, .nilsl=>match op,cZ tt t with
  | .eql,true=>qr false x
  | .neq,true=>qr true x
  |_,_=> .no
 |x, .val (.pointer none)=>match op,z9 tt t with
  | .eql,true=>yM false x
  | .neq,true=>yM true x
  |_,_=> .no
 |_,_=> .no
def JA:UnOp->AV->Rs
 | .not, .bool b=> .val (.bool (!b))
 | .neg, .int k n=> .arith True k (0-n)
 | .xor, .int k n=> .val (.int k (kR .xor k (if k.signed then -1 else k.max) n))
 |_,_=> .no
def yN (tt:TT) (dst:TypeId):AV->Rs
 | .int _ n=>match tt.find dst with
  |some ⟨_,_, .int k,_⟩=> .arith True k n
  |_=> .no
 |_=> .no
def Dy (tt:TT) (t:TypeId):AV->Rs
 | .sl _ _ l=>match cZ tt t with|true=> .val (.int .i64 l.length)|false=> .no
 | .row _ n _=>match cZ tt t with|true=> .val (.int .i64 n)|false=> .no
 | .part _ _ n _=>match cZ tt t with|true=> .val (.int .i64 n)|false=> .no
 | .nilsl=>match cZ tt t with|true=> .val (.int .i64 0)|false=> .no
 | .str s=>match tt.find t with
  |some ⟨_,_, .string,_⟩=> .val (.int .i64 s.size)
  |_=> .no
 |_=> .no
def Gy:List (Nat×TypeId)->Nat->Option (Nat×TypeId)
 |[],_=>none
 |x::_,0=>some x
 |_::r,n+1=>Gy r n
theorem kZ:∀(l:List (Nat×TypeId)) (n:Nat),Gy l n=l[n]?
 |[],n=>by simp[Gy]
 |x::_,0=>by simp[Gy]
 |_::r,n+1=>by simp[Gy,kZ r n]
def k0 (tt:TT) (s:TypeId) (f:Nat) (x:AV):Rs:=
 match tt.find s with
 |some ⟨_,_, .struct fs _,_⟩=>match Gy fs f with
  |some (o,ft)=>match x with
   | .ptr ℓ off=> .val (.ptr ℓ (off+o))
   | .rel ℓ i off=> .val (.rel ℓ i (off+o))
   | .pd cells=> .val (.pd (cells.drop o))
   |_=> .no
  |none=> .no
 |_=> .no
def ga (tt:TT) (t:TypeId) (cells:List AV):Rs:=
 match tt.find t with
 |some i=>match i.kind.isAgg with
  |true=>match Nat.ble i.size cells.length with
   |true=> .val (.agg (cells.take i.size))
   |false=> .no
  |false=>match cells with
   |u::_=> .val u
   |[]=> .no
 |none=> .no
def uK (tt:TT) (s:TypeId) (f:Nat):AV->Rs
 | .agg cells=>match tt.find s with
  |some ⟨_,_, .struct fs _,_⟩=>match Gy fs f with
   |some (o,ft)=>ga tt ft (cells.drop o)
   |none=> .no
  |_=> .no
 |_=> .no
def yO (tt:TT) (t:TypeId) (n:Int):Value->Rs
 | .pointer (some ⟨g,0,none⟩)=>match tt.find t with
  |some ⟨_,_, .array len e,_⟩=>match tt.find e with
   |some i=>match Nat.beq i.size 1,Jy g with
    |true,some (k,l)=>match Nat.beq l.length len with
     |true=> .need (0<=n/\n<l.length) (.pd [.int k (l.getD n.toNat 0)])
     |false=> .no
    |_,_=> .no
   |none=> .no
  |_=> .no
 |_=> .no
def k7 (tt:TT) (t:TypeId):AV->AV->Rs
 | .val v, .int _ n=>yO tt t n v
 | .sl d enc l, .int _ n=>match tt.find t with
  |some ⟨_,_, .slice e,_⟩=>match tt.find e with
   |some i=>match Nat.beq (enc (l.getD n.toNat d)).length i.size with
    |true=> .need (0<=n/\n<l.length) (.pd (enc (l.getD n.toNat d)))
    |false=> .no
   |none=> .no
  |_=> .no
 | .row ℓ m sz, .int _ n=>match tt.find t with
  |some ⟨_,_, .slice e,_⟩=>match tt.find e with
   |some i=>match Nat.beq sz i.size with
    |true=> .need (0<=n/\n<m) (.rel ℓ n.toNat 0)
    |false=> .no
   |none=> .no
  |_=> .no
 | .part ℓ lo m sz, .int _ n=>match tt.find t with
  |some ⟨_,_, .slice e,_⟩=>match tt.find e with
   |some i=>match Nat.beq sz i.size with
    |true=> .need (0<=n/\n<m) (.rel ℓ (lo+n.toNat) 0)
    |false=> .no
   |none=> .no
  |_=> .no
 | .ptr ℓ off, .int _ n=>match tt.find t with
  |some ⟨_,_, .array len e,_⟩=>match tt.find e with
   |some i=> .need (0<=n/\n<len) (.ptr ℓ (off+n.toNat*i.size))
   |none=> .no
  |_=> .no
 |_,_=> .no
def uL (tt:TT) (t:TypeId):AV->AV->Rs
 | .str s, .int _ n=>match tt.find t with
  |some ⟨_,_, .string,_⟩=> .need (0<=n/\n<s.size) (.int .u8 (s.data.getD n.toNat 0).toNat)
  |_=> .no
 |_,_=> .no
def mI:AV->Rs
 | .ptr ℓ o=> .val (.ptr ℓ o)
 | .rel ℓ i o=> .val (.rel ℓ i o)
 | .pd c=> .val (.pd c)
 | .fn f c=> .val (.fn f c)
 |_=> .no
def oE (i:Nat):AV->Rs
 | .tup vs=>match vs[i]? with
  |some u=> .val u
  |none=> .no
 |_=> .no
def wk (s:ByteArray) (lo hi:Option AV):Rs:=
 match lo,hi with
 |none,none=> .val (.str s)
 |some (.int _ a),none=> .need (0<=a/\a<=s.size) (.str (s.extract a.toNat s.size))
 |none,some (.int _ b)=> .need (0<=b/\b<=s.size) (.str (s.extract 0 b.toNat))
 |some (.int _ a),some (.int _ b)=> .need (0<=a/\a<=b/\b<=s.size) (.str (s.extract a.toNat b.toNat))
 |_,_=> .no
def lU (tt:TT) (t:TypeId) (x:AV) (lo hi:Option AV):Rs:=
 match tt.find t with
 |some ⟨_,_, .string,_⟩=>match x with
  | .str s=>wk s lo hi
  |_=> .no
 |some ⟨_,_, .slice e,_⟩=>match tt.find e with
  |some i=>match x with
   | .sl d enc l=>match Nat.beq (enc (l.getD 0 d)).length i.size with
    |true=>match lo,hi with
     |none,none=> .val (.sl d enc l)
     |some (.int _ a),none=> .need (0<=a/\a<=l.length) (.sl d enc (l.drop a.toNat))
     |none,some (.int _ b)=> .need (0<=b/\b<=l.length) (.sl d enc (l.take b.toNat))
     |some (.int _ a),some (.int _ b)=> .need (0<=a/\a<=b/\b<=l.length) (.sl d enc ((l.take b.toNat).drop a.toNat))
     |_,_=> .no
    |false=> .no
   | .nilsl=>match lo,hi with
    |none,some (.int _ b)=> .need (b=0) .nilsl
    |_,_=> .no
   |_=> .no
  |none=> .no
 |_=> .no
def qt (tt:TT) (t:TypeId) (x hi mx:AV):Rs:=
 match tt.find t with
 |some ⟨_,_, .slice e,_⟩=>match tt.find e with
  |some i=>match x,hi,mx with
   | .sl d enc l, .int _ a, .int _ b=>match Nat.beq (enc (l.getD 0 d)).length i.size with
    |true=> .need (a=l.length/\b=l.length) (.slc d enc l)
    |false=> .no
   |_,_,_=> .no
  |none=> .no
 |_=> .no
def Dz (tt:TT) (t:TypeId):AV->Rs
 | .nilsl=>match cZ tt t with|true=> .val (.int .i64 0)|false=> .no
 |_=> .no
end
section
section inv
variable {S:ag} {ρ:aw} {v:Value}
theorem RV.int_inv {k:IntKind} {n:Int} (h:RV S ρ v (.int k n)):v= .int k n:=by cases h with|p h=>cases h;rfl
theorem RV.bool_inv {b:Bool} (h:RV S ρ v (.bool b)):v= .bool b:=by cases h with|p h=>cases h;rfl
theorem RV.str_inv {s:ByteArray} (h:RV S ρ v (.str s)):v= .string s:=by cases h with|p h=>cases h;rfl
theorem RV.nilsl_inv (h:RV S ρ v .nilsl):v= .slice none 0 0:=by cases h with|p h=>cases h;rfl
theorem RV.val_inv {u:Value} (h:RV S ρ v (.val u)):v=u:=by cases h with|p h=>cases h;rfl
theorem RV.slc_inv {α:Type} {d:α} {enc:α->List AV} {l:List α} (h:RV S ρ v (.slc d enc l)):RP S v (.slc d enc l):=by cases h with|p h=>exact h
theorem RP.slc_form {α:Type} {d:α} {enc:α->List AV} {l:List α} {v:Value} (h:RP S v (.slc d enc l)):∃base,v= .slice base l.length l.length/\RP S v (.sl d enc l):=by
 cases h with
 |slc _ _ _ base h=>exact⟨base,rfl,h⟩
theorem RV.sl_inv {α:Type} {d:α} {enc:α->List AV} {l:List α} (h:RV S ρ v (.sl d enc l)):RP S v (.sl d enc l):=by cases h with|p h=>exact h
theorem RV.pd_inv {c:List AV} (h:RV S ρ v (.pd c)):RP S v (.pd c):=by cases h with|p h=>exact h
theorem RV.ptr_inv {ℓ o:Nat} (h:RV S ρ v (.ptr ℓ o)):∃b,ρ ℓ=some b/\v= .pointer (some ⟨b.blk,o,none⟩):=by
 cases h with
 |p h=>cases h
 |ptr _ _ b hb=>exact⟨b,hb,rfl⟩
theorem RV.row_inv {ℓ n sz:Nat} (h:RV S ρ v (.row ℓ n sz)):∃b,ρ ℓ=some b/\b.len=n/\b.sz=sz/\(b.nil=true->b.len=0)/\v=b.hdr:=by
 cases h with
 |p h=>cases h
 |row _ _ _ b hb hn hs hz=>exact⟨b,hb,hn,hs,hz,rfl⟩
theorem RV.part_inv {ℓ lo n sz:Nat} (h:RV S ρ v (.part ℓ lo n sz)):∃b a c,ρ ℓ=some b/\b.sz=sz/\lo+n<=b.len/\(0<n->b.nil=false/\a=some ⟨b.blk,lo*b.sz,none⟩)/\(0<n->lo+c=b.cap)/\v= .slice a n c:=by
 cases h with
 |p h=>cases h
 |part _ _ _ _ b a c hb h1 h2 h3 h4=>exact⟨b,a,c,hb,h1,h2,h3,h4,rfl⟩
theorem RV.mp_inv {ℓ:Nat} (h:RV S ρ v (.mp ℓ)):∃b,ρ ℓ=some b/\v= .map (some b.blk):=by
 cases h with
 |p h=>cases h
 |mp _ b hb=>exact⟨b,hb,rfl⟩
theorem RV.rel_inv {ℓ i o:Nat} (h:RV S ρ v (.rel ℓ i o)):∃b,ρ ℓ=some b/\i<b.len/\v= .pointer (some ⟨b.blk,i*b.sz+o,none⟩):=by
 cases h with
 |p h=>cases h
 |rel _ _ _ b hb hn=>exact⟨b,hb,hn,rfl⟩
theorem oF {cs:List AV} {vs:Array Value} (hs:vs.size=cs.length) (vals:Nat->Value) (he:∀i,i<vs.size->vs[i]? =some (vals i)) (hv:∀(j:Nat) u,cs[j]? =some u->RV S ρ (vals j) u):be S ρ vs.toList cs:=
 ⟨by simpa using hs,fun i u hu=>⟨vals i,by
  have hi:i<vs.size:=by rw[hs];exact(List.getElem?_eq_some_iff.1 hu).1
  simpa using he i hi,hv i u hu⟩⟩
theorem RV.agg_inv {cs:List AV} (h:RV S ρ v (.agg cs)):∃vs,v= .agg vs/\be S ρ vs.toList cs:=by
 cases h with
 |p h=>cases h with|agg _ vs hs vals he hv=>exact⟨vs,rfl,oF hs vals he fun j u hu=> .p (hv j u hu)⟩
 |agg _ vs hs vals he hv=>exact⟨vs,rfl,oF hs vals he hv⟩
theorem RV.tup_inv {cs:List AV} (h:RV S ρ v (.tup cs)):∃vs,v= .tuple vs/\be S ρ vs.toList cs:=by
 cases h with
 |p h=>cases h with|tup _ vs hs vals he hv=>exact⟨vs,rfl,oF hs vals he fun j u hu=> .p (hv j u hu)⟩
 |tup _ vs hs vals he hv=>exact⟨vs,rfl,oF hs vals he hv⟩
theorem RV.fn_inv {f:FuncId} {cs:List AV} (h:RV S ρ v (.fn f cs)):∃vs,v= .func (.func f) #[] vs/\be S ρ vs.toList cs:=by
 cases h with
 |p h=>cases h with|fn _ _ vs hs vals he hv=>exact⟨vs,rfl,oF hs vals he fun j u hu=> .p (hv j u hu)⟩
 |fn _ _ vs hs vals he hv=>exact⟨vs,rfl,oF hs vals he hv⟩
theorem RV.mk_of {vs:List Value} {cs:List AV} (h:be S ρ vs cs):∃vals:Nat->Value,(∀i,i<vs.toArray.size->vs.toArray[i]? =some (vals i))/\∀(j:Nat) u,cs[j]? =some u->RV S ρ (vals j) u:=
 ⟨fun i=>vs.getD i undef,fun i hi=>by simp at hi;simp[hi],fun j u hu=>by
  obtain⟨x,hx,hr⟩:=h.2 j u hu
  simpa[hx] using hr⟩
theorem RV.agg_mk {vs:List Value} {cs:List AV} (h:be S ρ vs cs):RV S ρ (.agg vs.toArray) (.agg cs):=by
 obtain⟨vals,he,hv⟩:=RV.mk_of h
 exact .agg cs _ (by simpa using h.1) vals he hv
theorem RV.tup_mk {vs:List Value} {cs:List AV} (h:be S ρ vs cs):RV S ρ (.tuple vs.toArray) (.tup cs):=by
 obtain⟨vals,he,hv⟩:=RV.mk_of h
 exact .tup cs _ (by simpa using h.1) vals he hv
theorem RV.fn_mk {vs:List Value} {cs:List AV} (f:FuncId) (h:be S ρ vs cs):RV S ρ (.func (.func f) #[] vs.toArray) (.fn f cs):=by
 obtain⟨vals,he,hv⟩:=RV.mk_of h
 exact .fn f cs _ (by simpa using h.1) vals he hv
end inv
section lists
variable {S:ag} {ρ:aw}
theorem be.drop {vs:List Value} {us:List AV} (h:be S ρ vs us) (n:Nat):be S ρ (vs.drop n) (us.drop n):=
 ⟨by simp[h.1],fun i u hu=>by
  rw[List.getElem?_drop] at hu
  obtain⟨v,e,hv⟩:=h.2 _ u hu
  exact⟨v,by rw[List.getElem?_drop];exact e,hv⟩⟩
theorem be.take {vs:List Value} {us:List AV} (h:be S ρ vs us) (n:Nat):be S ρ (vs.take n) (us.take n):=
 ⟨by simp[h.1],fun i u hu=>by
  rw[List.getElem?_take] at hu
  split at hu
  ·rename_i hi
   obtain⟨v,e,hv⟩:=h.2 _ u hu
   exact⟨v,by rw[List.getElem?_take,if_pos hi];exact e,hv⟩
  ·simp at hu⟩
theorem be.append {vs vs':List Value} {us us':List AV} (h:be S ρ vs us) (h':be S ρ vs' us'):be S ρ (vs++vs') (us++us'):=
 ⟨by simp[h.1,h'.1],fun i u hu=>by
  by_cases hi:i<us.length
  ·rw[List.getElem?_append_left hi] at hu
   obtain⟨v,e,hv⟩:=h.2 _ u hu
   exact⟨v,by rw[List.getElem?_append_left (by rw[h.1];exact hi)];exact e,hv⟩
  ·rw[List.getElem?_append_right (by omega)] at hu
   obtain⟨v,e,hv⟩:=h'.2 _ u hu
   exact⟨v,by rw[List.getElem?_append_right (by rw[h.1];omega),h.1];exact e,hv⟩⟩
end lists
def bh:Op->List Operand
 | .range _ x| .next x _| .move x| .assign x| .box _ x| .load _ x| .nilCheck x| .unOp _ _ x| .convert _ _ x| .fieldAddr _ x _| .field _ x _| .extract x _=>[x]
 | .pick c a b=>[c,a,b]
 | .binOp _ _ x y _| .store _ x y| .makeSlice _ x y| .indexAddr _ x y| .index _ x y=>[x,y]
 | .build _ ps| .buildSlice _ _ ps=>ps.toList.map (·.2)
 | .makeFunc _ _ cs=>cs.toList
 | .slice _ x lo hi mx=>x::(lo.toList++(hi.toList++mx.toList))
 | .makeMap _ r=>r.toList
 | .lookup _ x i _=>[x,i]
 | .mapUpdate _ m k x=>[m,k,x]
 | .call c=>match c.callee with
  | .value f=>f::c.args.toList
  |_=>c.args.toList
 |_=>[]
def bP:AV->Option (List AV)
 | .agg cs=>some cs
 | .top| .tup _=>none
 | .val v=>match sR v with|true=>some [.val v]|false=>none
 |u=>some [u]
def fp (cells:List AV) (o:Nat) (cs:List AV):List AV:=cells.take o++(cs++cells.drop (o+cs.length))
def pn (tt:TT) (fs:List (Nat×TypeId)):List Nat->List AV->List AV->Option (List AV)
 |[],[],cells=>some cells
 |i::is,u::us,cells=>match Gy fs i with
  |some (o,ft)=>match bP u,tt.find ft with
   |some cs,some x=>match Nat.beq cs.length x.size,Nat.ble (o+cs.length) cells.length with
    |true,true=>pn tt fs is us (fp cells o cs)
    |_,_=>none
   |_,_=>none
  |none=>none
 |_,_,_=>none
def db:Value->AV
 | .int k n=> .int k n
 | .bool b=> .bool b
 | .string s=> .str s
 | .slice none 0 0=> .nilsl
 |v=> .val v
def yP (e:TypeId) (sz:Nat):Nat->Nat->List (Nat×TypeId)
 |0,_=>[]
 |n+1,o=>(o*sz,e)::yP e sz n (o+1)
def uM (tt:TT) (t:TypeId) (is:List Nat) (us:List AV):Rs:=
 match tt.find t with
 |some ⟨_,_, .struct fs _,z⟩=>match pn tt fs is us (z.map db) with
  |some cs=> .val (.agg cs)
  |none=> .no
 |some ⟨_,_, .array n e,z⟩=>match tt.find e with
  |some x=>match pn tt (yP e x.size n 0) is us (z.map db) with
   |some cs=> .val (.agg cs)
   |none=> .no
  |none=> .no
 |_=> .no
def po (tt:TT) (op:Op) (us:List AV):Rs:=
 match op with
 | .move _=>match us with|[u]=> .val u|_=> .no
 | .assign _=>match us with|[u]=> .val u|_=> .no
 | .pick _ _ _=>match us with|[.bool true,a,_]=> .val a|[.bool false,_,b]=> .val b|_=> .no
 | .binOp o t _ _ _=>match us with|[x,y]=>Dx tt o t x y|_=> .no
 | .unOp o _ _=>match us with|[x]=>JA o x|_=> .no
 | .convert s d _=>match us,tt.find s with|[x],some _=>yN tt d x|_,_=> .no
 | .fieldAddr s _ f=>match us with|[x]=>k0 tt s f x|_=> .no
 | .field s _ f=>match us with|[x]=>uK tt s f x|_=> .no
 | .indexAddr t _ _=>match us with|[x,i]=>k7 tt t x i|_=> .no
 | .index t _ _=>match us with|[x,i]=>uL tt t x i|_=> .no
 | .nilCheck _=>match us with|[x]=>mI x|_=> .no
 | .extract _ i=>match us with|[x]=>oE i x|_=> .no
 | .slice t _ lo hi mx=>match mx with
  |some _=>match lo,hi,us with
   |none,some _,[x,a,b]=>qt tt t x a b
   |_,_,_=> .no
  |none=>match lo,hi,us with
   |none,none,[x]=>lU tt t x none none
   |some _,none,[x,a]=>lU tt t x (some a) none
   |none,some _,[x,b]=>lU tt t x none (some b)
   |some _,some _,[x,a,b]=>lU tt t x (some a) (some b)
   |_,_,_=> .no
 | .build t ps=>uM tt t (ps.toList.map (·.1)) us
 | .makeFunc (.func f) fst _=>match fst.toList with|[]=> .val (.fn f us)|_=> .no
 | .call c=>match c.callee with
  | .builtin .len=>match c.argTypes.toList,us with|[t],[x]=>Dy tt t x|_,_=> .no
  | .builtin .cap=>match c.argTypes.toList,us with|[t],[x]=>Dz tt t x|_,_=> .no
  | .builtin .max=>match us with|[.int k a, .int _ b]=> .val (.int k (if b>a then b else a))|_=> .no
  | .builtin .min=>match us with|[.int k a, .int _ b]=> .val (.int k (if b<a then b else a))|_=> .no
  |_=> .no
 |_=> .no
def gb (tt:TT) (t:TypeId) (M:ai):AV->Rs
 | .pd cells=>ga tt t cells
 | .ptr ℓ o=>match M ℓ with
  |some (.box _ cells)=>ga tt t (cells.drop o)
  |_=> .no
 | .rel ℓ i o=>match M ℓ with
  |some (.row _ d enc l)=>ga tt t ((enc (l.getD i d)).drop o)
  |some (.hdr _ g _)=>ga tt t ((g i).drop o)
  |_=> .no
 |_=> .no
def pR (tt:TT) (op:Op) (us:List AV) (M:ai):Rs:=
 match op with
 | .load t _=>match us with|[x]=>gb tt t M x|_=> .no
 |op=>po tt op us
def yQ (S:ag) (ρ:aw) (P:Program) (w:World) (m:Sem Next):Rs->Prop
 | .no=>True
 | .val u=>∃v,m.run P w= .ok (.value v) w/\RV S ρ v u
 | .need c u=>c->∃v,m.run P w= .ok (.value v) w/\RV S ρ v u
 | .arith c k n=>c->m.run P w= .ok (.value (.int k (k.wrap n))) w
 | .cmp p i=>m.run P w= .ok (.value (.bool (@decide p i))) w
end
section
section
variable {S:ag} {ρ:aw} {P:Program} {tt:TT} {w:World}
def dg (S:ag) (ρ:aw) (P:Program) (w:World) (m:Sem Value):Rs->Prop
 | .no=>True
 | .val u=>∃v,m.run P w= .ok v w/\RV S ρ v u
 | .need c u=>c->∃v,m.run P w= .ok v w/\RV S ρ v u
 | .arith c k n=>c->m.run P w= .ok (.int k (k.wrap n)) w
 | .cmp p i=>m.run P w= .ok (.bool (@decide p i)) w
theorem dg.next {m:Sem Value} {r:Rs} (h:dg S ρ P w m r):yQ S ρ P w (do pure (.value (<-m))) r:=by
 cases r with
 |no=>trivial
 |val u=>obtain⟨v,e,hv⟩:=h;exact⟨v,by simp[e],hv⟩
 |need c u=>intro hc;obtain⟨v,e,hv⟩:=h hc;exact⟨v,by simp[e],hv⟩
 |arith c k n=>intro hc;simp[h hc]
 |cmp p i=>simp only[yQ,dg] at*;simp[h]
theorem DA (op:BinOp) (t:TypeId) (k:IntKind) (a b:Int):dg S ρ P w (binOp op t (.int k a) (.int k b)) (Dv op k a b):=by
 cases op<;>simp only[Dv,dg]
 case add=>intro _;simp[binOp,Op.intArith]
 case sub=>intro _;simp[binOp,Op.intArith]
 case mul=>intro _;simp[binOp,Op.intArith]
 case quo=>intro h;simp[binOp,Op.intDiv,h]
 case rem=>intro h;exact⟨.int k (a.tmod b),by simp[binOp,Op.intDiv,h], .p (.int _ _)⟩
 case eql=>simp only[binOp,Op.intCmp];simp;by_cases h:a=b<;>simp[h]
 case neq=>simp only[binOp,Op.intCmp];simp;by_cases h:a=b<;>simp[h]
 case lss=>simp[binOp,Op.intCmp]
 case leq=>simp[binOp,Op.intCmp]
 case gtr=>simp[binOp,Op.intCmp]
 case geq=>simp[binOp,Op.intCmp]
 case and=>exact⟨.int k (kR .and k a b),by simp[binOp,Op.intBits,kR], .p (.int _ _)⟩
 case or=>exact⟨.int k (kR .or k a b),by simp[binOp,Op.intBits,kR], .p (.int _ _)⟩
 case xor=>exact⟨.int k (kR .xor k a b),by simp[binOp,Op.intBits,kR], .p (.int _ _)⟩
 case andNot=>exact⟨.int k (kR .andNot k a b),by simp[binOp,Op.intBits,kR], .p (.int _ _)⟩
theorem cL (hT:aW P tt=true) {t:TypeId} (h:cZ tt t=true):∃e,P.underlying t=some (.slice e):=by
 unfold cZ at h
 split at h
 ·rename_i e _ hf;exact⟨_,TOk.slice hT hf⟩
 ·simp at h
theorem wl (a b:ByteArray):(a.toList==b.toList)=decide (a=b):=by
 rw[ByteArray.toList_eq,ByteArray.toList_eq]
 by_cases h:a=b
 ·subst h;simp
 ·have:¬(a.data.toList=b.data.toList):=fun e=>h (by cases a;cases b;congr 1;exact Array.ext' e)
  rw[decide_eq_false h];simpa using this
theorem wm {t e:TypeId} (he:P.underlying t=some (.slice e)) (d:Nat) (base:Option Addr) (n c:Nat):(Op.equalIn (d+1) t (.slice base n c) (.slice none 0 0)).run P w= .ok base.isNone w:=by
 cases base<;>simp[Op.equalIn,run_underlying he]
theorem tu (hT:aW P tt=true) {t:TypeId} (ht:cZ tt t=true) {x:AV} {v:Value} (hv:RV S ρ v x) (neg:Bool):
  dg S ρ P w (binOp (if neg then .neq else .eql) t v (.slice none 0 0)) (qr neg x):=by
 obtain⟨e,he⟩:=cL hT ht
 have key:∀base n c,(Op.equal t (.slice base n c) (.slice none 0 0)).run P w= .ok base.isNone w:=by
  intro base n c
  exact wm he 9999 base n c
 have key2:∀base n c,(binOp (if neg then .neq else .eql) t (.slice base n c) (.slice none 0 0)).run P w= .ok (.bool (if neg then !base.isNone else base.isNone)) w:=by
  intro base n c
  cases neg<;>simp[binOp,key]
 cases x with
 |nilsl=>
  rw[hv.nilsl_inv]
  exact⟨_,key2 _ _ _,by cases neg<;>exact .p (.bool _)⟩
 |sl d enc l=>
  intro hl
  cases hv.sl_inv with
  |sl _ _ _ base cap sz vals hcap ho hsz hb hn hv=>
   refine⟨_,key2 _ _ _,?_⟩
   cases base with
   |none=>exact absurd rfl (hn hl)
   |some a=>cases neg<;>exact .p (.bool _)
 |row ℓ n sz=>
  intro hl
  obtain⟨b,hb,hn,hs,hz,rfl⟩:=hv.row_inv
  refine⟨_,key2 _ _ _,?_⟩
  have:b.nil=false:=by
   cases h:b.nil
   ·rfl
   ·have:=hz h;omega
  rw[this]
  cases neg<;>exact .p (.bool _)
 |val x=>
  cases x with
  |slice base n c=>
   cases base with
   |none=>
    rw[hv.val_inv]
    exact⟨_,key2 _ _ _,by cases neg<;>exact .p (.bool _)⟩
   |some ad=>
    rw[hv.val_inv]
    exact⟨_,key2 _ _ _,by cases neg<;>exact .p (.bool _)⟩
  |_=>trivial
 |_=>trivial
theorem DB (hT:aW P tt=true) {t:TypeId} (h:z9 tt t=true):∃e,P.underlying t=some (.pointer e):=by
 unfold z9 at h
 split at h
 ·rename_i e _ hf;exact⟨_,TOk.ptr hT hf⟩
 ·simp at h
theorem qu (hT:aW P tt=true) {t:TypeId} (ht:z9 tt t=true) {x:AV} {v:Value} (hv:RV S ρ v x) (neg:Bool):
  dg S ρ P w (binOp (if neg then .neq else .eql) t v (.pointer none)) (yM neg x):=by
 obtain⟨e,he⟩:=DB hT ht
 have key:∀b:Option Addr,(Op.equal t (.pointer b) (.pointer none)).run P w= .ok b.isNone w:=by
  intro b
  have:∀d,(Op.equalIn (d+1) t (.pointer b) (.pointer none)).run P w= .ok b.isNone w:=fun d=>by
   cases b<;>simp[Op.equalIn,run_underlying he]
  exact this 9999
 have key2:∀b:Option Addr,(binOp (if neg then .neq else .eql) t (.pointer b) (.pointer none)).run P w= .ok (.bool (if neg then !b.isNone else b.isNone)) w:=by
  intro b
  cases neg<;>simp[binOp,key]
 cases x with
 |pd c=>
  cases hv.pd_inv with
  |pd _ ad vals hb hv=>exact⟨_,key2 _,by cases neg<;>exact .p (.bool _)⟩
 |ptr ℓ o=>
  obtain⟨b,hb,rfl⟩:=hv.ptr_inv
  exact⟨_,key2 _,by cases neg<;>exact .p (.bool _)⟩
 |val z=>
  cases z with
  |pointer o=>
   cases o with
   |none=>
    rw[hv.val_inv]
    exact⟨_,key2 _,by cases neg<;>exact .p (.bool _)⟩
   |some ad=>trivial
  |_=>trivial
 |_=>trivial
theorem BC (hT:aW P tt=true) {t:TypeId} (h:uJ tt t=true):P.underlying t=some .bool:=by
 unfold uJ at h
 split at h
 ·rename_i hf;exact TOk.bool hT hf
 ·simp at h
theorem uN {t:TypeId} (he:P.underlying t=some .bool) (d:Nat) (a b:Bool):(Op.equalIn (d+1) t (.bool a) (.bool b)).run P w= .ok (Jz a b) w:=by
 cases a<;>cases b<;>simp[Op.equalIn,run_underlying he,Jz]
theorem qv (hT:aW P tt=true) {t:TypeId} (h:uJ tt t=true) (a b:Bool):(Op.equal t (.bool a) (.bool b)).run P w= .ok (Jz a b) w:=
 uN (BC hT h) 9999 a b
theorem wo {α:Type _} [DecidableEq α] (k:Nat) (as bs:List α):decide (as=bs)=(decide (as.take k=bs.take k)&&decide (as.drop k=bs.drop k)):=by
 rw[Bool.eq_iff_iff]
 simp only[decide_eq_true_eq,Bool.and_eq_true]
 exact⟨fun h=>by rw[h];exact⟨rfl,rfl⟩,fun⟨h1,h2⟩=>by rw[<-List.take_append_drop k as,h1,h2,List.take_append_drop]⟩
theorem GJ (w:World):∀(n:Nat) (t:TypeId) (k:Nat),yL P n t=some k->∀(d:Nat) (xs ys:Array Value) (o:Nat) (as bs:List Int),as.length=k->bs.length=k->
  (∀(j:Nat) a,as[j]? =some a->xs[o+j]? =some (.int .i64 a))->(∀(j:Nat) a,bs[j]? =some a->ys[o+j]? =some (.int .i64 a))->
  ∃u v,(part t xs o).run P w= .ok u w/\(part t ys o).run P w= .ok v w/\(Op.equalIn (d+n) t u v).run P w= .ok (decide (as=bs)) w:=by
 intro n
 induction n with
 |zero=>intro t k h;simp[yL] at h
 |succ n ih=>
  intro t k h d xs ys o as bs ha hb hx hy
  simp only[yL] at h
  split at h
  ·rename_i ht
   cases h
   obtain⟨a,rfl⟩:∃a,as=[a]:=List.length_eq_one_iff.1 ha
   obtain⟨b,rfl⟩:∃b,bs=[b]:=List.length_eq_one_iff.1 hb
   have h1:=hx 0 a rfl
   have h2:=hy 0 b rfl
   rw[Nat.add_zero] at h1 h2
   have hag:∀w,(isAgg t).run P w= .ok false w:=fun w=>by simp[isAgg,run_underlying ht]
   refine⟨.int .i64 a, .int .i64 b,by simp[part,hag,h1],by simp[part,hag,h2],?_⟩
   rw[show d+(n+1)=(d+n)+1 from rfl,run_equalIn_int w (d+n) t .i64 .i64 a b ht]
   by_cases e:a=b<;>simp[e]
  ·rename_i fs ht
   split at h
   ·cases h
   ·rename_i hst
    split at h
    ·rename_i k' hk'
     split at h
     ·rename_i hsz
      have hsz:=of_decide_eq_true hsz
      cases h
      have hag:∀w,(isAgg t).run P w= .ok true w:=fun w=>by simp[isAgg,run_underlying ht]
      obtain⟨inf,hinf⟩:=info_of_underlying ht
      have hso:∀w,(Go.sizeOf t).run P w= .ok (P.cellsOf t) w:=fun w=>run_sizeOf w hinf
      refine⟨.agg (xs.extract o (o+P.cellsOf t)), .agg (ys.extract o (o+P.cellsOf t)),by simp[part,hag,hso],by simp[part,hag,hso],?_⟩
      have hfo:P.fieldsOf t=fs:=by simp[Program.fieldsOf,ht]
      rw[show d+(n+1)=(d+n)+1 from rfl,run_equalIn_struct w (d+n) t _ _ (by rw[hfo];exact ht) hst,hfo]
      have key:∀(l:List Field) (off:Nat),wj P (yL P n) l off=some k->off<=k->(Op.eqFields (d+n) (xs.extract o (o+P.cellsOf t)) (ys.extract o (o+P.cellsOf t)) l).run P w= .ok (decide (as.drop off=bs.drop off)) w:=by
       intro l
       induction l with
       |nil=>
        intro off hl ho
        simp only[wj,Option.some.injEq] at hl
        subst hl
        rw[List.drop_eq_nil_of_le (by omega),List.drop_eq_nil_of_le (by omega)]
        simp[Op.eqFields]
       |cons f l ihl=>
        intro off hl ho
        simp only[wj] at hl
        split at hl
        ·rename_i kf hnm hoff hkf
         have hnm:=of_decide_eq_true hnm
         have hoff:=of_decide_eq_true hoff
         split at hl
         ·rename_i hkc
          have hkc:=of_decide_eq_true hkc
          have hle:off+kf<=k:=by
           have mono:∀(l:List Field) (a:Nat),wj P (yL P n) l a=some k->a<=k:=by
            intro l
            induction l with
            |nil=>intro a h;simp only[wj,Option.some.injEq] at h;omega
            |cons g l ih2=>
             intro a h
             simp only[wj] at h
             split at h
             ·split at h
              ·have:=ih2 _ h;omega
              ·cases h
             ·cases h
           exact mono l _ hl
          have hl1:((as.drop off).take kf).length=kf:=by simp;omega
          have hl2:((bs.drop off).take kf).length=kf:=by simp;omega
          have get:∀(zs:Array Value) (cs:List Int),(∀(j:Nat) a,cs[j]? =some a->zs[o+j]? =some (.int .i64 a))->cs.length=k->∀(j:Nat) a,((cs.drop off).take kf)[j]? =some a->(zs.extract o (o+P.cellsOf t))[f.offset+j]? =some (.int .i64 a):=by
           intro zs cs hz hc j a hj
           rw[List.getElem?_take] at hj
           split at hj
           ·rename_i hjk
            rw[List.getElem?_drop] at hj
            have h1:=hz _ _ hj
            have hlt:off+j<k:=by have:=(List.getElem?_eq_some_iff.1 hj).1;omega
            rw[Array.getElem?_extract,if_pos (by
             have hs:o+(off+j)<zs.size:=(Array.getElem?_eq_some_iff.1 h1).1
             rw[hoff];omega),hoff,<-Nat.add_assoc]
            rw[<-Nat.add_assoc] at h1
            exact h1
           ·cases hj
          obtain⟨u,v,p1,p2,p3⟩:=ih f.type kf hkf d _ _ f.offset _ _ hl1 hl2 (get xs as hx ha) (get ys bs hy hb)
          simp only[Op.eqFields,hnm,ne_eq,not_false_eq_true,if_true,Sem.run_bind,p1,p2,p3,Result.andThen_ok]
          rw[wo kf (as.drop off) (bs.drop off),List.drop_drop,List.drop_drop]
          by_cases e:(as.drop off).take kf=(bs.drop off).take kf
          ·simp only[e,decide_true,Bool.not_true,Bool.false_eq_true,if_false,Bool.true_and]
           exact ihl (off+kf) hl hle
          ·simp[e]
         ·cases hl
        ·cases hl
      have:=key fs.toList 0 hk' (by omega)
      simpa using this
     ·cases h
    ·cases h
  ·cases h
theorem qw:∀{us:List AV} {as:List Int} {vs:List Value},tq us=some as->be S ρ vs us->as.length=vs.length/\∀(j:Nat) a,as[j]? =some a->vs[j]? =some (.int .i64 a)
 |[],as,vs,h,hv=>by
  simp only[tq,Option.some.injEq] at h
  subst h
  rw[hv.nil_inv]
  exact⟨rfl,by simp⟩
 |u::us,as,vs,h,hv=>by
  unfold tq at h
  split at h
  ·simp at*
  ·rename_i n r e
   injection e with e1 e2
   subst e1;subst e2
   split at h
   ·rename_i l hl
    cases h
    obtain⟨v,vs',rfl,h1,h2⟩:=hv.cons_inv
    obtain⟨i1,i2⟩:=qw hl h2
    refine⟨by simp[i1],fun j a hj=>?_⟩
    cases j with
    |zero=>simp at hj;subst hj;simp[h1.int_inv]
    |succ j=>simp at hj;simpa using i2 j a hj
   ·cases h
  ·cases h
theorem DC (hT:aW P tt=true) (op:BinOp) (t:TypeId) (x y:Operand) {xs ys:List AV} {u v:Value} (hu:RV S ρ u (.agg xs)) (hv:RV S ρ v (.agg ys)):
  dg S ρ P w (do eqGuard op t x y u v;binOp op t u v) (Dw tt op t xs ys):=by
 obtain⟨us,rfl,hus⟩:=hu.agg_inv
 obtain⟨vs,rfl,hvs⟩:=hv.agg_inv
 unfold Dw
 split
 ·rename_i sz by_ fs z ht
  split
  ·rename_i as bs ha hb
   split
   ·rename_i h1 h2
    have h1:=Nat.eq_of_beq_eq_true h1
    have h2:=Nat.eq_of_beq_eq_true h2
    obtain⟨a1,a2⟩:=qw ha hus
    obtain⟨b1,b2⟩:=qw hb hvs
    have hq:=TOk.eqb hT ht
    simp only[Nz,Bool.and_eq_true,decide_eq_true_eq,Bool.not_eq_true'] at hq
    have hag:(isAgg t).run P w= .ok true w:=TOk.agg hT ht w
    have hsz:(Go.sizeOf t).run P w= .ok sz w:=TOk.size hT ht w
    obtain⟨p,q,e1,e2,e3⟩:=GJ w 9 t sz hq.1 9991 us vs 0 as bs h1 h2 (fun j a hj=>by rw[Nat.zero_add];simpa using a2 j a hj) (fun j a hj=>by rw[Nat.zero_add];simpa using b2 j a hj)
    have l1:us.size=sz:=by have:=a1;simp at this;omega
    have l2:vs.size=sz:=by have:=b1;simp at this;omega
    have x1:us.extract 0 sz=us:=by rw[<-l1];simp
    have x2:vs.extract 0 sz=vs:=by rw[<-l2];simp
    simp[part,hag,hsz,x1] at e1
    simp[part,hag,hsz,x2] at e2
    subst e1;subst e2
    have hg:∀op,(eqGuard op t x y (.agg us) (.agg vs)).run P w= .ok () w:=by
     intro op
     cases op<;>simp[eqGuard,hq.2]
    have he:(Op.equal t (.agg us) (.agg vs)).run P w= .ok (decide (as=bs)) w:=e3
    split
    ·show Sem.run P _ w=_
     simp only[Sem.run_bind,hg,Result.andThen_ok]
     simp[binOp,he]
    ·show Sem.run P _ w=_
     simp only[Sem.run_bind,hg,Result.andThen_ok]
     simp[binOp,he]
    ·trivial
   ·trivial
  ·trivial
 ·trivial
theorem DD (hT:aW P tt=true) (op:BinOp) (t:TypeId) (x y:Operand) {a b:AV} {u v:Value} (hu:RV S ρ u a) (hv:RV S ρ v b):
  dg S ρ P w (do eqGuard op t x y u v;binOp op t u v) (Dx tt op t a b):=by
 unfold Dx
 split
 ·rename_i k a k' b
  cases hu.int_inv;cases hv.int_inv
  rw[eqGuard_at_int]
  split
  ·intro hb
   exact⟨.int k (a.fdiv (2^min b.toNat k.bits)),by simp[binOp,Op.shift,Int.not_lt.2 hb], .p (.int _ _)⟩
  ·intro hb
   simp[binOp,Op.shift,Int.not_lt.2 hb]
  ·split
   ·rename_i hk
    cases Du hk
    have:=DA (S:=S) (ρ:=ρ) (P:=P) (w:=w) op t k a b
    exact this
   ·trivial
 ·rename_i a b
  cases hu.str_inv;cases hv.str_inv
  rw[eqGuard_at_string]
  split
  ·show Sem.run P _ w=_
   simp[binOp,Op.stringOp,wl]
  ·show Sem.run P _ w=_
   simp[binOp,Op.stringOp,wl]
  ·trivial
 ·rename_i a b
  cases hu.bool_inv;cases hv.bool_inv
  have:eqGuard op t x y (.bool a) (.bool b)=pure ():=by cases op<;>rfl
  rw[this]
  split
  ·rename_i ht
   exact⟨.bool (Jz a b),by simp[binOp,qv hT ht], .p (.bool _)⟩
  ·rename_i ht
   exact⟨.bool (!Jz a b),by simp[binOp,qv hT ht], .p (.bool _)⟩
  ·trivial
 ·exact DC hT op t x y hu hv
 ·cases hv.nilsl_inv
  have hg:∀u:Value,dg S ρ P w (binOp op t u (.slice none 0 0)) (match op,cZ tt t with
    | .eql,true=>qr false a
    | .neq,true=>qr true a
    |_,_=> .no)->dg S ρ P w (do eqGuard op t x y u (.slice none 0 0);binOp op t u (.slice none 0 0)) (match op,cZ tt t with
    | .eql,true=>qr false a
    | .neq,true=>qr true a
    |_,_=> .no):=by
   intro u hh
   have:eqGuard op t x y u (.slice none 0 0)=pure ():=by cases op<;>cases u<;>rfl
   rw[this];exact hh
  apply hg
  split
  ·rename_i ht;exact tu hT ht hu false
  ·rename_i ht;exact tu hT ht hu true
  ·trivial
 ·cases hv.val_inv
  have:eqGuard op t x y u (.pointer none)=pure ():=by cases op<;>cases u<;>rfl
  rw[this]
  split
  ·rename_i ht;exact qu hT ht hu false
  ·rename_i ht;exact qu hT ht hu true
  ·trivial
 ·trivial
theorem GK (op:UnOp) {a:AV} {u:Value} (hu:RV S ρ u a):dg S ρ P w (Op.unary op u) (JA op a):=by
 unfold JA
 split
 ·rename_i b;cases hu.bool_inv;exact⟨.bool (!b),by simp[Op.unary], .p (.bool _)⟩
 ·rename_i k n;cases hu.int_inv;intro _;simp[Op.unary,Op.intArith]
 ·rename_i k n;cases hu.int_inv;exact⟨.int k (kR .xor k (if k.signed then -1 else k.max) n),by simp[Op.unary,Op.intBits,kR], .p (.int _ _)⟩
 ·trivial
theorem BD (hT:aW P tt=true) {s d:TypeId} {i:TI} (hs:tt.find s=some i) {a:AV} {u:Value} (hu:RV S ρ u a):dg S ρ P w (convert s d u) (yN tt d a):=by
 unfold yN
 split
 ·rename_i k n
  cases hu.int_inv
  split
  ·rename_i sz b k z hd
   intro _
   have:=TOk.kind hT hs
   have h2:=TOk.int hT hd
   have:∃x,P.underlying s=some x:=by
    cases hx:P.underlying s with
    |none=>rw[hx] at this;simp[iA] at this
    |some x=>exact⟨x,rfl⟩
   obtain⟨x,hx⟩:=this
   simp[convert,run_underlying hx,run_underlying h2,Conv.intToInt]
  ·trivial
 ·trivial
theorem DE (hT:aW P tt=true) {t ty:TypeId} {a:AV} {u:Value} (hu:RV S ρ u a):dg S ρ P w (Builtin.len_ #[t] ty #[u]) (Dy tt t a):=by
 unfold Dy
 split
 ·rename_i l
  split
  ·rename_i ht
   obtain⟨e,he⟩:=cL hT ht
   cases hu.sl_inv with
   |sl _ _ _ base cap sz vals hcap ho hsz hb hn hv=>exact⟨.int .i64 l.length,by simp[Builtin.len_,run_underlying he,goInt], .p (.int _ _)⟩
  ·trivial
 ·rename_i n
  split
  ·rename_i ht
   obtain⟨e,he⟩:=cL hT ht
   obtain⟨b,hb,rfl,rfl,hz,rfl⟩:=hu.row_inv
   exact⟨.int .i64 b.len,by simp[Builtin.len_,run_underlying he,goInt,dU.hdr], .p (.int _ _)⟩
  ·trivial
 ·rename_i n _
  split
  ·rename_i ht
   obtain⟨e,he⟩:=cL hT ht
   obtain⟨b,a,c,hb,h1,h2,h3,h4,rfl⟩:=hu.part_inv
   exact⟨.int .i64 n,by simp[Builtin.len_,run_underlying he,goInt], .p (.int _ _)⟩
  ·trivial
 ·split
  ·rename_i ht
   obtain⟨e,he⟩:=cL hT ht
   cases hu.nilsl_inv
   exact⟨.int .i64 0,by simp[Builtin.len_,run_underlying he,goInt], .p (.int _ _)⟩
  ·trivial
 ·rename_i s
  split
  ·rename_i ht
   cases hu.str_inv
   exact⟨.int .i64 s.size,by simp[Builtin.len_,run_underlying (TOk.string hT ht),goInt], .p (.int _ _)⟩
  ·trivial
 ·trivial
theorem DF (hT:aW P tt=true) {t ty:TypeId} {a:AV} {u:Value} (hu:RV S ρ u a):dg S ρ P w (Builtin.cap_ #[t] ty #[u]) (Dz tt t a):=by
 unfold Dz
 split
 ·split
  ·rename_i ht
   obtain⟨e,he⟩:=cL hT ht
   cases hu.nilsl_inv
   exact⟨.int .i64 0,by simp[Builtin.cap_,run_underlying he,goInt], .p (.int _ _)⟩
  ·trivial
 ·trivial
theorem qx (hT:aW P tt=true) {s:TypeId} {f:Nat} {a:AV} {u:Value} (hu:RV S ρ u a):dg S ρ P w (Instr.fieldAt s u f) (k0 tt s f a):=by
 unfold k0
 split
 ·rename_i sz by_ fs z hs
  obtain⟨gs,hgs,he,hpos⟩:=TOk.struct hT hs
  split
  ·rename_i o ft hf
   rw[kZ,<-he,List.getElem?_map] at hf
   obtain⟨g,hg,hgo⟩:=Option.map_eq_some_iff.1 hf
   have hg':gs[f]? =some g:=by simpa using hg
   have hmem:g∈gs.toList:=List.mem_of_getElem? hg
   obtain⟨hne,x,hx⟩:=hpos g hmem
   have hsz:∀w,(Go.sizeOf g.type).run P w= .ok (P.cellsOf g.type) w:=fun w=>run_sizeOf w hx
   injection hgo with ho _
   have run:∀ad:Addr,(Instr.fieldAt s (.pointer (some ad)) f).run P w= .ok (.pointer (some (ad.add o))) w:=by
    intro ad
    simp[Instr.fieldAt,run_underlying hgs,hg',Instr.sureAddr,fieldPlace,hsz,hne,ho]
   split
   ·rename_i ℓ off
    obtain⟨b,hb,rfl⟩:=hu.ptr_inv
    exact⟨_,run _,by rw[Addr.add_mk];exact .ptr _ _ _ hb⟩
   ·rename_i ℓ i off
    obtain⟨b,hb,hi,rfl⟩:=hu.rel_inv
    exact⟨_,run _,by rw[Addr.add_mk,Nat.add_assoc];exact .rel _ _ _ _ hb hi⟩
   ·rename_i cells
    cases hu.pd_inv with
    |pd _ ad vals hb hv=>
     refine⟨_,run _, .p (.pd _ _ (fun j=>vals (o+j)) (fun j hj=>?_) (fun j u hu=>?_))⟩
     ·rw[Addr.add_add];exact hb _ (by simp at hj;omega)
     ·rw[List.getElem?_drop] at hu;exact hv _ _ hu
   ·trivial
  ·trivial
 ·trivial
theorem i9 (hT:aW P tt=true) {t:TypeId} {cells:List AV} {ad:Addr}
  (hc:∀(j:Nat) u,cells[j]? =some u->∃v,w.cell? (ad.add j)=some v/\RV S ρ v u):dg S ρ P w (Instr.loadAt t (.pointer (some ad))) (ga tt t cells):=by
 unfold ga
 split
 ·rename_i i hi
  have hag:=TOk.agg hT hi w
  have hsz:=TOk.size hT hi w
  split
  ·rename_i hk
   rw[hk] at hag
   split
   ·rename_i hle
    have hle:=Nat.le_of_ble_eq_true hle
    have hval:∀j,j<i.size->∃v,w.cell? (ad.add j)=some v:=fun j hj=>by
     obtain⟨v,hv,_⟩:=hc j cells[j] (by simp)
     exact⟨v,hv⟩
    let f:Nat->Value:=fun j=>(w.cell? (ad.add j)).getD undef
    have hl:=run_loadCells (P:=P) (w:=w) ad i.size f (fun j hj=>by obtain⟨v,hv⟩:=hval j hj;simp[f,hv])
    refine⟨.agg _,by simp[Instr.loadAt,Instr.sureAddr,loadVar,hag,hsz,hl];rfl,?_⟩
    refine .agg _ _ (by simp;omega) f (fun j hj=>by simp at hj;simp[hj]) (fun j u hu=>?_)
    rw[List.getElem?_take] at hu
    split at hu
    ·obtain⟨v,hv,hr⟩:=hc j u hu
     simpa[f,hv] using hr
    ·simp at hu
   ·trivial
  ·rename_i hk
   rw[hk] at hag
   split
   ·rename_i u r
    obtain⟨v,hv,hr⟩:=hc 0 u (by simp)
    rw[Addr.add_zero] at hv
    exact⟨v,by simp[Instr.loadAt,Instr.sureAddr,loadVar,hag,hv],hr⟩
   ·trivial
 ·trivial
theorem wq (hT:aW P tt=true) {t:TypeId} {cells:List AV} {cs:Array Value} {o:Nat}
  (hc:be S ρ (cs.toList.drop o) cells):dg S ρ P w (part t cs o) (ga tt t cells):=by
 unfold ga
 split
 ·rename_i i hi
  have hag:=TOk.agg hT hi w
  have hsz:=TOk.size hT hi w
  split
  ·rename_i hk
   rw[hk] at hag
   split
   ·rename_i hle
    have hle:=Nat.le_of_ble_eq_true hle
    refine⟨_,by simp[part,hag,hsz];rfl,?_⟩
    have:=RV.agg_mk (hc.take i.size)
    have e:((cs.toList.drop o).take i.size).toArray=cs.extract o (o+i.size):=by
     apply Array.ext'
     simp[List.extract_eq_take_drop]
    rw[e] at this
    exact this
   ·trivial
  ·rename_i hk
   rw[hk] at hag
   split
   ·rename_i u r
    obtain⟨v,hv,hr⟩:=hc.2 0 u (by simp)
    have:cs[o]? =some v:=by simpa using hv
    exact⟨v,by simp[part,hag,this],hr⟩
   ·trivial
 ·trivial
end
end
section
section
variable {S:ag} {ρ:aw} {P:Program} {tt:TT} {w:World}
theorem yR (hT:aW P tt=true) {s:TypeId} {f:Nat} {a:AV} {u:Value} (hu:RV S ρ u a):dg S ρ P w (Instr.field s u f) (uK tt s f a):=by
 unfold uK
 split
 ·rename_i cells
  split
  ·rename_i sz by_ fs z hs
   obtain⟨gs,hgs,he,hpos⟩:=TOk.struct hT hs
   split
   ·rename_i o ft hf
    rw[kZ,<-he,List.getElem?_map] at hf
    obtain⟨g,hg,hgo⟩:=Option.map_eq_some_iff.1 hf
    have hg':gs[f]? =some g:=by simpa using hg
    injection hgo with ho ht
    obtain⟨vs,rfl,hvs⟩:=hu.agg_inv
    have:=wq (P:=P) (w:=w) hT (t:=ft) (cs:=vs) (o:=o) (hvs.drop o)
    have e:(Instr.field s (.agg vs) f).run P w=(part ft vs o).run P w:=by
     simp[Instr.field,run_underlying hgs,hg',asAgg,ho,ht]
    unfold dg at*
    rw[e]
    exact this
   ·trivial
  ·trivial
 ·trivial
theorem cr {α:Type} {l:List α} {d:α} {n:Nat} (h:n<l.length):l[n]? =some (l.getD n d):=by
 simp[List.getD,h]
theorem BE (hT:aW P tt=true) (hG:Gl S) {t:TypeId} {k:IntKind} {n:Int} {v:Value}:dg S ρ P w (Instr.indexAt t v (.int k n)) (yO tt t n v):=by
 unfold yO
 split
 ·rename_i g
  split
  ·rename_i sz by_ len e z ht
   have hte:=TOk.array hT ht
   split
   ·rename_i i hi
    have hsz:=TOk.size hT hi w
    split
    ·rename_i q l h1 hg
     have h1:=Nat.eq_of_beq_eq_true h1
     split
     ·rename_i hlen
      have hlen:=Nat.eq_of_beq_eq_true hlen
      rintro⟨h0,hlt⟩
      have hlt':n.toNat<l.length:=by omega
      have hn:n<(len:Int):=by omega
      refine⟨.pointer (some ⟨g,n.toNat,none⟩),by simp[Instr.indexAt,asIntOf,run_underlying hte,Instr.sureAddr,h0,hn,hsz,h1,Addr.add_mk], .p (.pd _ _ (fun _=> .int q (l.getD n.toNat 0)) (fun j hj=>?_) (fun j u hu=>?_))⟩
      ·have:j=0:=by simpa using hj
       subst this
       rw[Go.Proofs.YtokjgegkhlkopaaGreatDoor.Addr.add_zero]
       refine hG g q l hg n.toNat _ ?_
       rw[List.getD_eq_getElem?_getD,List.getElem?_eq_getElem hlt'];rfl
      ·have:j=0:=by have:=(List.getElem?_eq_some_iff.1 hu).1;simpa using this
       subst this
       simp at hu
       subst hu
       rw[<-List.getD_eq_getElem?_getD]
       exact .int _ _
     ·trivial
    ·trivial
   ·trivial
  ·trivial
 ·trivial
theorem qy (hT:aW P tt=true) (hG:Gl S) {t:TypeId} {a b:AV} {u v:Value} (hu:RV S ρ u a) (hv:RV S ρ v b):dg S ρ P w (Instr.indexAt t u v) (k7 tt t a b):=by
 unfold k7
 split
 ·cases hv.int_inv
  cases hu.val_inv
  exact BE hT hG
 ·rename_i d enc l k n
  cases hv.int_inv
  split
  ·rename_i sz by_ e z ht
   have hte:=TOk.slice hT ht
   split
   ·rename_i i hi
    have hsz:=TOk.size hT hi w
    split
    ·rename_i hlen
     have hlen:=Nat.eq_of_beq_eq_true hlen
     rintro⟨h0,hlt⟩
     cases hu.sl_inv with
     |sl _ _ _ base cap sz' vals hcap ho hsz' hb hn hv'=>
      have hlt':n.toNat<l.length:=by omega
      have hg:=cr (d:=d) hlt'
      have hne:l≠[]:=by intro h;subst h;simp at hlt'
      cases base with
      |none=>exact absurd rfl (hn hne)
      |some ad=>
       have hs:sz'=i.size:=by rw[<-hlen];exact(hsz' _ (List.mem_of_getElem? hg)).symm
       refine⟨.pointer (some (ad.add (n.toNat*i.size))),by simp[Instr.indexAt,asIntOf,run_underlying hte,h0,hlt,hsz], .p (.pd _ _ (fun j=>vals n.toNat j) (fun j hj=>?_) (fun j u hu=>hv' _ _ _ _ hg hu))⟩
       rw[hlen] at hj
       obtain⟨ad',he',hc⟩:=hb n.toNat j hlt' (by omega)
       injection he' with he'
       subst he'
       rw[Addr.add_add,<-hs]
       exact hc
    ·trivial
   ·trivial
  ·trivial
 ·rename_i ℓ m sz k n
  cases hv.int_inv
  split
  ·rename_i sz' by_ e z ht
   have hte:=TOk.slice hT ht
   split
   ·rename_i i hi
    have hsz:=TOk.size hT hi w
    split
    ·rename_i hs
     have hs:=Nat.eq_of_beq_eq_true hs
     rintro⟨h0,hlt⟩
     obtain⟨b,hb,rfl,rfl,hz,rfl⟩:=hu.row_inv
     have hnil:b.nil=false:=by
      cases h:b.nil
      ·rfl
      ·have:=hz h;omega
     refine⟨.pointer (some ⟨b.blk,n.toNat*b.sz+0,none⟩),?_, .rel ℓ n.toNat 0 b hb (by omega)⟩
     simp[Instr.indexAt,asIntOf,run_underlying hte,dU.hdr,hnil,h0,hlt,hsz,Addr.add_mk,hs]
    ·trivial
   ·trivial
  ·trivial
 ·rename_i ℓ lo m sz k n
  cases hv.int_inv
  split
  ·rename_i sz' by_ e z ht
   have hte:=TOk.slice hT ht
   split
   ·rename_i i hi
    have hsz:=TOk.size hT hi w
    split
    ·rename_i hs
     have hs:=Nat.eq_of_beq_eq_true hs
     rintro⟨h0,hlt⟩
     obtain⟨b,a,c,hb,rfl,hn,ha,hc,rfl⟩:=hu.part_inv
     obtain⟨hnil,rfl⟩:=ha (by omega)
     refine⟨.pointer (some ⟨b.blk,(lo+n.toNat)*b.sz+0,none⟩),?_, .rel ℓ (lo+n.toNat) 0 b hb (by omega)⟩
     simp[Instr.indexAt,asIntOf,run_underlying hte,h0,hlt,hsz,Addr.add_mk,hs,Nat.add_mul]
    ·trivial
   ·trivial
  ·trivial
 ·rename_i ℓ off k n
  cases hv.int_inv
  split
  ·rename_i sz' by_ len e z ht
   have hte:=TOk.array hT ht
   split
   ·rename_i i hi
    have hsz:=TOk.size hT hi w
    rintro⟨h0,hlt⟩
    obtain⟨b,hb,rfl⟩:=hu.ptr_inv
    refine⟨.pointer (some ⟨b.blk,off+n.toNat*i.size,none⟩),?_, .ptr ℓ _ b hb⟩
    simp[Instr.indexAt,asIntOf,run_underlying hte,Instr.sureAddr,h0,hlt,hsz,Addr.add_mk]
   ·trivial
  ·trivial
 ·trivial
theorem yS (hT:aW P tt=true) {t:TypeId} {a b:AV} {u v:Value} (hu:RV S ρ u a) (hv:RV S ρ v b):dg S ρ P w (Instr.index t u v) (uL tt t a b):=by
 unfold uL
 split
 ·rename_i s k n
  cases hu.str_inv;cases hv.int_inv
  split
  ·rename_i ht
   have hts:=TOk.string hT ht
   rintro⟨h0,h1⟩
   refine⟨.int .u8 (s.data.getD n.toNat 0).toNat,?_, .p (.int _ _)⟩
   have hlt:n.toNat<s.size:=by omega
   have hg:s[n.toNat]? =some s[n.toNat]:=getElem?_pos s n.toNat hlt
   have hd:s[n.toNat]=s.data.getD n.toNat 0:=by
    have hlt':n.toNat<s.data.size:=hlt
    show s.data[n.toNat]=_
    rw[Array.getD_eq_getD_getElem?,Array.getElem?_eq_getElem hlt']
    rfl
   simp only[Instr.index,asIntOf,Sem.run_bind,Sem.run_pure,Result.andThen_ok,run_underlying hts,h0,if_true,hg,hd]
  ·trivial
 ·trivial
theorem sS {x:Operand} {ty:TypeId} {ps:String} {af:Array Edge} {g:Option (Nat×Bool)} {d:Option Tmp} {ev:Operand->Value} {a:AV} (hu:RV S ρ (ev x) a):
  yQ S ρ P w (execOp ev ⟨d, .nilCheck x,ty,ps,af,g⟩) (mI a):=by
 unfold mI
 split
 ·obtain⟨b,hb,e⟩:=hu.ptr_inv
  exact⟨_,by simp[execOp,e];rfl,by exact .ptr _ _ _ hb⟩
 ·obtain⟨b,hb,hi,e⟩:=hu.rel_inv
  exact⟨_,by simp[execOp,e];rfl,by exact .rel _ _ _ _ hb hi⟩
 ·have:=hu.pd_inv
  generalize he:ev x=v at*
  cases this with
  |pd _ ad vals hb hv=>exact⟨_,by simp[execOp,he], .p (.pd _ _ vals hb hv)⟩
 ·obtain⟨vs,e,hvs⟩:=hu.fn_inv
  exact⟨_,by simp[execOp,e],RV.fn_mk _ hvs⟩
 ·trivial
theorem uO {i:Nat} {a:AV} {u:Value} (hu:RV S ρ u a):dg S ρ P w (Instr.extract u i) (oE i a):=by
 unfold oE
 split
 ·rename_i vs
  obtain⟨xs,rfl,hx⟩:=hu.tup_inv
  split
  ·rename_i y hy
   obtain⟨v,hv,hr⟩:=hx.2 i y hy
   have:xs[i]? =some v:=by simpa using hv
   exact⟨v,by simp[Instr.extract,this],hr⟩
  ·trivial
 ·trivial
theorem uP {α:Type} {d:α} {enc:α->List AV} {l:List α} {base:Option Addr} {n cap:Nat} (h:RP S (.slice base n cap) (.sl d enc l)) {x:Nat} (hx:x<=l.length) (sz:Nat) (hs:∀a∈l,(enc a).length=sz):
  RP S (.slice (if cap=x then base else base.map (·.add (x*sz))) (l.length-x) (cap-x)) (.sl d enc (l.drop x)):=by
 cases h with
 |sl _ _ _ _ _ sz' vals hcap ho hsz' hb hn hv=>
  have e:l.length-x=(l.drop x).length:=by simp
  rw[e]
  by_cases hl:x<l.length
  ·have hss:sz'=sz:=by
    rw[<-hsz' l[x] (List.getElem_mem hl),hs l[x] (List.getElem_mem hl)]
   subst hss
   refine .sl d enc _ _ _ sz' (fun i j=>vals (x+i) j) (by simp;omega) (fun a ha=>ho a (List.mem_of_mem_drop ha)) (fun a ha=>hsz' a (List.mem_of_mem_drop ha)) (fun i j hi hj=>?_) (fun _=>?_) (fun i a j u ha hu=>?_)
   ·simp at hi
    obtain⟨ad,rfl,hc⟩:=hb (x+i) j (by omega) hj
    refine⟨ad.add (x*sz'),by rw[if_neg (by omega)];rfl,?_⟩
    rw[Addr.add_add,show x*sz'+(i*sz'+j)=(x+i)*sz'+j from by rw[Nat.add_mul];omega]
    exact hc
   ·rw[if_neg (by omega)]
    have:base≠none:=hn (by intro h;subst h;simp at hl)
    cases base with
    |none=>exact absurd rfl this
    |some a=>simp
   ·rw[List.getElem?_drop] at ha
    exact hv _ _ _ _ ha hu
  ·have:l.drop x=[]:=by simp;omega
   rw[this]
   refine .sl d enc [] _ _ 0 (fun _ _=>undef) (by simp) (by simp) (by simp) (by simp) (by simp) (by simp)
theorem Aa {α:Type} {d:α} {enc:α->List AV} {l:List α} {base:Option Addr} {n cap:Nat} (h:RP S (.slice base n cap) (.sl d enc l)) {x:Nat} (hx:x<=l.length):
  RP S (.slice base x cap) (.sl d enc (l.take x)):=by
 cases h with
 |sl _ _ _ _ _ sz' vals hcap ho hsz' hb hn hv=>
  have e:x=(l.take x).length:=by simp;omega
  have:=RP.sl (S:=S) d enc (l.take x) base cap sz' vals (by simp;omega) (fun a ha=>ho a (List.mem_of_mem_take ha)) (fun a ha=>hsz' a (List.mem_of_mem_take ha)) (fun i j hi hj=>hb i j (by simp at hi;omega) hj) (fun h=>hn (by intro e;subst e;simp at h))
   (fun i a j u ha hu=>by
    rw[List.getElem?_take] at ha
    split at ha
    ·exact hv _ _ _ _ ha hu
    ·simp at ha)
  rw[<-e] at this
  exact this
theorem DG {α:Type} {d:α} {enc:α->List AV} {l:List α} {v:Value} (h:RP S v (.sl d enc l)) {n:Nat} (hn:(enc (l.getD 0 d)).length=n):∀a∈l,(enc a).length=n:=by
 cases h with
 |sl _ _ _ base cap sz vals hcap ho hsz hb hn' hv=>
  intro a ha
  have hl:0<l.length:=List.length_pos_of_mem ha
  have hg:=cr (d:=d) hl
  rw[hsz a ha,<-hn,hsz _ (List.mem_of_getElem? hg)]
theorem pS {α:Type} {d:α} {enc:α->List AV} {l:List α} {v:Value} (h:RP S v (.sl d enc l)):∃base cap,v= .slice base l.length cap/\l.length<=cap:=by
 cases h with
 |sl _ _ _ base cap sz vals hcap ho hsz hb hn' hv=>exact⟨base,cap,rfl,hcap⟩
theorem GL {α:Type} {d:α} {enc:α->List AV} {l:List α} {base:Option Addr} {n cap:Nat} (h:RP S (.slice base n cap) (.sl d enc l)):RP S (.slice base l.length l.length) (.sl d enc l):=by
 cases h with
 |sl _ _ _ _ _ sz' vals hcap ho hsz' hb hn hv=>exact .sl d enc l base l.length sz' vals (Nat.le_refl _) ho hsz' hb hn hv
theorem wr (hT:aW P tt=true) {t:TypeId} {a b d:AV} {u v r:Value} (hu:RV S ρ u a) (hv:RV S ρ v b) (hr:RV S ρ r d):dg S ρ P w (Instr.sliceAt t u none (some v) (some r)) (qt tt t a b d):=by
 unfold qt
 split
 ·rename_i sz by_ e z ht
  have hte:=TOk.slice hT ht
  split
  ·rename_i i hi'
   have hsz:=TOk.size hT hi' w
   split
   ·rename_i α d enc l k x k' y
    split
    ·rename_i hlen
     have hlen:=Nat.eq_of_beq_eq_true hlen
     cases hv.int_inv
     cases hr.int_inv
     rintro⟨h0,h1⟩
     have hr:=hu.sl_inv
     have hall:=DG hr hlen
     obtain⟨base,cap,rfl,hcap⟩:=pS hr
     have hb:(Instr.sliceBounds true l.length cap none (some (.int k x)) (some (.int k' y))).run P w= .ok (0,l.length,l.length) w:=by
      have a1:(0:Int)<=l.length:=by omega
      have a2:(l.length:Int)<=cap:=by omega
      subst h0;subst h1
      simp[Instr.sliceBounds,Instr.sliceBound,asIntOf,a2]
     have hrun:(Instr.sliceAt t (.slice base l.length cap) none (some (.int k x)) (some (.int k' y))).run P w= .ok (.slice base l.length l.length) w:=by
      simp[Instr.sliceAt,Instr.slice,run_underlying hte,hb,hsz]
      intro _
      cases base with
      |none=>rfl
      |some a=>simp[Addr.add_zero]
     exact⟨_,hrun, .p (.slc d enc l base (GL hr))⟩
    ·trivial
   ·trivial
  ·trivial
 ·trivial
theorem ka (hT:aW P tt=true) {t:TypeId} {a:AV} {u:Value} (hu:RV S ρ u a) (lo hi:Option AV) (lv hv:Option Value)
  (hl:∀x,lo=some x->∃v,lv=some v/\RV S ρ v x) (hl0:lo=none->lv=none)
  (hh:∀x,hi=some x->∃v,hv=some v/\RV S ρ v x) (hh0:hi=none->hv=none):dg S ρ P w (Instr.sliceAt t u lv hv none) (lU tt t a lo hi):=by
 unfold lU
 split
 ·rename_i sz by_ z ht
  have hte:=TOk.string hT ht
  split
  ·rename_i s
   cases hu.str_inv
   have run:∀x y:Nat,((Instr.sliceBounds false s.size s.size lv hv none).run P w= .ok (x,y,s.size) w)->(Instr.sliceAt t (.string s) lv hv none).run P w= .ok (.string (s.extract x y)) w:=by
    intro x y hxy
    simp[Instr.sliceAt,Instr.slice,run_underlying hte,hxy]
   unfold wk
   split
   ·cases hl0 rfl;cases hh0 rfl
    refine⟨_,run 0 s.size (by simp[Instr.sliceBounds]),?_⟩
    have:s.extract 0 s.size=s:=by simp
    rw[this]
    exact .p (.str _)
   ·rename_i k x
    cases hh0 rfl
    obtain⟨v,rfl,hvx⟩:=hl _ rfl
    cases hvx.int_inv
    rintro⟨h0,h1⟩
    exact⟨_,run x.toNat s.size (by simp[Instr.sliceBounds,Instr.sliceBound,asIntOf,h0,h1]), .p (.str _)⟩
   ·rename_i k y
    cases hl0 rfl
    obtain⟨v,rfl,hvx⟩:=hh _ rfl
    cases hvx.int_inv
    rintro⟨h0,h1⟩
    exact⟨_,run 0 y.toNat (by simp[Instr.sliceBounds,Instr.sliceBound,asIntOf,h0,h1]), .p (.str _)⟩
   ·rename_i k x k' y
    obtain⟨v,rfl,hvx⟩:=hl _ rfl
    cases hvx.int_inv
    obtain⟨v',rfl,hvy⟩:=hh _ rfl
    cases hvy.int_inv
    rintro⟨h0,h1,h2⟩
    refine⟨_,run x.toNat y.toNat ?_, .p (.str _)⟩
    have a2:0<=y:=by omega
    have a3:x<=max y 0:=by omega
    simp[Instr.sliceBounds,Instr.sliceBound,asIntOf,h0,a2,h2]
    omega
   ·trivial
  ·trivial
 ·rename_i sz by_ e z ht
  have hte:=TOk.slice hT ht
  split
  ·rename_i i hi'
   have hsz:=TOk.size hT hi' w
   split
   ·rename_i α d enc l
    split
    ·rename_i hlen
     have hlen:=Nat.eq_of_beq_eq_true hlen
     have hr:=hu.sl_inv
     have hall:=DG hr hlen
     obtain⟨base,cap,rfl,hcap⟩:=pS hr
     have run:∀x y:Nat,((Instr.sliceBounds true l.length cap lv hv none).run P w= .ok (x,y,cap) w)->
       (Instr.sliceAt t (.slice base l.length cap) lv hv none).run P w= .ok (.slice (if cap=x then base else base.map (·.add (x*i.size))) (y-x) (cap-x)) w:=by
      intro x y hxy
      simp[Instr.sliceAt,Instr.slice,run_underlying hte,hxy,hsz]
     split
     ·cases hl0 rfl;cases hh0 rfl
      refine⟨_,run 0 l.length (by simp[Instr.sliceBounds]),?_⟩
      have:=uP hr (x:=0) (by omega) i.size hall
      simpa using RV.p this
     ·rename_i k x
      cases hh0 rfl
      obtain⟨v,rfl,hvx⟩:=hl _ rfl
      cases hvx.int_inv
      rintro⟨h0,h1⟩
      refine⟨_,run x.toNat l.length ?_,?_⟩
      ·simp[Instr.sliceBounds,Instr.sliceBound,asIntOf,h0,h1]
      ·exact .p (uP hr (by omega) i.size hall)
     ·rename_i k y
      cases hl0 rfl
      obtain⟨v,rfl,hvx⟩:=hh _ rfl
      cases hvx.int_inv
      rintro⟨h0,h1⟩
      refine⟨_,run 0 y.toNat ?_,?_⟩
      ·have:y<=cap:=by omega
       simp[Instr.sliceBounds,Instr.sliceBound,asIntOf,h0,this]
      ·have h2:=Aa hr (x:=y.toNat) (by omega)
       have e1:(l.take y.toNat).length=y.toNat:=by simp;omega
       have:=uP h2 (x:=0) (by omega) i.size (fun a ha=>hall a (List.mem_of_mem_take ha))
       rw[e1] at this
       simpa using RV.p this
     ·rename_i k x k' y
      obtain⟨v,rfl,hvx⟩:=hl _ rfl
      cases hvx.int_inv
      obtain⟨v',rfl,hvy⟩:=hh _ rfl
      cases hvy.int_inv
      rintro⟨h0,h1,h2⟩
      refine⟨_,run x.toNat y.toNat ?_,?_⟩
      ·have a1:y<=cap:=by omega
       have a2:0<=y:=by omega
       have a3:x<=max y 0:=by omega
       simp[Instr.sliceBounds,Instr.sliceBound,asIntOf,h0,a1,a2]
       omega
      ·have h2:=Aa hr (x:=y.toNat) (by omega)
       have e1:(l.take y.toNat).length=y.toNat:=by simp;omega
       have:=uP h2 (x:=x.toNat) (by omega) i.size (fun a ha=>hall a (List.mem_of_mem_take ha))
       rw[e1] at this
       exact .p this
     ·trivial
    ·trivial
   ·cases hu.nilsl_inv
    split
    ·rename_i k y
     cases hl0 rfl
     obtain⟨v,rfl,hvx⟩:=hh _ rfl
     cases hvx.int_inv
     rintro rfl
     exact⟨.slice none 0 0,by simp[Instr.sliceAt,Instr.slice,run_underlying hte,Instr.sliceBounds,Instr.sliceBound,asIntOf,hsz], .p .nilsl⟩
    ·trivial
   ·trivial
  ·trivial
 ·trivial
theorem tv {F:ag} {M:ai} (hT:aW P tt=true) (hM:ax S F ρ M w) {t:TypeId} {a:AV} {u:Value} (hu:RV S ρ u a):dg S ρ P w (Instr.loadAt t u) (gb tt t M a):=by
 unfold gb
 split
 ·rename_i cells
  cases hu.pd_inv with
  |pd _ ad vals hb hv=>
   exact i9 hT fun j x hx=>⟨vals j,ag.cell_w hM.sw (hb j (List.getElem?_eq_some_iff.1 hx).1), .p (hv j x hx)⟩
 ·rename_i ℓ o
  obtain⟨b,hb,rfl⟩:=hu.ptr_inv
  split
  ·rename_i t' cells hl
   obtain⟨b',hb',vs,hheap,hvs,_⟩:=hM.blk _ _ hl
   rw[hb] at hb';cases hb'
   refine i9 hT fun j x hx=>?_
   rw[List.getElem?_drop] at hx
   obtain⟨v,hv,hr⟩:=hvs.2 _ x hx
   exact⟨v,by rw[Addr.add_mk];simp only[World.cell?,hheap];simpa using hv,hr⟩
  ·trivial
 ·rename_i ℓ i o
  obtain⟨b,hb,hi,rfl⟩:=hu.rel_inv
  split
  ·rename_i t' α d enc l hl
   obtain⟨b',hb',hlen,hszs,hcase⟩:=hM.blk _ _ hl
   rw[hb] at hb';cases hb'
   rcases hcase with ⟨_,rfl,_⟩|⟨_,_,vs,hheap,_,hcell,_⟩
   ·simp at hlen;omega
   ·refine i9 hT fun j x hx=>?_
    rw[List.getElem?_drop] at hx
    have hg:=cr (d:=d) (l:=l) (n:=i) (by omega)
    obtain⟨v,hv,hr⟩:=hcell _ _ _ _ hg hx
    exact⟨v,by rw[Addr.add_mk];simp only[World.cell?,hheap];rw[Nat.add_assoc];simpa using hv, .p hr⟩
  ·rename_i t' g m hl
   obtain⟨b',hb',l,hlm,hg,hlen,hszs,hcase⟩:=hM.blk _ _ hl
   rw[hb] at hb';cases hb'
   rcases hcase with ⟨_,rfl,_⟩|⟨_,_,vs,hheap,_,hcell,_⟩
   ·simp at hlen;omega
   ·refine i9 hT fun j x hx=>?_
    rw[List.getElem?_drop] at hx
    have hgd:=cr (d:=[]) (l:=l) (n:=i) (by omega)
    obtain⟨v,hv,hr⟩:=(hg i (by omega)).2 _ x hx
    have hu:(bj (l.getD i []))[o+j]? =some (.val v):=by unfold bj;rw[List.getElem?_map,hv];rfl
    obtain⟨v',hv',hr'⟩:=hcell _ _ _ _ hgd hu
    cases hr'
    exact⟨v,by rw[Addr.add_mk];simp only[World.cell?,hheap];rw[Nat.add_assoc];simpa using hv',hr⟩
  ·trivial
 ·trivial
end
end
section
section
variable {S:ag} {ρ:aw} {P:Program} {tt:TT} {w:World}
def fG (cells:List Value) (o:Nat) (cs:List Value):List Value:=cells.take o++(cs++cells.drop (o+cs.length))
theorem gI {α:Type _} {l cs:List α} {o:Nat} (h:o+cs.length<=l.length) (i:Nat):
  (l.take o++(cs++l.drop (o+cs.length)))[i]? =if i<o then l[i]? else if i<o+cs.length then cs[i-o]? else l[i]?:=by
 have hm:min o l.length=o:=by omega
 split
 ·rw[List.getElem?_append_left (by rw[List.length_take];omega),List.getElem?_take,if_pos (by assumption)]
 ·rw[List.getElem?_append_right (by rw[List.length_take];omega),List.length_take,hm]
  split
  ·rw[List.getElem?_append_left (by omega)]
  ·rw[List.getElem?_append_right (by omega),List.getElem?_drop]
   congr 1
   omega
theorem tw (xs:List Value):∀(k o:Nat) (arr:Array Value),o+k+xs.length<=arr.size->
  ((xs.zipIdx k).foldl (fun cs (p:Value×Nat)=>cs.setIfInBounds (o+p.2) p.1) arr).toList=fG arr.toList (o+k) xs:=by
 induction xs with
 |nil=>intro k o arr h;simp[fG]
 |cons x xs ih=>
  intro k o arr h
  simp only[List.length_cons] at h
  rw[List.zipIdx_cons,List.foldl_cons,ih (k+1) o _ (by simp;omega)]
  apply List.ext_getElem?
  intro i
  unfold fG
  rw[gI (by simp;omega),gI (by simp;omega)]
  simp only[Array.toList_setIfInBounds,List.length_cons]
  by_cases h1:i<o+k
  ·rw[if_pos (by omega),if_pos h1,List.getElem?_set_ne (by omega)]
  ·by_cases h2:i=o+k
   ·subst h2
    rw[if_pos (by omega),if_neg h1,if_pos (by omega),List.getElem?_set_self (by simp;omega)]
    simp
   ·rw[if_neg (by omega),if_neg h1]
    by_cases h3:i<o+k+(xs.length+1)
    ·rw[if_pos (by omega),if_pos h3,show i-(o+k)=(i-(o+(k+1)))+1 from by omega,List.getElem?_cons_succ]
    ·rw[if_neg (by omega),if_neg h3,List.getElem?_set_ne (by omega)]
theorem be.splice_ {vs:List Value} {us:List AV} (h:be S ρ vs us) {xs:List Value} {cs:List AV} (hx:be S ρ xs cs) (o:Nat):be S ρ (fG vs o xs) (fp us o cs):=by
 unfold fG fp
 have:=hx.1
 rw[this]
 exact(h.take o).append (hx.append (h.drop _))
theorem im {u:AV} {cs:List AV} (h:bP u=some cs) {v:Value} (hv:RV S ρ v u):be S ρ v.cells.toList cs/\(∀x,cs=[x]->u=x\/(∃y,u= .agg y)):=by
 have one:∀(v:Value),sR v=true->v.cells.toList=[v]:=by intro v hv;cases v<;>simp_all [sR,Value.cells]
 have mk:∀(u:AV) (v:Value),sR v=true->RV S ρ v u->be S ρ v.cells.toList [u]:=fun u v ho hv=>by rw[one v ho];exact be.cons hv (be.nil _ _)
 cases u with
 |agg y=>
  simp only[bP,Option.some.injEq] at h;subst h
  obtain⟨vs,rfl,hvs⟩:=hv.agg_inv
  exact⟨hvs,fun _ _=> .inr ⟨_,rfl⟩⟩
 |top=>simp[bP] at h
 |tup _=>simp[bP] at h
 |val x=>
  simp only[bP] at h
  split at h
  ·rename_i ho
   simp only[Option.some.injEq] at h;subst h
   have:=hv.val_inv
   subst this
   exact⟨mk _ _ ho hv,fun x hx=> .inl (by simpa using hx)⟩
  ·simp at h
 |int k n=>simp only[bP,Option.some.injEq] at h;subst h;exact⟨mk _ _ (by rw[hv.int_inv];rfl) hv,fun x hx=> .inl (by simpa using hx)⟩
 |bool b=>simp only[bP,Option.some.injEq] at h;subst h;exact⟨mk _ _ (by rw[hv.bool_inv];rfl) hv,fun x hx=> .inl (by simpa using hx)⟩
 |str b=>simp only[bP,Option.some.injEq] at h;subst h;exact⟨mk _ _ (by rw[hv.str_inv];rfl) hv,fun x hx=> .inl (by simpa using hx)⟩
 |nilsl=>simp only[bP,Option.some.injEq] at h;subst h;exact⟨mk _ _ (by rw[hv.nilsl_inv];rfl) hv,fun x hx=> .inl (by simpa using hx)⟩
 |sl d enc l=>simp only[bP,Option.some.injEq] at h;subst h;exact⟨mk _ _ (by obtain⟨b,c,rfl,_⟩:=pS hv.sl_inv;rfl) hv,fun x hx=> .inl (by simpa using hx)⟩
 |slc d enc l=>simp only[bP,Option.some.injEq] at h;subst h;exact⟨mk _ _ (by obtain⟨b,rfl,_⟩:=hv.slc_inv.slc_form;rfl) hv,fun x hx=> .inl (by simpa using hx)⟩
 |pd c=>simp only[bP,Option.some.injEq] at h;subst h;exact⟨mk _ _ (by cases hv.pd_inv;rfl) hv,fun x hx=> .inl (by simpa using hx)⟩
 |fn f c=>simp only[bP,Option.some.injEq] at h;subst h;exact⟨mk _ _ (by obtain⟨vs,rfl,_⟩:=hv.fn_inv;rfl) hv,fun x hx=> .inl (by simpa using hx)⟩
 |ptr a b=>simp only[bP,Option.some.injEq] at h;subst h;exact⟨mk _ _ (by obtain⟨b,_,rfl⟩:=hv.ptr_inv;rfl) hv,fun x hx=> .inl (by simpa using hx)⟩
 |row a b c=>simp only[bP,Option.some.injEq] at h;subst h;exact⟨mk _ _ (by obtain⟨b,_,_,_,_,rfl⟩:=hv.row_inv;rfl) hv,fun x hx=> .inl (by simpa using hx)⟩
 |rel a b c=>simp only[bP,Option.some.injEq] at h;subst h;exact⟨mk _ _ (by obtain⟨b,_,_,rfl⟩:=hv.rel_inv;rfl) hv,fun x hx=> .inl (by simpa using hx)⟩
 |part a b c d=>simp only[bP,Option.some.injEq] at h;subst h;exact⟨mk _ _ (by obtain⟨b,_,_,_,_,_,_,_,rfl⟩:=hv.part_inv;rfl) hv,fun x hx=> .inl (by simpa using hx)⟩
 |mp a=>simp only[bP,Option.some.injEq] at h;subst h;exact⟨mk _ _ (by obtain⟨b,_,rfl⟩:=hv.mp_inv;rfl) hv,fun x hx=> .inl (by simpa using hx)⟩
theorem jE (v:Value):RP S v (db v):=by
 unfold db
 split<;>first|exact .int _ _|exact .bool _|exact .str _|exact .nilsl|exact .val _
theorem ep (z:List Value):be S ρ z (z.map db):=
 ⟨by simp,fun i u hu=>by
  rw[List.getElem?_map] at hu
  obtain⟨v,hv,rfl⟩:=Option.map_eq_some_iff.1 hu
  exact⟨v,hv, .p (jE v)⟩⟩
theorem ws (hT:aW P tt=true) {fs:List (Nat×TypeId)} {place:Nat->Option (Nat×Nat)}
  (hp:∀i o ft,Gy fs i=some (o,ft)->place i=some (o,P.cellsOf ft)):
  ∀(is:List Nat) (us:List AV) (cells:List AV) (arr:Array Value) (vs:List Value),be S ρ arr.toList cells->be S ρ vs us->∀cs,pn tt fs is us cells=some cs->
   ∃arr',Instr.fill place arr (is.zip vs)=some arr'/\be S ρ arr'.toList cs:=by
 intro is
 induction is with
 |nil=>
  intro us cells arr vs harr hvs cs h
  cases us with
  |nil=>simp only[pn,Option.some.injEq] at h;subst h;exact⟨arr,by simp[Instr.fill],harr⟩
  |cons u us=>simp[pn] at h
 |cons i is ih=>
  intro us cells arr vs harr hvs cs h
  cases us with
  |nil=>simp[pn] at h
  |cons u us=>
   obtain⟨v,vs,rfl,hv,hvs⟩:=hvs.cons_inv
   simp only[pn] at h
   split at h
   ·rename_i o ft hn
    split at h
    ·rename_i xs x hxs hx
     split at h
     ·rename_i h1 h2
      have h1:=Nat.eq_of_beq_eq_true h1
      have h2:=Nat.le_of_ble_eq_true h2
      obtain⟨hc,_⟩:=im hxs hv
      obtain⟨y,z,hy,hy1,_⟩:=TOk.info hT hx
      have hcell:P.cellsOf ft=x.size:=by simp[Program.cellsOf,hy,hy1]
      have hl1:=hc.1
      have hl2:=harr.1
      simp only[Array.length_toList] at hl1 hl2
      have hset:=tw v.cells.toList 0 o arr (by simp;omega)
      simp only[Nat.add_zero] at hset
      obtain⟨arr',hf,hr⟩:=ih us _ (v.cells.zipIdx.foldl (fun cs (p:Value×Nat)=>cs.setIfInBounds (o+p.2) p.1) arr) vs (by
       have e:(v.cells.zipIdx.foldl (fun cs (p:Value×Nat)=>cs.setIfInBounds (o+p.2) p.1) arr).toList=fG arr.toList o v.cells.toList:=by
        rw[<-hset,<-Array.foldl_toList,Array.toList_zipIdx]
       rw[e]
       exact harr.splice_ hc o) hvs cs h
      refine⟨arr',?_,hr⟩
      simp only[List.zip_cons_cons,Instr.fill,hp _ _ _ hn]
      rw[if_neg (by simp;omega)]
      exact hf
     ·simp at h
    ·simp at h
   ·simp at h
theorem mz {α β:Type} (g:α->Sem β) (h:α->β):∀(l:List α),(∀a∈l,(g a).run P w= .ok (h a) w)->(l.mapM g).run P w= .ok (l.map h) w
 |[],_=>by simp
 |a::l,hl=>by
  have h1:=hl a (by simp)
  have h2:=mz g h l (fun b hb=>hl b (by simp[hb]))
  simp[List.mapM_cons,h1,h2]
theorem wt {e:TypeId} {sz:Nat}:∀{n o i k:Nat} {ft:TypeId},Gy (yP e sz n o) i=some (k,ft)->k=(o+i)*sz/\ft=e
 |0,o,i,k,ft,h=>by rw[yP,kZ] at h;simp at h
 |n+1,o,0,k,ft,h=>by rw[yP,kZ] at h;simp at h;exact⟨h.1.symm,h.2.symm⟩
 |n+1,o,i+1,k,ft,h=>by
  rw[yP,kZ] at h
  rw[List.getElem?_cons_succ,<-kZ] at h
  obtain⟨a,b⟩:=wt h
  exact⟨by rw[a,Nat.add_assoc,Nat.add_comm 1 i],b⟩
theorem yT (hT:aW P tt=true) {t:TypeId} {is:List Nat} {us:List AV} {vs:List Value} (hvs:be S ρ vs us):
  dg S ρ P w (Instr.build t (is.zip vs).toArray) (uM tt t is us):=by
 unfold uM
 split
 ·rename_i sz by_ fs q z ht
  obtain⟨gs,hgs,he,hpos⟩:=TOk.struct hT ht
  obtain⟨x,zv,hx,_,_,hz,hzc,hag,_⟩:=TOk.info hT ht
  split
  ·rename_i cs hf
   have hplaces:(gs.mapM fun(f:Field)=>do pure (f.offset,<-Go.sizeOf f.type):Sem _).run P w= .ok (gs.map fun(f:Field)=>(f.offset,P.cellsOf f.type)) w:=by
    rw[Array.mapM_eq_mapM_toList]
    have:=mz (P:=P) (w:=w) (fun f:Field=>do pure (f.offset,<-Go.sizeOf f.type)) (fun f=>(f.offset,P.cellsOf f.type)) gs.toList (fun f hf=>by
     obtain⟨_,y,hy⟩:=hpos f hf
     simp[run_sizeOf w hy])
    rw[Sem.run_map,this]
    simp only[Result.andThen_ok]
    congr 1
    apply Array.ext'
    simp
   obtain⟨arr',h1,h2⟩:=ws (S:=S) (ρ:=ρ) hT (fs:=fs) (place:=fun i=>(gs.map fun(f:Field)=>(f.offset,P.cellsOf f.type))[i]?) (fun i o ft hn=>by
    rw[kZ,<-he,List.getElem?_map] at hn
    obtain⟨g,hg,hgo⟩:=Option.map_eq_some_iff.1 hn
    injection hgo with ho ht'
    subst ho;subst ht'
    have hg':gs[i]? =some g:=by simpa using hg
    simp[hg']) is us _ zv.cells vs (by rw[hzc];exact ep z) hvs cs hf
   refine⟨.agg arr',?_,?_⟩
   ·simp only[Instr.build,zeroValue,typeInfo,Sem.run_bind,run_program,Result.andThen_ok,hx,Sem.run_pure,hz,run_underlying hgs,hplaces,List.toList_toArray,h1]
   ·have:=RV.agg_mk h2
    simpa using this
  ·trivial
 ·rename_i sz by_ n e z ht
  obtain⟨x,zv,hx,_,_,hz,hzc,hag,_⟩:=TOk.info hT ht
  split
  ·rename_i xe he
   obtain⟨y,yz,hy,hy1,_⟩:=TOk.info hT he
   have hcell:P.cellsOf e=xe.size:=by simp[Program.cellsOf,hy,hy1]
   split
   ·rename_i cs hf
    obtain⟨arr',h1,h2⟩:=ws (S:=S) (ρ:=ρ) hT (fs:=yP e xe.size n 0) (place:=fun i=>some (i*P.cellsOf e,P.cellsOf e)) (fun i o ft hn=>by
     obtain⟨rfl,rfl⟩:=wt hn
     rw[hcell,Nat.zero_add]) is us _ zv.cells vs (by rw[hzc];exact ep z) hvs cs hf
    refine⟨.agg arr',?_,?_⟩
    ·simp only[Instr.build,zeroValue,typeInfo,Sem.run_bind,run_program,Result.andThen_ok,hx,Sem.run_pure,hz,run_underlying (TOk.array hT ht),run_sizeOf w hy,List.toList_toArray]
     rw[h1]
     rfl
    ·have:=RV.agg_mk h2
     simpa using this
   ·trivial
  ·trivial
 ·trivial
theorem JB (hT:aW P tt=true) (hG:Gl S) (ev:Operand->Value) (o:Oper) {us:List AV} (hu:be S ρ ((bh o.op).map ev) us):yQ S ρ P w (execOp ev o) (po tt o.op us):=by
 obtain⟨dst,op,ty,ps,af,gd⟩:=o
 have inv1:∀{x:Operand} {us:List AV},be S ρ ([x].map ev) us->∃u,us=[u]/\RV S ρ (ev x) u:=by
  intro x us h
  cases us with
  |nil=>simp[be] at h
  |cons u us=>
   obtain⟨v,vs,e,hv,hvs⟩:=h.cons_inv
   simp only[List.map_cons,List.map_nil,List.cons.injEq] at e
   obtain⟨rfl,rfl⟩:=e
   have h0:us=[]:=List.eq_nil_of_length_eq_zero (by have:=hvs.1;simpa using this.symm)
   subst h0
   exact⟨u,rfl,hv⟩
 have inv2:∀{x y:Operand} {us:List AV},be S ρ ([x,y].map ev) us->∃u v,us=[u,v]/\RV S ρ (ev x) u/\RV S ρ (ev y) v:=by
  intro x y us h
  cases us with
  |nil=>simp[be] at h
  |cons u us=>
   obtain⟨v,vs,e,hv,hvs⟩:=h.cons_inv
   simp only[List.map_cons,List.map_nil,List.cons.injEq] at e
   obtain⟨rfl,rfl⟩:=e
   obtain⟨u',rfl,hu'⟩:=inv1 (x:=y) hvs
   exact⟨u,u',rfl,hv,hu'⟩
 have inv3:∀{x y z:Operand} {us:List AV},be S ρ ([x,y,z].map ev) us->∃u v r,us=[u,v,r]/\RV S ρ (ev x) u/\RV S ρ (ev y) v/\RV S ρ (ev z) r:=by
  intro x y z us h
  cases us with
  |nil=>simp[be] at h
  |cons u us=>
   obtain⟨v,vs,e,hv,hvs⟩:=h.cons_inv
   simp only[List.map_cons,List.map_nil,List.cons.injEq] at e
   obtain⟨rfl,rfl⟩:=e
   obtain⟨u',u'',rfl,hu',hu''⟩:=inv2 (x:=y) (y:=z) hvs
   exact⟨u,u',u'',rfl,hv,hu',hu''⟩
 cases op with
 |move x=>obtain⟨u,rfl,h⟩:=inv1 (x:=x) hu;exact⟨ev x,rfl,h⟩
 |assign x=>obtain⟨u,rfl,h⟩:=inv1 (x:=x) hu;exact⟨ev x,rfl,h⟩
 |pick c a b=>
  obtain⟨u,v,r,rfl,h1,h2,h3⟩:=inv3 (x:=c) (y:=a) (z:=b) hu
  simp only[po]
  split
  ·rename_i e;simp only[List.cons.injEq] at e;obtain⟨rfl,rfl,rfl,_⟩:=e
   exact⟨ev a,by simp[execOp,h1.bool_inv,asBool],h2⟩
  ·rename_i e;simp only[List.cons.injEq] at e;obtain⟨rfl,rfl,rfl,_⟩:=e
   exact⟨ev b,by simp[execOp,h1.bool_inv,asBool],h3⟩
  ·trivial
 |binOp op t x y yt=>obtain⟨u,v,rfl,h1,h2⟩:=inv2 (x:=x) (y:=y) hu;exact(DD hT op t x y h1 h2).next
 |unOp op t x=>obtain⟨u,rfl,h⟩:=inv1 (x:=x) hu;exact(GK op h).next
 |convert s d x=>
  obtain⟨u,rfl,h⟩:=inv1 (x:=x) hu
  simp only[po]
  cases hs:tt.find s with
  |none=>trivial
  |some i=>exact(BD hT hs h).next
 |fieldAddr s x f=>obtain⟨u,rfl,h⟩:=inv1 (x:=x) hu;exact(qx hT h).next
 |field s x f=>obtain⟨u,rfl,h⟩:=inv1 (x:=x) hu;exact(yR hT h).next
 |indexAddr t x i=>obtain⟨u,v,rfl,h1,h2⟩:=inv2 (x:=x) (y:=i) hu;exact(qy hT hG h1 h2).next
 |index t x i=>obtain⟨u,v,rfl,h1,h2⟩:=inv2 (x:=x) (y:=i) hu;exact(yS hT h1 h2).next
 |nilCheck x=>obtain⟨u,rfl,h⟩:=inv1 (x:=x) hu;exact sS h
 |extract x i=>obtain⟨u,rfl,h⟩:=inv1 (x:=x) hu;exact(uO h).next
 |slice t x lo hi mx=>
  cases mx with
  |some m=>
   cases lo with
   |some a=>simp only[po];trivial
   |none=>
    cases hi with
    |none=>simp only[po];trivial
    |some b=>
     obtain⟨u,v,r,rfl,h1,h2,h3⟩:=inv3 (x:=x) (y:=b) (z:=m) hu
     exact(wr hT h1 h2 h3).next
  |none=>
   cases lo with
   |none=>
    cases hi with
    |none=>
     obtain⟨u,rfl,h⟩:=inv1 (x:=x) hu
     exact(ka hT h none none none none (by simp) (by simp) (by simp) (by simp)).next
    |some b=>
     obtain⟨u,v,rfl,h1,h2⟩:=inv2 (x:=x) (y:=b) hu
     exact(ka hT h1 none (some v) none (some (ev b)) (by simp) (by simp) (fun x e=>⟨ev b,rfl,by simp at e;subst e;exact h2⟩) (by simp)).next
   |some a=>
    cases hi with
    |none=>
     obtain⟨u,v,rfl,h1,h2⟩:=inv2 (x:=x) (y:=a) hu
     exact(ka hT h1 (some v) none (some (ev a)) none (fun x e=>⟨ev a,rfl,by simp at e;subst e;exact h2⟩) (by simp) (by simp) (by simp)).next
    |some b=>
     obtain⟨u,v,r,rfl,h1,h2,h3⟩:=inv3 (x:=x) (y:=a) (z:=b) hu
     exact(ka hT h1 (some v) (some r) (some (ev a)) (some (ev b)) (fun x e=>⟨ev a,rfl,by simp at e;subst e;exact h2⟩) (by simp) (fun x e=>⟨ev b,rfl,by simp at e;subst e;exact h3⟩) (by simp)).next
 |build t ps=>
  have hz:((ps.toList.map (·.1)).zip ((ps.toList.map (·.2)).map ev)).toArray=ps.map fun(i,x)=>(i,ev x):=by
   apply Array.ext'
   simp only[List.toList_toArray,Array.toList_map,List.map_map]
   rw[List.zip_map',]
   rfl
  have:=yT (P:=P) (w:=w) (t:=t) (is:=ps.toList.map (·.1)) (vs:=(ps.toList.map (·.2)).map ev) hT hu
  rw[hz] at this
  exact this.next
 |makeFunc fn fst caps=>
  cases fn with
  |func f=>
   simp only[po]
   split
   ·rename_i hf
    have:fst=#[]:=by cases fst;simp_all
    subst this
    have h2:=RV.fn_mk f hu
    refine⟨_,by simp[execOp,Instr.makeFunc];rfl,?_⟩
    have e:(List.map ev (bh (.makeFunc (.func f) #[] caps))).toArray=caps.map ev:=by apply Array.ext';simp[bh]
    rw[e] at h2
    exact h2
   ·trivial
  |_=>trivial
 |call c=>
  obtain⟨callee,args,tys⟩:=c
  cases callee with
  |builtin b=>
   cases b with
   |len=>
    simp only[po]
    split
    ·rename_i t x ht
     have ht:tys=#[t]:=by cases tys;simp_all
     subst ht
     obtain⟨v,vs,e,hv,hvs⟩:=hu.cons_inv
     have hvs0:=hvs.nil_inv
     subst hvs0
     have:args.map ev=#[v]:=by apply Array.ext';simpa[bh] using e
     have h2:=(DE (P:=P) (w:=w) (t:=t) (ty:=ty) hT hv).next
     unfold execOp
     simp only[resolve,this]
     simpa[invoke,builtin] using h2
    ·trivial
   |cap=>
    simp only[po]
    split
    ·rename_i t x ht
     have ht:tys=#[t]:=by cases tys;simp_all
     subst ht
     obtain⟨v,vs,e,hv,hvs⟩:=hu.cons_inv
     have hvs0:=hvs.nil_inv
     subst hvs0
     have:args.map ev=#[v]:=by apply Array.ext';simpa[bh] using e
     have h2:=(DF (P:=P) (w:=w) (t:=t) (ty:=ty) hT hv).next
     unfold execOp
     simp only[resolve,this]
     simpa[invoke,builtin] using h2
    ·trivial
   |max=>
    simp only[po]
    split
    ·rename_i k a k' b
     obtain⟨v,vs,e,hv,hvs⟩:=hu.cons_inv
     obtain⟨v',vs',e',hv',hvs'⟩:=hvs.cons_inv
     have hvs0:=hvs'.nil_inv
     subst hvs0
     subst e'
     cases hv.int_inv;cases hv'.int_inv
     have:args.map ev=#[.int k a, .int k' b]:=by apply Array.ext';simpa[bh] using e
     refine⟨.int k (if b>a then b else a),?_, .p (.int _ _)⟩
     simp[execOp,resolve,this,invoke,builtin,Builtin.max_,Builtin.max2]
    ·trivial
   |min=>
    simp only[po]
    split
    ·rename_i k a k' b
     obtain⟨v,vs,e,hv,hvs⟩:=hu.cons_inv
     obtain⟨v',vs',e',hv',hvs'⟩:=hvs.cons_inv
     have hvs0:=hvs'.nil_inv
     subst hvs0
     subst e'
     cases hv.int_inv;cases hv'.int_inv
     have:args.map ev=#[.int k a, .int k' b]:=by apply Array.ext';simpa[bh] using e
     refine⟨.int k (if b<a then b else a),?_, .p (.int _ _)⟩
     simp[execOp,resolve,this,invoke,builtin,Builtin.min_,Builtin.min2]
    ·trivial
   |_=>trivial
  |_=>trivial
 |_=>trivial
theorem iB {F:ag} {M:ai} (hT:aW P tt=true) (hM:ax S F ρ M w) (ev:Operand->Value) (o:Oper) {us:List AV} (hu:be S ρ ((bh o.op).map ev) us):yQ S ρ P w (execOp ev o) (pR tt o.op us M):=by
 unfold pR
 split
 ·rename_i t x hx
  split
  ·rename_i u
   rw[hx] at hu
   obtain⟨v,vs,e,hv,hvs⟩:=hu.cons_inv
   have hvs0:=hvs.nil_inv
   subst hvs0
   simp only[bh,List.map_cons,List.map_nil,List.cons.injEq,and_true] at e
   subst e
   have:=(tv (t:=t) hT hM hv).next
   unfold execOp
   rw[hx]
   exact this
  ·trivial
 ·exact JB hT hM.gl ev o hu
end
end
end Go.Proofs.YtokjgegkhlkopaaGreatDoor
