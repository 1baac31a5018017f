import Derived.Test.YtekmminpfhacpaaGreatDoorX3
import Derived.Test.YtekmminpfhacpaaGreatDoorY4
set_option linter.unusedVariables false
set_option linter.unusedSimpArgs false
namespace Go.Proofs.YtekmminpfhacpaaGreatDoor
section
open Go.ChangeShapes Go.WideShapes Go.ChangeAt Go.RowKit
structure Fl where
 sch:List Int
 case_:Int
 nodes:List dW
def je:Fl:=⟨[],0,[]⟩
def uz (x:Fl):List AV:=[.sl 0 al x.sch, .int .i64 x.case_, .sl an aK x.nodes]
section
variable {S:ai}
end
def O' (x:Fl):Prop:=x.sch.length<=140737488355328/\HF x.nodes
def DB (l:List Fl):Prop:=l.length<=140737488355328/\∀x∈l,O' x
end
section
set_option maxRecDepth 100000
set_option maxHeartbeats 32000000
theorem wt {a b:List Int} (hl:a.length=b.length) (h:∀i,i<a.length->a.getD i 0=b.getD i 0):a=b:=by
 apply List.ext_getElem hl
 intro i h1 h2
 have:=h i h1
 rwa [ap 0 h1,ap 0 h2] at this
theorem Kz (a b:List Int) (ha:a.length<=140737488355328) (hb:b.length<=140737488355328):ah Tryz.prog 61 [.sl 0 al a, .sl 0 al b] (fun u=>u= .bool (decide (a=b))):=by
 refine ah.intro ab ac Tryz.func61 rfl (by decide) ?_;(conv=>whnf)
 refine ae ?_ ?_<;>(intro h;conv=>whnf)
 ·exact⟨aA (fun e=>h (by rw[e])),rfl⟩
 have hl:a.length=b.length:=by omega
 refine aJ.loopF ab ac (fun k:Nat=>k<=a.length/\∀i,i<k->a.getD i 0=b.getD i 0) (fun k=>[(13, .int .i64 (k:Int))]) (fun _=>[]) (fun k=>a.length-k) 0 ⟨Nat.zero_le _,fun j hj=>absurd hj (Nat.not_lt_zero _)⟩ ?_;conv=>whnf
 refine⟨sI,?_⟩
 rintro k ⟨hk,hs⟩
 conv=>whnf
 refine ae ?_ ?_<;>(intro h1;conv=>whnf)
 ·refine dI ?_
  conv=>whnf
  refine nI ?_
  rw[tN]
  conv=>whnf
  refine nI ?_
  rw[tN]
  conv=>whnf
  refine ae ?_ ?_<;>(intro h2;conv=>whnf)
  ·exact⟨aA (fun e=>h2 (by rw[e])),rfl⟩
  ·repeat' ((first|refine nI ?_|refine aI ?_|refine uI ?_|refine vI ?_|refine dI ?_|refine dR ?_|refine dP ?_|refine au rfl ?_|refine pI _ rfl ?_|refine ak _ rfl ?_|refine tI ?_|refine fI ?_|refine ae (fun _=>?_) (fun _=>?_))<;>conv=>whnf)
   refine⟨k+1,sI,⟨by omega,fun i hi=>?_⟩,by dsimp only;omega⟩
   by_cases e:i=k
   ·subst e;exact Classical.not_not.1 h2
   ·exact hs i (by omega)
 ·obtain rfl:k=a.length:=by omega
  exact⟨bE (wt hl hs),rfl⟩
theorem KA (a b:List Int) (ha:a.length<=140737488355328) (hb:b.length<=140737488355328):ah Tryz.prog 59 [.sl 0 al a, .sl 0 al b] (fun u=>u= .bool (decide (a=b))):=by
 refine ah.intro ab ac Tryz.func59 rfl (by decide) ?_;(conv=>whnf)
 refine ae ?_ ?_<;>(intro h;conv=>whnf)
 ·exact⟨aA (fun e=>h (by rw[e])),rfl⟩
 have hl:a.length=b.length:=by omega
 refine aJ.loopF ab ac (fun k:Nat=>k<=a.length/\∀i,i<k->a.getD i 0=b.getD i 0) (fun k=>[(5, .int .i64 (k:Int))]) (fun _=>[]) (fun k=>a.length-k) 0 ⟨Nat.zero_le _,fun j hj=>absurd hj (Nat.not_lt_zero _)⟩ ?_;conv=>whnf
 refine⟨sI,?_⟩
 rintro k ⟨hk,hs⟩
 conv=>whnf
 refine ae ?_ ?_<;>(intro h1;conv=>whnf)
 ·refine dI ?_
  conv=>whnf
  refine nI ?_
  rw[tN]
  conv=>whnf
  refine nI ?_
  rw[tN]
  conv=>whnf
  refine ae ?_ ?_<;>(intro h2;conv=>whnf)
  ·exact⟨aA (fun e=>h2 (by rw[e])),rfl⟩
  ·repeat' ((first|refine nI ?_|refine aI ?_|refine uI ?_|refine vI ?_|refine dI ?_|refine dR ?_|refine dP ?_|refine au rfl ?_|refine pI _ rfl ?_|refine ak _ rfl ?_|refine tI ?_|refine fI ?_|refine ae (fun _=>?_) (fun _=>?_))<;>conv=>whnf)
   refine⟨k+1,sI,⟨by omega,fun i hi=>?_⟩,by dsimp only;omega⟩
   by_cases e:i=k
   ·subst e;exact Classical.not_not.1 h2
   ·exact hs i (by omega)
 ·obtain rfl:k=a.length:=by omega
  exact⟨bE (wt hl hs),rfl⟩
theorem DC (k:Nat):∀(m:Nat) (at_:List Int),dS k at_->∀a∈oe k m at_,dS k a
 |0,at_,h,a,ha=>by
  rw[oe,List.mem_singleton] at ha
  subst ha;exact h
 |m+1,at_,h,a,ha=>by
  rw[oe] at ha
  rcases List.mem_cons.1 ha with rfl|ha
  ·exact h
  ·obtain⟨i,hi,ha⟩:=List.mem_flatMap.1 ha
   have hi:=List.mem_range.1 hi
   split at ha
   ·cases ha
   ·rename_i hn
    exact DC k m _ (pu h hi hn) a ha
theorem cN (p:av) {i:Nat} (h:i<(aO p).length):dS (ay p.rules).length ((aO p).getD i []):=DC _ _ _ (tW _) _ (bu [] h)
theorem xY (p:av) (q:aP):0<db p q:=by
 unfold db
 split
 ·exact CH _ _
 ·omega
def uU (p:av) (q:aP) (l:List Fl) (i:Nat):Prop:=
 ((l.getD i je).case_=((i % db p q:Nat):Int)/\(l.getD i je).sch=(aO p).getD (i / db p q) [])/\qG (gg p q ((aO p).getD (i / db p q) []) ((i % db p q:Nat):Int)) (l.getD i je).nodes
def Af (p:av) (q:aP) (l:List Fl):Prop:=(dq p q=0/\l.length=(aO p).length*db p q)/\∀i,i<l.length->uU p q l i
noncomputable instance decAcc (p:av) (q:aP) (l:List Fl):Decidable (Af p q l):=Classical.propDecidable _
theorem DD {l:List Fl} (h:DB l) {i:Nat} (hi:i<l.length):O' (l.getD i je):=h.2 _ (bu je hi)
theorem mU {p:av} (hv:aX p=0):(aO p).length<=64:=by
 have hT:=(aN hv).thr
 have a:=xo (ay p.rules).length (ay p.rules).length []
 have b:=BA (k:=(ay p.rules).length) (m:=(ay p.rules).length) hT hT
 unfold aO
 omega
theorem Ip {c:Prop} {n m:Int} {K:Int->Prop} (e:n=m) (hc:c) (h:-9223372036854775808<=m/\m<=9223372036854775807) (h':K m):kT c .i64 n K:=by subst e;exact nK hc h h'
theorem Ag {c:Prop} {u u':AV} {K:AV->Prop} (h:c) (e:u=u') (hk:gX u' K):iv c (gX u K):=by subst e;exact bg h hk
theorem KB (p:av) (q:aP) (hp:lO p) (hq:rS q) (l:List Fl) (hl:DB l):ah Tryz.prog 17 [.agg (cV p), .agg (eO q), .sl je uz l] (fun u=>u= .bool (decide (Af p q l))):=by
 have hl1:=hl.1
 refine ah.intro ab ac Tryz.func17 rfl (by decide) ?_;(conv=>whnf)
 refine au rfl ?_
 conv=>whnf
 refine au rfl ?_
 conv=>whnf
 refine aj.of_pure (n:=5) (tS p q hp hq) (by rfl) ?_
 rintro _ rfl
 by_cases h0:dq p q=0
 rotate_left
 ·rw[gz rfl h0]
  conv=>whnf
  refine cO h0 ?_
  conv=>whnf
  exact⟨aA (fun hh=>h0 hh.1.1),rfl⟩
 rw[ja h0]
 have hq0:=du h0
 have hv:=(aW hq0).vld
 have hT:=(aN hv).thr
 have hcs:=om h0
 have hc0:=xY p q
 have hsl:=mU hv
 have hS:=tX p q (by omega)
 have hD:Af p q l↔(l.length=(aO p).length*db p q/\∀i,i<l.length->uU p q l i):=⟨fun h=>⟨h.1.2,h.2⟩,fun h=>⟨⟨h0,h.1⟩,h.2⟩⟩
 have hm:(aO p).length*db p q<=64*64:=Nat.mul_le_mul hsl (by omega)
 have hmz:((aO p).length:Int)*(db p q:Int)=(((aO p).length*db p q:Nat):Int):=by push_cast;rfl
 have hB:=fun(a b:Nat) (ha:a<(aO p).length) (hb:b<=64)=>BF p q hq0 ((aO p).getD a []) (cN p ha) (b:Int) (by omega)
 have hC:=fun(a b:Nat) (ha:a<(aO p).length) (nodes:List dW) (ho:HF nodes)=>qM (gg p q ((aO p).getD a []) (b:Int)) nodes (qH (nl hq0 (cN p ha) (b:Int))) ho
 have hlen:=fun(a:Nat) (ha:a<(aO p).length)=>cu (cN p ha)
 conv=>whnf
 refine fI ?_
 conv=>whnf
 (refine oP (hS) ?_;conv=>whnf)
 refine Ip hmz trivial (by omega) ?_
 conv=>whnf
 refine ae ?_ ?_<;>(intro h;conv=>whnf)
 ·exact⟨aA (fun hh=>h (by rw[(hD.1 hh).1])),rfl⟩
 have hll:l.length=(aO p).length*db p q:=by omega
 refine aJ.loopF ab ac (fun k:Nat=>k<=l.length/\∀i,i<k->uU p q l i) (fun k=>[(36, .int .i64 (k:Int))]) (fun _=>[]) (fun k=>l.length-k) 0 ⟨Nat.zero_le _,fun j hj=>absurd hj (Nat.not_lt_zero _)⟩ ?_;conv=>whnf
 refine⟨sI,?_⟩
 rintro k ⟨hk,hs⟩
 conv=>whnf
 refine ae ?_ ?_<;>(intro h1;conv=>whnf)
 ·have hlt:k<l.length:=by omega
  obtain⟨a,ha⟩:∃a,a=k / db p q:=⟨_,rfl⟩
  obtain⟨b,hb⟩:∃b,b=k % db p q:=⟨_,rfl⟩
  have hI:uU p q l k↔(((l.getD k je).case_=(b:Int)/\(l.getD k je).sch=(aO p).getD a [])/\qG (gg p q ((aO p).getD a []) (b:Int)) (l.getD k je).nodes):=by rw[ha,hb];exact Iff.rfl
  have hal:a<(aO p).length:=by rw[ha];exact Nat.div_lt_of_lt_mul (by rw[Nat.mul_comm];omega)
  have hbl:b<db p q:=by rw[hb];exact Nat.mod_lt _ hc0
  have eq1:((k:Int).tdiv (db p q:Int))=(a:Int):=by rw[ha];rfl
  have eq2:AV.int .i64 ((k:Int).tmod (db p q:Int))= .int .i64 (b:Int):=by rw[hb];rfl
  have hok:=DD hl hlt
  have hno:¬uU p q l k->¬Af p q l:=fun h hh=>h (hh.2 k hlt)
  have hB:=hB a b hal (by omega)
  have hC:=hC a b hal (l.getD k je).nodes hok.2
  have hE:=Kz (l.getD k je).sch ((aO p).getD a []) hok.1 (by have:=hlen a hal;omega)
  unfold mG gg at hC
  dsimp only at hC
  refine nI ?_
  rw[tN]
  conv=>whnf
  refine dI ?_
  conv=>whnf
  refine Ip eq1 (by omega) (by omega) ?_
  conv=>whnf
  refine nI ?_
  rw[tN]
  conv=>whnf
  refine Ag (by omega) eq2 ?_
  conv=>whnf
  refine dI ?_
  conv=>whnf
  refine ae ?_ ?_<;>(intro h2;conv=>whnf)
  ·exact⟨aA (hno fun hh=>h2 (hI.1 hh).1.1),rfl⟩
  refine dD (hE) (fun _=>?_) (fun _=>?_)<;>(conv=>whnf)
  case refine_2=>rename_i h3;exact⟨aA (hno fun hh=>h3 (hI.1 hh).1.2),rfl⟩
  rename_i h3
  (refine oC (hB) ?_;conv=>whnf)
  refine dD (hC) (fun _=>?_) (fun _=>?_)<;>(conv=>whnf)
  case refine_2=>rename_i h4;exact⟨aA (hno fun hh=>h4 (hI.1 hh).2),rfl⟩
  rename_i h4
  repeat' ((first|refine nI ?_|refine aI ?_|refine uI ?_|refine vI ?_|refine dI ?_|refine dR ?_|refine dP ?_|refine au rfl ?_|refine pI _ rfl ?_|refine ak _ rfl ?_|refine tI ?_|refine fI ?_|refine ae (fun _=>?_) (fun _=>?_))<;>conv=>whnf)
  refine⟨k+1,sI,⟨by omega,fun i hi=>?_⟩,by dsimp only;omega⟩
  by_cases e:i=k
  ·subst e;exact hI.2 ⟨⟨Classical.not_not.1 h2,h3⟩,h4⟩
  ·exact hs i (by omega)
 ·obtain rfl:k=l.length:=by omega
  exact⟨bE (hD.2 ⟨hll,hs⟩),rfl⟩
theorem KC (p:av) (q:aP) (hp:lO p) (hq:rS q) (l:List Fl) (hl:DB l):ah Tryz.prog 16 [.agg (cV p), .agg (eO q), .sl je uz l] (fun u=>u= .bool (decide (Af p q l))):=by
 have hl1:=hl.1
 have hSR:=zq p q hp hq
 refine ah.intro ab ac Tryz.func16 rfl (by decide) ?_;(conv=>whnf)
 refine au rfl ?_
 conv=>whnf
 refine au rfl ?_
 conv=>whnf
 by_cases h0:dq p q=0
 rotate_left
 ·rw[xp h0] at hSR
  (refine oP (hSR) ?_;conv=>whnf)
  refine cO h0 ?_
  conv=>whnf
  exact⟨aA (fun hh=>h0 hh.1.1),rfl⟩
 rw[tV h0] at hSR
 have hq0:=du h0
 have hv:=(aW hq0).vld
 have hT:=(aN hv).thr
 have hcs:=om h0
 have hc0:=xY p q
 have hsl:=mU hv
 have hD:Af p q l↔(l.length=(aO p).length*db p q/\∀i,i<l.length->uU p q l i):=⟨fun h=>⟨h.1.2,h.2⟩,fun h=>⟨⟨h0,h.1⟩,h.2⟩⟩
 have hm:(aO p).length*db p q<=64*64:=Nat.mul_le_mul hsl (by omega)
 have hmz:((aO p).length:Int)*(db p q:Int)=(((aO p).length*db p q:Nat):Int):=by push_cast;rfl
 have hlen:=fun(a:Nat) (ha:a<(aO p).length)=>cu (cN p ha)
 have hB:=fun(a b:Nat) (ha:a<(aO p).length) (hb:b<db p q)=>B7 p q hp hq ((aO p).getD a []) (by have:=hlen a ha;omega) (b:Int)
 have hBe:=fun(a b:Nat) (ha:a<(aO p).length) (hb:b<db p q)=>(show xt p q ((aO p).getD a []) (b:Int)= .tup [.agg [.int .i64 (az p q ((aO p).getD a [])).length, .sl ar aw (gy p q ((aO p).getD a []) (b:Int))], .int .i64 0] by
  rw[xt,if_neg (by omega),if_neg]
  rintro(hh|hh|hh)
  ·exact hh (cN p ha)
  ·omega
  ·omega)
 have hC:=fun(a b:Nat) (ha:a<(aO p).length) (nodes:List dW) (ho:HF nodes)=>qT (gg p q ((aO p).getD a []) (b:Int)) nodes (qH (nl hq0 (cN p ha) (b:Int))) ho
 (refine oP (hSR) ?_;conv=>whnf)
 repeat' ((first|refine nI ?_|refine aI ?_|refine tI ?_|refine fI ?_|fail);conv=>whnf)
 (refine oP (xl p q hv) ?_;conv=>whnf)
 refine Ip hmz trivial (by omega) ?_
 conv=>whnf
 refine ae ?_ ?_<;>(intro h;conv=>whnf)
 ·exact⟨aA (fun hh=>h (by rw[(hD.1 hh).1])),rfl⟩
 have hll:l.length=(aO p).length*db p q:=by omega
 refine aJ.loopF ab ac (fun k:Nat=>k<=l.length/\∀i,i<k->uU p q l i) (fun k=>[(10, .int .i64 (k:Int))]) (fun _=>[]) (fun k=>l.length-k) 0 ⟨Nat.zero_le _,fun j hj=>absurd hj (Nat.not_lt_zero _)⟩ ?_;conv=>whnf
 refine⟨sI,?_⟩
 rintro k ⟨hk,hs⟩
 conv=>whnf
 refine ae ?_ ?_<;>(intro h1;conv=>whnf)
 ·have hlt:k<l.length:=by omega
  obtain⟨a,ha⟩:∃a,a=k / db p q:=⟨_,rfl⟩
  obtain⟨b,hb⟩:∃b,b=k % db p q:=⟨_,rfl⟩
  have hI:uU p q l k↔(((l.getD k je).case_=(b:Int)/\(l.getD k je).sch=(aO p).getD a [])/\qG (gg p q ((aO p).getD a []) (b:Int)) (l.getD k je).nodes):=by rw[ha,hb];exact Iff.rfl
  have hal:a<(aO p).length:=by rw[ha];exact Nat.div_lt_of_lt_mul (by rw[Nat.mul_comm];omega)
  have hbl:b<db p q:=by rw[hb];exact Nat.mod_lt _ hc0
  have eq1:((k:Int).tdiv (db p q:Int))=(a:Int):=by rw[ha];rfl
  have eq2:AV.int .i64 ((k:Int).tmod (db p q:Int))= .int .i64 (b:Int):=by rw[hb];rfl
  have hok:=DD hl hlt
  have hno:¬uU p q l k->¬Af p q l:=fun h hh=>h (hh.2 k hlt)
  have hB:=hB a b hal hbl
  rw[hBe a b hal hbl] at hB
  have hC:=hC a b hal (l.getD k je).nodes hok.2
  have hE:=KA (l.getD k je).sch ((aO p).getD a []) hok.1 (by have:=hlen a hal;omega)
  unfold mG gg at hC
  dsimp only at hC
  refine dI ?_
  conv=>whnf
  refine nI ?_
  rw[tN]
  conv=>whnf
  refine Ip eq1 (by omega) (by omega) ?_
  conv=>whnf
  refine nI ?_
  rw[tN]
  conv=>whnf
  refine dD (hE) (fun _=>?_) (fun _=>?_)<;>(conv=>whnf)
  case refine_2=>rename_i h3;exact⟨aA (hno fun hh=>h3 (hI.1 hh).1.2),rfl⟩
  rename_i h3
  refine nI ?_
  rw[tN]
  conv=>whnf
  refine Ag (by omega) eq2 ?_
  conv=>whnf
  refine ae ?_ ?_<;>(intro h2;conv=>whnf)
  ·exact⟨aA (hno fun hh=>h2 (hI.1 hh).1.1),rfl⟩
  first|refine dI ?_|refine iV (by decide+kernel) ?_|refine eI (by decide+kernel) ?_
  conv=>whnf
  refine Ip eq1 (by omega) (by omega) ?_
  conv=>whnf
  refine nI ?_
  rw[tN]
  conv=>whnf
  refine Ag (by omega) eq2 ?_
  conv=>whnf
  (refine oC (hB) ?_;conv=>whnf)
  refine dI ?_
  conv=>whnf
  refine fI ?_
  conv=>whnf
  refine nI ?_
  rw[tN]
  conv=>whnf
  refine dD (hC) (fun _=>?_) (fun _=>?_)<;>(conv=>whnf)
  case refine_2=>rename_i h4;exact⟨aA (hno fun hh=>h4 (hI.1 hh).2),rfl⟩
  rename_i h4
  repeat' ((first|refine nI ?_|refine aI ?_|refine uI ?_|refine vI ?_|refine dI ?_|refine dR ?_|refine dP ?_|refine au rfl ?_|refine pI _ rfl ?_|refine ak _ rfl ?_|refine tI ?_|refine fI ?_|refine ae (fun _=>?_) (fun _=>?_))<;>conv=>whnf)
  refine⟨k+1,sI,⟨by omega,fun i hi=>?_⟩,by dsimp only;omega⟩
  by_cases e:i=k
  ·subst e;exact hI.2 ⟨⟨Classical.not_not.1 h2,h3⟩,h4⟩
  ·exact hs i (by omega)
 ·obtain rfl:k=l.length:=by omega
  exact⟨bE (hD.2 ⟨hll,hs⟩),rfl⟩
end
end Go.Proofs.YtekmminpfhacpaaGreatDoor
