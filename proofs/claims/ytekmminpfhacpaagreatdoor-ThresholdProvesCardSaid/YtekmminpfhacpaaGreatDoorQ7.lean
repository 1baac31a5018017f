import Derived.Test.YtekmminpfhacpaaGreatDoorQ4
set_option linter.unusedVariables false
set_option linter.unusedSimpArgs false
namespace Go.Proofs.YtekmminpfhacpaaGreatDoor
set_option maxRecDepth 100000
set_option maxHeartbeats 32000000
def Qd (l:List dW):Prop:=∀x∈l,∀d∈x.lines,BG d
theorem Qd.set {l:List dW} (h:Qd l) {i:Nat} {x:dW} (hx:∀d∈x.lines,BG d):Qd (l.set i x):=by
 intro y hy
 rcases List.mem_or_eq_of_mem_set hy with h1|rfl
 ·exact h y h1
 ·exact hx
theorem Qd.at_ {l:List dW} (h:Qd l) (i:Nat):∀d∈(l.getD i an).lines,BG d:=by
 by_cases hi:i<l.length
 ·exact h _ (qm an hi)
 ·intro d hd
  rw[gD,List.getElem?_eq_none (by omega)] at hd
  cases hd
theorem Qd.new {l:List dW} (h:Qd l):Qd (l++[iR]):=by
 intro x hx
 rcases List.mem_append.1 hx with h1|h1
 ·exact h x h1
 ·rw[List.mem_singleton] at h1
  subst h1
  intro d hd
  cases hd
theorem Im {n i:Nat} {b:Br} {d:kR} (h:Qd b.nodes):Qd (kI n i b d).1.nodes:=by
 unfold kI
 split
 ·rename_i hc
  refine h.set fun d' hd'=>?_
  dsimp only at hd'
  rcases List.mem_append.1 hd' with h1|h1
  ·exact h.at_ i d' h1
  ·rw[List.mem_singleton] at h1
   subst h1
   exact hc.1.1
 ·exact h
theorem DA {n:Nat} {b:Br} (h:Qd b.nodes):∀k,Qd (iq n b k).1.nodes
 |0=>h
 |k+1=>by
  rw[iq]
  split
  ·exact DA h k
  ·split
   ·exact Im (DA h k)
   ·exact DA h k
theorem Io {n:Nat}:∀(k:Nat) {b:Br} {i:Nat},Qd b.nodes->Qd (lT n k b i).nodes
 |0,b,i,h=>h
 |k+1,b,i,h=>by
  have hl:∀{c:Br} {v a:Int},Qd c.nodes->Qd (gk n i v a c).nodes:=fun{c v a} hc=>(Qd.new hc).set (hc.new.at_ i)
  have hr:∀{c:Br} {v a:Int} {l:List aV},Qd c.nodes->Qd (jE n i v a c l).nodes:=fun{c v a l} hc=>(Qd.new hc).set (hc.new.at_ i)
  have hs:∀{c:Br} {v a:Int},Qd c.nodes->Qd (d9 n k c i v a).nodes:=by
   intro c v a hc
   unfold d9
   split
   ·exact hc
   split
   ·exact hc
   dsimp only
   have h1:Qd ((lT n k (gk n i v a c) c.nodes.length).cut c.rows.length).nodes:=Io k (hl hc)
   split
   ·exact h1
   split
   ·exact h1
   ·exact Io k (hr h1)
  have ht:∀{c:Br},Qd c.nodes->Qd (gV n k c i).nodes:=by
   intro c hc
   unfold gV
   split
   ·exact hc
   split
   ·exact hc
   split
   ·exact hc
   ·split
    ·split
     ·exact hc
     ·exact Im hc
    ·split
     ·split
      ·exact hc
      ·exact hc
     ·exact hs hc
  have hq:Qd (if i=0 then iq n b b.rows.length else(b,true)).1.nodes:=by
   split
   ·exact DA h _
   ·exact h
  rw[B3]
  generalize (if i=0 then iq n b b.rows.length else(b,true))=s at hq⊢
  split
  ·exact hq
  ·exact ht hq
theorem Kx {s:dF} (h:eZ s=0) {nodes:Int} (hn:0<nodes) (hp:(fG s nodes).point=none) (hg:(fG s nodes).gave=false):HF (fG s nodes).nodes:=by
 have hr:=un h hn hp hg
 have hq:Qd (fG s nodes).nodes:=Io 401 (fun x hx d hd=>by
  rw[List.mem_singleton] at hx
  subst hx
  cases hd)
 refine⟨by have:=hr.2.1.1;omega,fun i hi=>⟨by have:=xx _ hi;have:=hr.2.1.2.2.2;omega,fun j hj=>?_⟩⟩
 have:=hq _ (qm an hi) _ (qm lA hj)
 obtain⟨h1,h2,_⟩:=this
 unfold MQ
 omega
def s1:dF:=⟨1,[⟨[-1],1⟩]⟩
theorem Np {s:dF} {nodes:Int} (h:eZ s=0) (hk:p6 s nodes=2):HF (Kw s nodes):=by
 by_cases h2:nodes<=0
 ·unfold p6 at hk;rw[if_pos h2] at hk;omega
 cases hx:(fG s nodes).point with
 |none=>cases hg:(fG s nodes).gave with
  |true=>have:=xW (by omega) hx hg;omega
  |false=>exact Kx h (by omega) hx hg
 |some x=>have:=(xV (by omega) hx).1;omega
end Go.Proofs.YtekmminpfhacpaaGreatDoor
