import Derived.Test.YtokjgegkhlkopaaGreatDoorM4
import Derived.Test.YtokjgegkhlkopaaGreatDoorTie
import Derived.Test.YtokjgegkhlkopaaGreatDoorCards
import Derived.LaidMore
import Derived.Stop.Joined
import Derived.SevenTiedAt
set_option linter.unusedVariables false
set_option linter.unusedSimpArgs false
namespace Go.Proofs.YtokjgegkhlkopaaGreatDoor
open Go.ChangeShapes Go.WideShapes Go.ChangeAt Go.RowKit
def pz:List (String×DataW Unit):=[("unicode.White_Space",Rows.laid_unicode_White_Space),("strings.asciiSpace",Rows.laid_strings_asciiSpace)]
theorem own:ownKnob Tryz.prog.godebug=none:=by kernel_rfl
theorem laid:laidOutB Tryz.prog=true:=by kernel_rfl
theorem Ke:Tryz.prog.globalNamed "strings.asciiSpace" =some 0:=by kernel_rfl
theorem Kf:(Tryz.prog.globals[0]?).map (·.type)=some 242:=by kernel_rfl
theorem Kg:Tryz.prog.cellsOf 5=1:=by kernel_rfl
set_option maxRecDepth 100000
theorem Mq:(Rows.laid_strings_asciiSpace:DataW Unit)= .agg (na.map fun n=>.lit (.int .u8 n)):=by kernel_rfl
theorem I5 {W:World} (h:laidMetH Tryz.prog pz W):Gl (ag.ofW W):=by
 rw[MakeChecks.laidMetH_plain _ _ _ (by kernel_rfl)] at h
 obtain⟨ps,⟨g0,t0,cs0,f0,p0,q0,hg0,ht0,hv0,hd0,⟨g1,t1,cs1,f1,p1,q1,hg1,ht1,hv1,hd1,_,_⟩,_⟩,_,_⟩:=h
 obtain rfl:=Option.some.inj (Ke.symm.trans hg1)
 obtain rfl:=Option.some.inj (Kf.symm.trans ht1)
 obtain⟨xs,m1,rfl,hx1,hlen,hn,hel⟩:=DataW.trod_array Tryz.underlying242 hd1
 simp only[Prod.mk.injEq] at hx1
 have hx:=hx1.1
 rw[show(Rows.laid_strings_asciiSpace:DataW Unit)=_ from Mq] at hx
 simp only[DataW.agg.injEq] at hx
 intro g k l hg j n hj
 unfold Jy at hg
 split at hg
 ·rename_i hb
  have:=Nat.eq_of_beq_eq_true hb
  subst this
  simp only[Option.some.injEq,Prod.mk.injEq] at hg
  obtain⟨rfl,rfl⟩:=hg
  have hj2:(xs.map (·.1))[j]? =some (DataW.lit (.int .u8 n)):=by rw[<-hx,List.getElem?_map,hj];rfl
  rw[List.getElem?_map,Option.map_eq_some_iff] at hj2
  obtain⟨x,hxj,hxl⟩:=hj2
  have hjl:j<xs.length:=(List.getElem?_eq_some_iff.1 hxj).1
  have h1:=hel j (by omega)
  rw[hxj] at h1
  obtain⟨q,e1,e2,_⟩:=DataW.trod_int Tryz.underlying5 h1
  rw[e2] at hxl
  simp only[DataW.lit.injEq,Lit.int.injEq,true_and] at hxl
  subst hxl
  have h2:=World.var?_cell hg1 hv1 j
  refine w9 ?_
  rw[h2]
  rw[Kg,Nat.mul_one] at e1
  have h3:((cs1.toList.drop j).take 1)[0]? =some (.int .u8 q):=by rw[e1];rfl
  rw[List.getElem?_take,if_pos (by decide),List.getElem?_drop,Nat.add_zero] at h3
  simpa using h3
 ·cases hg
theorem xz (os:Os) (args:Array Value):laidMetH Tryz.prog pz ((World.doorLaid Tryz.prog 4000 os).forCall (fun _ _=>0) ⟨#[],args,[]⟩).memory:=
 laidMetH_of_parts3 (fuel:=8) (laidMet_of_run' 8 (by kernel_rfl) (by kernel_rfl)) (by kernel_rfl) (by kernel_rfl)
end Go.Proofs.YtokjgegkhlkopaaGreatDoor
