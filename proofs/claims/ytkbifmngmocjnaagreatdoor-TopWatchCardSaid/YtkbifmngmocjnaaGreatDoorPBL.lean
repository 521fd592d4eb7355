/- The statement TopWatchCardSaid is proved: from every start in which the listed tables read as the program's text lays them, and which reads as arguments, TopWatch returns true, and the arguments read as they did. Conditions: none but the statement's own. -/
import Derived.Test.YtkbifmngmocjnaaGreatDoorPBJ
import Derived.Test.YtkbifmngmocjnaaGreatDoorPBB
import Derived.Test.YtkbifmngmocjnaaGreatDoorPBK
namespace Go.Proofs.YtkbifmngmocjnaaGreatDoor
set_option maxRecDepth 100000
set_option maxHeartbeats 8000000
set_option linter.all false
section
open Go.ChangeShapes Go.WideShapes Go.ChangeAt Go.RowKit Proofs.Tryz
theorem ady(os:Os)(i:os.Started)(H:Type)(enc:TypeId×Value->H):
 ReturnsInHanded {} checked os 3 .any (λw args=>(Rows.topWatchSpec.pre enc prog f3 [] false w args/\laidMetH prog yy w)/\sizedMet enc prog f3 (OpenSpec.ofChange Rows.topWatchSpec) false w args)
  (Rows.topWatchSpec.post enc prog f3 false true false false):=by
 refine fN (C:=checked) (X:=λw _=>laidMetH prog yy w) (λ_ _ _ k h=>h.of_heap k) Tryz.own i Zk func3
  (gJ (enc:=enc) (C:=checked) (os:=os) (X:=λw _=>laidMetH prog yy w) false (World.laidAll prog os yy) #[.slice none 0 0] 8 (jx _ _ _)
   (iE Zk Zk) Zk Zk Zk
   (by rw[dK _ _ _ Zk];exact jG _ Zk Zk)) ?_
 intro W mR args ds gs y m c _ _ d _;have f:∀(j:Nat) t v,f3.params[j]? =some t->args[j]? =some v->Value.okWide prog W .any mR t v:=m;have n:=c;obtain⟨p,q,o,z,rfl,A,B⟩:=c;have g:DataW.TrodAll enc prog W 0 (λ_=>true) true f3.params.toList args.toList ds p:=o;rw[params3] at g f;obtain⟨v0,D,rfl,rfl,r⟩:=trodAll_one g;obtain⟨l,rfl,hl⟩:=JU (t:=22) rfl (aa3 W) (f 0 22 v0 rfl rfl) r;rw[dK _ _ _ Zk] at d;have s:=K6 d;refine fF (Lh (acP Ld (pu W) s _ l.l (Le hl) hl.all)) ?_;rintro e E ⟨rfl,u⟩;exact⟨_,rfl,JW (b:=4) Tryz.K0 (by decide+kernel) rfl rfl rfl (λds x=>by
  match ds,x with
  |[a],_=>rfl) n u⟩
theorem adz:Rows.TopWatchSaid:=
 gV 3 f3 rfl rfl rfl rfl rfl rfl rfl ⟨rfl,rfl,rfl,rfl,rfl⟩ rfl rfl rfl rfl rfl Zk func3 adx
  (am Zk) (by unfold Func.isWrapper;first|(rw[aj (by decide+kernel)];kernel_rfl)|(rw[ai (by decide+kernel)];exact⟨rfl,rfl⟩))
  (λos a H enc _=>ady os a H enc)
theorem topWatch_card:Rows.TopWatchCardSaid:=
 gB .later [] [.data,.data,.pinned] true (true,"7abf0fd2fd0fa053c0b7489b7413f7107c5ecdac936d4e2be733a7f28cdb125e") true adz (λ_ h=>by cases h) Zk (λ_ h=>by cases h) topWatch_row_tie rfl ⟨rfl,rfl⟩ Zk rfl
  (λf fn hf b=>by
   obtain rfl:f=3:=dB ((show prog.funcNamed "gunwale/gunwaletop.TopWatch"=some 3 by kernel_rfl).symm.trans hf)|>.symm;obtain rfl:fn=f3:=(dB (func3.symm.trans b)).symm;exact⟨by kernel_rfl,λj t a=>by
    (rw[params3] at a;have c:t∈[22]:=by simpa using fV a);have mz:([22].all λu=>!Tryz.prog.wantsStandIn u)=true:=by kernel_rfl
    exact(show prog.wantsStandIn t=false by simpa using aK.1 mz t c)⟩)
  Zk
end
end Go.Proofs.YtkbifmngmocjnaaGreatDoor
