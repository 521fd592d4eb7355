/- The statement TopFullCardSaid is proved: from every start in which the listed tables read as the program's text lays them, and which reads as arguments, TopFull returns true, and the arguments read as they did. Conditions: none but the statement's own. -/
import Derived.Test.YtkbifmngmocjnaaGreatDoorPBG
import Derived.Test.YtkbifmngmocjnaaGreatDoorPBH
import Derived.Test.YtkbifmngmocjnaaGreatDoorPBB
namespace Go.Proofs.YtkbifmngmocjnaaGreatDoor
set_option maxRecDepth 100000
set_option maxHeartbeats 8000000
set_option linter.all false
section
open Go.ChangeShapes Go.WideShapes Go.ChangeAt Go.RowKit Proofs.Tryz
theorem acN(os:Os)(i:os.Started)(H:Type)(enc:TypeId×Value->H):
 ReturnsInHanded {} checked os 5 .any (λw args=>(Rows.topFullSpec.pre enc prog f5 [] false w args/\laidMetH prog yy w)/\sizedMet enc prog f5 (OpenSpec.ofChange Rows.topFullSpec) false w args)
  (Rows.topFullSpec.post enc prog f5 false true false false):=by
 refine fN (C:=checked) (X:=λw _=>laidMetH prog yy w) (λ_ _ _ k h=>h.of_heap k) Tryz.own i Zk func5
  (gJ (enc:=enc) (C:=checked) (os:=os) (X:=λw _=>laidMetH prog yy w) false (World.laidAll prog os yy) #[.slice none 0 0] 8 (jx _ _ _)
   (iE Zk Zk) Zk Zk Zk
   (by rw[dK _ _ _ Zk];exact jG _ Zk Zk)) ?_
 intro W mR args ds gs y m c _ _ d _;have f:∀(j:Nat) t v,f5.params[j]? =some t->args[j]? =some v->Value.okWide prog W .any mR t v:=m;have n:=c;obtain⟨p,q,o,z,rfl,A,B⟩:=c;have g:DataW.TrodAll enc prog W 0 (λ_=>true) true f5.params.toList args.toList ds p:=o;rw[params5] at g f;obtain⟨v0,D,rfl,rfl,r⟩:=trodAll_one g;obtain⟨l,rfl,hl⟩:=JU (t:=71) rfl (Rl W) (f 0 71 v0 rfl rfl) r;rw[dK _ _ _ Zk] at d;have s:=K6 d;refine fF (Lh (ace Ld (pu W) s _ l.l (Le hl) hl.all)) ?_;rintro e E ⟨rfl,u⟩;exact⟨_,rfl,JW (b:=4) Tryz.K0 (by decide+kernel) rfl rfl rfl (λds x=>by
  match ds,x with
  |[a],_=>rfl) n u⟩
theorem acO:Rows.TopFullSaid:=
 gV 5 f5 rfl rfl rfl rfl rfl rfl rfl ⟨rfl,rfl,rfl,rfl,rfl⟩ rfl rfl rfl rfl rfl Zk func5 acM
  (am Zk) (by unfold Func.isWrapper;first|(rw[aj (by decide+kernel)];kernel_rfl)|(rw[ai (by decide+kernel)];exact⟨rfl,rfl⟩))
  (λos a H enc _=>acN os a H enc)
theorem topFull_card:Rows.TopFullCardSaid:=
 gB .later [] [.data,.data,.pinned] true (true,"7abf0fd2fd0fa053c0b7489b7413f7107c5ecdac936d4e2be733a7f28cdb125e") true acO (λ_ h=>by cases h) Zk (λ_ h=>by cases h) topFull_row_tie rfl ⟨rfl,rfl⟩ Zk rfl
  (λf fn hf b=>by
   obtain rfl:f=5:=dB ((show prog.funcNamed "gunwale/gunwaletop.TopFull"=some 5 by kernel_rfl).symm.trans hf)|>.symm;obtain rfl:fn=f5:=(dB (func5.symm.trans b)).symm;exact⟨by kernel_rfl,λj t a=>by
    (rw[params5] at a;have c:t∈[71]:=by simpa using fV a);have mz:([71].all λu=>!Tryz.prog.wantsStandIn u)=true:=by kernel_rfl
    exact(show prog.wantsStandIn t=false by simpa using aK.1 mz t c)⟩)
  Zk
end
end Go.Proofs.YtkbifmngmocjnaaGreatDoor
