/- The statement TopLiveCardSaid is proved: from every start in which the listed tables read as the program's text lays them, and which reads as arguments, TopLive returns true, and the arguments read as they did. Conditions: none but the statement's own. -/
import Derived.Test.YtkbifmngmocjnaaGreatDoorPBB
import Derived.Test.YtkbifmngmocjnaaGreatDoorPBC
namespace Go.Proofs.YtkbifmngmocjnaaGreatDoor
set_option maxRecDepth 100000
set_option maxHeartbeats 8000000
set_option linter.all false
section
open Go.ChangeShapes Go.WideShapes Go.ChangeAt Go.RowKit Proofs.Tryz
theorem ab3(os:Os)(m:os.Started)(H:Type)(enc:TypeId×Value->H):
 ReturnsInHanded {} checked os 4 .any (λw args=>(Rows.topLiveSpec.pre enc prog f4 [] false w args/\laidMetH prog yy w)/\sizedMet enc prog f4 (OpenSpec.ofChange Rows.topLiveSpec) false w args)
  (Rows.topLiveSpec.post enc prog f4 false true false false):=by
 refine fN (C:=checked) (X:=λw _=>laidMetH prog yy w) (λ_ _ _ o h=>h.of_heap o) Tryz.own m Zk func4
  (gJ (enc:=enc) (C:=checked) (os:=os) (X:=λw _=>laidMetH prog yy w) false (World.laidAll prog os yy) #[.int .u8 0,.slice none 0 0,.int .i64 0] 8 (jx _ _ _)
   (iE Zk Zk) Zk Zk Zk
   (by rw[dK _ _ _ Zk];exact jG _ Zk Zk)) ?_
 intro W mR args ds gs I r f _ _ g _;have d:∀(j:Nat) t v,f4.params[j]? =some t->args[j]? =some v->Value.okWide prog W .any mR t v:=r;have s:=f;obtain⟨p,q,u,J,rfl,K,L⟩:=f;have i:DataW.TrodAll enc prog W 0 (λ_=>true) true f4.params.toList args.toList ds p:=u;rw[params4] at i d;obtain⟨v0,x,y,M,N,O,p0,p1,P,rfl,rfl,rfl,z,A,B⟩:=trodAll_three i;obtain⟨n,rfl,D⟩:=OZ (t:=5) (k:=.u8) rfl (d 0 5 v0 rfl rfl) z;obtain⟨l,rfl,hl⟩:=JU (t:=71) rfl (Rl W) (d 1 71 x rfl rfl) A;obtain⟨p,rfl,hp⟩:=OZ (t:=3) (k:=.i64) rfl (d 2 3 y rfl rfl) B;rw[dK _ _ _ Zk] at g;have E:=K6 g;refine fF (Lh (abd Ld (pu W) E n (aa0 D) _ l.l (Le hl) hl.all p (Eo hp))) ?_;rintro e Q ⟨rfl,F⟩;exact⟨_,rfl,JW (b:=4) Tryz.K0 (by decide+kernel) rfl rfl rfl (λds G=>by
  match ds,G with
  |[a,b,c],_=>rfl) s F⟩
theorem ab4:Rows.TopLiveSaid:=
 gV 4 f4 rfl rfl rfl rfl rfl rfl rfl ⟨rfl,rfl,rfl,rfl,rfl⟩ rfl rfl rfl rfl rfl Zk func4 ab2
  (am Zk) (by unfold Func.isWrapper;first|(rw[aj (by decide+kernel)];kernel_rfl)|(rw[ai (by decide+kernel)];exact⟨rfl,rfl⟩))
  (λos a H enc _=>ab3 os a H enc)
theorem topLive_card:Rows.TopLiveCardSaid:=
 gB .later [] [.data,.data,.pinned] true (true,"7abf0fd2fd0fa053c0b7489b7413f7107c5ecdac936d4e2be733a7f28cdb125e") true ab4 (λ_ h=>by cases h) Zk (λ_ h=>by cases h) topLive_row_tie rfl ⟨rfl,rfl⟩ Zk rfl
  (λf fn hf b=>by
   obtain rfl:f=4:=dB ((show prog.funcNamed "gunwale/gunwaletop.TopLive"=some 4 by kernel_rfl).symm.trans hf)|>.symm;obtain rfl:fn=f4:=(dB (func4.symm.trans b)).symm;exact⟨by kernel_rfl,λj t a=>by
    (rw[params4] at a;have c:t∈[5,71,3]:=by simpa using fV a);have mz:([5,71,3].all λu=>!Tryz.prog.wantsStandIn u)=true:=by kernel_rfl
    exact(show prog.wantsStandIn t=false by simpa using aK.1 mz t c)⟩)
  Zk
end
end Go.Proofs.YtkbifmngmocjnaaGreatDoor
