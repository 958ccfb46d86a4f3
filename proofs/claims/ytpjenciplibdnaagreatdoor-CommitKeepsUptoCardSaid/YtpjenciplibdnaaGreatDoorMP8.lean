/-
  A tree of steps, laid on pages: all that is known of it. By an AI agent.
-/
import Derived.Test.YtpjenciplibdnaaGreatDoorMP7
import Derived.Test.YtpjenciplibdnaaGreatDoorMP6
set_option linter.unusedVariables false
set_option linter.unusedSimpArgs false
set_option maxRecDepth 100000
set_option maxHeartbeats 16000000
namespace Go.Proofs.YtpjenciplibdnaaGreatDoor
open Aml Go
structure Ld(k:Nat)(n:N)(at_:List Int)(M:N)(R:List Int)(W:List (Int×ByteArray)):Prop where
 eq:bA n (at_,[])=(M,(R,W))
 bt:BT k M
 fr:dg M=0
 left:R=at_.drop (dg n)
 pg:W.map (·.1)=at_.take (dg n)
 sz:∀x,x∈W→x.2.size=128
 al:(bX M).Perm (bX n++at_.take (dg n))
 en:gm M=gm n
theorem R0{k:Nat}{n:N}{at_:List Int}(h:BT k n)(hm:oM n at_):∃M R W,Ld k n at_ M R W:=by
 obtain⟨a1,a2,a3⟩:=XJ h hm
 have hb:=Tg h hm
 obtain⟨d,hg,hs,h2⟩:=h.tl.root
 have hn:=aw hg
 have hz:∀p,p∈at_→p≠0:=fun p hp=>by have:=hm.2.1 p (List.mem_append_left _ hp);omega
 refine⟨(bA n (at_,[])).1,(bA n (at_,[])).2.1,(bA n (at_,[])).2.2,rfl,hb,SJ hn hm.2.2 hz,a1,a2,a3,De hn hm.2.2 hz,?_⟩
 have he:=Dw (at_,[]) hn
 unfold gm
 have hm2:∀l:List C,l.map zp=(l.map fun c=>(c.key,c.data)).map fun x=>C.mk x.1 x.2 [] []:=fun l=>by rw[List.map_map];rfl
 rw[hm2,hm2,he]
theorem Ik{d:Nat}{n:N}(hn:Nd d n)(h:dg n=0)(q:LS):bA n q=(n,q):=by
 rw[dF,if_pos]
 rw[eQ hn]at h
 by_cases h0:n.ak≠0
 ·exact .inl h0
 ·rw[if_neg h0]at h
  by_cases h1:n.leaf=true∧n.l=[]
  ·exact .inr h1
  ·rw[if_neg h1]at h;omega
theorem Js{k:Nat}{n:N}{at_:List Int}{M:N}{R:List Int}{W:List (Int×ByteArray)}(hm:oM n at_)(h:Ld k n at_ M R W):Dn n at_= .bN [eT M,.sl 2 false (W.map nS),dL R,dB true]:=by
 unfold Dn;rw[xu hm,h.eq];rfl
end Go.Proofs.YtpjenciplibdnaaGreatDoor
