/-
  Plain: toward both contracts of Parse.
-/
import Derived.Test.YtaehhpempnelhaaGreatDoorQTx3
set_option maxRecDepth 100000
namespace Go.Vc
open Go Go.Proofs Go.Plain
open Go.Lib (decDigits nDigits)
theorem Zl:∀ {ws:fO},(∀w∈ws,w≠[])->ws.length<=(iN ws).length/\∀w∈ws,w.length<=(iN ws).length
 | [],_=>⟨aI _,fun w h=>by cases h⟩
 | [w],h=>by
  have:=yO.2 (h w (by simp));refine ⟨by simp[iN];omega,fun v hv=>?_⟩;rw[List.mem_singleton] at hv;rw[hv];exact aI _
 |w::v::r,h=>by
  obtain ⟨h1,h2⟩:=Zl (ws:=v::r) (fun x hx=>h x (by simp[hx]));have e:(iN (w::v::r)).length=w.length+(iN (v::r)).length+1:=by
   rw[show iN (w::v::r)=w++32::iN (v::r) from rfl,bg,bn];omega
  rw[e];refine ⟨by simp only[bn] at h1 |-;omega,fun x hx=>?_⟩;rcases iH.1 hx with rfl|hx
  .omega
  .have:=h2 x hx;omega
theorem ajR{f:Pl->fO->Option (Pl×fO)}{s:List UInt8}{ws:fO}(h:s≠[])(hw:mH s=some ws):xD f s=(iter f ws.length Pl.zero ws).bind fun p=>if fT p/\qI p=s then some p else none:=by
 unfold xD;rw[if_neg h,hw];change (match iter f ws.length Pl.zero ws with|none=>none|some p=>if fT p/\qI p=s then some p else none)=_
 cases iter f ws.length Pl.zero ws<;>rfl
end Go.Vc
