/- Part. -/
import Derived.Test.YtchdbhggbdcapaaGreatSuLX
import Derived.Test.YtchdbhggbdcapaaGreatSu01
set_option linter.unusedVariables false
set_option linter.unusedSimpArgs false
set_option maxRecDepth 100000
set_option maxHeartbeats 16000000
section
namespace Go.Proofs.YtchdbhggbdcapaaGreat.S
def tro(of:List Int)(x:Int):Bool:=decide (x≠0/\val of x=1)
structure RInv(cs:List (List Int))(given:List Int)(n:Nat)(of:List Int)(conf:Bool):Prop where
 wf:Wf n of
 sound:∀l,isLit n l=true->val of l=1->Der cs given l
 con:conf=true->aA2 cs given
theorem RInv.clash{cs:List (List Int)}{given:List Int}{n:Nat}{of:List Int}{conf:Bool}(h:RInv cs given n of conf){l:Int}(hl:isLit n l=true)(hd:Der cs given l)(hv:val of l<0):RInv cs given n of true:=by
 refine⟨h.wf,h.sound,fun _=>aJ3 hd (h.sound (-l) (aCf hl) ?_)⟩;rw[aDb _ (aAc hl)];have:=h.wf.val l;omega
theorem RInv.put{cs:List (List Int)}{given:List Int}{n:Nat}{of:List Int}{conf:Bool}(h:RInv cs given n of conf){l:Int}(hl:isLit n l=true)(hd:Der cs given l):RInv cs given n (S.put of l) conf:=by
 refine⟨h.wf.put l,fun m hm hv=>?_,h.con⟩;rw[aK6 h.wf hl m (aAc hm)]at hv
 by_cases h1:m=l
 ·rw[h1];exact hd
 ·rw[if_neg h1]at hv
  by_cases h2:m= -l
  ·rw[if_pos h2]at hv;omega
  ·rw[if_neg h2]at hv;exact h.sound m hm hv
theorem RInv.fin{cs:List (List Int)}{given:List Int}{n:Nat}{of:List Int}(h:RInv cs given n of false)(hcs:cs.all (isClause n)=true)(hgl:isClause n given=true)
 (hg:∀l∈given,val of l=1) (hf:∀c∈cs,Fine (tro of) c):¬aA2 cs given/\∀l,isLit n l=true->(val of l=1↔Der cs given l):=by
 have hc:∀l,tro of l=true->tro of (-l)=false:=by
  intro l hl;simp only[tro,zBQ]at hl;simp only[tro,decide_eq_false_iff_not];rw[aDb _ hl.1];omega
 obtain⟨h1,h2⟩:=aL7 hc (fun l hl=>by
  have:=zAD.1 hgl l hl;simp[tro,aAc this,hg l hl]) hf
 refine⟨h2,fun l hl=>⟨h.sound l hl,fun hd=>?_⟩⟩;have:=h1 l hd;simp only[tro,zBQ]at this;exact this.2
def zeros(of:List Int):Nat:=of.countP (fun x=>x == 0)
theorem aQt{of:List Int}{k:Nat}{x:Int}(h:k<of.length)(h0:of.getD k 0=0)(hx:x≠0):zeros (of.set k x) < zeros of:=by
 unfold zeros;induction of generalizing k with
 | nil=>simp at h
 | cons y r ih=>
  cases k with
  | zero=>
   simp at h0;subst h0;simp[hx]
  | succ k=>
   simp only[List.set_cons_succ,List.countP_cons];have:=ih (by simpa using h) (by simpa[List.getD]using h0);omega
theorem bAg{n:Nat}{of:List Int}(hw:Wf n of){l:Int}(hl:isLit n l=true)(h0:val of l=0):zeros (put of l) < zeros of:=by
 have hl': -(n:Int)<=l/\l<=n/\l≠0:=by simpa[isLit]using hl
 refine aQt (by rw[hw.len];omega) ?_ (by unfold sgn;split <;> omega);unfold val at h0;split at h0
 ·rw[show l.natAbs=l.toNat from by omega];exact h0
 ·rw[show l.natAbs=(-l).toNat from by omega];omega
theorem aV3{n:Nat}{of:List Int}(hw:Wf n of){x:Int}(hx:isLit n x=true):Opn (tro of) x↔val of x=0:=by
 have h1:=hw.val x;unfold Opn tro;rw[aDb _ (aAc hx)];have h2:=aAc hx;simp only[decide_eq_false_iff_not];omega
theorem aL2{n:Nat}{of:List Int}(hw:Wf n of){c:List Int}(hc:isClause n c=true)
 (h:(∃x∈c,0<val of x)\/∃x∈c,∃y∈c,x≠y/\val of x=0/\val of y=0):Fine (tro of) c:=by
 rcases h with⟨x,hx,hv⟩ |⟨x,hx,y,hy,hne,h1,h2⟩
 ·have:=hw.val x;exact .inl ⟨x,hx,by simp only[tro,zBQ];exact⟨aAc (zAD.1 hc x hx),by omega⟩⟩
 ·exact .inr ⟨x,hx,y,hy,hne,(aV3 hw (zAD.1 hc x hx)).2 h1,(aV3 hw (zAD.1 hc y hy)).2 h2⟩
end Go.Proofs.YtchdbhggbdcapaaGreat.S
end
