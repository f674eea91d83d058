/- Texts merged into one, for the number of files a claim may have: TaP, TaM, TaA, TaB, TaC, TaD, SpO, NdK, NdL, NdM, RfA, RfB, GPass, GAwake, RfC, GrU, SmG. -/
import Derived.Test.YtgblfflikgnfpaaGreatTk
import Derived.Test.YtgblfflikgnfpaaGreatTY4
import Derived.Test.YtgblfflikgnfpaaGreatTY6
import Derived.Test.YtgblfflikgnfpaaGreatTY8
import Derived.Test.YtgblfflikgnfpaaGreatTY9
import Derived.Test.YtgblfflikgnfpaaGreatTY10
import Derived.Test.YtgblfflikgnfpaaGreatTY11
namespace Go.Proofs.YtgblfflikgnfpaaGreat
open Go.RowKit Go.Fb
set_option maxRecDepth 100000
set_option maxHeartbeats 16000000
set_option linter.unusedVariables false
structure TaskS where
 nd:Nd
 ix:Int
 T:Pk->CV
 bs:List Bool
 b:Bool
 ep:Int
 p:Bool
 many:Int
 last:Int
 kids:List Nd
 im:List (Int × Int)
 ins:List InS
 om:List (Int × Int × Int)
 outs:List OutS
 lns:List (Nat->Int)
 asked:Itm
 stop:Bool
 out:List Pkt
structure AckS where
 node:Int
 ix:Int
 ep:Int
 ents:List (Nat->Int)
 lns:List (Nat->Int)
 off:Int
def TaskS.room (S:TaskS) (m:Int):Bool:=S.outs.all fun o=>!decide (6 - (o.ws.length:Int) < m)
def TaskS.put (S:TaskS) (k:Nat) (i:Itm):TaskS :=
 match S.outs[k]? with
 | none=>S
 | some o=>{ S with outs:=S.outs.set k (sendO (putS i.put) o).1,out:=S.out ++ (sendO (putS i.put) o).2.1 }
def recI (x:Nat->Int):Itm:=⟨false,x 0,x 1,x 2,0,false⟩
def TaskS.putTo (S:TaskS) (k:Nat) (id t:Int) (i:Itm):TaskS :=
 match S.om[k]? with
 | none=>S
 | some m=>if m.1=id/\m.2.1=t then S.put k i else S
def TaskS.toKid (S:TaskS) (n:Nd) (x:Nat->Int) (m:Nat):TaskS:=(List.range m).foldl (fun S k=>S.putTo k n.id (n.rt (x 0 % 8).toNat) (recI x)) S
def TaskS.record (S:TaskS) (x:Nat->Int) (m:Nat):TaskS:=(S.kids.take m).foldl (fun S n=>S.toKid n x S.outs.length) S
def TaskS.puts (S:TaskS) (i:Itm) (m:Nat):TaskS:=(List.range m).foldl (fun S k=>S.put k i) S
def TaskS.ack (S:TaskS) (i:Itm) (off:Int):AckS:=⟨S.nd.id,S.ix,i.ep,if S.nd.kind=1 then allT S.T else [],S.lns,off⟩
def TaskS.takes (S:TaskS) (p:Pkt) (m:Nat):TaskS:={ S with ins:=(S.ins.take m).map (fun s=>(takeI p s).1) ++ S.ins.drop m }
def TaskS.tells (S:TaskS) (p:Pkt) (m:Nat):List Pkt:=(S.ins.take m).flatMap fun s=>(takeI p s).2
def TaskS.acks (S:TaskS) (p:Pkt) (m:Nat):TaskS:={ S with outs:=(S.outs.take m).map (ackO p) ++ S.outs.drop m }
def TaskS.take (S:TaskS) (p:Pkt):TaskS:=(S.takes p S.ins.length).acks p S.outs.length
def TaskS.block (S:TaskS) (c:Nat) (i:Itm):TaskS:={ S with bs:=S.bs.set c true,b:=true,ep:=i.ep,p:=i.p,many:=S.many+1 }
def lineF (S:TaskS) (c:Nat) (i:Itm):Nat->Int:=fun j=>if j=0 then S.nd.id else if j=1 then (S.im.getD c (0,0)).1 else if j=2 then i.k else if j=3 then i.re else i.im
def TaskS.line (S:TaskS) (c:Nat) (i:Itm):TaskS:={ S with lns:=S.lns ++ [lineF S c i] }
def TaskS.clear (S:TaskS):TaskS:={ S with bs:=List.replicate S.bs.length false,b:=false,ep:=0,p:=false,many:=0 }
def cut (n:Int) (len:Nat):Nat:=(min (max n 0) (len:Int)).toNat
end Go.Proofs.YtgblfflikgnfpaaGreat
namespace Go.Fb
open Go.RowKit
set_option maxRecDepth 100000
set_option maxHeartbeats 16000000
set_option linter.unusedVariables false
section
variable {α:Type} {f:α->List Value} {n:Nat}
theorem flat_len (hf:∀ a,(f a).length=n) (l:List α):(l.flatMap f).length=l.length * n:=by
 induction l with
 | nil=>simp
 | cons a l ih=>rw [List.flatMap_cons,List.length_append,ih,hf,List.length_cons,Nat.add_mul,Nat.one_mul,Nat.add_comm]
theorem flat_get (hf:∀ a,(f a).length=n) {l:List α} {k:Nat} {a:α} (h:l[k]?=some a) {j:Nat} (hj:j < n):(l.flatMap f)[k * n+j]?=(f a)[j]?:=by
 induction l generalizing k with
 | nil=>simp at h
 | cons b l ih =>
  cases k with
  | zero =>
   simp at h;subst h;rw [List.flatMap_cons,Nat.zero_mul,Nat.zero_add,List.getElem?_append_left (by rw [hf];omega)]
  | succ k =>
   rw [List.flatMap_cons,List.getElem?_append_right (by rw [hf,Nat.add_mul];omega),hf,show (k+1) * n+j - n=k * n+j by rw [Nat.add_mul];omega];exact ih (by simpa using h)
theorem Reads.elem (hf:∀ a,(f a).length=n) {w:World} {B m:Nat} {A:Option Addr} {l:List α} (h:Reads w B n A m (l.flatMap f)) {k:Nat} {a:α} (hk:l[k]?=some a) (hn:0 < n) :
  ∃ b off,A=some ⟨b,off,none⟩/\b < B/\k < m /\ ∀ j u,(f a)[j]?=some u->w.cell? ⟨b,off+k * n+j,none⟩=some u:=by
 have hl:=h.1;rw [flat_len hf] at hl
 have hkl:k < l.length:=by
  rcases Nat.lt_or_ge k l.length with h | h
  · exact h
  · rw [List.getElem?_eq_none h] at hk;cases hk
 have hm:l.length=m:=Nat.eq_of_mul_eq_mul_right hn hl;obtain ⟨b,off,e,hb,hc⟩:=h.2 (by omega);refine ⟨b,off,e,hb,by omega,fun j u hu => ?_⟩;rw [Nat.add_assoc];apply hc
 have hj:j < n:=by
  rcases Nat.lt_or_ge j n with h | h
  · exact h
  · rw [List.getElem?_eq_none (by rw [hf];exact h)] at hu;cases hu
 rw [flat_get hf hk hj];exact hu
end
theorem Cg.toFr {C:Nat->Prop} {col col':Nat->Nat} {w w':World} (h:Cg C col w col' w'):∃ L,Fr w.heap.size L w w' /\ ∀ q ∈ L,C (col q):=by
 refine ⟨(List.range w.heap.size).filter (fun q=>@decide (C (col q)) (Classical.propDecidable _)),⟨h.os,h.tape,h.output,h.size,fun q hq hn=>h.block q hq fun hc=>hn ?_⟩,fun q hq => ?_⟩
 · rw [List.mem_filter];exact ⟨List.mem_range.2 hq,by simpa using hc⟩
 · rw [List.mem_filter] at hq;simpa using hq.2
end Go.Fb
namespace Go.Proofs.YtgblfflikgnfpaaGreat
open Go.RowKit Go.Fb
set_option maxRecDepth 100000
set_option maxHeartbeats 16000000
set_option linter.unusedVariables false
structure TX where
 (tb tm ga gb:Nat) (sf:Value) (pA:Option Addr) (pc:Nat)
 (kA iA oA lA uA:Option Addr) (kc ic oc lc uc:Nat)
 (gi:List Nat) (go:List Nat) (ks:List Ndm)
abbrev tkC (S : TaskS) (X : TX) : Array Value := #[.pointer (some ⟨X.tb, 0, none⟩), .pointer (some ⟨X.ga, 0, none⟩), .int .i64 S.nd.id, .int .i64 S.nd.kind, X.sf, .slice X.pA S.nd.pg.length X.pc, .int .i64 S.nd.par, .int .i64 (S.nd.rt 0), .int .i64 (S.nd.rt 1), .int .i64 (S.nd.rt 2), .int .i64 (S.nd.rt 3), .int .i64 (S.nd.rt 4), .int .i64 (S.nd.rt 5), .int .i64 (S.nd.rt 6), .int .i64 (S.nd.rt 7), .int .i64 S.ix,
 .slice X.kA S.kids.length X.kc,.slice X.iA S.im.length X.ic,.slice X.oA S.om.length X.oc,.slice X.lA S.lns.length X.lc,.bool S.asked.b,.int .i64 S.asked.k,.int .i64 S.asked.re,.int .i64 S.asked.im,.int .i64 S.asked.ep,.bool S.asked.p,.bool S.stop,.slice X.uA S.out.length X.uc]
def inF (x:Nat × Int × Int):List Value:=[.pointer (some ⟨x.1,0,none⟩),.int .i64 x.2.1,.int .i64 x.2.2]
def outF (x:Nat × Int × Int × Int):List Value:=[.pointer (some ⟨x.1,0,none⟩),.int .i64 x.2.1,.int .i64 x.2.2.1,.int .i64 x.2.2.2]
theorem inF_len (x:Nat × Int × Int):(inF x).length=3:=rfl
theorem outF_len (x:Nat × Int × Int × Int):(outF x).length=4:=rfl
structure KsOf (ks:List Ndm) (K:List Nd):Prop where
 m:ks.map (·.1)=K
 s:∀ x ∈ ks,(∃ A c,x.2.1=.slice A x.1.fr.length c)/\∃ A c,x.2.2=.slice A x.1.pg.length c
structure TaskM (col:Nat->Nat) (w:World) (g:Nat) (S:TaskS) (X:TX):Prop where
 st:CB col 1 w g 136 (tkC S X)
 tab:CT w X.tb X.tm S.T
 tk1:col X.tb=2
 tk2:col X.tm=2
 al:Al w X.ga X.gb S.bs S.b S.ep S.p S.many S.last
 ak1:col X.ga=3
 ak2:col X.gb=3
 pg:CRd col 9 w 2 X.pA S.nd.pg.length (cellsI S.nd.pg)
 ks:KsOf X.ks S.kids
 kr:CRd col 4 w 13 X.kA S.kids.length (cellsN X.ks)
 gi:X.gi.length=S.im.length
 il:S.ins.length=S.im.length
 ir:CRd col 5 w 3 X.iA S.im.length ((X.gi.zip S.im).flatMap inF)
 im:∀ k g s,X.gi[k]?=some g->S.ins[k]?=some s->InM col (20+2 * k) w g s
 go:X.go.length=S.om.length
 ol:S.outs.length=S.om.length
 or_:CRd col 6 w 4 X.oA S.om.length ((X.go.zip S.om).flatMap outF)
 om:∀ k g s,X.go[k]?=some g->S.outs[k]?=some s->OutM col (21+2 * k) w g s
 ln:CR col 7 w 52 5 (.slice X.lA S.lns.length X.lc) S.lns.length (cellsLn S.lns)
 ou:CR col 8 w 89 6 (.slice X.uA S.out.length X.uc) S.out.length (pksC S.out)
 few:S.im.length<=30/\S.om.length<=30
def TC (c:Nat):Prop:=(1<=c/\c<=9) \/ (20<=c/\c < 100)
section
variable {C:Nat->Prop} {col col':Nat->Nat} {w w':World} {g:Nat} {S:TaskS} {X:TX}
theorem ct_cg {gt gm:Nat} {T:Pk->CV} {c:Nat} (h:CT w gt gm T) (h1:col gt=c) (h2:col gm=c) (k:Cg C col w col' w') (hc:¬ C c):CT w' gt gm T/\col' gt=c/\col' gm=c:=by
 obtain ⟨L,hf,hL⟩:=k.toFr;exact ⟨h.fr hf h.bk.lt (fun hm=>hc (h1 ▸ hL _ hm)) (by have:=h.mp;exact KMap.lt this) (fun hm=>hc (h2 ▸ hL _ hm)),(k.same _ h.bk.lt).trans h1,(k.same _ (KMap.lt h.mp)).trans h2⟩
theorem al_cg {g gb:Nat} {bs:List Bool} {b:Bool} {ep:Int} {p:Bool} {many last:Int} {c:Nat} (h:Al w g gb bs b ep p many last) (h1:col g=c) (h2:col gb=c) (k:Cg C col w col' w') (hc:¬ C c):Al w' g gb bs b ep p many last/\col' g=c/\col' gb=c:=by
 obtain ⟨L,hf,hL⟩:=k.toFr;exact ⟨h.fr hf h.st.lt h.bl.lt (fun hm=>hc (h1 ▸ hL _ hm)) (fun hm=>hc (h2 ▸ hL _ hm)),(k.same _ h.st.lt).trans h1,(k.same _ h.bl.lt).trans h2⟩
theorem TaskM.cg (h:TaskM col w g S X) (k:Cg C col w col' w') (hc:∀ c,TC c->¬ C c):TaskM col' w' g S X:=by
 have t:=ct_cg h.tab h.tk1 h.tk2 k (hc 2 (.inl (by omega)));have a:=al_cg h.al h.ak1 h.ak2 k (hc 3 (.inl (by omega)));have hf:=h.few
 exact ⟨h.st.cg k (hc 1 (.inl (by omega))), t.1, t.2.1, t.2.2, a.1, a.2.1, a.2.2, h.pg.cg k (hc 9 (.inl (by omega))), h.ks, h.kr.cg k (hc 4 (.inl (by omega))), h.gi, h.il, h.ir.cg k (hc 5 (.inl (by omega))),
  fun j gj s h1 h2 => (h.im j gj s h1 h2).cg k (hc _ (.inr (by
   have:=(List.getElem?_eq_some_iff.1 h1).1;have:=h.gi
   omega))),h.go,h.ol,h.or_.cg k (hc 6 (.inl (by omega))),
  fun j gj s h1 h2 => (h.om j gj s h1 h2).cg k (hc _ (.inr (by
   have:=(List.getElem?_eq_some_iff.1 h1).1;have:=h.go
   omega))),h.ln.cg k (hc 7 (.inl (by omega))),h.ou.cg k (hc 8 (.inl (by omega))),h.few⟩
theorem TaskM.fr0 (h:TaskM col w g S X) (k:Fr w.heap.size [] w w'):TaskM col w' g S X:=h.cg (cg0 k) (fun _ _ h=>h)
end
end Go.Proofs.YtgblfflikgnfpaaGreat
namespace Go.Proofs.YtgblfflikgnfpaaGreat
open Go.RowKit Go.Fb
set_option maxRecDepth 100000
set_option maxHeartbeats 16000000
set_option linter.unusedVariables false
theorem pktTy:SliceTy Tryz.prog 85 89 6 56:=SliceTy.mk' (z:=.agg #[.int .i64 0,.int .i64 0,.int .i64 0,.int .i64 0,.int .i64 0,.string emptyB]) Tryz.underlying85 (by kernel_rfl) rfl (by omega)
section
variable {C:Nat->Prop} {col col':Nat->Nat} {w w':World} {g:Nat} {S:TaskS} {X:TX}
theorem TaskM.setIn (h:TaskM col w g S X) {k gk:Nat} {s s':InS} (hg:X.gi[k]?=some gk) (hs:S.ins[k]?=some s) (hc:Cg (· = 20+2 * k) col w col' w') (hm:InM col' (20+2 * k) w' gk s'):TaskM col' w' g { S with ins:=S.ins.set k s' } X:=by
 have t:=ct_cg h.tab h.tk1 h.tk2 hc (by omega);have a:=al_cg h.al h.ak1 h.ak2 hc (by omega);have hk:=(List.getElem?_eq_some_iff.1 hs).1
 refine ⟨h.st.cg hc (by omega), t.1, t.2.1, t.2.2, a.1, a.2.1, a.2.2, h.pg.cg hc (by omega), h.ks, h.kr.cg hc (by omega), h.gi, by simpa using h.il, h.ir.cg hc (by omega), fun j gj sj h1 h2 => ?_, h.go, h.ol, h.or_.cg hc (by omega),
  fun j gj s h1 h2=>(h.om j gj s h1 h2).cg hc (by omega),h.ln.cg hc (by omega),h.ou.cg hc (by omega),h.few⟩
 rcases Nat.decEq j k with hjk | rfl
 · rw [List.getElem?_set_ne (by omega)] at h2;exact (h.im j gj sj h1 h2).cg hc (by omega)
 ·
  rw [List.getElem?_set_self hk] at h2;rw [h1] at hg;injection hg with hg
  injection h2 with h2
  subst hg h2;exact hm
theorem TaskM.setOut (h:TaskM col w g S X) {k gk:Nat} {s s':OutS} (hg:X.go[k]?=some gk) (hs:S.outs[k]?=some s) (hc:Cg (· = 21+2 * k) col w col' w') (hm:OutM col' (21+2 * k) w' gk s'):TaskM col' w' g { S with outs:=S.outs.set k s' } X:=by
 have t:=ct_cg h.tab h.tk1 h.tk2 hc (by omega);have a:=al_cg h.al h.ak1 h.ak2 hc (by omega);have hk:=(List.getElem?_eq_some_iff.1 hs).1
 refine ⟨h.st.cg hc (by omega), t.1, t.2.1, t.2.2, a.1, a.2.1, a.2.2, h.pg.cg hc (by omega), h.ks, h.kr.cg hc (by omega), h.gi, h.il, h.ir.cg hc (by omega), fun j gj s h1 h2 => (h.im j gj s h1 h2).cg hc (by omega), h.go, by simpa using h.ol, h.or_.cg hc (by omega),
  fun j gj sj h1 h2 => ?_,h.ln.cg hc (by omega),h.ou.cg hc (by omega),h.few⟩
 rcases Nat.decEq j k with hjk | rfl
 · rw [List.getElem?_set_ne (by omega)] at h2;exact (h.om j gj sj h1 h2).cg hc (by omega)
 ·
  rw [List.getElem?_set_self hk] at h2;rw [h1] at hg;injection hg with hg
  injection h2 with h2
  subst hg h2;exact hm
end
theorem step_map {α:Type} (f:α->α) (l:List α) {k:Nat} {x:α} (h:l[k]?=some x):((l.take k).map f ++ l.drop k).set k (f x)=(l.take (k+1)).map f ++ l.drop (k+1):=by
 have hk:=(List.getElem?_eq_some_iff.1 h).1;have hl:((l.take k).map f).length=k:=(by rw [List.length_map,List.length_take];omega);have hx:l[k]=x:=(by rw [List.getElem?_eq_getElem hk] at h;injection h);rw [List.set_append_right k _ (by omega),hl,Nat.sub_self,List.take_add_one,h,List.map_append,List.append_assoc,List.drop_eq_getElem_cons hk];simp [hx]
theorem at_map {α:Type} (f:α->α) (l:List α) (k:Nat):((l.take k).map f ++ l.drop k)[k]?=l[k]?:=by
 by_cases hk:k < l.length
 ·
  have hl:((l.take k).map f).length=k:=by rw [List.length_map,List.length_take];omega
  rw [List.getElem?_append_right (by omega),hl,Nat.sub_self,List.getElem?_drop,Nat.add_zero]
 · rw [List.getElem?_eq_none (by simp;omega),List.getElem?_eq_none (by omega)]
theorem take_one (p:Pkt) (s:InS):(takeI p s).2.length<=1:=by
 unfold takeI
 split
 · exact Nat.zero_le _
 ·
  split
  ·
   split
   · exact Nat.zero_le _
   · exact Nat.le_refl _
  · exact Nat.le_refl _
theorem flat_few {α β:Type} (f:α->List β) (hf:∀ a,(f a).length<=1):∀ l:List α,(l.flatMap f).length<=l.length
 | []=>Nat.le_refl _
 | a :: l=>by
  have h1:=hf a;have h2:=flat_few f hf l;rw [List.flatMap_cons,List.length_append,List.length_cons];omega
theorem tells_few (S:TaskS) (p:Pkt) (k:Nat):(S.tells p k).length<=k:=Nat.le_trans (flat_few _ (take_one p) _) (by rw [List.length_take];exact Nat.min_le_left _ _)
theorem tells_next {S:TaskS} {p:Pkt} {k:Nat} {s:InS} (h:S.ins[k]?=some s):S.tells p (k+1)=S.tells p k ++ (takeI p s).2:=by
 unfold TaskS.tells;rw [List.take_add_one,h,List.flatMap_append];simp
theorem takes_next {S:TaskS} {p:Pkt} {k:Nat} {s:InS} (h:S.ins[k]?=some s):{ S.takes p k with ins:=(S.takes p k).ins.set k (takeI p s).1 }=S.takes p (k+1):=by
 unfold TaskS.takes;rw [<- step_map (fun s=>(takeI p s).1) S.ins h]
theorem acks_next {S:TaskS} {p:Pkt} {k:Nat} {s:OutS} (h:S.outs[k]?=some s):{ S.acks p k with outs:=(S.acks p k).outs.set k (ackO p s) }=S.acks p (k+1):=by
 unfold TaskS.acks;rw [<- step_map (ackO p) S.outs h]
def TaTake (col:Nat->Nat) (g:Nat) (S:TaskS) (X:TX) (p:Pkt) (w:World) (e:Ending) (w':World):Prop :=
 ∃ A cp col',e=.returned (.slice A (S.tells p S.ins.length).length cp)/\CRd col' 10 w' 6 A (S.tells p S.ins.length).length (pksC (S.tells p S.ins.length))/\TaskM col' w' g (S.take p) X/\Cg (fun c=>(20<=c/\c < 100) \/ c=10) col w col' w'
theorem ttake_any {col:Nat->Nat} {g:Nat} {S:TaskS} {X:TX} {w:World} (h:TaskM col w g S X) (p:Pkt) (hi:∀ s ∈ S.ins,s.ls.length<=6/\Cn s.out) (ho:∀ o ∈ S.outs,o.ws.length<=1000000/\Cn o.last) (hp:Cn p.ack) :
  Calls Tryz.prog 34 #[.pointer (some ⟨g,0,none⟩),.agg (pkC p)] w (TaTake col g S X p w):=by
 have hfr:=(Fr.refl w.heap.size [] w).alloc (Nat.le_refl _) (.cells (pkC p) 89);have hcg:Cg (fun _=>False) col w (paint col w.heap.size 0) (w.alloc (.cells (pkC p) 89)):=(cg0 hfr).paint 0;have BP:CB (paint col w.heap.size 0) 0 (w.alloc (.cells (pkC p) 89)) w.heap.size 89 (pkC p):=⟨Blk.new w _ _,paint_ge (Nat.le_refl _)⟩;replace BP:=zh BP;have HT:=zh (h.cg hcg (fun _ _ h=>h));have C0:=zh (hcg.mono (C':=fun c=>(20<=c/\c < 100) \/ c=10) (fun _ h=>h.elim));have HI:=zh hi;have HO:=zh ho;have HIL:=zh h.il;have HOL:=zh h.ol;have HGI:=zh h.gi;have HGO:=zh h.go;have HFW:=zh h.few;have R0:=zh (CR.nil (paint col w.heap.size 0) 10 (w.alloc (.cells (pkC p) 89)) 89 6);have hc17:=h.st.b.cell 17;have hg:=h.st.b.lt;simp only [pkC] at BP HT C0 R0 ⊢;simp at hc17;clear h hfr hcg hi ho;obtain ⟨n,hn⟩:=nm (S.im.length);obtain ⟨m,hm⟩:=nm (S.om.length);go_enter Tryz.func34,Tryz.ntmps34;go_upto_region 5 with fail;generalize w.alloc _=w0 at *;go_loopg [5,7,17] (n - S.im.length+S.im.length) (fun q s5 s7 s17 wr=>∃ k:Nat,k<=S.im.length/\q=S.im.length - k/\s17=.int .i64 k/\(s7=undef \/ ∃ a,s7=.pointer a)/\∃ A cp m colr,s5=.slice A m cp/\m=(S.tells p k).length/\Hid (CR colr 10 wr 89 6 (.slice A m cp) m (pksC (S.tells p k)))/\Hid (TaskM colr wr g (S.takes p k) X)/\Hid (CB colr 0 wr w.heap.size 89 #[.int .i64 p.ch,.int .i64 p.bk,.int .i64 p.inc,.int .i64 p.seq,.int .i64 p.ack,.string p.ld])/\Hid (Cg (fun c=>(20<=c/\c < 100) \/ c=10) col w colr wr))
 case atStart=>exact ⟨0,Nat.zero_le _,by omega,rfl,.inl rfl,none,0,0,_,rfl,by simp [TaskS.tells],zh (by simpa [TaskS.tells,pksC] using R0.out),zh (by simpa [TaskS.takes] using HT.out),BP,C0⟩
 case round =>
  obtain ⟨k,hk,rfl,rfl,hs7,A,cp,m5,colr,rfl,hm5,RW,T,B,CC⟩:=hrel;have HM5:=zh hm5;have hm5b:m5<=30:=(by rw [hm5];exact Nat.le_trans (tells_few S p k) (Nat.le_trans hk HFW.out.1));clear hm5
  by_cases hkn:k < S.im.length
  ·
   have hki:(k:Int) < (S.im.length:Int):=by omega
   obtain ⟨mx,hmx⟩:∃ mx,S.im[k]?=some mx:=⟨_,List.getElem?_eq_getElem hkn⟩;obtain ⟨gk,hgk⟩:∃ gk,X.gi[k]?=some gk:=⟨_,List.getElem?_eq_getElem (by rw [HGI.out];exact hkn)⟩;obtain ⟨sk,hsk⟩:∃ sk,S.ins[k]?=some sk:=⟨_,List.getElem?_eq_getElem (by rw [HIL.out];exact hkn)⟩;have hz:(X.gi.zip S.im)[k]?=some (gk,mx):=(by rw [List.getElem?_zip_eq_some];exact ⟨hgk,hmx⟩);obtain ⟨b,off,hA,hb,_,hcell⟩:=Reads.elem inF_len T.out.ir.1 hz (by omega);have x0:=hcell 0 _ rfl;have x1:=hcell 1 _ rfl;have x2:=hcell 2 _ rfl;simp only [Nat.add_zero] at x0 x1 x2;have hsk2:(S.takes p k).ins[k]?=some sk:=(by unfold TaskS.takes;exact (at_map _ _ _).trans hsk);have hsm:=HI.out sk (List.mem_of_getElem? hsk);have F1:=(Fr.refl wr.heap.size [] wr).alloc (Nat.le_refl _) (.cells #[.pointer (some ⟨gk,0,none⟩),.int .i64 mx.1,.int .i64 mx.2] 172);have T1:=zh (T.out.fr0 F1);have HTK:=zh (take_any (T1.out.im k gk sk hgk hsk2) p hsm.1 hsm.2);have C1:=zh (CC.out.trans ((cg0 F1).mono (fun _ h=>h.elim)));have B1:=zh (B.out.cg (cg0 F1) (fun h=>h));have R1:=zh (RW.out.cg (cg0 F1) (fun h=>h));have q0:=B.out.b.cell 0;have q1:=B.out.b.cell 1;have q2:=B.out.b.cell 2;have q3:=B.out.b.cell 3;have q4:=B.out.b.cell 4;have q5:=B.out.b.cell 5;have hql:=B.out.b.lt;simp at q0 q1 q2 q3 q4 q5;simp only [pkC] at HTK;have HSK:=zh hsk;have HSK2:=zh hsk2;have HGK:=zh hgk;clear hz hcell T CC B RW hsm hsk hsk2 hgk hmx F1;rw [hA];go_wp2_with fail;refine HTK.out.mono ?_;rintro e w1 ⟨A1,c1,col1,rfl,hrd,hin,hcg⟩;generalize wr.alloc _=wa at *;have T2:=zh (T1.out.setIn HGK.out HSK2.out hcg hin);have B2:=zh (B1.out.cg hcg (by omega));have R2:=zh (R1.out.cg hcg (by omega));have C2:=zh (C1.out.trans (hcg.mono (C':=fun c=>(20<=c/\c < 100) \/ c=10) (fun c hc=>by have:=HFW.out.1;omega)));have RD:=zh hrd.1;have hfew:=tells_few S p k;have hone:=take_one p sk;have hk30:k<=30:=(by have:=HFW.out.1;omega);clear hrd hin hcg T1 B1 R1 C1 HTK;go_wp2_with (at_builtin;refine wpList_appC _ rfl (.tmp 21) (.tmp 25) pktTy rfl _ _ _ rfl R2.out w1.heap.size A1 (takeI p sk).2.length c1 _ rfl RD.out (pksC_one _) (by omega) (by omega) ?_);intro A3 c3 w3 hrow hap hgr;have C3:=zh (C2.out.trans (hap.mono (C':=fun c=>(20<=c/\c < 100) \/ c=10) (fun c hc=>.inr hc)));have T3:=T2.out.cg hap (fun c hc h=>by subst h;unfold TC at hc;omega);have B3:=zh (B2.out.cg hap (by omega));rw [takes_next HSK.out] at T3;rw [<- pksC_app,<- tells_next HSK.out] at hrow;have T3:=zh T3;have R3:=zh hrow;clear hrow hap hgr T2 B2 C2 R2;go_wp2_with fail;rw [<- hA];go_roundg (S.im.length - (k+1))
   case measure=>omega
   case rel=>exact ⟨k+1,hkn,rfl,by go_num,.inr ⟨_,rfl⟩,A3,c3,_,_,rfl,by rw [tells_next HSK.out,List.length_append,HM5.out],R3,T3,B3,C3⟩
  ·
   obtain rfl:k=S.im.length:=by omega
   have hd18:=T.out.st.b.cell 18;have hgr:=T.out.st.b.lt;have hd18:wr.cell? ⟨g,18,none⟩=some (.slice X.oA S.om.length X.oc):=hd18;clear hc17 hg hs7;go_upto_region 10 with fail;go_loopg [9,33] (S.om.length) (fun q s9 s33 wl=>∃ j:Nat,j<=S.om.length/\q=S.om.length - j/\s33=.int .i64 j/\(s9=undef \/ ∃ a,s9=.pointer a)/\∃ coll,Hid (CR coll 10 wl 89 6 (.slice A m5 cp) m5 (pksC (S.tells p S.im.length)))/\Hid (TaskM coll wl g ((S.takes p S.im.length).acks p j) X)/\Hid (CB coll 0 wl w.heap.size 89 #[.int .i64 p.ch,.int .i64 p.bk,.int .i64 p.inc,.int .i64 p.seq,.int .i64 p.ack,.string p.ld])/\Hid (Cg (fun c=>(20<=c/\c < 100) \/ c=10) col w coll wl))
   case atStart=>exact ⟨0,Nat.zero_le _,by omega,rfl,.inl rfl,_,RW,zh (by simpa [TaskS.acks] using T.out),B,CC⟩
   case round =>
    clear RW T B CC hd18 hgr;obtain ⟨j,hj,rfl,rfl,hs9,coll,RW,T,B,CC⟩:=hrel;have OUT0:=zh (show (S.takes p S.im.length).outs=S.outs from rfl)
    by_cases hjn:j < S.om.length
    ·
     have hji:(j:Int) < (S.om.length:Int):=by omega
     obtain ⟨mx,hmx⟩:∃ mx,S.om[j]?=some mx:=⟨_,List.getElem?_eq_getElem hjn⟩;obtain ⟨gk,hgk⟩:∃ gk,X.go[j]?=some gk:=⟨_,List.getElem?_eq_getElem (by rw [HGO.out];exact hjn)⟩;obtain ⟨sk,hsk⟩:∃ sk,S.outs[j]?=some sk:=⟨_,List.getElem?_eq_getElem (by rw [HOL.out];exact hjn)⟩;have hz:(X.go.zip S.om)[j]?=some (gk,mx):=(by rw [List.getElem?_zip_eq_some];exact ⟨hgk,hmx⟩);obtain ⟨b,off,hA,hb,_,hcell⟩:=Reads.elem outF_len T.out.or_.1 hz (by omega);have x0:=hcell 0 _ rfl;have x1:=hcell 1 _ rfl;have x2:=hcell 2 _ rfl;have x3:=hcell 3 _ rfl;simp only [Nat.add_zero] at x0 x1 x2 x3;have hsk2:((S.takes p S.im.length).acks p j).outs[j]?=some sk:=(by unfold TaskS.acks;exact (at_map _ _ _).trans hsk);have hsm:=HO.out sk (List.mem_of_getElem? hsk);have F1:=(Fr.refl wr.heap.size [] wr).alloc (Nat.le_refl _) (.cells #[.pointer (some ⟨gk,0,none⟩),.int .i64 mx.1,.int .i64 mx.2.1,.int .i64 mx.2.2] 170);have T1:=zh (T.out.fr0 F1);have HTK:=zh (outAck_any (T1.out.om j gk sk hgk hsk2) p hsm.1 hp hsm.2);have C1:=zh (CC.out.trans ((cg0 F1).mono (fun _ h=>h.elim)));have B1:=zh (B.out.cg (cg0 F1) (fun h=>h));have R1:=zh (RW.out.cg (cg0 F1) (fun h=>h));have q0:=B.out.b.cell 0;have q1:=B.out.b.cell 1;have q2:=B.out.b.cell 2;have q3:=B.out.b.cell 3;have q4:=B.out.b.cell 4;have q5:=B.out.b.cell 5;have hql:=B.out.b.lt;simp at q0 q1 q2 q3 q4 q5;simp only [pkC] at HTK;have HSK:=zh hsk;have HSK2:=zh hsk2;have HGK:=zh hgk;clear hz hcell T CC B RW hsm hsk hsk2 hgk hmx F1;rw [hA];go_wp2_with fail;refine HTK.out.mono ?_;rintro e w1 ⟨col1,rfl,hin,hcg⟩;generalize wr.alloc _=wa at *;have T2:=T1.out.setOut HGK.out HSK2.out hcg hin;rw [acks_next (S:=S.takes p S.im.length) HSK.out] at T2;have T2:=zh T2;have B2:=zh (B1.out.cg hcg (by omega));have R2:=zh (R1.out.cg hcg (by omega));have C2:=zh (C1.out.trans (hcg.mono (C':=fun c=>(20<=c/\c < 100) \/ c=10) (fun c hc=>by have:=HFW.out.2;omega)));clear hin hcg T1 B1 R1 C1 HTK;have hj30:j<=30:=(by have:=HFW.out.2;omega);go_wp2_with fail;rw [<- hA];go_roundg (S.om.length - (j+1))
     case measure=>omega
     case rel=>exact ⟨j+1,hjn,rfl,by go_num,.inr ⟨_,rfl⟩,_,R2,T2,B2,C2⟩
    ·
     obtain rfl:j=S.om.length:=by omega
     go_wp2_with fail;go_ret;have e1:S.ins.length=S.im.length:=HIL.out;have e2:S.outs.length=S.om.length:=HOL.out;refine ⟨A,cp,coll,by rw [e1,<- HM5.out];rfl,by rw [e1,<- HM5.out];exact RW.out.rd,?_,CC.out⟩;unfold TaskS.take;rw [e1,e2];exact T.out
end Go.Proofs.YtgblfflikgnfpaaGreat
namespace Go.Proofs.YtgblfflikgnfpaaGreat
open Go.RowKit Go.Fb
set_option maxRecDepth 100000
set_option maxHeartbeats 16000000
set_option linter.unusedVariables false
section
variable {C:Nat->Prop} {col col':Nat->Nat} {w w':World} {g:Nat} {S:TaskS} {X:TX}
theorem TaskM.mark (h:TaskM col w g S X) (b:Bool) (a:Itm) (k:Cg (· = 1) col w col w') (hb:Blk w' g 136 (tkC { S with stop:=b,asked:=a } X)):TaskM col w' g { S with stop:=b,asked:=a } X:=by
 have t:=ct_cg h.tab h.tk1 h.tk2 k (by omega);have a:=al_cg h.al h.ak1 h.ak2 k (by omega);exact ⟨⟨hb,h.st.k⟩,t.1,t.2.1,t.2.2,a.1,a.2.1,a.2.2,h.pg.cg k (by omega),h.ks,h.kr.cg k (by omega),h.gi,h.il,h.ir.cg k (by omega),fun j gj s h1 h2=>(h.im j gj s h1 h2).cg k (by omega),h.go,h.ol,h.or_.cg k (by omega),fun j gj s h1 h2=>(h.om j gj s h1 h2).cg k (by omega),h.ln.cg k (by omega),h.ou.cg k (by omega),h.few⟩
theorem TaskM.newOut (h:TaskM col w g S X) (hc:Cg (· = 8) col w col' w') {A:Option Addr} {c:Nat} {l:List Pkt} (hr:CR col' 8 w' 89 6 (.slice A l.length c) l.length (pksC l)):TaskM col' (w'.setCell ⟨g,27,none⟩ (.slice A l.length c)) g { S with out:=l } { X with uA:=A,uc:=c }:=by
 have k:Cg (fun c=>c=8 \/ c=1) col w col' (w'.setCell ⟨g,27,none⟩ (.slice A l.length c)):=(hc.mono (fun _ h=>.inl h)).set (.inr ((hc.same g h.st.b.lt).trans h.st.k)) _;have hs:=h.st.cg hc (by omega);have k1:Cg (· = 1) col' w' col' (w'.setCell ⟨g,27,none⟩ (.slice A l.length c)):=(Cg.refl _ _ _).set hs.k _;have t:=ct_cg h.tab h.tk1 h.tk2 k (by omega);have a:=al_cg h.al h.ak1 h.ak2 k (by omega);exact ⟨⟨by simpa using hs.b.set_ 27 (.slice A l.length c),hs.k⟩,t.1,t.2.1,t.2.2,a.1,a.2.1,a.2.2,h.pg.cg k (by omega),h.ks,h.kr.cg k (by omega),h.gi,h.il,h.ir.cg k (by omega),fun j gj s h1 h2=>(h.im j gj s h1 h2).cg k (by omega),h.go,h.ol,h.or_.cg k (by omega),fun j gj s h1 h2=>(h.om j gj s h1 h2).cg k (by omega),h.ln.cg k (by omega),hr.cg k1 (by omega),h.few⟩
theorem TaskM.newLn (h:TaskM col w g S X) (hc:Cg (· = 7) col w col' w') {A:Option Addr} {c:Nat} {l:List (Nat->Int)} (hr:CR col' 7 w' 52 5 (.slice A l.length c) l.length (cellsLn l)):TaskM col' (w'.setCell ⟨g,19,none⟩ (.slice A l.length c)) g { S with lns:=l } { X with lA:=A,lc:=c }:=by
 have k:Cg (fun c=>c=7 \/ c=1) col w col' (w'.setCell ⟨g,19,none⟩ (.slice A l.length c)):=(hc.mono (fun _ h=>.inl h)).set (.inr ((hc.same g h.st.b.lt).trans h.st.k)) _;have hs:=h.st.cg hc (by omega);have k1:Cg (· = 1) col' w' col' (w'.setCell ⟨g,19,none⟩ (.slice A l.length c)):=(Cg.refl _ _ _).set hs.k _;have t:=ct_cg h.tab h.tk1 h.tk2 k (by omega);have a:=al_cg h.al h.ak1 h.ak2 k (by omega);exact ⟨⟨by simpa using hs.b.set_ 19 (.slice A l.length c),hs.k⟩,t.1,t.2.1,t.2.2,a.1,a.2.1,a.2.2,h.pg.cg k (by omega),h.ks,h.kr.cg k (by omega),h.gi,h.il,h.ir.cg k (by omega),fun j gj s h1 h2=>(h.im j gj s h1 h2).cg k (by omega),h.go,h.ol,h.or_.cg k (by omega),fun j gj s h1 h2=>(h.om j gj s h1 h2).cg k (by omega),hr.cg k1 (by omega),h.ou.cg k (by omega),h.few⟩
theorem TaskM.newAl (h:TaskM col w g S X) (k:Cg (· = 3) col w col w') {bs:List Bool} {b:Bool} {ep:Int} {p:Bool} {many last:Int} (ha:Al w' X.ga X.gb bs b ep p many last):TaskM col w' g { S with bs:=bs,b:=b,ep:=ep,p:=p,many:=many,last:=last } X:=by
 have t:=ct_cg h.tab h.tk1 h.tk2 k (by omega);exact ⟨h.st.cg k (by omega),t.1,t.2.1,t.2.2,ha,h.ak1,h.ak2,h.pg.cg k (by omega),h.ks,h.kr.cg k (by omega),h.gi,h.il,h.ir.cg k (by omega),fun j gj s h1 h2=>(h.im j gj s h1 h2).cg k (by omega),h.go,h.ol,h.or_.cg k (by omega),fun j gj s h1 h2=>(h.om j gj s h1 h2).cg k (by omega),h.ln.cg k (by omega),h.ou.cg k (by omega),h.few⟩
end
end Go.Proofs.YtgblfflikgnfpaaGreat
namespace Go.Proofs.YtgblfflikgnfpaaGreat
open Go.RowKit Go.Fb
set_option maxRecDepth 100000
set_option maxHeartbeats 16000000
set_option linter.unusedVariables false
theorem oindex_any (F:FuncId) (cap:Array Value) (p:Nat->Bool) (A:Option Addr) (c B n:Nat) (l:List (Nat × Int × Int × Int)) (w:World) (hent:∀ (args:Array Value) (w:World),(callFunc F args).run Tryz.prog w=.ok (.enter F args) w)
  (hF:∀ (k:Nat) (x:Nat × Int × Int × Int) (w':World),l[k]?=some x->Fr w.heap.size [] w w'->Calls Tryz.prog F (#[.agg #[.pointer (some ⟨x.1,0,none⟩),.int .i64 x.2.1,.int .i64 x.2.2.1,.int .i64 x.2.2.2]] ++ cap) w' fun e w''=>e=.returned (.bool (p k))/\Fr w'.heap.size [] w' w'')
  (hn:n=l.length) (hm:n<=1000000) (hr:Reads w B 4 A n (l.flatMap outF)) (hB:B<=w.heap.size) :
  Calls Tryz.prog 160 #[.slice A n c,.func (.func F) #[] cap] w fun e w'=>∃ i:Int,e=.returned (.int .i64 i)/\decide (0<=i)=(List.range n).any p/\Fr w.heap.size [] w w':=by
 have HF:=zh hF;have HR:=zh hr;have HN:=zh hn;clear hF hr hn;go_enter Tryz.func160,Tryz.ntmps160;go_wp2_with fail;go_loopg [8] n (fun g s8 wr=>∃ k:Nat,k<=n/\g=n - k/\s8=.int .i64 k/\Hid (∀ j,j < k->p j=false)/\Hid (Fr w.heap.size [] w wr))
 case atStart=>exact ⟨0,Nat.zero_le _,rfl,rfl,zh (fun j h=>absurd h (by omega)),zh (Fr.refl _ _ _)⟩
 case round =>
  obtain ⟨k,hk,rfl,rfl,HP,FR⟩:=hrel
  by_cases hkn:k < n
  ·
   have hki:(k:Int) < (n:Int):=by omega
   have hk0:(0:Int)<=(k:Int):=(by omega);obtain ⟨x,hx⟩:∃ x,l[k]?=some x:=⟨_,List.getElem?_eq_getElem (by rw [<- HN.out];exact hkn)⟩;obtain ⟨b,off,rfl,hb,_,hc⟩:=Reads.elem outF_len (HR.out.fr FR.out hB (by simp)) hx (by omega);have p0:=hc 0 _ rfl;have p1:=hc 1 _ rfl;have p2:=hc 2 _ rfl;have p3:=hc 3 _ rfl;simp only [Nat.add_zero] at p0 p1 p2 p3;have HC:=HF.out k x wr hx FR.out;clear hc hx;obtain ⟨bb,hbb⟩:=nm (p k);rw [<- hbb] at HC;have HC:=zh HC;have HPX:=zh hbb;clear hbb
   cases bb with
   | true =>
    go_wp2_with fail;refine HC.out.mono ?_;rintro e w2 ⟨rfl,f2⟩;have F2:=zh (FR.out.nx f2);clear f2 HC;go_wp2_with fail;go_ret;refine ⟨k,rfl,?_,F2.out⟩;rw [List.any_eq_true.2 ⟨k,List.mem_range.2 hkn,HPX.out.symm⟩];simp
   | false =>
    go_wp2_with fail;refine HC.out.mono ?_;rintro e w2 ⟨rfl,f2⟩;have F2:=zh (FR.out.nx f2);clear f2 HC;go_wp2_with fail;go_roundg (n - (k+1))
    case measure=>omega
    case rel =>
     refine ⟨k+1,by omega,rfl,by go_num,zh fun j hj => ?_,F2⟩
     rcases Nat.lt_or_ge j k with h | h
     · exact HP.out j h
     ·
      have:j=k:=by omega
      subst this;exact HPX.out.symm
  ·
   obtain rfl:k=n:=by omega
   go_wp2_with fail;go_ret;refine ⟨-1,rfl,?_,FR.out⟩
   symm
   rw [show decide ((0:Int) <= -1)=false by simp,List.any_eq_false];intro j hj;rw [HP.out j (List.mem_range.1 hj)];simp
theorem ocontains_any (F:FuncId) (cap:Array Value) (p:Nat->Bool) (A:Option Addr) (c B n:Nat) (l:List (Nat × Int × Int × Int)) (w:World) (hent:∀ (args:Array Value) (w:World),(callFunc F args).run Tryz.prog w=.ok (.enter F args) w)
  (hF:∀ (k:Nat) (x:Nat × Int × Int × Int) (w':World),l[k]?=some x->Fr w.heap.size [] w w'->Calls Tryz.prog F (#[.agg #[.pointer (some ⟨x.1,0,none⟩),.int .i64 x.2.1,.int .i64 x.2.2.1,.int .i64 x.2.2.2]] ++ cap) w' fun e w''=>e=.returned (.bool (p k))/\Fr w'.heap.size [] w' w'')
  (hn:n=l.length) (hm:n<=1000000) (hr:Reads w B 4 A n (l.flatMap outF)) (hB:B<=w.heap.size) :
  Calls Tryz.prog 134 #[.slice A n c,.func (.func F) #[] cap] w fun e w'=>e=.returned (.bool ((List.range n).any p))/\Fr w.heap.size [] w w':=by
 have H:=zh (oindex_any F cap p A c B n l w hent hF hn hm hr hB);obtain ⟨b,hb⟩:=nm ((List.range n).any p);rw [<- hb] at H ⊢;clear hF hn hr hb;go_enter Tryz.func134,Tryz.ntmps134;go_wp2_with fail;refine H.out.mono ?_;rintro e w1 ⟨i,rfl,hi,f1⟩;have F1:=zh f1;have HI:=zh hi;clear hi f1 H;go_wp2_with fail;go_ret;exact ⟨by rw [<- HI.out];rfl,F1.out⟩
section
variable {col:Nat->Nat} {w:World} {g:Nat} {S:TaskS} {X:TX}
theorem room1_any (col:Nat->Nat) (c gk gm:Nat) (o:OutS) (m a b d:Int) (w:World) (h:OutM col c w gk o) (hm:Blk w gm 3 #[.int .i64 m]):Calls Tryz.prog 135 #[.agg #[.pointer (some ⟨gk,0,none⟩),.int .i64 a,.int .i64 b,.int .i64 d],.pointer (some ⟨gm,0,none⟩)] w fun e w'=>e=.returned (.bool (decide (6 - (o.ws.length:Int) < m)))/\Fr w.heap.size [] w w':=by
 have F0:=(Fr.refl w.heap.size [] w).alloc (Nat.le_refl _) (.cells #[.pointer (some ⟨gk,0,none⟩),.int .i64 a,.int .i64 b,.int .i64 d] 170);have HF:=zh (fun W (hf:Fr w.heap.size [] w W)=>free_any (h.fr0 hf));have hml:=hm.lt;have BM:=zh hm;have q0:=hm.cell 0;simp at q0;clear h hm;go_enter Tryz.func135,Tryz.ntmps135;go_upto_region 1 with fail;have BX:=zh (Blk.new w 170 #[.pointer (some ⟨gk,0,none⟩),.int .i64 a,.int .i64 b,.int .i64 d]);have FX:=zh F0.drew;clear F0;generalize w.alloc _=w1 at *;have SF:=zh (⟨BX.out.drew.cell 0,(BM.out.fr FX.out hml (by simp)).cell 0⟩:w1.drew.cell? ⟨w.heap.size,0,none⟩=some (.pointer (some ⟨gk,0,none⟩))/\w1.drew.cell? ⟨gm,0,none⟩=some (.int .i64 m));refine wp_region_held_drew (S:=fun W=>W.cell? ⟨w.heap.size,0,none⟩=some (.pointer (some ⟨gk,0,none⟩))/\W.cell? ⟨gm,0,none⟩=some (.int .i64 m)) (by kernel_rfl) (SF.out) (fun hHeld => ?_);refine tk (i:=0) (oi:=⟨some 4,_,_,_,_,_⟩) (v:=?_) rfl ?_ hHeld ?_
 rotate_left
 · intro w hSw;(try dsimp only at hSw);go_simp;(try with_reducible rfl)
 simp only [Act.put,lPt];refine tk (i:=1) (oi:=⟨some 5,_,_,_,_,_⟩) (v:=?_) rfl ?_ hHeld ?_
 rotate_left
 · intro w hSw;(try dsimp only at hSw);go_simp;(try with_reducible rfl)
 simp only [Act.put,lPt];refine tk (i:=3) (oi:=⟨some 7,_,_,_,_,_⟩) (v:=?_) rfl ?_ hHeld ?_
 rotate_left
 · intro w hSw;(try dsimp only at hSw);go_simp;(try with_reducible rfl)
 simp only [Act.put,lPt];refine wpAnyH_ready (rs:=[2]) (by kernel_rfl) (by simp) ?_;refine AllReadyH.cons (o:=⟨some 6,_,_,_,_,_⟩) rfl (fun K hK => ?_) AllReadyH.nil;rw [if_pos (by rfl)];go_simp;refine (HF.out _ FX.out).mono ?_;rintro e w' ⟨rfl,rfl⟩;refine hK.out _ _ (SF.out) (fun hHeld => ?_);clear hK K
 try simp only [Act.put,lPt]
 refine tk (i:=4) (oi:=⟨some 8,_,_,_,_,_⟩) (v:=?_) rfl ?_ hHeld ?_
 rotate_left
 · intro w hSw;(try dsimp only at hSw);go_simp;(try with_reducible rfl)
 simp only [Act.put,lPt];refine tk (i:=5) (oi:=⟨some 3,_,_,_,_,_⟩) (v:=?_) rfl ?_ hHeld ?_
 rotate_left
 · intro w hSw;(try dsimp only at hSw);go_simp;(try with_reducible rfl)
 simp only [Act.put,lPt];refine wpAnyH_done (by kernel_rfl) ?_ _;go_wp2_with fail;go_ret;exact ⟨rfl,FX.out⟩
theorem room_any (h:TaskM col w g S X) (m:Int):Calls Tryz.prog 100 #[.pointer (some ⟨g,0,none⟩),.int .i64 m] w fun e w'=>e=.returned (.bool (S.room m))/\Fr w.heap.size [] w w':=by
 have F0:=(Fr.refl w.heap.size [] w).alloc (Nat.le_refl _) (.cells #[.int .i64 m] 3);have BM:=Blk.new w 3 #[.int .i64 m];have hT:=h.fr0 F0;have hent:=enters_of Tryz.func135 (by kernel_rfl) rfl;have hzl:(X.go.zip S.om).length=S.om.length:=(by rw [List.length_zip,h.go,Nat.min_self])
 have HC := ocontains_any 135 #[.pointer (some ⟨w.heap.size, 0, none⟩)] (fun k => decide (6 - ((S.outs.getD k ⟨0, 0, [], 0, 0⟩).ws.length : Int) < m)) X.oA X.oc _ S.om.length (X.go.zip S.om) _ hent (fun k x w' hx hf => by
  rw [List.getElem?_zip_eq_some] at hx;obtain ⟨s,hs⟩:∃ s,S.outs[k]?=some s:=⟨_,List.getElem?_eq_getElem (by rw [h.ol];exact (List.getElem?_eq_some_iff.1 hx.2).1)⟩;have:=room1_any col _ x.1 w.heap.size s m x.2.1 x.2.2.1 x.2.2.2 w' ((hT.om k x.1 s hx.1 hs).fr0 hf) (BM.fr hf BM.lt (by simp));rw [show S.outs.getD k ⟨0,0,[],0,0⟩=s by rw [List.getD,hs];rfl]
  exact this) hzl.symm (by have:=h.few.2;omega) hT.or_.1 (Nat.le_refl _)
 have hro:S.room m=!((List.range S.om.length).any fun k=>decide (6 - ((S.outs.getD k ⟨0,0,[],0,0⟩).ws.length:Int) < m)):=by
  unfold TaskS.room;rw [<- h.ol,Bool.eq_iff_iff];simp only [List.all_eq_true,Bool.not_eq_true',List.any_eq_false,List.mem_range];constructor
  · intro h1 k hk;have:=h1 _ (List.getElem_mem hk);simpa [List.getD,List.getElem?_eq_getElem hk] using this
  · intro h1 o ho;obtain ⟨k,hk,rfl⟩:=List.mem_iff_getElem.1 ho;have:=h1 k hk;simpa [List.getD,List.getElem?_eq_getElem hk] using this
 rw [hro];have hc18:=h.st.b.cell 18;replace hc18:w.cell? ⟨g,18,none⟩=some (.slice X.oA S.om.length X.oc):=hc18;have hg:=h.st.b.lt;generalize ((List.range S.om.length).any fun k=>decide (6 - ((S.outs.getD k ⟨0,0,[],0,0⟩).ws.length:Int) < m))=q at *;have HC:=zh HC;have FX:=zh F0;clear hro hzl hT BM F0 h;go_enter Tryz.func100,Tryz.ntmps100;go_wp2_with fail;refine HC.out.mono ?_;rintro e w2 ⟨rfl,f2⟩;have F2:=zh (FX.out.nx f2);clear f2 HC;go_wp2_with fail;go_ret;exact ⟨rfl,F2.out⟩
theorem lines_any (h:TaskM col w g S X) (hn:S.lns.length<=1000000):Calls Tryz.prog 15 #[.pointer (some ⟨g,0,none⟩)] w fun e w'=>∃ A c,e=.returned (.slice A S.lns.length c)/\w'.ownsRow w.heap.size 52 5 (.slice A S.lns.length c) S.lns.length (cellsLn S.lns)/\Fr w.heap.size [] w w':=by
 have HC:=zh (lclone_any X.lA S.lns.length X.lc w.heap.size S.lns w rfl hn h.ln.r.reads (Nat.le_refl _));have hc:=h.st.b.cell 19;replace hc:w.cell? ⟨g,19,none⟩=some (.slice X.lA S.lns.length X.lc):=hc;obtain ⟨n,hn2⟩:=nm (S.lns.length);rw [<- hn2] at HC hc ⊢;clear h hn hn2;go_enter Tryz.func15,Tryz.ntmps15;go_wp2_with fail;refine HC.out.mono ?_;rintro e w2 ⟨A,c,rfl,hown,f2⟩;have F2:=zh f2;have HO:=zh hown;clear f2 hown HC;go_wp2_with fail;go_ret;exact ⟨A,c,rfl,HO.out,F2.out⟩
end
end Go.Proofs.YtgblfflikgnfpaaGreat
namespace Go.Proofs.YtgblfflikgnfpaaGreat
open Go.RowKit Go.Fb
set_option maxRecDepth 100000
set_option maxHeartbeats 16000000
set_option linter.unusedVariables false
section
variable {col:Nat->Nat} {w:World} {g:Nat} {S:TaskS} {X:TX}
theorem cgf (C:Nat->Prop) {col:Nat->Nat} {w w':World} (h:Fr w.heap.size [] w w'):Cg C col w col w':=(cg0 h).mono (fun _ h=>h.elim)
def SC (c:Nat):Prop:=c=1 \/ c=8 \/ (20<=c/\c < 100)
def PutK (col:Nat->Nat) (g:Nat) (S':TaskS) (X:TX) (w:World) (e:Ending) (w':World):Prop :=
 ∃ uA uc col',e=.returned (.tuple #[])/\TaskM col' w' g S' { X with uA:=uA,uc:=uc }/\Cg SC col w col' w'
theorem send_few (s:ByteArray) (o:OutS):(sendO s o).2.1.length<=1:=by
 unfold sendO
 split
 · exact Nat.zero_le _
 ·
  split
  · exact Nat.zero_le _
  · exact Nat.le_refl _
theorem put_any (h:TaskM col w g S X) (k gk:Nat) (mx:Int × Int × Int) (o:OutS) (hg:X.go[k]?=some gk) (hm:S.om[k]?=some mx) (ho:S.outs[k]?=some o) (h6:o.ws.length<=6) (hl0:0<=o.last) (hl1:o.last<=1099511627776) (hq:S.out.length<=1000000) (i:Itm) :
  Calls Tryz.prog 136 #[.pointer (some ⟨g,0,none⟩),.agg #[.pointer (some ⟨gk,0,none⟩),.int .i64 mx.1,.int .i64 mx.2.1,.int .i64 mx.2.2],.agg i.cs] w (PutK col g (S.put k i) X w):=by
 have HPT:=zh (fun W=>aput_any i.b i.k i.re i.im i.ep i.p W);obtain ⟨s,hs⟩:=nm (putS i.put);have hpt:S.put k i={ S with outs:=S.outs.set k (sendO s o).1,out:=S.out ++ (sendO s o).2.1 }:=(by unfold TaskS.put;rw [ho,hs]);obtain ⟨S',hS'⟩:∃ S',S'=S.put k i:=⟨_,rfl⟩;rw [<- hS'];rw [hpt] at hS';have HS':=zh hS';clear hS';obtain ⟨ok,hok⟩:=nm ((if i.put.isSome then 0 else 1):Int);have HPT:=zh (fun W=>(by have:=HPT.out W;unfold RetPut at this;rw [show putI i.b i.k i.re i.im i.ep i.p=i.put from rfl,<- hs,<- hok] at this;exact this:Calls Tryz.prog 46 #[.agg (It i.b i.k i.re i.im i.ep i.p)] W fun e w'=>e=.returned (.tuple #[.string s,.int .i64 ok])/\Fr W.heap.size [] W w'));have HM:=zh h;have HG:=zh hg;have HO:=zh ho;have B1:=(Fr.refl w.heap.size [] w).alloc (Nat.le_refl _) (.cells #[.pointer (some ⟨gk,0,none⟩),.int .i64 mx.1,.int .i64 mx.2.1,.int .i64 mx.2.2] 170);have F1:=zh (B1.alloc (by simp) (.cells i.cs 46));have BO:=zh ((Blk.new w 170 #[.pointer (some ⟨gk,0,none⟩),.int .i64 mx.1,.int .i64 mx.2.1,.int .i64 mx.2.2]).alloc (.cells i.cs 46));clear B1 hs hok hpt h hg ho hm;go_enter Tryz.func136,Tryz.ntmps136;go_wp2_with fail;refine (HPT.out _).mono ?_;rintro e w2 ⟨rfl,f2⟩;have F2:=zh (F1.out.nx f2);have BO2:=zh (BO.out.fr f2 BO.out.lt (by simp));clear f2 HPT F1 BO;have M2:=zh (HM.out.fr0 F2.out);have HS:=zh (send_any (M2.out.om k gk o HG.out HO.out) s h6 hl0 hl1);have q0:=BO2.out.cell 0;simp at q0;clear HM;go_wp2_with fail;refine HS.out.mono ?_;rintro e w3 ⟨A3,c3,col3,rfl,hrd,hom,hcg⟩;have M3:=zh (M2.out.setOut HG.out HO.out hcg hom);have RD:=zh hrd.1;have C3:=zh (((cgf SC F2.out).trans (hcg.mono (C':=SC) (fun c hc=>.inr (.inr (by have:=(List.getElem?_eq_some_iff.1 HG.out).1;have:=M2.out.go;have:=M2.out.few.2;omega)))):Cg SC col w col3 w3));have c27:=M3.out.st.b.cell 27;replace c27:w3.cell? ⟨g,27,none⟩=some (.slice X.uA S.out.length X.uc):=c27;have hf3:=M3.out.st.b.frozen 27;have hg3:=M3.out.st.b.lt;have hone:=send_few s o;have HOU:=zh (M3.out.ou:CR col3 8 w3 89 6 (.slice X.uA S.out.length X.uc) S.out.length (pksC S.out));clear hrd hom hcg HS;generalize hnl:(sendO s o).2.1.length=nl at *;obtain ⟨no,hno⟩:=nm (S.out.length);rw [<- hno] at c27 HOU hq;have HNO:=zh hno;have HNL:=zh hnl;clear hno hnl;go_wp2_with (at_builtin;refine wpList_appC _ rfl (.tmp 26) (.tmp 27) pktTy rfl _ _ _ rfl HOU.out w3.heap.size A3 nl c3 _ rfl RD.out (pksC_one _) (by omega) (by omega) ?_);intro A4 c4 w4 hrow hap hgr;have hb4:=M3.out.st.cg hap (by omega);have hf4:=hb4.b.frozen 27;have c4':=hb4.b.cell 27;have hg4:=hb4.b.lt;rw [<- pksC_app] at hrow;have hl:(S.out ++ (sendO s o).2.1).length=no+nl:=(by rw [List.length_append,HNO.out,HNL.out]);rw [<- hl] at hrow;have m4:=M3.out.newOut hap hrow;rw [hl] at m4;have M4:=zh m4;have C4:=zh ((C3.out.trans (hap.mono (C':=SC) (fun c hc=>.inr (.inl hc)))).set (p:=⟨g,27,none⟩) (.inl hb4.k) (.slice A4 (no+nl) c4));clear hrow hap hgr hb4 hl m4;go_wp2_with fail;refine bodyPost_end (results_none rfl _ _ _) rfl ⟨A4,c4,_,rfl,by rw [HS'.out];exact M4.out,C4.out⟩
end
end Go.Proofs.YtgblfflikgnfpaaGreat
namespace Go.Proofs.YtgblfflikgnfpaaGreat
open Go.RowKit Go.Fb
set_option maxRecDepth 100000
set_option maxHeartbeats 16000000
set_option linter.unusedVariables false
theorem offs1 (A:Option Addr) (m c:Nat) (at_:Int) (w:World):Calls Tryz.prog 67 #[.agg #[.slice A m c,.int .i64 at_]] w fun e w'=>e=.returned (.int .i64 at_)/\Fr w.heap.size [] w w':=by
 go_enter Tryz.func67,Tryz.ntmps67;go_wp2_with fail;go_ret;exact ⟨rfl,(Fr.refl _ _ _).alloc (Nat.le_refl _) _⟩
def offsL (a:Nat->Int) (k:Nat):List Value:=(List.range k).map fun i=>.int .i64 (a i)
theorem offsL_succ (a:Nat->Int) (k:Nat):offsL a (k+1)=offsL a k ++ [.int .i64 (a k)]:=by
 unfold offsL;rw [List.range_succ,List.map_append];rfl
theorem offsL_get {a:Nat->Int} {k i:Nat} (h:i < k):(offsL a k)[i]?=some (.int .i64 (a i)):=by
 unfold offsL;rw [List.getElem?_map,List.getElem?_range h];rfl
section
variable {base gs gp P:Nat} {r:Nat->Int} {R:Nat->List (Nat->Int)} {V:Nat->Value} {a:Nat->Int}
def OffsOut (P:Nat) (a:Nat->Int) (w:World) (e:Ending) (w':World):Prop :=
 ∃ A c,e=.returned (.slice A P c)/\w'.ownsRow w.heap.size 3 1 (.slice A P c) P (offsL a P)/\Fr w.heap.size [] w w'
theorem eachoffs_any {w:World} (h:Sp base gs gp P r R V a w):Calls Tryz.prog 66 #[.pointer (some ⟨gs,0,none⟩),.func (.func 67) #[] #[]] w (OffsOut P a w):=by
 have H:=zh h;have s8:=h.st.cell 8;simp [srcR] at s8;have hP3:=h.pos.2;have hP1:=h.pos.1;clear h;go_enter Tryz.func66,Tryz.ntmps66;go_wp2_with fail;go_loopg [5,15] P (fun g s5 s15 wr=>∃ (k:Nat) (A:Option Addr) (c:Nat),k<=P/\g=P - k/\s15=.int .i64 k/\s5=.slice A k c/\Hid (wr.ownsRow w.heap.size 3 1 (.slice A k c) k (offsL a k))/\Hid (Fr w.heap.size [] w wr))
 case atStart=>exact ⟨0,none,0,Nat.zero_le _,rfl,rfl,rfl,zh (World.ownsRow_nil _ _ _ _),zh (Fr.refl _ _ _)⟩
 case round =>
  obtain ⟨k,A,c,hk,rfl,rfl,rfl,HO,HF⟩:=hrel
  by_cases hkP:k < P
  ·
   have S:=H.out.keep HF.out;obtain ⟨A1,c1,hVk,_,_,_⟩:=ownsRow_shape (S.own k hkP);have hki:(k:Int) < (P:Int):=(by omega);have t0:=S.pt.cell (k * 2);have t1:=S.pt.cell (k * 2+1);rw [(ptC_get hP3 hkP).1,hVk] at t0;rw [(ptC_get hP3 hkP).2] at t1;obtain ⟨ak,hak⟩:=nm (a k);rw [<- hak] at t1;obtain ⟨m,hm⟩:=nm ((R k).length);rw [<- hm] at t0;have HL:=zh (fun w=>offs1 A1 m c1 ak w);have HLS:=zh (show offsL a (k+1)=offsL a k ++ [.int .i64 ak] by rw [hak];exact offsL_succ a k);clear S hVk hm hak;go_wp2_with fail;have f1:=(Fr.refl wr.heap.size [] wr).alloc (Nat.le_refl _) (.cells #[.slice A1 m c1,.int .i64 ak] 162);generalize wr.alloc _=w1 at *;refine (HL.out _).mono ?_;rintro e w2 ⟨rfl,f2⟩;have f12:=f1.nx f2;have HO2:=zh (ownsRow_fr HO.out f12 (fun q hq=>⟨(HO.out.lt q hq).2,by simp⟩));have F2:=zh (HF.out.nx f12);have hsz:=F2.out.size;have hown:=HO2.out;clear f1 f2 f12 HO HF;go_wp2_with (at_builtin;refine wpList_app_lit _ rfl (.tmp 19) (.tmp 23) intsTy rfl w.heap.size (.slice A k c) k _ rfl hown 1 1 _ rfl rfl (by simp [Value.oneCell']) (by omega) (by omega) hsz ?_;intro A2 c2 w3 hown3 hg3 hat3);have F4:=zh (F2.out.trans (Fr.of_app hg3 hown hsz));have HO3:=zh hown3;clear hown3 hg3 hat3 hown;go_roundg (P - (k+1))
   case measure=>omega
   case rel=>exact ⟨k+1,A2,c2,by omega,rfl,by go_num,rfl,by rw [HLS.out];exact HO3,F4⟩
  ·
   obtain rfl:k=P:=by omega
   go_wp2_with fail;go_ret;exact ⟨A,c,rfl,HO.out,HF.out⟩
theorem offs_any {w:World} (h:Sp base gs gp P r R V a w):Calls Tryz.prog 26 #[.pointer (some ⟨gs,0,none⟩)] w (OffsOut P a w):=by
 have HE:=zh (eachoffs_any h);clear h;go_enter Tryz.func26,Tryz.ntmps26;go_wp2_with fail;refine HE.out.mono ?_;rintro e w1 ⟨A,c,rfl,ho,hf⟩;have HO:=zh ho;have HF:=zh hf;clear ho hf;go_wp2_with fail;go_ret;exact ⟨A,c,rfl,HO.out,HF.out⟩
def SpC (col:Nat->Nat) (c gs gp P:Nat) (V:Nat->Value):Prop:=col gs=c/\col gp=c /\ ∀ i,i < P -> ∀ q,(V i).ownBlock=some q->col q=c
theorem Sp.cg {C:Nat->Prop} {col col':Nat->Nat} {w w':World} {c:Nat} (h:Sp base gs gp P r R V a w) (hk:SpC col c gs gp P V) (k:Cg C col w col' w') (hc:¬ C c):Sp base gs gp P r R V a w'/\SpC col' c gs gp P V:=by
 obtain ⟨L,hf,hL⟩:=k.toFr;refine ⟨h.fr_ hf (Nat.le_refl _) (fun hm=>hc (hk.1 ▸ hL _ hm)) (fun hm=>hc (hk.2.1 ▸ hL _ hm)) (fun i hi q hq hm=>hc (hk.2.2 i hi q hq ▸ hL _ hm)),(k.same _ h.st.lt).trans hk.1,(k.same _ h.pt.lt).trans hk.2.1,fun i hi q hq=>(k.same _ ((h.own i hi).lt q hq).2).trans (hk.2.2 i hi q hq)⟩
end
end Go.Proofs.YtgblfflikgnfpaaGreat
namespace Go.Proofs.YtgblfflikgnfpaaGreat
open Go.RowKit Go.Fb
set_option maxRecDepth 100000
set_option maxHeartbeats 16000000
set_option linter.unusedVariables false
abbrev fnStands (gO:Nat):Value:=.func (.func 127) #[] #[.pointer (some ⟨gO,0,none⟩)]
theorem stands_any (x:Int) (gO:Nat) (A:Option Addr) (q c B:Nat) (out:List Int) (w:World) (hb:Blk w gO 23 #[.slice A q c]) (hn:q=out.length) (hm:q<=1000000) (hr:Reads w B 1 A q (out.map (Value.int .i64))) (hB:B<=w.heap.size) :
  Calls Tryz.prog 127 #[.int .i64 x,.pointer (some ⟨gO,0,none⟩)] w fun e w'=>e=.returned (.bool (hasI out x))/\Fr w.heap.size [] w w':=by
 have HC:=zh (ihas_any x A c B q out w hn hm hr hB);have c0:=hb.cell 0;simp at c0;clear hb hn hr;go_enter Tryz.func127,Tryz.ntmps127;go_wp2_with fail;refine HC.out.mono ?_;rintro e w1 ⟨rfl,f1⟩;have F1:=zh f1;clear f1;go_wp2_with fail;go_ret;exact ⟨rfl,F1.out⟩
theorem nstands_any (x:Int) (gS gO:Nat) (A:Option Addr) (q c B:Nat) (out:List Int) (w:World) (hs:Blk w gS 220 #[fnStands gO]) (hb:Blk w gO 23 #[.slice A q c]) (hn:q=out.length) (hm:q<=1000000) (hr:Reads w B 1 A q (out.map (Value.int .i64))) (hB:B<=w.heap.size) :
  Calls Tryz.prog 129 #[.int .i64 x,.pointer (some ⟨gS,0,none⟩)] w fun e w'=>e=.returned (.bool (!hasI out x))/\Fr w.heap.size [] w w':=by
 have HC:=zh (stands_any x gO A q c B out w hb hn hm hr hB);have c0:=hs.cell 0;simp at c0;have hent:=enters_of Tryz.func127 (by kernel_rfl) rfl;clear hb hn hr hs;go_enter Tryz.func129,Tryz.ntmps129;go_wp2_with fail;refine HC.out.mono ?_;rintro e w1 ⟨rfl,f1⟩;have F1:=zh f1;clear f1;go_wp2_with fail;go_ret;exact ⟨rfl,F1.out⟩
structure Nmd (base:Nat) (w:World) (A:Option Addr) (n c:Nat) (M:List Ndm):Prop where
 num:n=M.length
 own:w.ownsRow base 66 13 (.slice A n c) n (cellsN M)
 inn:NmI base (Value.ownBlock (.slice A n c)) w M
theorem fresh_notin {base:Nat} {v:Value} {L:List Nat} (h:Fresh base v) (hL:∀ k ∈ L,k < base) {A:Option Addr} {n c:Nat} (hv:v=.slice A n c) (hn:0 < n):∀ ad,A=some ad->ad.block ∉ L:=by
 intro ad ha hm;have:=h A n c hv hn ad ha;have:=hL _ hm;omega
theorem Nmd.nds {base:Nat} {w w':World} {A:Option Addr} {n c:Nat} {M:List Ndm} {L:List Nat} (h:Nmd base w A n c M) (hf:Fr w.heap.size L w w') (hL:∀ k ∈ L,k < base):Nds w' w.heap.size A n M :=
 ⟨h.num, (Reads.of_own h.own).frL hf (Nat.le_refl _) (fun hn ad ha hm => by
  obtain ⟨g,cap,hv,hbg,hlt⟩:=h.own.form hn;injection hv with hv
  rw [ha] at hv;injection hv with hv
  subst hv;have:=hL _ hm;simp only at this
  omega),fun m hm=>by
  obtain ⟨⟨⟨A1,c1,h1,h2⟩,⟨A2,c2,h3,h4⟩⟩,o1,o2,f1,f2,th⟩:=h.inn m hm
  exact ⟨⟨A1,c1,h1,h2.frL hf (Nat.le_refl _) (fresh_notin f1 hL h1)⟩,⟨A2,c2,h3,h4.frL hf (Nat.le_refl _) (fresh_notin f2 hL h3)⟩⟩⟩
theorem small_norm {M M1:List Ndm} (hs:Small M) (h:fstN M1=normL (fstN M)):Small M1:=by
 refine ⟨?_,fun m hm => ?_⟩
 · have:=congrArg List.length h;rw [normL_len] at this;simp [fstN] at this;rw [this];exact hs.1
 · have h1:m.1 ∈ fstN M1:=List.mem_map.2 ⟨m,hm,rfl⟩;rw [h,normL_mem] at h1;obtain ⟨m',hm',e⟩:=List.mem_map.1 h1;rw [<- e];exact hs.2 m' hm'
theorem find_at {α:Type} {p:α->Bool}:∀ {l:List α} {i:Nat} {a:α},l[i]?=some a->p a=true->(∀ j y,j < i->l[j]?=some y->p y=false)->l.find? p=some a
 | [],_,_,h,_,_=>by simp at h
 | x :: l,0,a,h,hp,_=>by
  simp at h;subst h;rw [List.find?_cons,hp]
 | x :: l,i+1,a,h,hp,hb=>by
  rw [List.find?_cons,hb 0 x (by omega) rfl];exact find_at (l:=l) (i:=i) (by simpa using h) hp fun j y hj hy=>hb (j+1) y (by omega) (by simpa using hy)
theorem find_no {α:Type} {p:α->Bool} {l:List α} (h:∀ (j:Nat) (y:α),l[j]?=some y->p y=false):l.find? p=none:=by
 rw [List.find?_eq_none];intro x hx;obtain ⟨j,hj⟩:=List.getElem?_of_mem hx;simp [h j x hj]
structure SortJ (gO gS:Nat) (L:List Nd) (w w2 wr:World) (A1:Option Addr) (n1 c1:Nat) (M1:List Ndm) (A':Option Addr) (k c':Nat):Prop where
 nmd:Nmd (gS+1) w2 A1 n1 c1 M1
 fst:fstN M1=normL L
 sml:Small M1
 fr2:Fr w.heap.size [] w w2
 blS:Blk w2 gS 220 #[fnStands gO]
 fr:Fr w2.heap.size [gO] w2 wr
 box:Blk wr gO 23 #[.slice A' k c']
 own:wr.ownsRow w2.heap.size 3 1 (.slice A' k c') k ((sortF (normL L) k).map (Value.int .i64))
 len:k=(sortF (normL L) k).length
theorem SortJ.mv {gO gS:Nat} {L:List Nd} {w w2 wr wi:World} {A1:Option Addr} {n1 c1:Nat} {M1:List Ndm} {A':Option Addr} {k c':Nat} (h:SortJ gO gS L w w2 wr A1 n1 c1 M1 A' k c') (hf:Fr wr.heap.size [] wr wi):SortJ gO gS L w w2 wi A1 n1 c1 M1 A' k c' :=
 ⟨h.nmd,h.fst,h.sml,h.fr2,h.blS,h.fr.trans (hf.mono (B':=w2.heap.size) (L':=[gO]) h.fr.size (by simp)),h.box.fr hf h.box.lt (by simp),ownsRow_fr h.own hf (fun q hq=>⟨(h.own.lt q hq).2,by simp⟩),h.len⟩
theorem SortJ.lt {gO gS:Nat} {L:List Nd} {w w2 wr:World} {A1:Option Addr} {n1 c1:Nat} {M1:List Ndm} {A':Option Addr} {k c':Nat} (h:SortJ gO gS L w w2 wr A1 n1 c1 M1 A' k c') (hgo:gO < gS):Nds wr w2.heap.size A1 n1 M1 :=
 h.nmd.nds h.fr (by simp;omega)
theorem SortJ.num {gO gS:Nat} {L:List Nd} {w w2 wr:World} {A1:Option Addr} {n1 c1:Nat} {M1:List Ndm} {A':Option Addr} {k c':Nat} (h:SortJ gO gS L w w2 wr A1 n1 c1 M1 A' k c'):n1=L.length:=by
 have:=congrArg List.length h.fst;rw [normL_len] at this;simp [fstN] at this;rw [<- this];exact h.nmd.num
theorem SortJ.kle {gO gS:Nat} {L:List Nd} {w w2 wr:World} {A1:Option Addr} {n1 c1:Nat} {M1:List Ndm} {A':Option Addr} {k c':Nat} (h:SortJ gO gS L w w2 wr A1 n1 c1 M1 A' k c'):k<=L.length:=by
 have:=(sortF_ord (normL L) k).le;rw [<- h.len,normL_len] at this;exact this
theorem SortJ.bs {gO gS:Nat} {L:List Nd} {w w2 wr:World} {A1:Option Addr} {n1 c1:Nat} {M1:List Ndm} {A':Option Addr} {k c':Nat} (h:SortJ gO gS L w w2 wr A1 n1 c1 M1 A' k c') (hgo:gO < gS):Blk wr gS 220 #[fnStands gO] :=
 h.blS.fr h.fr h.blS.lt (by simp;omega)
theorem SortJ.ready {gO gS:Nat} {L:List Nd} {w w2 wr:World} {A1:Option Addr} {n1 c1:Nat} {M1:List Ndm} {A':Option Addr} {k c':Nat} (h:SortJ gO gS L w w2 wr A1 n1 c1 M1 A' k c') {i:Nat} {m:Ndm} (hm:M1[i]?=some m) (hr:readyB (sortF (normL L) k) m.1=true)
  (hb:∀ (j:Nat) (y:Ndm),j < i->M1[j]?=some y->readyB (sortF (normL L) k) y.1=false):(normL L).find? (readyB (sortF (normL L) k))=some m.1:=by
 refine find_at (i:=i) ?_ hr fun j y hj hy => ?_
 · rw [<- h.fst];simp [fstN,hm]
 · rw [<- h.fst] at hy;simp only [fstN,List.getElem?_map,Option.map_eq_some_iff] at hy;obtain ⟨z,hz,rfl⟩:=hy;exact hb j z hj hz
theorem SortJ.none_ {gO gS:Nat} {L:List Nd} {w w2 wr:World} {A1:Option Addr} {n1 c1:Nat} {M1:List Ndm} {A':Option Addr} {k c':Nat} (h:SortJ gO gS L w w2 wr A1 n1 c1 M1 A' k c')
  (hb:∀ (j:Nat) (y:Ndm),j < n1->M1[j]?=some y->readyB (sortF (normL L) k) y.1=false):sortN L=sortF (normL L) k:=by
 have hf:(normL L).find? (readyB (sortF (normL L) k))=none:=by
  refine find_no fun j y hy => ?_;rw [<- h.fst] at hy;simp only [fstN,List.getElem?_map,Option.map_eq_some_iff] at hy;obtain ⟨z,hz,rfl⟩:=hy;refine hb j z ?_ hz;rw [h.nmd.num];exact (List.getElem?_eq_some_iff.1 hz).1
 have:=sortF_end (L:=normL L) (k:=k) (by rw [normL_len];exact h.kle) hf;unfold sortN;rw [<- normL_len L,this]
theorem SortJ.more {gO gS:Nat} {L:List Nd} {w w2 w3 w4:World} {A1:Option Addr} {n1 c1:Nat} {M1:List Ndm} {A' A3:Option Addr} {k c' c3:Nat} {x:Nd} {news:Array Value} (h:SortJ gO gS L w w2 w3 A1 n1 c1 M1 A' k c') (hf:(normL L).find? (readyB (sortF (normL L) k))=some x)
  (ho:w4.ownsRow w2.heap.size 3 1 (.slice A3 (k+1) c3) (k+1) ((sortF (normL L) k).map (Value.int .i64) ++ [Value.int .i64 x.id])) (hg:(w3.alloc (.cells news 3)).grownBy w4 (Value.ownBlock (.slice A' k c'))):SortJ gO gS L w w2 (w4.setCell ⟨gO,0,none⟩ (.slice A3 (k+1) c3)) A1 n1 c1 M1 A3 (k+1) c3:=by
 have hb4:Blk w4 gO 23 #[.slice A' k c']:=(h.box.alloc _).grown hg (h.box.ne_own h.own (by decide));have hss:=sortF_some hf;refine ⟨h.nmd,h.fst,h.sml,h.fr2,h.blS,?_,by simpa using hb4.set_ 0 (.slice A3 (k+1) c3),?_,?_⟩
 · have f4:=Fr.of_app hg h.own h.fr.size;exact (h.fr.trans (f4.mono (Nat.le_refl _) (by simp))).setCell (.inr (by simp)) _
 · rw [hss,List.map_append];exact ownsRow_setCell_other ho (fun e=>hb4.ne_own ho (by decide) e.symm) _
 · rw [hss,List.length_append,<- h.len];rfl
def sortMu (gO:Nat) (w:World):Nat:=match w.cell? ⟨gO,0,none⟩ with
 | some (.slice _ k _)=>21 - k
 | _=>0
theorem sortMu_lt {gO:Nat} {w w':World} {A A':Option Addr} {k c c':Nat} (h:Blk w gO 23 #[.slice A k c]) (h':Blk w' gO 23 #[.slice A' (k+1) c']) (hk:k<=20):sortMu gO w' < sortMu gO w:=by
 have c0:=h.cell 0;have c1:=h'.cell 0;unfold sortMu;rw [c0,c1];simp;omega
theorem sort_any (A:Option Addr) (c B n:Nat) (M:List Ndm) (w:World) (h:Nds w B A n M) (hB:B<=w.heap.size) (hs:Small M) (hn:n<=20) :
  Calls Tryz.prog 89 #[.slice A n c] w (IntsOut (sortN (fstN M)) w):=by
 have BO:=zh ((Blk.new w 23 #[.slice none 0 0]).alloc (.cells #[fnStands w.heap.size] 220));have BS0:=Blk.new (w.alloc (.cells #[.slice none 0 0] 23)) 220 #[fnStands w.heap.size];rw [World.size_alloc] at BS0;have BS:=zh BS0;have F1:=zh (((Fr.refl w.heap.size [] w).alloc (Nat.le_refl _) (.cells #[.slice none 0 0] 23)).alloc (by simp) (.cells #[fnStands w.heap.size] 220));have HN:=zh (norm_any A c B n M ((w.alloc (.cells #[.slice none 0 0] 23)).alloc (.cells #[fnStands w.heap.size] 220)) (h.frw F1.out hB (by simp)) (Nat.le_trans hB F1.out.size) hs hn);have hz1:((w.alloc (.cells #[.slice none 0 0] 23)).alloc (.cells #[fnStands w.heap.size] 220)).heap.size=w.heap.size+1+1:=(by simp);have HZ1:=zh hz1;have HNUM:=zh h.num;have HSM:=zh hs;obtain ⟨L,hL⟩:=nm (fstN M);have HLM:=zh hL;rw [<- hL] at HN ⊢;have hnl:L.length=n:=(by rw [hL,h.num];simp [fstN]);have HNL:=zh hnl;clear BS0 h hs hL hz1 hnl;go_enter Tryz.func89,Tryz.ntmps89;go_wp2_with fail;refine wp_scope_jumps 0 (fun a' w'=>∃ (w2:World) (A1:Option Addr) (n1 c1:Nat) (M1:List Ndm) (A':Option Addr) (k c':Nat) (u1 u5 u6 u7 u8 u9 u10 u11 u12 u13 u14 u15 u16 u17 u18 u19 u20 u21 u22 u23 u24 u25 u26 u27 u28 u29 u30 u31 u32 u33 u34:Value),a'={ tmps:=#[.slice A1 n1 c1,u1,.slice none 0 0,.pointer (some ⟨w.heap.size,0,none⟩),.pointer (some ⟨w.heap.size+1,0,none⟩),u5,u6,u7,u8,u9,u10,u11,u12,u13,u14,u15,u16,u17,u18,u19,u20,u21,u22,u23,u24,u25,u26,u27,u28,u29,u30,u31,u32,u33,u34],defers:=[] }/\Hid (SortJ w.heap.size (w.heap.size+1) L w w2 w' A1 n1 c1 M1 A' k c')) (fun _ w'=>sortMu w.heap.size w') rfl ?first ?pass
 case' first =>
  go_wp2_with fail;generalize (w.alloc _).alloc _=w1 at *;refine HN.out.mono ?_;rintro e w2 ⟨A1,c1,n1,M1,hn1,rfl,ho,hi,hf1,f2⟩;rw [HZ1.out] at ho hi f2;have HJ:=zh (show SortJ w.heap.size (w.heap.size+1) L w w2 w2 A1 n1 c1 M1 none 0 0 from ⟨⟨hn1,ho,hi⟩,hf1,small_norm HSM.out (by rw [hf1,HLM.out]),F1.out.trans (f2.mono (B':=w.heap.size) (L':=[]) (by omega) (by simp)),BS.out.fr f2 (by omega) (by simp),Fr.refl _ _ _,BO.out.fr f2 (by omega) (by simp),World.ownsRow_nil _ _ _ _,rfl⟩);clear hn1 ho hi hf1 f2 HN BO BS F1 HZ1;obtain ⟨wq,hwq⟩:=nm (w2:World);obtain ⟨A',k,c',HJ⟩:∃ (A':Option Addr) (k c':Nat),Hid (SortJ w.heap.size (w.heap.size+1) L w w2 wq A1 n1 c1 M1 A' k c'):=⟨none,0,0,by rw [hwq];exact HJ⟩;rw [<- hwq];clear hwq;go_wp2_with fail;go_step3;go_wp2_with fail
 case' pass =>
  rintro a wq ⟨w2,A1,n1,c1,M1,A',k,c',u1,u5,u6,u7,u8,u9,u10,u11,u12,u13,u14,u15,u16,u17,u18,u19,u20,u21,u22,u23,u24,u25,u26,u27,u28,u29,u30,u31,u32,u33,u34,rfl,HJ⟩;clear HN BO BS F1 HZ1;go_wp2_with fail
 all_goals
  have hn1:n1<=20:=(by rw [HJ.out.num,HNL.out];exact hn);have hk20:k<=20:=(by have h1:=HJ.out.kle;have h2:=HNL.out;omega);go_loopg [12] n1 (fun g s12 wr=>∃ i:Nat,i<=n1/\g=n1 - i/\s12=.int .i64 i/\Hid (∀ (j:Nat) (y:Ndm),j < i->M1[j]?=some y->readyB (sortF (normL L) k) y.1=false)/\Hid (Fr wq.heap.size [] wq wr))
  case atStart=>exact ⟨0,Nat.zero_le _,rfl,rfl,zh (fun j y h=>absurd h (Nat.not_lt_zero _)),zh (Fr.refl _ _ _)⟩
  case round =>
   obtain ⟨i,hi,rfl,rfl,HB,HF⟩:=hrel;have HJ:=zh (HJ.out.mv HF.out)
   by_cases hin1:i < n1
   ·
    have hki:(i:Int) < (n1:Int):=by omega
    have hk0:(0:Int)<=(i:Int):=(by omega);obtain ⟨m,hx⟩:∃ m,M1[i]?=some m:=⟨_,List.getElem?_eq_getElem (by rw [<- HJ.out.nmd.num];exact hin1)⟩;have HX:=zh hx;have HND:=HJ.out.lt (by omega);have hlt2:w2.heap.size<=wr.heap.size:=HJ.out.fr.size;obtain ⟨b1,o1,rfl,hb1,hc1⟩:=HND.get hx;have hin:=HND.inn m (List.mem_of_getElem? hx);have hsm:=HJ.out.sml.2 m (List.mem_of_getElem? hx);obtain ⟨x,sf,sp⟩:=m;have fa:=(Fr.refl wr.heap.size [] wr).alloc (Nat.le_refl _) (.cells (ndA x sf sp) 66);have BX:=zh (Blk.new wr 66 (ndA x sf sp));have HJa:=zh (HJ.out.mv fa);have HFa:=zh (HF.out.nx fa);obtain ⟨⟨Af,cf,hf1,hf2⟩,⟨Ap,cp,hp1,_⟩⟩:=hin;simp only at hf1 hp1 hsm hf2;have RF:=zh (hf2.fr fa hlt2 (by simp));subst hf1;subst hp1;obtain ⟨g0,g1,g2,g3,g4,g5,g6,g7,g8,g9,g10,g11,g12⟩:=ndL_get (x,.slice Af x.fr.length cf,.slice Ap x.pg.length cp);have p0:=hc1 0 _ g0;have p1:=hc1 1 _ g1;have p2:=hc1 2 _ g2;have p3:=hc1 3 _ g3;have p4:=hc1 4 _ g4;have p5:=hc1 5 _ g5;have p6:=hc1 6 _ g6;have p7:=hc1 7 _ g7;have p8:=hc1 8 _ g8;have p9:=hc1 9 _ g9;have p10:=hc1 10 _ g10;have p11:=hc1 11 _ g11;have p12:=hc1 12 _ g12;simp only [Nat.add_zero] at p0;obtain ⟨nf,hnf⟩:=nm (x.fr.length);obtain ⟨np,hnp⟩:=nm (x.pg.length);rw [<- hnf] at p2 BX HJa HFa RF;rw [<- hnp] at p3 BX HJa HFa RF;have HNF:=zh hnf;have hnf1:nf<=1000000:=(by rw [hnf];exact hsm.1);clear hc1 hx g0 g1 g2 g3 g4 g5 g6 g7 g8 g9 g10 g11 g12 HND hsm hnf hnp fa hb1 hf2 HF HJ;go_upto_region 7 with fail;clear p0 p1 p2 p3 p4 p5 p6 p7 p8 p9 p10 p11 p12;have hwa:w2.heap.size<=(wr.alloc (.cells (ndA x (.slice Af nf cf) (.slice Ap np cp)) 66)).heap.size:=HJa.out.fr.size;clear hlt2;generalize wr.alloc (.cells (ndA x (.slice Af nf cf) (.slice Ap np cp)) 66)=wa at *;generalize wr.heap.size=gx at *;have q0:=BX.out.cell 0;have q2:=BX.out.cell 2;simp at q0 q2;have s0:=(HJa.out.bs (by omega)).cell 0;simp at s0;obtain ⟨out,hout⟩:=nm (sortF (normL L) k);have HOUT:=zh hout;have HRB:=zh (show readyB out x=(!hasI out x.id && x.fr.all (hasI out)) from rfl);have hlen:=HJa.out.len;have hown:=HJa.out.own;rw [<- hout] at hlen hown;have HC1:=stands_any x.id w.heap.size A' k c' _ out wa HJa.out.box hlen (by omega) (Reads.of_own hown) (Nat.le_refl _);obtain ⟨h1,hh1⟩:=nm (hasI out x.id);rw [<- hh1] at HC1 HRB;have HC1:=zh HC1;have hent:=enters_of Tryz.func127 (by kernel_rfl) rfl;clear hout hh1 hlen hown
    cases h1 with
    | true =>
     have HR0:=zh (show readyB out x=false by rw [HRB.out];rfl);go_wp2_with fail;refine HC1.out.mono ?_;rintro e wb ⟨rfl,fb⟩;have HFb:=zh (HFa.out.nx fb);clear fb HC1 q0 q2 s0;go_wp2_with fail;go_roundg (n1 - (i+1))
     case measure=>omega
     case rel => exact ⟨i + 1, by omega, rfl, by go_num, zh (fun j y hj hy => by
      by_cases e:j=i
      ·
       subst e;have:=HX.out.symm.trans hy;injection this with this
       rw [<- this,<- HOUT.out];exact HR0.out
      · exact HB.out j y (by omega) hy),HFb⟩
    | false =>
     go_wp2_with fail;refine HC1.out.mono ?_;rintro e wb ⟨rfl,fb⟩;have HFb:=zh (HFa.out.nx fb);have HJb:=zh (HJa.out.mv fb);have BXb:=zh (BX.out.fr fb BX.out.lt (by simp));have RFb:=zh (RF.out.fr fb hwa (by simp));have hwb:w2.heap.size<=wb.heap.size:=HJb.out.fr.size;clear fb HC1 q0 q2 s0 HFa HJa BX RF hwa;have q0:=BXb.out.cell 0;have q2:=BXb.out.cell 2;simp at q0 q2;have hent2:=enters_of Tryz.func129 (by kernel_rfl) rfl;have HC2:=jcontains_any 129 #[.pointer (some ⟨w.heap.size+1,0,none⟩)] (fun f=>!hasI out f) Af cf w2.heap.size nf x.fr wb hent2 (fun f w' _ hf=>nstands_any f (w.heap.size+1) w.heap.size A' k c' _ out w' ((HJb.out.mv hf).bs (by omega)) (HJb.out.mv hf).box (by rw [HOUT.out];exact (HJb.out.mv hf).len) (by omega) (by rw [HOUT.out];exact Reads.of_own (HJb.out.mv hf).own) (Nat.le_refl _)) HNF.out hnf1 RFb.out hwb;obtain ⟨h2,hh2⟩:=nm (x.fr.any (fun f=>!hasI out f));rw [<- hh2] at HC2;have HC2:=zh HC2;have HR2:=zh (show readyB out x=!h2 by rw [HRB.out,hh2,List.any_eq_not_all_not];simp);clear hh2 HRB
     cases h2 with
     | true =>
      go_wp2_with fail;refine HC2.out.mono ?_;rintro e wd ⟨rfl,fd⟩;have HFd:=zh (HFb.out.nx fd);clear fd HC2 q0 q2;go_wp2_with fail;go_roundg (n1 - (i+1))
      case measure=>omega
      case rel => exact ⟨i + 1, by omega, rfl, by go_num, zh (fun j y hj hy => by
       by_cases e:j=i
       ·
        subst e;have:=HX.out.symm.trans hy;injection this with this
        rw [<- this,<- HOUT.out];exact HR2.out
       · exact HB.out j y (by omega) hy),HFd⟩
     | false =>
      go_wp2_with fail;refine HC2.out.mono ?_;rintro e wd ⟨rfl,fd⟩;have HJd:=zh (HJb.out.mv fd);have BXd:=zh (BXb.out.fr fd BXb.out.lt (by simp));have HFN:=zh (HJd.out.ready HX.out (by rw [<- HOUT.out];exact HR2.out) HB.out);have hklt:=sortF_room HJd.out.len.symm HFN.out;rw [normL_len,HNL.out] at hklt;clear fd HC2 q0 q2 HFb HJb BXb RFb hwb;have q0:=BXd.out.cell 0;have o0:=HJd.out.box.cell 0;simp at q0 o0;have hown:=HJd.out.own;have hsz:=HJd.out.fr.size;go_wp2_with (at_builtin;refine wpList_app_lit _ rfl (.tmp 28) (.tmp 31) intsTy rfl w2.heap.size (.slice A' k c') k _ rfl hown 1 1 _ rfl rfl (by simp [Value.oneCell']) (by omega) (by omega) hsz ?_;intro A3 c3 w4 hown4 hg4 hat4;have hb4:=(HJd.out.box.alloc (.cells #[.int .i64 x.id] 3)).grown hg4 (HJd.out.box.ne_own hown (by decide));have zb4:=hb4.frozen 0;have cb4:=hb4.cell 0;simp at cb4);have HJ5:=zh (HJd.out.more HFN.out hown4 hg4);have HMU:=zh (sortMu_lt HJ.out.box HJ5.out.box hk20);clear hown4 hg4 hat4 hb4 zb4 cb4 hown q0 o0 HJd BXd HC1 HC2;generalize w4.setCell ⟨w.heap.size,0,none⟩ (.slice A3 (k+1) c3)=w5 at *;go_step3
      first
       | exact ⟨rfl,w2,_,_,_,_,A3,k+1,c3,_,_,_,_,_,_,_,_,_,_,_,_,_,_,_,_,_,_,_,_,_,_,_,_,_,_,_,_,_,_,_,rfl,HJ5⟩
       | exact ⟨rfl,⟨w2,_,_,_,_,A3,k+1,c3,_,_,_,_,_,_,_,_,_,_,_,_,_,_,_,_,_,_,_,_,_,_,_,_,_,_,_,_,_,_,_,rfl,HJ5⟩,HMU.out⟩
   ·
    obtain rfl:i=n1:=by omega
    have HE:=zh (HJ.out.none_ HB.out);have o0:=HJ.out.box.cell 0;simp at o0;go_wp2_with fail;simp only [Exit.jump];go_ret;unfold IntsOut;rw [HE.out];exact ⟨A',c',k,HJ.out.len,rfl,ownsRow_base HJ.out.own HJ.out.fr2.size,HJ.out.fr2.trans (HJ.out.fr.mono HJ.out.fr2.size (by intro q hq hlt;simp at hq;omega))⟩
theorem checkN_bad {L:List Nd} (h8:L.length<=8) {x:Nd} (hx:x ∈ L) (hb:nodeB L x=false):checkN L=10:=by
 unfold checkN;rw [if_neg (by omega),if_neg];intro h;rw [Bool.and_eq_true,List.all_eq_true] at h;have:=h.1 x hx;rw [hb] at this
 cases this
theorem checkN_good {L:List Nd} (h8:L.length<=8) (ha:∀ x ∈ L,nodeB L x=true):checkN L=if unlikeB (idsN L) && (hasI (idsN L) 0 && decide ((sortN L).length=L.length)) then 0 else 10:=by
 unfold checkN;have:L.all (nodeB L)=true:=List.all_eq_true.2 ha;rw [if_neg (by omega),this,Bool.true_and]
theorem gcheck_any (A:Option Addr) (c B n:Nat) (M:List Ndm) (w:World) (h:Nds w B A n M) (hB:B<=w.heap.size) (hs:Small M) :
  Calls Tryz.prog 55 #[.slice A n c] w fun e w'=>e=.returned (.int .i64 (checkN (fstN M)))/\Fr w.heap.size [] w w':=by
 obtain ⟨L,hL⟩:=nm (fstN M);have hnl:L.length=n:=(by rw [hL,h.num];simp [fstN]);obtain ⟨cv,hcv⟩:=nm (checkN L);rw [<- hL,<- hcv];have HCV:=zh hcv;have HL:=zh hL;have HNL:=zh hnl;have H:=zh h;have HN:=zh h.num;have HS:=zh hs;clear h hs hL hnl hcv
 by_cases h8:8 < n
 ·
  have hn1:n<=1000000:=by rw [HN.out];exact HS.out.1
  have hv:cv=6:=(by rw [HCV.out];exact checkN_long.2 (by rw [HNL.out];exact h8));have HV:=zh hv;clear hv;go_enter Tryz.func55,Tryz.ntmps55;go_wp2_with fail;go_ret;exact ⟨by rw [HV.out];rfl,Fr.refl _ _ _⟩
 have hn8:n<=8:=(by omega);go_enter Tryz.func55,Tryz.ntmps55;go_wp2_with fail;go_loopg [3,11] n (fun g s3 s11 wr=>∃ (k:Nat) (A':Option Addr) (c':Nat),k<=n/\g=n - k/\s11=.int .i64 k/\s3=.slice A' k c'/\Hid (∀ x ∈ L.take k,nodeB L x=true)/\Hid (wr.ownsRow w.heap.size 3 1 (.slice A' k c') k ((idsN (L.take k)).map (Value.int .i64)))/\Hid (Fr w.heap.size [] w wr))
 case atStart=>exact ⟨0,none,0,Nat.zero_le _,rfl,rfl,rfl,zh (by simp),zh (World.ownsRow_nil _ _ _ _),zh (Fr.refl _ _ _)⟩
 case round =>
  obtain ⟨k,A',c',hk,rfl,rfl,rfl,HG,HO,FR⟩:=hrel
  by_cases hkn:k < n
  ·
   have hki:(k:Int) < (n:Int):=by omega
   have hk0:(0:Int)<=(k:Int):=(by omega);obtain ⟨m,hx⟩:∃ m,M[k]?=some m:=⟨_,List.getElem?_eq_getElem (by rw [<- HN.out];exact hkn)⟩;have HND:=H.out.frw FR.out hB (by simp);obtain ⟨b1,o1,rfl,hb1,hc1⟩:=HND.get hx;have hin:=HND.inn m (List.mem_of_getElem? hx);have hsm:=HS.out.2 m (List.mem_of_getElem? hx);have HTK:=zh (show L.take (k+1)=L.take k ++ [m.1] by rw [List.take_add_one,HL.out];simp [fstN,hx]);have HMEM:=zh (show m.1 ∈ L by rw [HL.out];exact List.mem_map.2 ⟨m,List.mem_of_getElem? hx,rfl⟩);obtain ⟨x,sf,sp⟩:=m;have hBr:B<=wr.heap.size:=Nat.le_trans hB FR.out.size;have fa:=(Fr.refl wr.heap.size [] wr).alloc (Nat.le_refl _) (.cells (ndA x sf sp) 66);have HW:=node_any x sf sp (some ⟨b1,o1,none⟩) c B n M (wr.alloc (.cells (ndA x sf sp) 66)) (hin.frw fa hBr (by simp)) (HND.frw fa hBr (by simp)) (Nat.le_trans hBr fa.size) HS.out hsm.1 hsm.2;have BX:=zh (Blk.new wr 66 (ndA x sf sp));have HOa:=zh (ownsRow_fr HO.out fa (fun q hq=>⟨(HO.out.lt q hq).2,by simp⟩));have FRa:=zh (FR.out.nx fa);obtain ⟨⟨Af,cf,hf1,_⟩,⟨Ap,cp,hp1,_⟩⟩:=hin;simp only at hf1 hp1 hsm HTK HMEM;subst hf1;subst hp1;obtain ⟨nb,hnb⟩:=nm (nodeB L x);rw [show (M.map (·.1))=L from HL.out.symm,<- hnb] at HW;have HW:=zh HW;have HNB:=zh hnb;obtain ⟨g0,g1,g2,g3,g4,g5,g6,g7,g8,g9,g10,g11,g12⟩:=ndL_get (x,.slice Af x.fr.length cf,.slice Ap x.pg.length cp);have p0:=hc1 0 _ g0;have p1:=hc1 1 _ g1;have p2:=hc1 2 _ g2;have p3:=hc1 3 _ g3;have p4:=hc1 4 _ g4;have p5:=hc1 5 _ g5;have p6:=hc1 6 _ g6;have p7:=hc1 7 _ g7;have p8:=hc1 8 _ g8;have p9:=hc1 9 _ g9;have p10:=hc1 10 _ g10;have p11:=hc1 11 _ g11;have p12:=hc1 12 _ g12;simp only [Nat.add_zero] at p0;obtain ⟨nf,hnf⟩:=nm (x.fr.length);obtain ⟨np,hnp⟩:=nm (x.pg.length);rw [<- hnf] at p2 HW BX HOa FRa;rw [<- hnp] at p3 HW BX HOa FRa;clear hc1 hx g0 g1 g2 g3 g4 g5 g6 g7 g8 g9 g10 g11 g12 HND hsm hnf hnp fa HO FR hb1 hnb;go_upto_region 7 with fail;clear p0 p1 p2 p3 p4 p5 p6 p7 p8 p9 p10 p11 p12;generalize wr.alloc (.cells (ndA x (.slice Af nf cf) (.slice Ap np cp)) 66)=wa at *;generalize wr.heap.size=gx at *;have q0:=BX.out.cell 0;have q1:=BX.out.cell 1;have q2:=BX.out.cell 2;have q3:=BX.out.cell 3;have q4:=BX.out.cell 4;have q5:=BX.out.cell 5;have q6:=BX.out.cell 6;have q7:=BX.out.cell 7;have q8:=BX.out.cell 8;have q9:=BX.out.cell 9;have q10:=BX.out.cell 10;have q11:=BX.out.cell 11;have q12:=BX.out.cell 12;simp at q0 q1 q2 q3 q4 q5 q6 q7 q8 q9 q10 q11 q12
   cases nb with
   | false =>
    have hv:cv=10:=(by rw [HCV.out];exact checkN_bad (by rw [HNL.out];exact hn8) HMEM.out HNB.out.symm);have HV:=zh hv;clear hv;go_wp2_with fail;refine HW.out.mono ?_;rintro e w2 ⟨rfl,f2⟩;have F2:=zh (FRa.out.nx f2);clear f2 HW;go_wp2_with fail;go_ret;exact ⟨by rw [HV.out];rfl,F2.out⟩
   | true =>
    go_wp2_with fail;refine HW.out.mono ?_;rintro e w2 ⟨rfl,f2⟩;have HO2:=zh (ownsRow_fr HOa.out f2 (fun q hq=>⟨(HOa.out.lt q hq).2,by simp⟩));have F2:=zh (FRa.out.nx f2);have BX2:=zh (BX.out.fr f2 BX.out.lt (by simp));clear f2 HW q0 q1 q2 q3 q4 q5 q6 q7 q8 q9 q10 q11 q12 BX HOa FRa;have q0:=BX2.out.cell 0;simp at q0;have hown:=HO2.out;have hsz:=F2.out.size;go_wp2_with (at_builtin;refine wpList_app_lit _ rfl (.tmp 19) (.tmp 22) intsTy rfl w.heap.size (.slice A' k c') k _ rfl hown 1 1 _ rfl rfl (by simp [Value.oneCell']) (by omega) (by omega) hsz ?_;intro A3 c3 w4 hown4 hg4 hat4);have F4:=zh (F2.out.trans (Fr.of_app hg4 hown hsz));have HO4:=zh hown4;clear hown4 hg4 hat4 hown;go_roundg (n - (k+1))
    case measure=>omega
    case rel => exact ⟨k + 1, A3, c3, by omega, rfl, by go_num, rfl, zh (by
     rw [HTK.out];intro y hy
     rcases List.mem_append.1 hy with hy | hy
     · exact HG.out y hy
     · rw [List.mem_singleton.1 hy];exact HNB.out.symm),by rw [HTK.out];simpa [idsN] using HO4,F4⟩
  ·
   obtain rfl:k=n:=by omega
   have htk:L.take k=L:=List.take_of_length_le (by rw [HNL.out];exact Nat.le_refl _);rw [htk] at HG HO;have HGOOD:=zh (checkN_good (by rw [HNL.out];exact hn8) HG.out);have hln:k=(idsN L).length:=(by simp [idsN,HNL.out]);have HLN:=zh hln;have HU:=unlike_any A' k c' _ (idsN L) wr hln (by omega) (Reads.of_own HO.out) (Nat.le_refl _);obtain ⟨ub,hub⟩:=nm (unlikeB (idsN L));obtain ⟨zb,hzb⟩:=nm (hasI (idsN L) 0);rw [<- hub] at HU HGOOD;rw [<- hzb] at HGOOD;have HZB:=zh hzb;have HU:=zh HU;clear htk hln hub hzb
   cases ub with
   | false =>
    have hv:cv=10:=(by rw [HCV.out,HGOOD.out];rfl);have HV:=zh hv;clear hv;go_wp2_with fail;refine HU.out.mono ?_;rintro e w2 ⟨rfl,f2⟩;have F2:=zh (FR.out.nx f2);clear f2 HU;go_wp2_with fail;go_ret;exact ⟨by rw [HV.out];rfl,F2.out⟩
   | true =>
    go_wp2_with fail;refine HU.out.mono ?_;rintro e w2 ⟨rfl,f2⟩;have F2:=zh (FR.out.nx f2);have HO2:=ownsRow_fr HO.out f2 (fun q hq=>⟨(HO.out.lt q hq).2,by simp⟩);have HC:=ihas_any 0 A' c' _ k (idsN L) w2 HLN.out (by omega) (Reads.of_own HO2) (Nat.le_refl _);rw [<- HZB.out] at HC;have HC:=zh HC;clear f2 HU HO2 HZB
    cases zb with
    | false =>
     have hv:cv=10:=(by rw [HCV.out,HGOOD.out];rfl);have HV:=zh hv;clear hv;go_wp2_with fail;refine HC.out.mono ?_;rintro e w3 ⟨rfl,f3⟩;have F3:=zh (F2.out.nx f3);clear f3 HC;go_wp2_with fail;go_ret;exact ⟨by rw [HV.out];rfl,F3.out⟩
    | true =>
     go_wp2_with fail;refine HC.out.mono ?_;rintro e w3 ⟨rfl,f3⟩;have F3:=zh (F2.out.nx f3);have HSO:=sort_any A c B k M w3 (H.out.frw F3.out hB (by simp)) (Nat.le_trans hB F3.out.size) HS.out (by omega);rw [<- HL.out] at HSO;have HSO:=zh HSO;clear f3 HC;go_wp2_with fail;refine HSO.out.mono ?_;rintro e w4 ⟨A4,c4,q,hq,rfl,_,f4⟩;have F4:=zh (F3.out.nx f4);have HQ:=zh hq;clear f4 HSO hq
     by_cases hqk:q=k
     ·
      have hv:cv=0:=by rw [HCV.out,HGOOD.out,<- HQ.out,HNL.out,decide_eq_true hqk];rfl
      have HV:=zh hv;subst hqk;clear hv;go_wp2_with fail;go_ret;exact ⟨by rw [HV.out];rfl,F4.out⟩
     ·
      have hv:cv=10:=by rw [HCV.out,HGOOD.out,<- HQ.out,HNL.out,decide_eq_false hqk];rfl
      have HV:=zh hv;have hne:((q:Int) == (k:Int))=false:=(by simp;omega);have hne2:((q:Int) != (k:Int))=true:=(by simp;omega);clear hv;go_wp2_with fail;go_ret;exact ⟨by rw [HV.out];rfl,F4.out⟩
def zNd:Nd:=⟨0,0,0,[],[],fun _=>0⟩
def getN (L:List Nd) (id:Int):Nd:=(findN L id).getD zNd
theorem rhas_any (v:Int) (A:Option Addr) (c B n:Nat) (l:List Int) (w:World) (hn:n=l.length) (hm:n<=1000000) (hr:Reads w B 1 A n (l.map (Value.int .i64))) :
  Calls Tryz.prog 40 #[.slice A n c,.int .i64 v] w fun e w'=>e=.returned (.bool (hasI l v))/\w=w':=by
 have HR:=zh hr;have HN:=zh hn;clear hr hn;go_enter Tryz.func40,Tryz.ntmps40;go_wp2_with fail;go_loop [5] (fun s=>∃ k:Nat,k<=n/\s=.int .i64 k/\Hid (∀ x ∈ l.take k,x ≠ v)) (fun s=>n - (intOf s).toNat)
 case atStart=>exact ⟨0,Nat.zero_le _,rfl,zh (by simp)⟩
 case round =>
  obtain ⟨k,hk,rfl,HB⟩:=hrel
  by_cases hkn:k < n
  ·
   have hki:(k:Int) < (n:Int):=by omega
   have hk0:(0:Int)<=(k:Int):=(by omega);obtain ⟨b,off,u,rfl,hb,hu,hc⟩:=HR.out.one hkn;obtain ⟨x,hx⟩:∃ x,l[k]?=some x:=⟨_,List.getElem?_eq_getElem (by rw [<- HN.out];exact hkn)⟩;rw [List.getElem?_map,hx] at hu;simp at hu;subst hu;have HX:=zh hx;clear hx
   by_cases e:x=v
   · have hv:hasI l v=true:=hasI_iff.2 (e ▸ List.mem_of_getElem? HX.out);have HV:=zh hv;have he:(x == v)=true:=(by simpa using e);clear hv e;go_wp2_with fail;go_ret;exact ⟨by rw [HV.out];rfl,rfl⟩
   ·
    have he:(x == v)=false:=by simpa using e
    have HB2 := zh (show ∀ y ∈ l.take (k + 1), y ≠ v from fun y hy => by
     rw [List.take_add_one,HX.out] at hy
     rcases List.mem_append.1 hy with hy | hy
     · exact HB.out y hy
     · simp at hy;rw [hy];exact e)
    clear e;go_wp2_with fail;go_round
    case rel=>exact ⟨k+1,by omega,by go_num,HB2⟩
    case measure=>simp [intOf];omega
  ·
   obtain rfl:k=n:=by omega
   have hv:hasI l v=false:=by
    have htk:l.take k=l:=List.take_of_length_le (by rw [HN.out];exact Nat.le_refl _);have h:=HB.out;rw [htk] at h
    cases hh:hasI l v with
    | false=>rfl
    | true=>exact absurd rfl (h v (hasI_iff.1 hh))
   have HV:=zh hv;clear hv;go_wp2_with fail;go_ret;exact ⟨by rw [HV.out];rfl,rfl⟩
def ixN (L:List Nd) (id:Int):Int:=match L.findIdx? (fun x=>decide (x.id=id)) with
 | none => -1
 | some k=>(k:Int)
theorem findIdx_at:∀ {L:List Nd} {id:Int} {k:Nat} {x:Nd},L[k]?=some x->x.id=id->(∀ y ∈ L.take k,y.id ≠ id)->L.findIdx? (fun x=>decide (x.id=id))=some k
 | [],_,_,_,h,_,_=>by simp at h
 | y :: L,id,0,x,h,e,_=>by
  simp at h;subst h;rw [List.findIdx?_cons];simp [e]
 | y :: L,id,k+1,x,h,e,hb=>by
  have h0:=hb y (by simp);rw [List.findIdx?_cons];have ih:=findIdx_at (L:=L) (id:=id) (k:=k) (by simpa using h) e fun z hz=>hb z (by simp [hz]);simp [h0,ih]
theorem ixN_cases (L:List Nd) (id:Int):(ixN L id = -1/\findN L id=none) \/ ∃ (k:Nat) (x:Nd),ixN L id=k/\L[k]?=some x/\findN L id=some x:=by
 unfold ixN findN
 induction L with
 | nil=>left;simp
 | cons y L ih =>
  rw [List.findIdx?_cons,List.find?_cons]
  by_cases e:y.id=id
  · right;exact ⟨0,y,by simp [e],rfl,by simp [e]⟩
  ·
   simp only [e,decide_false,Bool.false_eq_true,if_false]
   rcases ih with ⟨h1,h2⟩ | ⟨k,x,h1,h2,h3⟩
   ·
    left
    refine ⟨?_,h2⟩
    cases hf:L.findIdx? (fun x=>decide (x.id=id)) with
    | none=>rfl
    | some k=>rw [hf] at h1;simp only at h1;omega
   ·
    right
    refine ⟨k+1,x,?_,by simpa using h2,h3⟩
    cases hf:L.findIdx? (fun x=>decide (x.id=id)) with
    | none=>rw [hf] at h1;simp only at h1;omega
    | some k'=>rw [hf] at h1;simp only at h1;simp;omega
theorem ixN_none {L:List Nd} {id:Int} (h:∀ y ∈ L,y.id ≠ id):ixN L id = -1:=by
 unfold ixN;rw [List.findIdx?_eq_none_iff.2 (fun x hx=>by simpa using h x hx)]
theorem ixN_at {L:List Nd} {id:Int} {k:Nat} {x:Nd} (h:L[k]?=some x) (e:x.id=id) (hb:∀ y ∈ L.take k,y.id ≠ id):ixN L id=k:=by
 unfold ixN;rw [findIdx_at h e hb]
theorem fst_take {M:List Ndm} {k:Nat} {m:Ndm} (h:M[k]?=some m):(fstN M).take (k+1)=(fstN M).take k ++ [m.1]:=by
 rw [List.take_add_one];simp [fstN,h]
theorem rfind_any (id:Int) (A:Option Addr) (c B n:Nat) (M:List Ndm) (w:World) (h:Nds w B A n M) (hm:n<=1000000) :
  Calls Tryz.prog 19 #[.slice A n c,.int .i64 id] w fun e w'=>e=.returned (.int .i64 (ixN (fstN M) id))/\w=w':=by
 have H:=zh h;have HN:=zh h.num;obtain ⟨L,hL⟩:=nm (fstN M);have HL:=zh hL;obtain ⟨v,hv⟩:=nm (ixN L id);have HV:=zh hv;rw [<- hL,<- hv];clear h hL hv;go_enter Tryz.func19,Tryz.ntmps19;go_wp2_with fail;go_loop [5] (fun s=>∃ k:Nat,k<=n/\s=.int .i64 k/\Hid (∀ x ∈ L.take k,x.id ≠ id)) (fun s=>n - (intOf s).toNat)
 case atStart=>exact ⟨0,Nat.zero_le _,rfl,zh (by simp)⟩
 case round =>
  obtain ⟨k,hk,rfl,HB⟩:=hrel
  by_cases hkn:k < n
  ·
   have hki:(k:Int) < (n:Int):=by omega
   have hk0:(0:Int)<=(k:Int):=(by omega);obtain ⟨m,hx⟩:∃ m,M[k]?=some m:=⟨_,List.getElem?_eq_getElem (by rw [<- HN.out];exact hkn)⟩;obtain ⟨b1,o1,rfl,hb1,hc1⟩:=H.out.get hx;have p0:=hc1 0 _ (ndL_get m).1;simp only [Nat.add_zero] at p0;have HX:=zh (show L[k]?=some m.1 by rw [HL.out];simp [fstN,hx]);have HTK:=zh (show L.take (k+1)=L.take k ++ [m.1] by rw [HL.out];exact fst_take hx);obtain ⟨x,sf,sp⟩:=m;simp only at p0 HX HTK;obtain ⟨i,hi⟩:=nm (x.id);rw [<- hi] at p0;have HI:=zh hi;clear hc1 hx hi
   by_cases e:i=id
   ·
    have hv:v=k:=by rw [HV.out];exact ixN_at HX.out (by rw [<- HI.out];exact e) HB.out
    have HVV:=zh hv;have he:(i == id)=true:=(by simpa using e);clear hv e;go_wp2_with fail;go_ret;exact ⟨by rw [HVV.out];rfl,rfl⟩
   ·
    have he:(i == id)=false:=by simpa using e
    have HB2 := zh (show ∀ y ∈ L.take (k + 1), y.id ≠ id from fun y hy => by
     rw [HTK.out] at hy
     rcases List.mem_append.1 hy with hy | hy
     · exact HB.out y hy
     · simp at hy;rw [hy,<- HI.out];exact e)
    clear e;go_wp2_with fail;go_round
    case rel=>exact ⟨k+1,by omega,by go_num,HB2⟩
    case measure=>simp [intOf];omega
  ·
   obtain rfl:k=n:=by omega
   have hv:v = -1:=by
    have htk:L.take k=L:=List.take_of_length_le (by rw [HL.out,HN.out];simp [fstN]);have h:=HB.out;rw [htk] at h;rw [HV.out];exact ixN_none h
   have HVV:=zh hv;clear hv;go_wp2_with fail;go_ret;exact ⟨by rw [HVV.out];rfl,rfl⟩
theorem any_take {α:Type} {p:α->Bool} {l:List α} {k:Nat} {x:α} (hx:l[k]?=some x) (hp:p x=true):l.any p=true:=List.any_eq_true.2 ⟨x,List.mem_of_getElem? hx,hp⟩
theorem any_none {α:Type} {p:α->Bool} {l:List α} (h:∀ x ∈ l,p x=false):l.any p=false:=by rw [List.any_eq_false];intro x hx;simp [h x hx]
theorem rabove_any (tg:Int) (A:Option Addr) (c B n:Nat) (M:List Ndm) (w:World) (h:Nds w B A n M) (hs:Small M):∀ (s:Nat) (f:Int),s<=100 ->
  Calls Tryz.prog 52 #[.slice A n c,.int .i64 f,.int .i64 tg,.int .i64 s] w fun e w'=>e=.returned (.bool (aboveN (fstN M) tg s f))/\w=w'
 | s,f,hs100=>by
  have hm:n<=1000000:=(by rw [h.num];exact hs.1);have HFI:=rfind_any f A c B n M w h hm;have HREC:∀ s',s=s'+1 -> ∀ f',Calls Tryz.prog 52 #[.slice A n c,.int .i64 f',.int .i64 tg,.int .i64 s'] w fun e w'=>e=.returned (.bool (aboveN (fstN M) tg s' f'))/\w=w':=fun s' e f'=>rabove_any tg A c B n M w h hs s' f' (by omega);obtain ⟨L,hL⟩:=nm (fstN M);rw [<- hL] at HFI HREC ⊢;have HL:=zh hL;have H:=zh h;have HS:=zh hs;have HREC:=zh HREC;clear hL h hs
  rcases ixN_cases L f with ⟨h1,h2⟩ | ⟨k,x,h1,h2,h3⟩
  ·
   rw [h1] at HFI
   have hv:aboveN L tg s f=false:=by cases s with
    | zero=>rfl
    | succ s=>unfold aboveN;rw [h2]
   rw [hv];have HFI:=zh HFI;clear h1 h2 hv;go_enter Tryz.func52,Tryz.ntmps52;go_wp2_with fail;refine HFI.out.mono ?_;rintro e w1 ⟨rfl,rfl⟩;go_wp2_with fail;go_ret;exact ⟨rfl,rfl⟩
  ·
   rw [h1] at HFI;have HFI:=zh HFI
   cases s with
   | zero =>
    clear h1 h2 h3;have hk1:decide ((k:Int) < 0)=false:=decide_eq_false (by omega);have hv:aboveN L tg 0 f=false:=rfl;rw [hv];clear hv
    show Calls Tryz.prog 52 #[.slice A n c,.int .i64 f,.int .i64 tg,.int .i64 0] w _
    go_enter Tryz.func52,Tryz.ntmps52;go_wp2_with fail;refine HFI.out.mono ?_;rintro e w1 ⟨rfl,rfl⟩;go_wp2_with fail;go_ret;exact ⟨rfl,rfl⟩
   | succ s =>
    have HR:=zh (HREC.out s rfl)
    have hv:aboveN L tg (s+1) f=x.fr.any (fun k=>decide (k=tg) || aboveN L tg s k):=by
     conv=>lhs;unfold aboveN
     rw [h3]
    obtain ⟨vb,hvb⟩:=nm (aboveN L tg (s+1) f);rw [<- hvb];rw [<- hvb] at hv;have HV:=zh hv
    have hkn:k < n:=by
     have:=(List.getElem?_eq_some_iff.1 h2).1;rw [HL.out] at this;simp [fstN] at this;rw [H.out.num];exact this
    obtain ⟨m,hx⟩:∃ m,M[k]?=some m:=⟨_,List.getElem?_eq_getElem (by rw [<- H.out.num];exact hkn)⟩
    have hmx:m.1=x:=by
     have:=h2;rw [HL.out] at this;simp [fstN,hx] at this;exact this
    obtain ⟨b1,o1,rfl,hb1,hc1⟩:=H.out.get hx;have hin:=H.out.inn m (List.mem_of_getElem? hx);have hsm:=HS.out.2 m (List.mem_of_getElem? hx);obtain ⟨x',sf,sp⟩:=m;simp only at hmx hsm;subst hmx;obtain ⟨⟨Af,cf,hf1,hf2⟩,_⟩:=hin;simp only at hf1 hf2;subst hf1;have p2:=hc1 2 _ (ndL_get (x',.slice Af x'.fr.length cf,sp)).2.2.1;obtain ⟨nf,hnf⟩:=nm (x'.fr.length);rw [<- hnf] at p2 hf2;have hnf1:nf<=1000000:=(by rw [hnf];exact hsm.1);have HNF:=zh hnf;have RF:=zh hf2;have hki:(k:Int) < (n:Int):=(by omega);have hk0:(0:Int)<=(k:Int):=(by omega);have hk1:decide ((k:Int) < 0)=false:=decide_eq_false (by omega);have hs1:((s:Int)+1 == 0)=false:=(by simp;omega);have hs2:(0:Int)<=(s:Int):=(by omega);have hs3:(s:Int)<=100:=(by omega);clear hc1 hx h1 h2 h3 hv hvb hsm hnf hf2 hs100 HREC hb1;have hcast:((s+1:Nat):Int)=(s:Int)+1:=(by omega);rw [hcast];clear hcast;go_enter Tryz.func52,Tryz.ntmps52;go_wp2_with fail;refine HFI.out.mono ?_;rintro e w1 ⟨rfl,rfl⟩;go_wp2_with fail;go_loop [10] (fun t=>∃ j:Nat,j<=nf/\t=.int .i64 j/\Hid (∀ y ∈ x'.fr.take j,(decide (y=tg) || aboveN L tg s y)=false)) (fun t=>nf - (intOf t).toNat)
    case atStart=>exact ⟨0,Nat.zero_le _,rfl,zh (by simp)⟩
    case round =>
     obtain ⟨j,hj,rfl,HB⟩:=hrel
     by_cases hjn:j < nf
     ·
      have hji:(j:Int) < (nf:Int):=by omega
      have hj0:(0:Int)<=(j:Int):=(by omega);obtain ⟨b,off,u,rfl,hb,hu,hc⟩:=RF.out.one hjn;obtain ⟨y,hy⟩:∃ y,x'.fr[j]?=some y:=⟨_,List.getElem?_eq_getElem (by rw [<- HNF.out];exact hjn)⟩;rw [List.getElem?_map,hy] at hu;simp at hu;subst hu;have HY:=zh hy;clear hy hb
      by_cases e:y=tg
      ·
       have hv:vb=true:=by rw [HV.out];exact any_take HY.out (by simp [e])
       have H:=zh hv;have he:(y == tg)=true:=(by simpa using e);clear hv e;go_wp2_with fail;go_ret;exact ⟨by rw [H.out];rfl,rfl⟩
      ·
       have he:(y == tg)=false:=by simpa using e
       have HRY:=HR.out y;obtain ⟨ab,hab⟩:=nm (aboveN L tg s y);rw [<- hab] at HRY;have HRY:=zh HRY;have HAB:=zh hab;clear hab
       cases ab with
       | true =>
        have hv:vb=true:=(by rw [HV.out];exact any_take HY.out (by rw [<- HAB.out];simp));have H:=zh hv;clear hv e;go_wp2_with fail;refine HRY.out.mono ?_;rintro e w1 ⟨rfl,rfl⟩;go_wp2_with fail;go_ret;exact ⟨by rw [H.out];rfl,rfl⟩
       | false =>
        have HB2 := zh (show ∀ y ∈ x'.fr.take (j + 1), (decide (y = tg) || aboveN L tg s y) = false from fun z hz => by
         rw [List.take_add_one,HY.out] at hz
         rcases List.mem_append.1 hz with hz | hz
         · exact HB.out z hz
         · simp at hz;rw [hz,<- HAB.out];simp [e])
        clear e;go_wp2_with fail;refine HRY.out.mono ?_;rintro e w1 ⟨rfl,rfl⟩;go_wp2_with fail;go_round
        case rel=>exact ⟨j+1,by omega,by go_num,HB2⟩
        case measure=>simp [intOf];omega
     ·
      obtain rfl:j=nf:=by omega
      have hv:vb=false:=by
       have htk:x'.fr.take j=x'.fr:=List.take_of_length_le (by rw [HNF.out];exact Nat.le_refl _);have h:=HB.out;rw [htk] at h;rw [HV.out];exact any_none h
      have H:=zh hv;clear hv;go_wp2_with fail;go_ret;exact ⟨by rw [H.out];rfl,rfl⟩
def rngI (k:Nat):List Int:=(List.range k).map fun (i:Nat)=>(i:Int)
theorem rngI_succ (k:Nat):rngI (k+1)=rngI k ++ [(k:Int)]:=by unfold rngI;rw [List.range_succ,List.map_append];rfl
theorem filt_len (p:Int->Bool) (k:Nat):((rngI k).filter p).length<=k:=Nat.le_trans (List.length_filter_le _ _) (by simp [rngI])
def childR (L:List Nd) (id:Int):List Int:=(rngI 8).filter fun n=>hasI (getN L n).fr id
theorem getN_some {L:List Nd} {id:Int} {x:Nd} (h:findN L id=some x):getN L id=x:=by unfold getN;rw [h];rfl
theorem getN_none {L:List Nd} {id:Int} (h:findN L id=none):getN L id=zNd:=by unfold getN;rw [h];rfl
theorem filt_yes {p:Int->Bool} {k:Nat} (h:p k=true):(rngI (k+1)).filter p=(rngI k).filter p ++ [(k:Int)]:=by rw [rngI_succ,List.filter_append];simp [h]
theorem filt_no {p:Int->Bool} {k:Nat} (h:p k=false):(rngI (k+1)).filter p=(rngI k).filter p:=by rw [rngI_succ,List.filter_append];simp [h]
structure FltJ (p:Int->Bool) (w wr:World) (k:Nat) (A':Option Addr) (q c':Nat):Prop where
 fr:Fr w.heap.size [] w wr
 own:wr.ownsRow w.heap.size 3 1 (.slice A' q c') q (((rngI k).filter p).map (Value.int .i64))
 len:q=((rngI k).filter p).length
theorem FltJ.stay {p:Int->Bool} {w wr:World} {k:Nat} {A':Option Addr} {q c':Nat} (h:FltJ p w wr k A' q c') (hp:p k=false):FltJ p w wr (k+1) A' q c' :=
 ⟨h.fr,by rw [filt_no hp];exact h.own,by rw [filt_no hp];exact h.len⟩
theorem FltJ.more {p:Int->Bool} {w w3 w4:World} {k:Nat} {A' A3:Option Addr} {q c' c3:Nat} {news:Array Value} (h:FltJ p w w3 k A' q c') (hp:p k=true)
  (ho:w4.ownsRow w.heap.size 3 1 (.slice A3 (q+1) c3) (q+1) (((rngI k).filter p).map (Value.int .i64) ++ [Value.int .i64 k])) (hg:(w3.alloc (.cells news 3)).grownBy w4 (Value.ownBlock (.slice A' q c'))):FltJ p w w4 (k+1) A3 (q+1) c3:=by
 refine ⟨h.fr.trans (Fr.of_app hg h.own h.fr.size),?_,?_⟩
 · rw [filt_yes hp,List.map_append];exact ho
 · rw [filt_yes hp,List.length_append,<- h.len];rfl
theorem rchild_any (id:Int) (A:Option Addr) (c B n:Nat) (M:List Ndm) (w:World) (h:Nds w B A n M) (hB:B<=w.heap.size) (hs:Small M) :
  Calls Tryz.prog 42 #[.slice A n c,.int .i64 id] w (IntsOut (childR (fstN M) id) w):=by
 obtain ⟨L,hL⟩:=nm (fstN M);have HL:=zh hL;have H:=zh h;have HS:=zh hs;have hm:n<=1000000:=(by rw [h.num];exact hs.1);rw [<- hL];obtain ⟨p,hp⟩:∃ p:Int->Bool,p=fun n=>hasI (getN L n).fr id:=⟨_,rfl⟩;have HP:=zh hp;have HR:=zh (show childR L id=(rngI 8).filter p by rw [hp];rfl);have HJ:=zh (show FltJ p w (w.alloc (.cells #[] 3)) 0 (some ⟨w.heap.size,0,none⟩) 0 0 from ⟨(Fr.refl w.heap.size [] w).alloc (Nat.le_refl _) _,iowns_empty w,rfl⟩);clear hL h hs hp;go_enter Tryz.func42,Tryz.ntmps42;go_wp2_with fail;generalize w.alloc (.cells #[] 3)=w1 at *;go_loopg [5,6] 8 (fun g s5 s6 wr=>∃ (k:Nat) (A':Option Addr) (q c':Nat),k<=8/\g=8 - k/\s6=.int .i64 k/\s5=.slice A' q c'/\Hid (FltJ p w wr k A' q c'))
 case atStart=>exact ⟨0,_,0,0,Nat.zero_le _,rfl,rfl,rfl,HJ⟩
 case round =>
  obtain ⟨k,A',q,c',hk,rfl,rfl,rfl,HJ⟩:=hrel;have hq8:q<=8:=(by have h1:=HJ.out.len;have h2:=filt_len p k;omega)
  by_cases hkn:k < 8
  ·
   have hki:(k:Int) < 8:=by omega
   have hk0:(0:Int)<=(k:Int):=(by omega);have HND:=H.out.frw HJ.out.fr hB (by simp);have HFI:=rfind_any k A c B n M wr HND hm;rw [<- HL.out] at HFI
   rcases ixN_cases L k with ⟨h1,h2⟩ | ⟨i,x,h1,h2,h3⟩
   ·
    rw [h1] at HFI;have HFI:=zh HFI;have HJ2:=zh (HJ.out.stay (by rw [HP.out];simp only;rw [getN_none h2];rfl));clear h1 h2 HND;go_wp2_with fail;refine HFI.out.mono ?_;rintro e w2 ⟨rfl,rfl⟩;go_wp2_with fail;go_roundg (8 - (k+1))
    case measure=>omega
    case rel=>exact ⟨k+1,A',q,c',by omega,rfl,by go_num,rfl,HJ2⟩
   ·
    rw [h1] at HFI;have HFI:=zh HFI
    have hin:i < n:=by
     have:=(List.getElem?_eq_some_iff.1 h2).1;rw [HL.out] at this;simp [fstN] at this;rw [H.out.num];exact this
    obtain ⟨m,hx⟩:∃ m,M[i]?=some m:=⟨_,List.getElem?_eq_getElem (by rw [<- H.out.num];exact hin)⟩
    have hmx:m.1=x:=by
     have:=h2;rw [HL.out] at this;simp [fstN,hx] at this;exact this
    obtain ⟨b1,o1,rfl,hb1,hc1⟩:=HND.get hx;have hinn:=HND.inn m (List.mem_of_getElem? hx);have hsm:=HS.out.2 m (List.mem_of_getElem? hx);obtain ⟨x',sf,sp⟩:=m;simp only at hmx hsm;subst hmx;obtain ⟨⟨Af,cf,hf1,hf2⟩,_⟩:=hinn;simp only at hf1 hf2;subst hf1;have p2:=hc1 2 _ (ndL_get (x',.slice Af x'.fr.length cf,sp)).2.2.1;have HH:=rhas_any id Af cf B x'.fr.length x'.fr wr rfl hsm.1 hf2;obtain ⟨nf,hnf⟩:=nm (x'.fr.length);obtain ⟨pb,hpb⟩:=nm (hasI x'.fr id);rw [<- hnf] at p2 HH;rw [<- hpb] at HH;have HPB:=zh (show p k=pb by rw [HP.out,hpb];simp only;rw [getN_some h3]);have HH:=zh HH;have hki:(i:Int) < (n:Int):=(by omega);have hk0:(0:Int)<=(i:Int):=(by omega);clear hc1 hx h1 h2 h3 hsm hnf hf2 hb1 hpb HND
    cases pb with
    | false =>
     have HJ2:=zh (HJ.out.stay HPB.out);go_wp2_with fail;refine HFI.out.mono ?_;rintro e w2 ⟨rfl,rfl⟩;go_wp2_with fail;refine HH.out.mono ?_;rintro e w2 ⟨rfl,rfl⟩;go_wp2_with fail;go_roundg (8 - (k+1))
     case measure=>omega
     case rel=>exact ⟨k+1,A',q,c',by omega,rfl,by go_num,rfl,HJ2⟩
    | true =>
     go_wp2_with fail;refine HFI.out.mono ?_;rintro e w2 ⟨rfl,rfl⟩;go_wp2_with fail;refine HH.out.mono ?_;rintro e w2 ⟨rfl,rfl⟩;have hown:=HJ.out.own;have hsz:=HJ.out.fr.size;go_wp2_with (at_builtin;refine wpList_app_lit _ rfl (.tmp 27) (.tmp 29) intsTy rfl w.heap.size (.slice A' q c') q _ rfl hown 1 1 _ rfl rfl (by simp [Value.oneCell']) (by omega) (by omega) hsz ?_;intro A3 c3 w4 hown4 hg4 hat4);have HJ5:=zh (HJ.out.more HPB.out hown4 hg4);clear hown4 hg4 hat4 hown;go_roundg (8 - (k+1))
     case measure=>omega
     case rel=>exact ⟨k+1,A3,q+1,c3,by omega,rfl,by go_num,rfl,HJ5⟩
  ·
   obtain rfl:k=8:=by omega
   go_wp2_with fail;go_ret;unfold IntsOut;rw [HR.out];exact ⟨A',c',q,HJ.out.len,rfl,HJ.out.own,HJ.out.fr⟩
def parP (p:Int):Int:=min (max p 1) 3
theorem parP_in (p:Int):1<=parP p/\parP p<=3:=by unfold parP;omega
def rtk (k:Nat) (p:Int) (g:Nat):Int:=if g < k then (g:Int) % p else 0
def pasN (k:Nat) (p:Int):Nd:=⟨0,0,p,[],[],rtk k p⟩
def pasS (p:Int):Nd:=⟨1,2,p,[0],[],rtk 8 p⟩
def passL (p:Int):List Nd:=[pasN 8 (parP p),pasS (parP p)]
theorem pas_set (p:Int) (k:Nat) (hk:k < 8):(ndA (pasN k p) (.slice none 0 0) (.slice none 0 0)).setIfInBounds (5+k) (.int .i64 ((k:Int) % p))=ndA (pasN (k+1) p) (.slice none 0 0) (.slice none 0 0):=by
 rcases (show k=0 \/ k=1 \/ k=2 \/ k=3 \/ k=4 \/ k=5 \/ k=6 \/ k=7 by omega) with rfl | rfl | rfl | rfl | rfl | rfl | rfl | rfl <;> simp [ndA,pasN,rtk]
theorem pas_get (p:Int) (k:Nat) (hk:k < 8):(ndA (pasN k p) (.slice none 0 0) (.slice none 0 0))[5+k]?=some (.int .i64 0):=by
 rcases (show k=0 \/ k=1 \/ k=2 \/ k=3 \/ k=4 \/ k=5 \/ k=6 \/ k=7 by omega) with rfl | rfl | rfl | rfl | rfl | rfl | rfl | rfl <;> simp [ndA,pasN,rtk]
theorem owns_blk {w:World} {g base e size n:Nat} {cs:Array Value} (h:Blk w g e cs) (hs:cs.size=n * size) (hb:base<=g) (hn:n<=maxLen):w.ownsRow base e size (.slice (some ⟨g,0,none⟩) n n) n cs.toList:=by
 refine ⟨by simpa using hs,.inr ⟨g,n,cs,rfl,hb,h,Nat.le_refl _,hn,hs,?_⟩⟩;exact List.take_of_length_le (by simp [hs])
def PassOut (p:Int) (w:World) (e:Ending) (w':World):Prop :=
 ∃ A c M,e=.returned (.slice A 2 c)/\Nmd w.heap.size w' A 2 c M/\fstN M=passL p/\Fr w.heap.size [] w w'
theorem pass_any (par:Int) (w:World):Calls Tryz.prog 10 #[.int .i64 par] w (PassOut par w):=by
 obtain ⟨p,hp⟩:=nm (min (max par 1) 3);have HP:=zh (show p=parP par from hp);have hp1:1<=p:=(by omega);have hp3:p<=3:=(by omega);have BA0:=Blk.new w 66 (ndA (pasN 0 p) (.slice none 0 0) (.slice none 0 0));have F0:=(Fr.refl w.heap.size [] w).alloc (Nat.le_refl _) (.cells (ndA (pasN 0 p) (.slice none 0 0) (.slice none 0 0)) 66);have HB:=zh BA0;have HF:=zh F0;clear BA0 F0;go_enter Tryz.func10,Tryz.ntmps10;go_wp2_with fail;rw [<- hp];have HB1:Hid (Blk (w.alloc (.cells #[.int .i64 0,.int .i64 0,.slice none 0 0,.slice none 0 0,.int .i64 p,.int .i64 0,.int .i64 0,.int .i64 0,.int .i64 0,.int .i64 0,.int .i64 0,.int .i64 0,.int .i64 0] 66)) w.heap.size 66 (ndA (pasN 0 p) (.slice none 0 0) (.slice none 0 0))):=HB;have HF1:Hid (Fr w.heap.size [] w (w.alloc (.cells #[.int .i64 0,.int .i64 0,.slice none 0 0,.slice none 0 0,.int .i64 p,.int .i64 0,.int .i64 0,.int .i64 0,.int .i64 0,.int .i64 0,.int .i64 0,.int .i64 0,.int .i64 0] 66))):=HF;clear hp HB HF;generalize w.alloc (.cells #[.int .i64 0,.int .i64 0,.slice none 0 0,.slice none 0 0,.int .i64 p,.int .i64 0,.int .i64 0,.int .i64 0,.int .i64 0,.int .i64 0,.int .i64 0,.int .i64 0,.int .i64 0] 66)=w1 at *;go_loopg [4,11] 8 (fun g s4 s11 wr=>∃ k:Nat,k<=8/\g=8 - k/\s11=.int .i64 k/\Hid (Blk wr w.heap.size 66 (ndA (pasN k p) (.slice none 0 0) (.slice none 0 0)))/\Hid (Fr w.heap.size [] w wr))
 case atStart=>exact ⟨0,Nat.zero_le _,rfl,rfl,HB1,HF1⟩
 case round =>
  obtain ⟨k,hk,rfl,rfl,HB,HF⟩:=hrel
  by_cases hk8:k < 8
  ·
   have hki:(k:Int) < 8:=by omega
   have hk0:(0:Int)<=(k:Int):=(by omega);have c5:=HB.out.cell (5+k);rw [pas_get p k hk8] at c5;have z5:=HB.out.frozen (5+k);have HB2:=zh (HB.out.set_ (5+k) (.int .i64 ((k:Int) % p)));rw [pas_set p k hk8] at HB2;have HF2:=zh (HF.out.setCell (p:=⟨w.heap.size,5+k,none⟩) (.inl (Nat.le_refl _)) (.int .i64 ((k:Int) % p)));have hmod:(k:Int).tmod p=(k:Int) % p:=Int.tmod_eq_emod_of_nonneg hk0;go_wp2_with fail;go_roundg (8 - (k+1))
   case measure=>omega
   case rel=>exact ⟨k+1,by omega,rfl,by go_num,HB2,HF2⟩
  ·
   obtain rfl:k=8:=by omega
   obtain ⟨x,hx⟩:=nm (pasN 8 p);have HX:=zh hx;rw [<- hx] at HB;clear hx;have q0:=HB.out.cell 0;have q1:=HB.out.cell 1;have q2:=HB.out.cell 2;have q3:=HB.out.cell 3;have q4:=HB.out.cell 4;have q5:=HB.out.cell 5;have q6:=HB.out.cell 6;have q7:=HB.out.cell 7;have q8:=HB.out.cell 8;have q9:=HB.out.cell 9;have q10:=HB.out.cell 10;have q11:=HB.out.cell 11;have q12:=HB.out.cell 12;simp at q0 q1 q2 q3 q4 q5 q6 q7 q8 q9 q10 q11 q12;have BA:=zh (HB.out.alloc (.cells (ndA x (.slice none 0 0) (.slice none 0 0)) 66));have BB:=zh (Blk.new wr 66 (ndA x (.slice none 0 0) (.slice none 0 0)));have F2:=zh (HF.out.alloc HF.out.size (.cells (ndA x (.slice none 0 0) (.slice none 0 0)) 66));have hlt:=HF.out.size;have hga:=HB.out.lt;clear HB HF;go_upto_region 9 with fail;clear q0 q1 q2 q3 q4 q5 q6 q7 q8 q9 q10 q11 q12;generalize wr.alloc (.cells (ndA x (.slice none 0 0) (.slice none 0 0)) 66)=w2 at *;generalize wr.heap.size=gb at *;have hgb:=BB.out.lt;have b0:=BB.out.cell 0;have b1:=BB.out.cell 1;have b2:=BB.out.cell 2;have z0:=BB.out.frozen 0;have z1:=BB.out.frozen 1;have z2:=BB.out.frozen 2;simp at b0 b1 b2;go_upto_region 10 with fail;obtain ⟨y,hy⟩:=nm (⟨1,2,x.par,[0],[],x.rt⟩:Nd);have BA3:=zh ((((BA.out.far (p:=⟨gb,0,none⟩) (by simp;omega) (.int .i64 1)).far (p:=⟨gb,1,none⟩) (by simp;omega) (.int .i64 2)).far (p:=⟨gb,2,none⟩) (by simp;omega) (.slice (some ⟨w2.heap.size,0,none⟩) 1 1)).alloc (.cells #[.int .i64 0] 3))
   have BB3 := zh (show Blk ((((w2.setCell ⟨gb, 0, none⟩ (.int .i64 1)).setCell ⟨gb, 1, none⟩ (.int .i64 2)).setCell ⟨gb, 2, none⟩ (.slice (some ⟨w2.heap.size, 0, none⟩) 1 1)).alloc (.cells #[.int .i64 0] 3)) gb 66 (ndA y (.slice (some ⟨w2.heap.size, 0, none⟩) 1 1) (.slice none 0 0)) by
    have:=(((BB.out.set_ 0 (.int .i64 1)).set_ 1 (.int .i64 2)).set_ 2 (.slice (some ⟨w2.heap.size,0,none⟩) 1 1)).alloc (.cells #[.int .i64 0] 3);rw [hy]
    simpa using this)
   have BC0:=Blk.new (((w2.setCell ⟨gb,0,none⟩ (.int .i64 1)).setCell ⟨gb,1,none⟩ (.int .i64 2)).setCell ⟨gb,2,none⟩ (.slice (some ⟨w2.heap.size,0,none⟩) 1 1)) 3 #[.int .i64 0];rw [show (((w2.setCell ⟨gb,0,none⟩ (.int .i64 1)).setCell ⟨gb,1,none⟩ (.int .i64 2)).setCell ⟨gb,2,none⟩ (.slice (some ⟨w2.heap.size,0,none⟩) 1 1)).heap.size=w2.heap.size by simp [World.setCell]] at BC0;have BC3:=zh BC0;have F3:=zh ((((F2.out.setCell (p:=⟨gb,0,none⟩) (.inl hlt) (.int .i64 1)).setCell (p:=⟨gb,1,none⟩) (.inl hlt) (.int .i64 2)).setCell (p:=⟨gb,2,none⟩) (.inl hlt) (.slice (some ⟨w2.heap.size,0,none⟩) 1 1)).alloc (by have:=F2.out.size;simp [World.setCell];exact this) (.cells #[.int .i64 0] 3));have HY:=zh hy;clear BA BB F2 b0 b1 b2 z0 z1 z2 BC0 hy;generalize (((w2.setCell ⟨gb,0,none⟩ (.int .i64 1)).setCell ⟨gb,1,none⟩ (.int .i64 2)).setCell ⟨gb,2,none⟩ (.slice (some ⟨w2.heap.size,0,none⟩) 1 1)).alloc (.cells #[.int .i64 0] 3)=w3 at *;generalize w2.heap.size=g2 at *;have a0:=BA3.out.cell 0;have a1:=BA3.out.cell 1;have a2:=BA3.out.cell 2;have a3:=BA3.out.cell 3;have a4:=BA3.out.cell 4;have a5:=BA3.out.cell 5;have a6:=BA3.out.cell 6;have a7:=BA3.out.cell 7;have a8:=BA3.out.cell 8;have a9:=BA3.out.cell 9;have a10:=BA3.out.cell 10;have a11:=BA3.out.cell 11;have a12:=BA3.out.cell 12;simp at a0 a1 a2 a3 a4 a5 a6 a7 a8 a9 a10 a11 a12;have b0:=BB3.out.cell 0;have b1:=BB3.out.cell 1;have b2:=BB3.out.cell 2;have b3:=BB3.out.cell 3;have b4:=BB3.out.cell 4;have b5:=BB3.out.cell 5;have b6:=BB3.out.cell 6;have b7:=BB3.out.cell 7;have b8:=BB3.out.cell 8;have b9:=BB3.out.cell 9;have b10:=BB3.out.cell 10;have b11:=BB3.out.cell 11;have b12:=BB3.out.cell 12;simp at b0 b1 b2 b3 b4 b5 b6 b7 b8 b9 b10 b11 b12;go_wp2_with fail;go_ret;have hx:=HX.out;have hy:=HY.out;subst hx;have hg2:w.heap.size<=g2:=(by omega);have B4:=Blk.new w3 66 (ndA (pasN 8 p) (.slice none 0 0) (.slice none 0 0) ++ ndA y (.slice (some ⟨g2,0,none⟩) 1 1) (.slice none 0 0));have BC4:=BC3.out.alloc (.cells (ndA (pasN 8 p) (.slice none 0 0) (.slice none 0 0) ++ ndA y (.slice (some ⟨g2,0,none⟩) 1 1) (.slice none 0 0)) 66);have F4:=F3.out.alloc F3.out.size (.cells (ndA (pasN 8 p) (.slice none 0 0) (.slice none 0 0) ++ ndA y (.slice (some ⟨g2,0,none⟩) 1 1) (.slice none 0 0)) 66);have hc3:=BC3.out.lt;have h3:=F3.out.size;refine ⟨some ⟨w3.heap.size,0,none⟩,2,[(pasN 8 p,.slice none 0 0,.slice none 0 0),(y,.slice (some ⟨g2,0,none⟩) 1 1,.slice none 0 0)],rfl,⟨rfl,owns_blk B4 rfl h3 (by unfold maxLen;omega),?_⟩,?_,F4⟩
   ·
    intro m hm;simp only [List.mem_cons,List.not_mem_nil,or_false] at hm;have hoff:Off (some w3.heap.size) (.slice none 0 0):=(by intro A n c hv hn;injection hv;omega);have hfre:Fresh w.heap.size (.slice none 0 0):=(by intro A n c hv hn;injection hv;omega)
    rcases hm with rfl | rfl
    · exact ⟨⟨⟨none,0,rfl,Reads.none_⟩,⟨none,0,rfl,Reads.none_⟩⟩,hoff,hoff,hfre,hfre,thaw_nil _⟩
    ·
     subst hy;refine ⟨⟨⟨some ⟨g2,0,none⟩,1,rfl,(Reads.of_blk (size:=1) (m:=1) BC4 rfl).more (by simp;omega)⟩,⟨none,0,rfl,Reads.none_⟩⟩,?_,hoff,?_,hfre,thaw_nil _⟩
     ·
      intro A n c hv hn ad ha e;injection hv with h1 h2 h3
      subst h1;injection ha with ha
      subst ha;simp [Value.ownBlock] at e;omega
     ·
      intro A n c hv hn ad ha;injection hv with h1 h2 h3
      subst h1;injection ha with ha
      subst ha;exact hg2
   · rw [hy,HP.out];rfl
theorem pas_right8 (p:Int) (h1:1<=p) (h3:p<=3):right8 p (rtk 8 p)=true:=by
 unfold right8 inTo;rw [Bool.and_eq_true];refine ⟨by simp;omega,?_⟩;rw [List.all_eq_true];intro k hk;have hk:=List.mem_range.1 hk;have hp:0 < p:=(by omega);have a1:=Int.emod_nonneg (k:Int) (show p ≠ 0 by omega);have a2:=Int.emod_lt_of_pos (k:Int) hp;simp [rtk,hk];omega
theorem pass_right (p:Int):RightG (passL p):=by
 obtain ⟨h1,h3⟩:=parP_in p;have hr:=pas_right8 (parP p) h1 h3;refine ⟨by simp [passL],?_,?_,by simp [passL,idsN,pasN],⟨fun f=>if f=0 then 0 else 1,?_⟩⟩
 ·
  intro n hn;simp only [passL,List.mem_cons,List.not_mem_nil,or_false] at hn
  rcases hn with rfl | rfl
  · simp [nodeB,pasN,kindB,hr]
  ·
   have hu:unlikeB [0]=true:=by simp [unlikeB]
   have ha:aboveB (passL p) 0=false:=(by simp [aboveB,findN,passL,pasN]);simp [nodeB,pasS,kindB,hr,hu,ha]
 · simp [passL,idsN,pasN,pasS]
 ·
  intro n hn f hf;simp only [passL,List.mem_cons,List.not_mem_nil,or_false] at hn
  rcases hn with rfl | rfl
  · simp [pasN] at hf
  · simp [pasS] at hf;subst hf;simp [pasS]
theorem small_pass {p:Int} {M:List Ndm} (h:fstN M=passL p):Small M:=by
 refine ⟨?_,fun m hm => ?_⟩
 · have:=congrArg List.length h;simp [fstN,passL] at this;omega
 ·
  have h1:m.1 ∈ fstN M:=List.mem_map.2 ⟨m,hm,rfl⟩;rw [h] at h1;simp only [passL,List.mem_cons,List.not_mem_nil,or_false] at h1
  rcases h1 with h1 | h1 <;> rw [h1] <;> simp [pasN,pasS]
def greatN (L:List Nd):Bool:=decide (20 < L.length) || L.any fun x=>decide (60 < x.pg.length) || decide (20 < x.fr.length)
theorem great08_any (A:Option Addr) (c B n:Nat) (M:List Ndm) (w:World) (h:Nds w B A n M) (hB:B<=w.heap.size) (hm:n<=maxLen) :
  Calls Tryz.prog 21 #[.slice A n c] w fun e w'=>e=.returned (.bool (greatN (fstN M)))/\Fr w.heap.size [] w w':=by
 unfold maxLen at hm;obtain ⟨L,hL⟩:=nm (fstN M);obtain ⟨v,hv⟩:=nm (greatN L);have hnl:L.length=n:=(by rw [hL,h.num];simp [fstN]);rw [<- hL,<- hv];have HV:=zh hv;have HL:=zh hL;have HNL:=zh hnl;have H:=zh h;clear h hL hv hnl
 by_cases h20:20 < n
 ·
  have hv:v=true:=by rw [HV.out,greatN,HNL.out,decide_eq_true h20];rfl
  have HVV:=zh hv;clear hv;go_enter Tryz.func21,Tryz.ntmps21;go_wp2_with fail;go_ret;exact ⟨by rw [HVV.out];rfl,Fr.refl _ _ _⟩
 have hn20:n<=20:=(by omega);have HVA:=zh (show v=L.any (fun x=>decide (60 < x.pg.length) || decide (20 < x.fr.length)) by rw [HV.out,greatN,HNL.out,decide_eq_false h20];rfl);go_enter Tryz.func21,Tryz.ntmps21;go_wp2_with fail;go_loopg [10] n (fun g s10 wr=>∃ k:Nat,k<=n/\g=n - k/\s10=.int .i64 k/\Hid (∀ x ∈ L.take k,(decide (60 < x.pg.length) || decide (20 < x.fr.length))=false)/\Hid (Fr w.heap.size [] w wr))
 case atStart=>exact ⟨0,Nat.zero_le _,rfl,rfl,zh (by simp),zh (Fr.refl _ _ _)⟩
 case round =>
  obtain ⟨k,hk,rfl,rfl,HB,FR⟩:=hrel
  by_cases hkn:k < n
  ·
   have hki:(k:Int) < (n:Int):=by omega
   have hk0:(0:Int)<=(k:Int):=(by omega);obtain ⟨m,hx⟩:∃ m,M[k]?=some m:=⟨_,List.getElem?_eq_getElem (by rw [<- H.out.num];exact hkn)⟩;have HND:=H.out.frw FR.out hB (by simp);obtain ⟨b1,o1,rfl,hb1,hc1⟩:=HND.get hx;have hin:=HND.inn m (List.mem_of_getElem? hx);have HTK:=zh (show L.take (k+1)=L.take k ++ [m.1] by rw [HL.out];exact fst_take hx);have HX:=zh (show L[k]?=some m.1 by rw [HL.out];simp [fstN,hx]);obtain ⟨x,sf,sp⟩:=m;have FA:=zh (FR.out.alloc FR.out.size (.cells (ndA x sf sp) 66));obtain ⟨⟨Af,cf,hf1,_⟩,⟨Ap,cp,hp1,_⟩⟩:=hin;simp only at hf1 hp1 HTK HX;subst hf1;subst hp1;obtain ⟨g0,g1,g2,g3,g4,g5,g6,g7,g8,g9,g10,g11,g12⟩:=ndL_get (x,.slice Af x.fr.length cf,.slice Ap x.pg.length cp);have p0:=hc1 0 _ g0;have p1:=hc1 1 _ g1;have p2:=hc1 2 _ g2;have p3:=hc1 3 _ g3;have p4:=hc1 4 _ g4;have p5:=hc1 5 _ g5;have p6:=hc1 6 _ g6;have p7:=hc1 7 _ g7;have p8:=hc1 8 _ g8;have p9:=hc1 9 _ g9;have p10:=hc1 10 _ g10;have p11:=hc1 11 _ g11;have p12:=hc1 12 _ g12;simp only [Nat.add_zero] at p0;obtain ⟨nf,hnf⟩:=nm (x.fr.length);obtain ⟨np,hnp⟩:=nm (x.pg.length);rw [<- hnf] at p2 FA;rw [<- hnp] at p3 FA;have HNF:=zh hnf;have HNP:=zh hnp;clear hc1 hx g0 g1 g2 g3 g4 g5 g6 g7 g8 g9 g10 g11 g12 HND hnf hnp hb1
   by_cases e1:60 < np
   ·
    have hv:v=true:=by rw [HVA.out];exact any_take HX.out (by rw [<- HNP.out,decide_eq_true e1];rfl)
    have HVV:=zh hv;clear hv;go_wp2_with fail;go_ret;exact ⟨by rw [HVV.out];rfl,FA.out⟩
   ·
    by_cases e2:20 < nf
    ·
     have hv:v=true:=by rw [HVA.out];exact any_take HX.out (by rw [<- HNF.out,decide_eq_true e2];simp)
     have HVV:=zh hv;clear hv;go_wp2_with fail;go_ret;exact ⟨by rw [HVV.out];rfl,FA.out⟩
    ·
     have HB2 := zh (show ∀ y ∈ L.take (k + 1), (decide (60 < y.pg.length) || decide (20 < y.fr.length)) = false from fun y hy => by
      rw [HTK.out] at hy
      rcases List.mem_append.1 hy with hy | hy
      · exact HB.out y hy
      · rw [List.mem_singleton.1 hy,<- HNP.out,<- HNF.out,decide_eq_false e1,decide_eq_false e2];rfl)
     go_wp2_with fail;go_roundg (n - (k+1))
     case measure=>omega
     case rel=>exact ⟨k+1,by omega,rfl,by go_num,HB2,FA⟩
  ·
   obtain rfl:k=n:=by omega
   have hv:v=false:=by
    have htk:L.take k=L:=List.take_of_length_le (by rw [HNL.out];exact Nat.le_refl _);have h:=HB.out;rw [htk] at h;rw [HVA.out];exact any_none h
   have HVV:=zh hv;clear hv;go_wp2_with fail;go_ret;exact ⟨by rw [HVV.out];rfl,FR.out⟩

end Go.Proofs.YtgblfflikgnfpaaGreat
namespace Go.Proofs.YtgblfflikgnfpaaGreat
set_option maxRecDepth 100000
set_option maxHeartbeats 16000000
set_option linter.unusedVariables false
structure RGood (L:List Nd) (i:Nat) (x:Nd):Prop where
 id0:0<=x.id
 id7:x.id<=7
 at_:ixN L x.id=(i:Int)
 k0:0<=x.kind
 k2:x.kind<=2
 p1:1<=x.par
 p3:x.par<=3
 f3:x.fr.length<=3
 src:x.id=0 ↔ x.kind=0
 rt:inTo x.par x.rt 8=true
 f0:x.kind=0->x.fr.length=0
 f1:x.kind=1->x.fr.length=1
 f2:x.kind=2->x.fr.length ≠ 0
 s1:x.kind=1->(chkL x.pg).isSome=true
 s2:x.kind ≠ 1->x.pg.length=0
 fr:∀ (j:Nat) (f:Int),x.fr[j]?=some f->(∃ m,findN L f=some m/\m.kind ≠ 2)/\f ∉ x.fr.take j
def srcN (L:List Nd):Nat:=(L.filter fun x=>decide (x.kind=0)).length
theorem srcN_snoc (L:List Nd) (x:Nd):srcN (L ++ [x])=srcN L+(if x.kind=0 then 1 else 0):=by
 unfold srcN;rw [List.filter_append,List.length_append]
 by_cases h:x.kind=0 <;> simp [h]
theorem id_at {L:List Nd} (hu:(idsN L).Nodup) {i j:Nat} {x y:Nd} (hi:L[i]?=some x) (hj:L[j]?=some y) (h:x.id=y.id):i=j:=by
 have hlt:=(List.getElem?_eq_some_iff.1 hi).1;refine (List.getElem?_inj (l:=idsN L) (by simpa [idsN] using hlt) hu).1 ?_;simp [idsN,hi,hj,h]
theorem ixN_uni {L:List Nd} (hu:(idsN L).Nodup) {i:Nat} {x:Nd} (hx:L[i]?=some x):ixN L x.id=(i:Int):=by
 have h1:=findN_one hu (List.mem_of_getElem? hx)
 rcases ixN_cases L x.id with ⟨_,h⟩ | ⟨k,y,h2,h3,h4⟩
 · rw [h] at h1;cases h1
 ·
  rw [h1] at h4;injection h4 with h4
  subst h4;rw [h2,id_at hu h3 hx rfl]
theorem nodup_take {l:List Int}:l.Nodup ↔ ∀ (j:Nat) (f:Int),l[j]?=some f->f ∉ l.take j:=by
 constructor
 ·
  intro h j f hf hm;obtain ⟨i,hi⟩:=List.getElem?_of_mem hm;rw [List.getElem?_take] at hi
  split at hi
  · have hjl:=(List.getElem?_eq_some_iff.1 hf).1;have:=(List.getElem?_inj (i:=i) (j:=j) (by omega) h).1 (by rw [hi,hf]);omega
  · cases hi
 · intro h;rw [List.nodup_iff_pairwise_ne,List.pairwise_iff_getElem];intro i j hi hj hij e;refine h j l[j] (List.getElem?_eq_getElem hj) ?_;rw [<- e];refine List.mem_of_getElem? (i:=i) ?_;rw [List.getElem?_take,if_pos hij,List.getElem?_eq_getElem hi]
theorem right_good {L:List Nd} (h:RightG L) {i:Nat} {x:Nd} (hx:L[i]?=some x):RGood L i x:=by
 obtain ⟨a1,a2,a3,a4,a5⟩:=nodeB_iff.1 (h.each x (List.mem_of_getElem? hx));have hz:=kindB_zero a3;unfold right8 at a4;simp only [Bool.and_eq_true,decide_eq_true_eq] at a4;unfold kindB at a3;have hfr:∀ (j:Nat) (f:Int),x.fr[j]?=some f->∃ m,findN L f=some m/\m.kind ≠ 2:=fun j f hf=>a5 f (List.mem_of_getElem? hf)
 by_cases c0:x.kind=0
 ·
  rw [if_pos c0] at a3;simp only [Bool.and_eq_true,decide_eq_true_eq] at a3
  exact ⟨a1, by omega, ixN_uni h.uni hx, by omega, by omega, a4.1.1, a4.1.2, by omega, hz, a4.2, fun _ => a3.2.1, (fun h => by omega), (fun h => by omega), (fun h => by omega), fun _ => a3.2.2, fun j f hf => by
   have:=(List.getElem?_eq_some_iff.1 hf).1
   omega⟩
 rw [if_neg c0] at a3
 by_cases c1:x.kind=1
 ·
  rw [if_pos c1] at a3;simp only [Bool.and_eq_true,decide_eq_true_eq] at a3
  exact ⟨a1, by omega, ixN_uni h.uni hx, by omega, by omega, a4.1.1, a4.1.2, by omega, hz, a4.2, (fun h => by omega), fun _ => a3.2.1, (fun h => by omega), fun _ => a3.2.2, (fun h => by omega), fun j f hf => ⟨hfr j f hf, by
   have:=(List.getElem?_eq_some_iff.1 hf).1;obtain rfl:j=0:=by omega
   simp⟩⟩
 rw [if_neg c1] at a3
 by_cases c2:x.kind=2
 · rw [if_pos c2] at a3;simp only [Bool.and_eq_true,decide_eq_true_eq,unlikeB] at a3;exact ⟨a1,by omega,ixN_uni h.uni hx,by omega,by omega,a4.1.1,a4.1.2,by omega,hz,a4.2,(fun h=>by omega),(fun h=>by omega),(fun _=>by omega),(fun h=>by omega),fun _=>a3.2.2.2.2,fun j f hf=>⟨hfr j f hf,nodup_take.1 a3.2.2.2.1 j f hf⟩⟩
 ·
  rw [if_neg c2] at a3
  cases a3
theorem one_filt {L:List Nd} (hu:(idsN L).Nodup) {n:Nd} (hn:n ∈ L):filtN n.id L=[n]:=by
 induction L with
 | nil=>cases hn
 | cons y L ih =>
  have hu':=List.nodup_cons.1 hu;rw [filtN_head]
  rcases List.mem_cons.1 hn with h | h
  ·
   subst h;rw [if_pos rfl]
   congr 1
   unfold filtN;rw [List.filter_eq_nil_iff];intro z hz e;simp at e;exact hu'.1 (List.mem_map.2 ⟨z,hz,e⟩)
  · have hne:y.id ≠ n.id:=fun e=>hu'.1 (List.mem_map.2 ⟨n,h,e.symm⟩);rw [if_neg hne];exact ih hu'.2 h
theorem right_src {L:List Nd} (h:RightG L):srcN L=1:=by
 obtain ⟨z,hz,e⟩:=List.mem_map.1 h.zero;have h1:=one_filt h.uni hz
 have h2:L.filter (fun x=>decide (x.kind=0))=filtN z.id L:=by
  unfold filtN;refine List.filter_congr fun y hy => ?_;have:=kindB_zero (nodeB_iff.1 (h.each y hy)).2.2.1;rw [e];exact decide_eq_decide.2 this.symm
 unfold srcN;rw [h2,h1];rfl
theorem right_above {L:List Nd} (h:RightG L) {x:Nd}:aboveN L x.id 9 x.id=false:=by
 obtain ⟨r,hr⟩:=h.rank
 cases hb:aboveN L x.id 9 x.id with
 | false=>rfl
 | true=>have:=ranked_above hr hb;omega
theorem grgood_right {L:List Nd} (hl:L.length<=8) (hg:∀ (i:Nat) (x:Nd),L[i]?=some x->RGood L i x) (hs:srcN L=1) (ha:∀ x ∈ L,aboveN L x.id 9 x.id=false):RightG L:=by
 have hu:(idsN L).Nodup:=by
  rw [List.nodup_iff_pairwise_ne,List.pairwise_iff_getElem];intro i j hi hj hij e;simp [idsN] at hi hj e;have h1:=(hg i _ (List.getElem?_eq_getElem hi)).at_;have h2:=(hg j _ (List.getElem?_eq_getElem hj)).at_;rw [e,h2] at h1;omega
 have hn:∀ n ∈ L,nodeB L n=true:=by
  intro n hn;obtain ⟨i,hi⟩:=List.getElem?_of_mem hn;have g:=hg i n hi;have g1:=g.id0;have g2:=g.id7;have g3:=g.k0;have g4:=g.k2;have g5:=g.src;have g6:=g.f3;refine nodeB_iff.2 ⟨g1,by omega,?_,?_,fun f hf => ?_⟩
  ·
   unfold kindB
   by_cases c0:n.kind=0
   · rw [if_pos c0];simp [g5.2 c0,List.eq_nil_of_length_eq_zero (g.f0 c0),List.eq_nil_of_length_eq_zero (g.s2 (by omega))]
   rw [if_neg c0];have hid:¬ n.id=0:=fun e=>c0 (g5.1 e)
   by_cases c1:n.kind=1
   · rw [if_pos c1];have:=g.s1 c1;simp [hid,g.f1 c1,this]
   rw [if_neg c1];have c2:n.kind=2:=(by omega);rw [if_pos c2];have hnd:=nodup_take.2 fun j f hf=>(g.fr j f hf).2;have:=g.f2 c2;simp only [Bool.and_eq_true,decide_eq_true_eq,unlikeB,Bool.not_eq_true',decide_eq_false_iff_not];exact ⟨hid,by omega,g6,hnd,g.s2 (by omega)⟩
  · unfold right8;rw [g.rt,decide_eq_true ⟨g.p1,g.p3⟩];rfl
  · obtain ⟨j,hj⟩:=List.getElem?_of_mem hf;exact (g.fr j f hj).1
 refine ⟨hl,hn,hu,?_,complete_ranked hu (acyclic_complete hl hn hu ha)⟩;unfold srcN at hs
 cases hc:L.filter (fun x=>decide (x.kind=0)) with
 | nil=>rw [hc] at hs;simp at hs
 | cons z t =>
  have hz:z ∈ L.filter (fun x=>decide (x.kind=0)):=(by rw [hc];simp);obtain ⟨h1,h2⟩:=List.mem_filter.1 hz;obtain ⟨i,hi⟩:=List.getElem?_of_mem h1;exact List.mem_map.2 ⟨z,h1,(hg i z hi).src.2 (by simpa using h2)⟩
theorem checkN_ten {L:List Nd} (hl:L.length<=8) (h:¬ RightG L):checkN L=10:=by
 rcases checkN_three L with h1 | h1 | h1
 · exact absurd (checkN_zero.1 h1) h
 · have:=checkN_long.1 h1;omega
 · exact h1
end Go.Proofs.YtgblfflikgnfpaaGreat
namespace Go.Proofs.YtgblfflikgnfpaaGreat
open Go.RowKit Go.Fb
set_option maxRecDepth 100000
set_option maxHeartbeats 16000000
set_option linter.unusedVariables false
theorem small_grt {M:List Ndm} (h:greatN (fstN M)=false):M.length<=20/\Small M /\ ∀ m ∈ M,m.1.fr.length<=20/\m.1.pg.length<=60:=by
 unfold greatN at h;simp only [Bool.or_eq_false_iff,decide_eq_false_iff_not,List.any_eq_false,Bool.or_eq_true,decide_eq_true_eq,not_or] at h;have hl:M.length<=20:=(by have:=h.1;simp [fstN] at this;omega)
 have hm:∀ m ∈ M,m.1.fr.length<=20/\m.1.pg.length<=60:=fun m hm=>by
  have:=h.2 m.1 (List.mem_map.2 ⟨m,hm,rfl⟩);omega
 exact ⟨hl,⟨by omega,fun m hm2=>by have:=hm m hm2;omega⟩,hm⟩
end Go.Proofs.YtgblfflikgnfpaaGreat
