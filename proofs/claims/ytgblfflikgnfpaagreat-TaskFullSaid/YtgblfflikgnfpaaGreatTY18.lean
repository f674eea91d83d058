/- Texts merged into one, for the number of files a claim may have: TrC, TrP, TaN. -/
import Derived.Test.YtgblfflikgnfpaaGreatTk
import Derived.Test.YtgblfflikgnfpaaGreatTY6
import Derived.Test.YtgblfflikgnfpaaGreatTY8
import Derived.Test.YtgblfflikgnfpaaGreatTY16
import Derived.Test.YtgblfflikgnfpaaGreatTY17
namespace Go.Proofs.YtgblfflikgnfpaaGreat
open Go.RowKit Go.Fb
set_option maxRecDepth 100000
set_option maxHeartbeats 16000000
set_option linter.unusedVariables false
def WorkS (col:Nat->Nat) (cs g:Nat) (S2:TaskS) (did:Bool) (U:(Nat->Nat)->World->Prop) (R:Value->(Nat->Nat)->World->Prop) (w:World) (e:Ending) (w':World):Prop :=
 ∃ A c V X' col',e=.returned (.tuple #[.slice A S2.out.length c,V,.bool did])/\CRd col' 8 w' 6 A S2.out.length (pksC S2.out)/\TaskM col' w' g { S2 with out:=[] } X'/\Cg (fun c=>SC c \/ c=cs) col w col' w'/\U col' w'/\R V col' w'
section
variable {col:Nat->Nat} {w:World} {g:Nat} {S:TaskS} {X:TX}
theorem workS_any (h:TaskM col w g S X) (hk:S.nd.kind=0) (cs:Nat) (vs:Value) (did:Bool) (S2:TaskS) (U:(Nat->Nat)->World->Prop) (R:Value->(Nat->Nat)->World->Prop) (hU:∀ col' w1 w2,U col' w1->Cg (· = 1) col' w1 col' w2->U col' w2) (hR:∀ V col' w1 w2,R V col' w1->Cg (· = 1) col' w1 col' w2->R V col' w2)
  (hfl:Calls Tryz.prog 64 #[.pointer (some ⟨g,0,none⟩),vs] w (ReadOut col cs g S2 did U R w)) :
  Calls Tryz.prog 25 #[.pointer (some ⟨g,0,none⟩),vs] w (WorkS col cs g S2 did U R w):=by
 have t3:=h.st.b.cell 3;replace t3:w.cell? ⟨g,3,none⟩=some (.int .i64 S.nd.kind):=t3;rw [hk] at t3;have HF:=zh hfl;have HR:=zh hR;have HU:=zh hU;clear h hk hfl hR hU;go_enter Tryz.func25,Tryz.ntmps25;go_wp2_with fail;refine HF.out.mono ?_;rintro e w2 ⟨V,X2,col2,rfl,hm,hc,hu,hr⟩;have M2:=zh hm;have C2:=zh hc;have R2:=zh hr;have U2:=zh hu;clear hm hc hr hu HF t3;have c27:w2.cell? ⟨g,27,none⟩=some (.slice X2.uA S2.out.length X2.uc):=M2.out.st.b.cell 27;have f27:=M2.out.st.b.frozen 27;go_wp2_with fail;go_ret3;have k:Cg (· = 1) col2 w2 col2 (w2.setCell ⟨g,27,none⟩ (.slice none 0 0)):=(Cg.refl _ _ _).set M2.out.st.k _;have m3:=M2.out.newOut (l:=[]) (Cg.refl _ _ _) (CR.nil col2 8 w2 89 6);exact ⟨X2.uA,X2.uc,V,_,col2,rfl,M2.out.ou.rd.cg k (by omega),m3,C2.out.trans (k.mono (fun q hq=>.inl (.inl hq))),HU.out _ _ _ U2.out k,HR.out _ _ _ _ R2.out k⟩
end
section
variable {col:Nat->Nat} {w:World} {g:Nat} {S:TaskS} {X:TX} {base gs gp P:Nat} {r:Nat->Int} {R:Nat->List (Nat->Int)} {V:Nat->Value} {a:Nat->Int}
def SpU (cs base gs gp P:Nat) (r:Nat->Int) (R:Nat->List (Nat->Int)) (V:Nat->Value) (a:Nat->Int) (col:Nat->Nat) (w:World):Prop:=Sp base gs gp P r R V a w/\SpC col cs gs gp P V
theorem SpU.cg1 {cs:Nat} (hcs:RCo cs) (col':Nat->Nat) (w1 w2:World) (h:SpU cs base gs gp P r R V a col' w1) (k:Cg (· = 1) col' w1 col' w2):SpU cs base gs gp P r R V a col' w2:=by
 have:=h.1.cg h.2 k (fun e=>hcs.1 (by rw [e];unfold TC;omega));exact this
theorem SpU.fr0 {cs:Nat} {w':World} (h:SpU cs base gs gp P r R V a col w) (hf:Fr w.heap.size [] w w'):SpU cs base gs gp P r R V a col w':=⟨h.1.keep hf,h.2⟩
theorem workS_no (h:TaskM col w g S X) (hk:S.nd.kind=0) (cs:Nat) (hcs:RCo cs) (hu:SpU cs base gs gp P r R V a col w) (vs:Value)
  (hfl:Calls Tryz.prog 64 #[.pointer (some ⟨g,0,none⟩),vs] w fun e w'=>e=.returned (.tuple #[.slice none 0 0,.bool false])/\Fr w.heap.size [] w w') :
  Calls Tryz.prog 25 #[.pointer (some ⟨g,0,none⟩),vs] w (WorkS col cs g S false (SpU cs base gs gp P r R V a) (fun V _ _=>V=.slice none 0 0) w) :=
 workS_any h hk cs vs false S _ _ (fun c w1 w2 h k=>SpU.cg1 hcs c w1 w2 h k) (fun _ _ _ _ h _=>h) (hfl.mono (by rintro e w' ⟨rfl,hf⟩;exact ⟨_,X,col,rfl,h.fr0 hf,cgf _ hf,hu.fr0 hf,rfl⟩))
theorem workS_rec (h:TaskM col w g S X) (hkd:S.nd.kind=0) (hr:S.room 1=true) (ha:S.asked.b=false) (hs:S.stop=false) (b:Int) (q:Nat) (hb:b<=1000000000) (hq:q<=100000) (hf:Few S b q) (hk:S.kids.length<=8) (cs:Nat) (hcs:RCo cs) (hu:SpU cs base gs gp P r R V a col w) {i at_:Nat} (hi:i < P) (hix:S.ix=(i:Int)) (hat:a i=(at_:Int)) (hl:(R i).length<=400) {x:Nat->Int} (hx:(R i)[at_]?=some x) :
  Calls Tryz.prog 25 #[.pointer (some ⟨g,0,none⟩),.pointer (some ⟨gs,0,none⟩)] w (WorkS col cs g (S.record x S.kids.length) true (SpU cs base gs gp P r R V (updA a i ((at_:Int)+1))) (fun V _ _=>V=.slice none 0 0) w) :=
 workS_any h hkd cs _ true _ _ _ (fun c w1 w2 h k=>SpU.cg1 hcs c w1 w2 h k) (fun _ _ _ _ h _=>h) (read_rec h hr ha hs b q hb hq hf hk cs hcs hu.1 hu.2 hi hix hat hl hx)
theorem workS_bar (h:TaskM col w g S X) (hkd:S.nd.kind=0) (hr:S.room 1=true) (ha:S.asked.b=true) (hok:TOk S.T) (hln:S.lns.length<=1000000) (hq:S.out.length<=900000) (ho:∀ o ∈ S.outs,o.ws.length<=6/\0<=o.last/\o.last<=1099511627776) (cs:Nat) (hcs:RCo cs) (hu:SpU cs base gs gp P r R V a col w) {i:Nat} (hi:i < P) (hix:S.ix=(i:Int)) :
  Calls Tryz.prog 25 #[.pointer (some ⟨g,0,none⟩),.pointer (some ⟨gs,0,none⟩)] w (WorkS col cs g (S.begun.puts S.asked S.om.length) true (SpU cs base gs gp P r R V a) (AckM (S.begun.ack S.asked (a i))) w) :=
 workS_any h hkd cs _ true _ _ _ (fun c w1 w2 h k => SpU.cg1 hcs c w1 w2 h k) (by
  rintro V col' w1 w2 ⟨A,cp,eA,ec,lA,lc,rfl,h1,h2,h3⟩ k
  exact ⟨A, cp, eA, ec, lA, lc, rfl, h1.cg k (by omega), h2.cg k (by omega), h3.cg k (by omega)⟩) ((read_bar h hr ha hok hln hq ho cs hcs hu.1 hu.2 hi hix).mono (by
  rintro e w' ⟨V,X',col',rfl,h1,h2,h3⟩
  exact ⟨V,X',col',rfl,h1,h2.mono (fun _ h=>.inl h),hu.1.cg hu.2 h2 (fun hc=>hcs.1 (by unfold SC at hc;unfold TC;omega)),h3⟩))
end
end Go.Proofs.YtgblfflikgnfpaaGreat
namespace Go.Proofs.YtgblfflikgnfpaaGreat
open Go.RowKit Go.Fb
set_option maxRecDepth 100000
set_option maxHeartbeats 16000000
set_option linter.unusedVariables false
abbrev Chn:=Int × Int × Int
def ouJ (m:Chn) (n:Nat) (q:Bool) (s:ByteArray):OutS:=if q then ⟨m.2.2,1,[s],(n:Int)+1,0⟩ else ⟨m.2.2,1,[],(n:Int),0⟩
def outsG (om:List Chn) (G:Nat->List Itm) (b:Nat->Bool) (s:ByteArray):List OutS:=om.mapIdx fun j m=>ouJ m (G j).length (b j) s
def drJ (m:Chn) (g:List Itm) (q:Bool) (s:ByteArray):Drain:=⟨⟨m.2.2,1,if q then [s] else [],(g.length:Int)⟩,m.1,m.2.1,g⟩
def drsG (om:List Chn) (G:Nat->List Itm) (b:Nat->Bool) (s:ByteArray):List Drain:=om.mapIdx fun j m=>drJ m (G j) (b j) s
def pkJ (m:Chn) (n:Nat) (s:ByteArray):Pkt:=⟨m.2.2,0,1,(n:Int)+1,0,s⟩
def noB (_:Nat):Bool:=false
theorem outsG_get {om:List Chn} {G:Nat->List Itm} {b:Nat->Bool} {s:ByteArray} (j:Nat):(outsG om G b s)[j]?=om[j]?.map fun m=>ouJ m (G j).length (b j) s:=List.getElem?_mapIdx
theorem drsG_get {om:List Chn} {G:Nat->List Itm} {b:Nat->Bool} {s:ByteArray} (j:Nat):(drsG om G b s)[j]?=om[j]?.map fun m=>drJ m (G j) (b j) s:=List.getElem?_mapIdx
theorem outsG_len {om:List Chn} {G:Nat->List Itm} {b:Nat->Bool} {s:ByteArray}:(outsG om G b s).length=om.length:=List.length_mapIdx
theorem drsG_len {om:List Chn} {G:Nat->List Itm} {b:Nat->Bool} {s:ByteArray}:(drsG om G b s).length=om.length:=List.length_mapIdx
theorem outsG_congr {om:List Chn} {G G':Nat->List Itm} {b b':Nat->Bool} {s s':ByteArray} (h:∀ j m,om[j]?=some m->ouJ m (G j).length (b j) s=ouJ m (G' j).length (b' j) s'):outsG om G b s=outsG om G' b' s':=by
 apply List.ext_getElem?;intro j;rw [outsG_get,outsG_get]
 cases hm:om[j]? with
 | none=>rfl
 | some m=>exact congrArg some (h j m hm)
theorem drsG_congr {om:List Chn} {G G':Nat->List Itm} {b b':Nat->Bool} {s s':ByteArray} (h:∀ j m,om[j]?=some m->drJ m (G j) (b j) s=drJ m (G' j) (b' j) s'):drsG om G b s=drsG om G' b' s':=by
 apply List.ext_getElem?;intro j;rw [drsG_get,drsG_get]
 cases hm:om[j]? with
 | none=>rfl
 | some m=>exact congrArg some (h j m hm)
theorem outsG_none {om:List Chn} {G:Nat->List Itm} {s s':ByteArray}:outsG om G noB s=outsG om G noB s':=outsG_congr fun _ _ _=>rfl
theorem drsG_none {om:List Chn} {G:Nat->List Itm} {s s':ByteArray}:drsG om G noB s=drsG om G noB s':=drsG_congr fun _ _ _=>rfl
theorem outsG_room {T:TaskS} {om:List Chn} {G:Nat->List Itm} {s:ByteArray} (h:T.outs=outsG om G noB s):T.room 1=true:=by
 unfold TaskS.room;rw [h,List.all_eq_true];intro o ho;obtain ⟨j,hj⟩:=List.getElem?_of_mem ho;rw [outsG_get] at hj
 cases hm:om[j]? with
 | none=>rw [hm] at hj;cases hj
 | some m =>
  rw [hm] at hj;injection hj with hj
  rw [<- hj];rfl
def Inj3 (om:List Chn):Prop:=∀ (i j:Nat) (a b:Chn),om[i]?=some a->om[j]?=some b->a.2.2=b.2.2->i=j
structure Mid (S0 S:TaskS) (om:List Chn) (G:Nat->List Itm) (b:Nat->Bool) (s:ByteArray):Prop where
 eq:S={ S0 with outs:=outsG om G b s,out:=S.out }
 p1:∀ p ∈ S.out,∃ j m,om[j]?=some m/\b j=true/\p=pkJ m (G j).length s
 p2:∀ j m,om[j]?=some m->b j=true->pkJ m (G j).length s ∈ S.out
theorem Mid.start {S0:TaskS} {om:List Chn} {G:Nat->List Itm} {s:ByteArray} (h:S0.outs=outsG om G noB s) (ho:S0.out=[]):Mid S0 S0 om G noB s :=
 ⟨by cases S0;simp only at h ho;subst h ho;rfl,by rw [ho];simp,fun j m _ h=>by cases h⟩
theorem Mid.cong {S0 S:TaskS} {om:List Chn} {G:Nat->List Itm} {b b':Nat->Bool} {s:ByteArray} (h:Mid S0 S om G b s) (hb:∀ j,j < om.length->b j=b' j):Mid S0 S om G b' s:=by
 have hlt:∀ {j:Nat} {m:Chn},om[j]?=some m->j < om.length:=fun e=>(List.getElem?_eq_some_iff.1 e).1;refine ⟨?_,fun p hp => ?_,fun j m hm hj=>h.p2 j m hm (by rw [hb j (hlt hm)];exact hj)⟩
 · rw [outsG_congr (G':=G) (b':=b) (s':=s) (fun j m hm=>by rw [hb j (hlt hm)])];exact h.eq
 · obtain ⟨j,m,hm,hj,he⟩:=h.p1 p hp;exact ⟨j,m,hm,by rw [<- hb j (hlt hm)];exact hj,he⟩
theorem Mid.put {S0 S:TaskS} {om:List Chn} {G:Nat->List Itm} {b:Nat->Bool} {s:ByteArray} (h:Mid S0 S om G b s) {k:Nat} {m:Chn} (hm:om[k]?=some m) (hb:b k=false) {it:Itm} (hs:putS it.put=s) (hz:s.size ≠ 0) :
  Mid S0 (S.put k it) om G (fun j=>b j || decide (j=k)) s:=by
 have ho:S.outs[k]?=some (ouJ m (G k).length false s):=(by rw [h.eq];show (outsG om G b s)[k]?=_;rw [outsG_get,hm,<- hb];rfl)
 have hp:S.put k it={ S with outs:=S.outs.set k (ouJ m (G k).length true s),out:=S.out ++ [pkJ m (G k).length s] }:=by
  unfold TaskS.put;rw [ho,hs];unfold sendO ouJ;simp only [Bool.false_eq_true,if_false,if_true];rw [if_neg hz,if_neg (by simp)];rfl
 have hset:S.outs.set k (ouJ m (G k).length true s)=outsG om G (fun j=>b j || decide (j=k)) s:=by
  have e0:S.outs=outsG om G b s:=(by rw [h.eq]);rw [e0];apply List.ext_getElem?;intro j;rw [outsG_get]
  by_cases hj:j=k
  · subst hj;rw [List.getElem?_set_self (by rw [outsG_len];exact (List.getElem?_eq_some_iff.1 hm).1),hm];simp
  · rw [List.getElem?_set_ne (by omega),outsG_get];simp [hj]
 rw [hp,hset];refine ⟨?_,fun p hpp => ?_,fun j m' hm' hj => ?_⟩
 · have:=h.eq;rw [this]
 ·
  rcases List.mem_append.1 hpp with hpp | hpp
  · obtain ⟨j,m',hm',hj,he⟩:=h.p1 p hpp;exact ⟨j,m',hm',by rw [hj];rfl,he⟩
  · rw [List.mem_singleton] at hpp;exact ⟨k,m,hm,by simp,hpp⟩
 ·
  by_cases hjk:j=k
  ·
   subst hjk;rw [hm] at hm';injection hm' with hm'
   subst hm';simp
  · refine List.mem_append_left _ (h.p2 j m' hm' ?_);simpa [hjk] using hj
theorem Mid.puts {S0 S:TaskS} {om:List Chn} {G:Nat->List Itm} {s:ByteArray} (h:Mid S0 S om G noB s) {it:Itm} (hs:putS it.put=s) (hz:s.size ≠ 0):∀ n,n<=om.length->Mid S0 (S.puts it n) om G (fun j=>decide (j < n)) s
 | 0,_=>h.cong (fun j _=>by simp [noB])
 | n+1,hn=>by
  rw [puts_next];obtain ⟨m,hm⟩:∃ m,om[n]?=some m:=⟨_,List.getElem?_eq_getElem (by omega)⟩;refine ((Mid.puts h hs hz n (by omega)).put hm (by simp) hs hz).cong (fun j _ => ?_)
  have:(decide (j < n) || decide (j=n))=decide (j < n+1):=by
   by_cases h1:j < n
   · simp [h1,Nat.lt_succ_of_lt h1]
   ·
    by_cases h2:j=n
    · subst h2;simp
    ·
     have:¬ j < n+1:=by omega
     simp [h1,h2,this]
  exact this
def matchB (om:List Chn) (j:Nat) (id t:Int):Bool:=match om[j]? with
 | some m=>decide (m.1=id/\m.2.1=t)
 | none=>false
theorem Mid.putTo {S0 S:TaskS} {om:List Chn} {G:Nat->List Itm} {b:Nat->Bool} {s:ByteArray} (h:Mid S0 S om G b s) (hom:S0.om=om) (k:Nat) (id t:Int) (hb:matchB om k id t=true->b k=false) {it:Itm} (hs:putS it.put=s) (hz:s.size ≠ 0) :
  Mid S0 (S.putTo k id t it) om G (fun j=>b j || (decide (j=k) && matchB om j id t)) s:=by
 have ho:S.om=om:=(by rw [h.eq];exact hom);unfold TaskS.putTo;rw [ho]
 cases hm:om[k]? with
 | none =>
  refine h.cong (fun j hj => ?_)
  have:j ≠ k:=by
   intro e;subst e;rw [List.getElem?_eq_getElem hj] at hm
   cases hm
  simp [this]
 | some m =>
  simp only
  by_cases hc:m.1=id/\m.2.1=t
  ·
   rw [if_pos hc];have hmt:matchB om k id t=true:=(by unfold matchB;rw [hm];simp [hc]);refine (h.put hm (hb hmt) hs hz).cong (fun j _ => ?_)
   by_cases e:j=k
   · subst e;simp [hmt]
   · simp [e]
  ·
   rw [if_neg hc];have hmt:matchB om k id t=false:=(by unfold matchB;rw [hm];simpa using hc);refine h.cong (fun j _ => ?_)
   by_cases e:j=k
   · subst e;simp [hmt]
   · simp [e]
theorem Mid.toKid {S0 S:TaskS} {om:List Chn} {G:Nat->List Itm} {b:Nat->Bool} {s:ByteArray} (h:Mid S0 S om G b s) (hom:S0.om=om) (n:Nd) (x:Nat->Int) (hb:∀ k,matchB om k n.id (n.rt (x 0 % 8).toNat)=true->b k=false) (hs:putS (recI x).put=s) (hz:s.size ≠ 0):∀ k,Mid S0 (S.toKid n x k) om G (fun j=>b j || (decide (j < k) && matchB om j n.id (n.rt (x 0 % 8).toNat))) s
 | 0=>h.cong (fun j _=>by simp)
 | k+1=>by
  rw [toKid_next];refine ((Mid.toKid h hom n x hb hs hz k).putTo hom k _ _ (fun hk=>by rw [hb k hk];simp) hs hz).cong (fun j _ => ?_);generalize matchB om j n.id (n.rt (x 0 % 8).toNat)=q;generalize b j=c
  by_cases h1:j < k
  ·
   have h2:j < k+1:=by omega
   simp [h1,h2];cases c <;> cases q <;> simp
  ·
   by_cases h2:j=k
   · subst h2;simp
   ·
    have h3:¬ j < k+1:=by omega
    simp [h1,h2,h3]
def InjK (ks:List Nd):Prop:=∀ (i j:Nat) (a b:Nd),ks[i]?=some a->ks[j]?=some b->a.id=b.id->i=j
def selB (ks:List Nd) (om:List Chn) (x:Nat->Int) (j:Nat):Bool:=ks.any fun n=>matchB om j n.id (n.rt (x 0 % 8).toNat)
theorem matchB_id {om:List Chn} {j:Nat} {a t b u:Int} (h:matchB om j a t=true) (h':matchB om j b u=true):a=b:=by
 unfold matchB at h h'
 cases hm:om[j]? with
 | none=>rw [hm] at h;cases h
 | some m =>
  rw [hm] at h h';simp at h h';exact h.1.symm.trans h'.1
theorem Mid.record {S0 S:TaskS} {om:List Chn} {G:Nat->List Itm} {s:ByteArray} (h:Mid S0 S om G noB s) (hom:S0.om=om) (x:Nat->Int) (hk:InjK S0.kids) (hs:putS (recI x).put=s) (hz:s.size ≠ 0):∀ k,Mid S0 (S.record x k) om G (fun j=>selB (S0.kids.take k) om x j) s
 | 0=>h.cong (fun j _=>by simp [noB,selB])
 | k+1=>by
  have ih:=Mid.record h hom x hk hs hz k;have hks:S.kids=S0.kids:=(by rw [h.eq])
  cases hn:S0.kids[k]? with
  | none =>
   rw [record_end (by rw [hks];exact hn)];refine ih.cong (fun j _ => ?_);rw [List.take_add_one,hn];simp
  | some n =>
   rw [record_next (by rw [hks];exact hn)];have hl:(S.record x k).outs.length=om.length:=(by rw [ih.eq];exact outsG_len);rw [hl];refine (ih.toKid hom n x (fun j hj => ?_) hs hz om.length).cong (fun j hj => ?_)
   · unfold selB;rw [List.any_eq_false];intro n' hn' hq;obtain ⟨i,hi,hi2⟩:=List.getElem_of_mem hn';rw [List.getElem_take] at hi2;have hik:i < k:=(by rw [List.length_take] at hi;omega);have e1:S0.kids[i]?=some n':=(by rw [<- hi2];exact List.getElem?_eq_getElem _);have:=hk i k n' n e1 hn (matchB_id hq hj);omega
   · unfold selB;rw [List.take_add_one,hn,List.any_append];simp [hj]
theorem takeI_far {p:Pkt} {i:InS} (h:p.ch ≠ i.ch):(takeI p i).1=i:=by
 unfold takeI;rw [if_pos (.inl (by unfold isP;simp [h]))]
theorem takeAll_far (l:List Pkt):∀ i:InS,(∀ p ∈ l,p.ch ≠ i.ch)->takeAll l i=i:=by
 induction l with
 | nil=>intro i _;rfl
 | cons a l ih =>
  intro i h
  show takeAll l (takeI a i).1=i
  rw [takeI_far (h a (by simp))];exact ih i (fun p hp=>h p (by simp [hp]))
theorem takeI_new {c n:Int} {s:ByteArray} (hz:s.size ≠ 0):(takeI ⟨c,0,1,n+1,0,s⟩ ⟨c,1,[],n⟩).1=⟨c,1,[s],n⟩:=by
 unfold takeI;rw [if_neg (by simp [isP,hz]),if_pos (by simp),if_neg (by simp)];rfl
theorem takeI_old {c n:Int} {s:ByteArray} (hz:s.size ≠ 0):(takeI ⟨c,0,1,n+1,0,s⟩ ⟨c,1,[s],n⟩).1=⟨c,1,[s],n⟩:=by
 unfold takeI;rw [if_neg (by simp [isP,hz]),if_neg (by simp;omega)]
theorem takeAll_old {c n:Int} {s:ByteArray} (hz:s.size ≠ 0):∀ l:List Pkt,(∀ p ∈ l,p.ch=c->p=⟨c,0,1,n+1,0,s⟩)->takeAll l ⟨c,1,[s],n⟩=⟨c,1,[s],n⟩
 | [],_=>rfl
 | a :: l,h=>by
  show takeAll l (takeI a _).1=_
  have e:(takeI a ⟨c,1,[s],n⟩).1=⟨c,1,[s],n⟩:=by
   by_cases hc:a.ch=c
   · rw [h a (by simp) hc];exact takeI_old hz
   · exact takeI_far hc
  rw [e];exact takeAll_old hz l (fun p hp=>h p (by simp [hp]))
theorem takeAll_new {c n:Int} {s:ByteArray} (hz:s.size ≠ 0):∀ l:List Pkt,(∀ p ∈ l,p.ch=c->p=⟨c,0,1,n+1,0,s⟩)->(⟨c,0,1,n+1,0,s⟩:Pkt) ∈ l->takeAll l ⟨c,1,[],n⟩=⟨c,1,[s],n⟩
 | [],_,h=>by cases h
 | a :: l,h,hm=>by
  show takeAll l (takeI a _).1=_
  by_cases hc:a.ch=c
  · rw [h a (by simp) hc,takeI_new hz];exact takeAll_old hz l (fun p hp=>h p (by simp [hp]))
  ·
   rw [takeI_far hc];refine takeAll_new hz l (fun p hp=>h p (by simp [hp])) ?_
   rcases List.mem_cons.1 hm with e | e
   · exact absurd (by rw [<- e]) hc
   · exact e
theorem drains_mid {S0 S:TaskS} {om:List Chn} {G:Nat->List Itm} {b:Nat->Bool} {s:ByteArray} (h:Mid S0 S om G b s) (hi:Inj3 om) (hz:s.size ≠ 0):(drsG om G noB s).map (takeD S.out)=drsG om G b s:=by
 apply List.ext_getElem?;intro j;rw [List.getElem?_map,drsG_get,drsG_get]
 cases hm:om[j]? with
 | none=>rfl
 | some m =>
  show some (takeD S.out (drJ m (G j) false s))=some _
  refine congrArg some ?_
  have hown:∀ p ∈ S.out,p.ch=m.2.2->b j=true/\p=pkJ m (G j).length s:=by
   intro p hp hc;obtain ⟨j',m',hm',hb',rfl⟩:=h.p1 p hp;have:=hi j' j m' m hm' hm hc;subst this;rw [hm] at hm';injection hm' with hm'
   subst hm';exact ⟨hb',rfl⟩
  have e:takeAll S.out ⟨m.2.2,1,[],((G j).length:Int)⟩=⟨m.2.2,1,if b j then [s] else [],((G j).length:Int)⟩:=by
   cases hb:b j with
   | false =>
    refine takeAll_far _ _ (fun p hp hc => ?_);have:=(hown p hp hc).1;rw [hb] at this
    cases this
   | true=>exact takeAll_new hz _ (fun p hp hc=>(hown p hp hc).2) (h.p2 j m hm hb)
  unfold takeD drJ;simp only [Bool.false_eq_true,if_false];rw [e]
theorem take_noins {T:TaskS} (h:T.ins=[]) (p:Pkt):T.take p={ T with outs:=T.outs.map (ackO p) }:=by
 unfold TaskS.take TaskS.takes TaskS.acks;simp only [List.take_length,List.drop_length,List.append_nil];rw [h,List.map_nil]
def bI (b:Nat->Bool) (i j:Nat):Bool:=b j && decide (i<=j)
def gI (G:Nat->List Itm) (b:Nat->Bool) (it:Itm) (i j:Nat):List Itm:=if b j && decide (j < i) then G j ++ [it] else G j
theorem ackO_far {p:Pkt} {o:OutS} (h:p.ch ≠ o.ch):ackO p o=o:=by
 unfold ackO;rw [if_pos (.inl (by unfold isP;simp [h]))]
theorem set_same' {α:Type} {l:List α} {i:Nat} {x:α} (h:l[i]?=some x):l.set i x=l:=by
 apply List.ext_getElem?;intro j
 by_cases hj:j=i
 · subst hj;rw [List.getElem?_set_self (List.getElem?_eq_some_iff.1 h).1,h]
 · rw [List.getElem?_set_ne (by omega)]
theorem popK_mid {T:TaskS} {om:List Chn} {G:Nat->List Itm} {b:Nat->Bool} {s:ByteArray} (hT:T.ins=[]) (hi:Inj3 om):∀ i,i<=om.length->popK i { T with outs:=outsG om G b s } (drsG om G b s)=({ T with outs:=outsG om (gI G b (itemOf s) i) (bI b i) s },drsG om (gI G b (itemOf s) i) (bI b i) s)
 | 0,_=>by
  show ((_:TaskS),(_:List Drain))=_
  have e1:gI G b (itemOf s) 0=G:=(by funext j;simp [gI]);have e2:bI b 0=b:=(by funext j;simp [bI]);rw [e1,e2]
 | i+1,hn=>by
  have ih:=popK_mid (s:=s) (G:=G) (b:=b) hT hi i (by omega);obtain ⟨m,hm⟩:∃ m,om[i]?=some m:=⟨_,List.getElem?_eq_getElem (by omega)⟩;have hgi:gI G b (itemOf s) i i=G i:=(by simp [gI]);have hbi:bI b i i=b i:=(by simp [bI])
  have hD:(popK i { T with outs:=outsG om G b s } (drsG om G b s)).2[i]?=some (drJ m (G i) (b i) s):=by
   rw [ih]
   show (drsG om _ _ s)[i]?=_
   rw [drsG_get,hm,hgi,hbi];rfl
  have hun:popK (i+1) { T with outs:=outsG om G b s } (drsG om G b s)=((popN (drJ m (G i) (b i) s).i.ls.length ((popK i { T with outs:=outsG om G b s } (drsG om G b s)).1,drJ m (G i) (b i) s)).1,(popK i { T with outs:=outsG om G b s } (drsG om G b s)).2.set i (popN (drJ m (G i) (b i) s).i.ls.length ((popK i { T with outs:=outsG om G b s } (drsG om G b s)).1,drJ m (G i) (b i) s)).2):=by
   show (match (popK i { T with outs := outsG om G b s } (drsG om G b s)).2[i]? with
    | none=>popK i { T with outs:=outsG om G b s } (drsG om G b s)
    | some D=>((popN D.i.ls.length ((popK i { T with outs:=outsG om G b s } (drsG om G b s)).1,D)).1,(popK i { T with outs:=outsG om G b s } (drsG om G b s)).2.set i (popN D.i.ls.length ((popK i { T with outs:=outsG om G b s } (drsG om G b s)).1,D)).2))=_
   rw [hD]
  rw [hun,ih]
  cases hb:b i with
  | false =>
   have e1:∀ j,gI G b (itemOf s) (i+1) j=gI G b (itemOf s) i j:=by
    intro j;unfold gI
    by_cases hj:j=i
    · subst hj;simp [hb]
    · have:decide (j < i+1)=decide (j < i):=decide_eq_decide.2 (by omega);rw [this]
   have e2:∀ j,bI b (i+1) j=bI b i j:=by
    intro j;unfold bI
    by_cases hj:j=i
    · subst hj;simp [hb]
    · have:decide (i+1<=j)=decide (i<=j):=decide_eq_decide.2 (by omega);rw [this]
   have f1:=funext e1;have f2:=funext e2;rw [f1,f2];refine Prod.ext rfl ?_
   show (drsG om (gI G b (itemOf s) i) (bI b i) s).set i (drJ m (G i) false s)=_
   refine set_same' ?_;rw [drsG_get,hm,hgi,hbi,hb];rfl
  | true =>
   have ep:popN (drJ m (G i) true s).i.ls.length (({ T with outs:=outsG om (gI G b (itemOf s) i) (bI b i) s }:TaskS),drJ m (G i) true s)=(({ T with outs:=outsG om (gI G b (itemOf s) i) (bI b i) s }:TaskS).take ⟨m.2.2,1,1,0,((G i).length:Int)+1,emptyB⟩,drJ m (G i ++ [itemOf s]) false s):=by
    have e1:(drJ m (G i) true s).i.ls.length=1:=rfl;rw [e1,show (1:Nat)=0+1 from rfl,popN_snoc];refine Prod.ext rfl ?_
    show (⟨⟨m.2.2,1,[],((G i).length:Int)+1⟩,m.1,m.2.1,G i ++ [itemOf s]⟩:Drain)=drJ m (G i ++ [itemOf s]) false s
    unfold drJ;simp
   rw [ep,take_noins (by exact hT)];refine Prod.ext ?_ ?_
   ·
    show ({ T with outs:=(outsG om (gI G b (itemOf s) i) (bI b i) s).map (ackO ⟨m.2.2,1,1,0,((G i).length:Int)+1,emptyB⟩) }:TaskS)={ T with outs:=_ }
    refine congrArg (fun o=>({ T with outs:=o }:TaskS)) ?_;apply List.ext_getElem?;intro j;rw [List.getElem?_map,outsG_get,outsG_get]
    cases hj:om[j]? with
    | none=>rfl
    | some m' =>
     refine congrArg some ?_
     by_cases hji:j=i
     ·
      subst hji;rw [hm] at hj;injection hj with hj
      subst hj;rw [hgi,hbi,hb,show bI b (j+1) j=false by simp [bI],show gI G b (itemOf s) (j+1) j=G j ++ [itemOf s] by simp [gI,hb]];unfold ouJ ackO;simp only [if_true,Bool.false_eq_true,if_false,List.length_append,List.length_singleton];rw [if_neg (by simp [isP])];have e3:∀ z:Int,(z+1 - (z+1 - ((1:Nat):Int))).toNat=1:=fun z=>by omega
      rw [e3];simp
     ·
      have hch:(⟨m.2.2,1,1,0,((G i).length:Int)+1,emptyB⟩:Pkt).ch ≠ (ouJ m' (gI G b (itemOf s) i j).length (bI b i j) s).ch:=by
       have e:(ouJ m' (gI G b (itemOf s) i j).length (bI b i j) s).ch=m'.2.2:=by unfold ouJ;split <;> rfl
       rw [e];intro hc;exact hji (hi j i m' m hj hm hc.symm)
      rw [ackO_far hch]
      have h1:gI G b (itemOf s) (i+1) j=gI G b (itemOf s) i j:=by
       unfold gI;rw [show decide (j < i+1)=decide (j < i) from decide_eq_decide.2 (by omega)]
      have h2:bI b (i+1) j=bI b i j:=by
       unfold bI;rw [show decide (i+1<=j)=decide (i<=j) from decide_eq_decide.2 (by omega)]
      rw [h1,h2]
   ·
    show (drsG om (gI G b (itemOf s) i) (bI b i) s).set i (drJ m (G i ++ [itemOf s]) false s)=drsG om _ _ s
    apply List.ext_getElem?;intro j;rw [drsG_get]
    by_cases hji:j=i
    · subst hji;rw [List.getElem?_set_self (by rw [drsG_len];omega),hm,show bI b (j+1) j=false by simp [bI],show gI G b (itemOf s) (j+1) j=G j ++ [itemOf s] by simp [gI,hb]];rfl
    ·
     rw [List.getElem?_set_ne (by omega),drsG_get]
     have h1:gI G b (itemOf s) (i+1) j=gI G b (itemOf s) i j:=by
      unfold gI;rw [show decide (j < i+1)=decide (j < i) from decide_eq_decide.2 (by omega)]
     have h2:bI b (i+1) j=bI b i j:=by
      unfold bI;rw [show decide (i+1<=j)=decide (i<=j) from decide_eq_decide.2 (by omega)]
     rw [h1,h2]
theorem tell_mid {S0 S:TaskS} {om:List Chn} {G:Nat->List Itm} {b:Nat->Bool} {s:ByteArray} (h:Mid S0 S om G b s) (hT:S0.ins=[]) (hi:Inj3 om) (hz:s.size ≠ 0) (aks:List AckS) (ix:Int) :
  tellR ⟨{ S with out:=[] },[],drsG om G noB s,aks,ix⟩ S.out=⟨{ S0 with outs:=outsG om (fun j=>if b j then G j ++ [itemOf s] else G j) noB s,out:=[] },[],drsG om (fun j=>if b j then G j ++ [itemOf s] else G j) noB s,aks,ix⟩:=by
 unfold tellR;simp only [List.map_nil];have hl:(drsG om G noB s).length=om.length:=drsG_len;rw [hl,drains_mid h hi hz]
 have e0:({ S with out:=[] }:TaskS)={ ({ S0 with out:=[] }:TaskS) with outs:=outsG om G b s }:=by
  have h1:=h.eq;rw [h1]
 rw [e0,popK_mid (T:={ S0 with out:=[] }) hT hi om.length (Nat.le_refl _)];have hlt:∀ {j:Nat} {m:Chn},om[j]?=some m->j < om.length:=fun e=>(List.getElem?_eq_some_iff.1 e).1
 have e1:outsG om (gI G b (itemOf s) om.length) (bI b om.length) s=outsG om (fun j=>if b j then G j ++ [itemOf s] else G j) noB s:=by
  refine outsG_congr (fun j m hm => ?_);have h1:=hlt hm;have h2:¬ om.length<=j:=(by omega);simp [gI,bI,noB,h1,h2]
 have e2:drsG om (gI G b (itemOf s) om.length) (bI b om.length) s=drsG om (fun j=>if b j then G j ++ [itemOf s] else G j) noB s:=by
  refine drsG_congr (fun j m hm => ?_);have h1:=hlt hm;have h2:¬ om.length<=j:=(by omega);simp [gI,bI,noB,h1,h2]
 rw [e1,e2]
def chanN (f k id ix:Int):Int:=((f * 3+k) * 8+id) * 3+ix
theorem channel_any (f k id ix:Int) (h1:0<=f/\f<=1000) (h2:0<=k/\k<=1000) (h3:0<=id/\id<=1000) (h4:0<=ix/\ix<=1000) (w:World):Calls Tryz.prog 38 #[.int .i64 f,.int .i64 k,.int .i64 id,.int .i64 ix] w fun e w'=>e=.returned (.int .i64 (chanN f k id ix))/\w'=w:=by
 go_enter Tryz.func38,Tryz.ntmps38;go_wp2_with fail;go_ret;exact ⟨rfl,rfl⟩
theorem inletTy:SliceTy Tryz.prog 133 172 3 24:=SliceTy.mk' (z:=.agg #[.pointer none,.int .i64 0,.int .i64 0]) Tryz.underlying133 (by kernel_rfl) rfl (by omega)
theorem sortOwn_any (w:World) (base c n:Nat) (A:Option Addr) (zs:List Int) (hn:n=zs.length) (hown:w.ownsRow base 3 1 (.slice A n c) n (zs.map (Value.int .i64))) (hm:n<=1000000) :
  Calls Tryz.prog 95 #[.slice A n c] w fun e w'=>e=.returned (.tuple #[])/\w'.ownsRow base 3 1 (.slice A n c) n ((srt zs).map (Value.int .i64))/\∃ L,Fr w.heap.size L w w' /\ ∀ q ∈ L,base<=q:=by
 rcases Nat.eq_zero_or_pos n with h0 | h0
 · subst h0;have hz:zs=[]:=List.eq_nil_of_length_eq_zero hn.symm;subst hz;have HS:=Any.slices_Sort_int_none Tryz.sortI A c w;refine HS.mono ?_;intro e w' h;obtain ⟨rfl,rfl⟩:=h;exact ⟨rfl,by simpa [srt] using hown,[],Fr.refl _ _ _,by simp⟩
 ·
  rcases hown.2 with ⟨hv,h1⟩ | ⟨g,cap,cur,hv,hb,_⟩
  · omega
  ·
   injection hv with hA _ hc
   subst hA hc;refine (sorti_any w base g c n zs hn hown hm).mono ?_;rintro e w' ⟨rfl,h2,h3⟩;exact ⟨rfl,h2,[g],h3,by simpa using hb⟩
def recvF (L:List Nd) (id ix:Int) (f:Int):List (Int × Int):=match findN L f with
 | none=>[]
 | some p=>(List.range p.par.toNat).map fun (k:Nat)=>(f,chanN f (k:Int) id ix)
def recvL (L:List Nd) (nd:Nd) (ix:Int):List (Int × Int):=(srt nd.fr).flatMap (recvF L nd.id ix)
theorem right8_par {p:Int} {r:Nat->Int} (h:right8 p r=true):1<=p/\p<=3:=by
 unfold right8 at h;simp only [Bool.and_eq_true,decide_eq_true_eq] at h;omega
structure RecvM (col:Nat->Nat) (w:World) (g:Nat) (cs:Array Value) (inc:Int) (Ls:List (Int × Int)) (iA:Option Addr) (ic:Nat) (gis:List Nat):Prop where
 st:CB col 1 w g 136 (cs.setIfInBounds 17 (.slice iA Ls.length ic))
 gl:gis.length=Ls.length
 row:CR col 5 w 172 3 (.slice iA Ls.length ic) Ls.length ((gis.zip Ls).flatMap inF)
 im:∀ k gk m,gis[k]?=some gk->Ls[k]?=some m->InM col (20+2 * k) w gk ⟨m.2,inc,[],0⟩
theorem RecvM.cg0 {col col':Nat->Nat} {w w':World} {g:Nat} {cs:Array Value} {inc:Int} {Ls:List (Int × Int)} {iA:Option Addr} {ic:Nat} {gis:List Nat} (h:RecvM col w g cs inc Ls iA ic gis) (k:Cg (fun _=>False) col w col' w'):RecvM col' w' g cs inc Ls iA ic gis :=
 ⟨h.st.cg k (fun h=>h),h.gl,h.row.cg k (fun h=>h),fun j gj m h1 h2=>(h.im j gj m h1 h2).cg k (fun h=>h)⟩
theorem zip_snoc {α β:Type}:∀ {a:List α} {b:List β} (x:α) (y:β),a.length=b.length->(a ++ [x]).zip (b ++ [y])=a.zip b ++ [(x,y)]
 | [],[],x,y,_=>rfl
 | p :: a,q :: b,x,y,h=>by simp only [List.cons_append,List.zip_cons_cons];rw [zip_snoc x y (by simpa using h)]
 | [],_ :: _,_,_,h=>by simp at h
 | _ :: _,[],_,_,h=>by simp at h
def NC (c:Nat):Prop:=c=1 \/ c=5
theorem fr_le3 {L:List Nd} {x:Nd} (h:nodeB L x=true):x.fr.length<=3:=by
 obtain ⟨_,_,h3,_⟩:=nodeB_iff.1 h;unfold kindB at h3
 split at h3
 · simp at h3;rw [h3.2.1];simp
 ·
  split at h3
  · simp at h3;omega
  ·
   split at h3
   · simp at h3;omega
   · cases h3
def chans (f id ix:Int) (i:Nat):List (Int × Int):=(List.range i).map fun (k:Nat)=>(f,chanN f (k:Int) id ix)
theorem chans_snoc (f id ix:Int) (i:Nat):chans f id ix (i+1)=chans f id ix i ++ [(f,chanN f (i:Int) id ix)]:=by unfold chans;rw [List.range_succ,List.map_append];rfl
theorem recvF_some {L:List Nd} {id ix f:Int} {p:Nd} (h:findN L f=some p):recvF L id ix f=chans f id ix p.par.toNat:=by unfold recvF;rw [h];rfl
theorem recvF_le {L:List Nd} (hR:RightG L) (id ix f:Int):(recvF L id ix f).length<=3:=by
 cases h:findN L f with
 | none=>unfold recvF;rw [h];simp
 | some p =>
  rw [recvF_some h];have:=right8_par (nodeB_iff.1 (hR.each p (findN_mem h))).2.2.2.1;simp [chans];omega
theorem flat_le {α β:Type} (f:α->List β) (k:Nat) (hf:∀ a,(f a).length<=k):∀ l:List α,(l.flatMap f).length<=k * l.length
 | []=>by simp
 | a :: l=>by
  have h1:=hf a;have h2:=flat_le f k hf l;rw [List.flatMap_cons,List.length_append,List.length_cons,Nat.mul_add];omega
theorem recv_len {L:List Nd} (hR:RightG L) {nd:Nd} (hnd:nd ∈ L) (ix:Int) (j:Nat):(((srt nd.fr).take j).flatMap (recvF L nd.id ix)).length<=9:=by
 have h1:=flat_le (recvF L nd.id ix) 3 (recvF_le hR nd.id ix) ((srt nd.fr).take j);have h2:=fr_le3 (hR.each nd hnd);have h3:((srt nd.fr).take j).length<=3:=(by rw [List.length_take,srt_len];omega);omega
theorem set17_ne {cs:Array Value} {v x:Value} {i:Nat} (h:cs[i]?=some x) (hi:i ≠ 17):(cs.setIfInBounds 17 v)[i]?=some x:=by rw [Array.getElem?_setIfInBounds_ne (by omega)];exact h
theorem set17_eq {cs:Array Value} {v x:Value} (h:cs[17]?=some x):(cs.setIfInBounds 17 v)[17]?=some v:=by
 have:=(Array.getElem?_eq_some_iff.1 h).1;rw [Array.getElem?_setIfInBounds_self_of_lt this]
theorem receive_any (col:Nat->Nat) (w:World) (g B n c:Nat) (A:Option Addr) (M:List Ndm) (cs:Array Value) (nd:Nd) (ix inc:Int) (fA:Option Addr) (fc:Nat) (hN:Nds w B A n M) (hB:B<=w.heap.size) (hz:∀ q,q < B->¬ NC (col q)) (hs:Small M) (hR:RightG (fstN M)) (hnd:nd ∈ fstN M) (hix:0<=ix/\ix<=3)
  (st:CB col 1 w g 136 cs) (c2:cs[2]?=some (.int .i64 nd.id)) (c4:cs[4]?=some (.slice fA nd.fr.length fc)) (c15:cs[15]?=some (.int .i64 ix)) (c17:cs[17]?=some (.slice none 0 0)) (hfr:Reads w w.heap.size 1 fA nd.fr.length (nd.fr.map (Value.int .i64))) :
  Calls Tryz.prog 59 #[.pointer (some ⟨g,0,none⟩),.slice A n c,.int .i64 inc] w fun e w' =>
   ∃ col' iA ic gis,e=.returned (.tuple #[])/\RecvM col' w' g cs inc (recvL (fstN M) nd ix) iA ic gis/\Cg NC col w col' w':=by
 have hsm:nd.fr.length<=1000000:=by
  obtain ⟨m,hm,rfl⟩:=List.mem_map.1 hnd;exact (hs.2 m hm).1
 have HCL:=zh (iclone_any fA nd.fr.length fc w.heap.size nd.fr w rfl hsm hfr (Nat.le_refl _));have k2:=(st.b.cell 2).trans c2;have k4:=(st.b.cell 4).trans c4;have ST:=zh st;have HC2:=zh c2;have HC15:=zh c15;have HC17:=zh c17;have HN:=zh (fun W (hf:Fr B [] w W)=>hN.frw hf (Nat.le_refl _) (by simp));have HZ:=zh hz;have HS:=zh hs;have HR:=zh hR;have HND:=zh hnd;obtain ⟨m,hm⟩:=nm (nd.fr.length);rw [<- hm] at HCL k4 hsm;have HM:=zh hm;clear hm hN hz hs hR hnd st c2 c4 c15 c17 hfr;go_enter Tryz.func59,Tryz.ntmps59;go_wp2_with fail;refine HCL.out.mono ?_;rintro e w1 ⟨A1,c1,rfl,hown,f1⟩;have HSO:=zh (sortOwn_any w1 w.heap.size c1 m A1 nd.fr HM.out hown hsm);have F1:=zh f1;clear hown f1 HCL;go_wp2_with fail;refine HSO.out.mono ?_;rintro e w2 ⟨rfl,hown,L2,f2,hL2⟩;have F2:=F1.out.trans (f2.mono (B':=w.heap.size) (L':=[]) F1.out.size (fun q hq hlt=>by have:=hL2 q hq;omega));obtain ⟨col2,hcol2⟩:=nm (paint col w.heap.size 9);have FRD:CRd col2 9 w2 1 A1 m ((srt nd.fr).map (Value.int .i64)):=⟨Reads.of_own hown,fun ad ha _=>by rw [hcol2];exact paint_ge (own_low hown ad ha)⟩;have G2:Cg NC col w col2 w2:=(by rw [hcol2];exact (cgf NC F2).paint 9)
 have RM : RecvM col2 w2 g cs inc [] none 0 [] := ⟨by
  have:=ST.out.cg (by rw [hcol2];exact (cg0 F2).paint 9:Cg (fun _=>False) col w col2 w2) (fun h=>h)
  rw [show cs.setIfInBounds 17 (.slice none ([] : List (Int × Int)).length 0) = cs from by
   have h:=HC17.out;apply Array.ext';rw [Array.toList_setIfInBounds];apply List.ext_getElem?;intro i
   by_cases hi:i=17
   · subst hi;rw [List.getElem?_set_self (by have:=(Array.getElem?_eq_some_iff.1 h).1;simpa using this)];rw [<- Array.getElem?_toList] at h;exact h.symm
   · rw [List.getElem?_set_ne (by omega)]]
  exact this,rfl,CR.nil _ _ _ _ _,fun k gk mm h _=>by simp at h⟩
 replace FRD:=zh FRD;replace G2:=zh G2;replace RM:=zh RM;clear hown f2 hL2 F2 HSO F1 hcol2 k2 k4;have hsl:(srt nd.fr).length=m:=(by rw [srt_len,HM.out]);go_upto_region 3 with fail;go_loopg [9,23] m (fun q s9 s23 wr=>∃ j:Nat,j<=m/\q=m - j/\s23=.int .i64 j/\(s9=undef \/ ∃ a,s9=.pointer a)/\∃ colr iA ic gis,Hid (RecvM colr wr g cs inc (((srt nd.fr).take j).flatMap (recvF (fstN M) nd.id ix)) iA ic gis)/\Hid (CRd colr 9 wr 1 A1 m ((srt nd.fr).map (Value.int .i64)))/\Hid (Cg NC col w colr wr))
 case atStart=>exact ⟨0,Nat.zero_le _,rfl,rfl,.inl rfl,col2,none,0,[],RM,FRD,G2⟩
 case round =>
  clear RM FRD G2;obtain ⟨j,hj,rfl,rfl,hs9,colr,iA,ic,gis,RM,FRD,G2⟩:=hrel
  by_cases hjm:j < m
  ·
   have hji:(j:Int) < (m:Int):=by omega
   obtain ⟨f,hf⟩:∃ f,(srt nd.fr)[j]?=some f:=⟨_,List.getElem?_eq_getElem (by rw [hsl];exact hjm)⟩;have hfm:f ∈ nd.fr:=(srt_perm nd.fr).mem_iff.1 (List.mem_of_getElem? hf);obtain ⟨pn,hpn,_⟩:=(nodeB_iff.1 (HR.out.each nd HND.out)).2.2.2.2 f hfm;have hpm:=HR.out.each pn (findN_mem hpn);obtain ⟨g1,g2,_,g4,_⟩:=nodeB_iff.1 hpm;have hpr:=right8_par g4;rw [findN_id hpn] at g1 g2;obtain ⟨n1,n2,_⟩:=nodeB_iff.1 (HR.out.each nd HND.out);obtain ⟨b,off,rfl,hb,hcell⟩:=FRD.out.1.2 (by omega);have x0:=hcell j (.int .i64 f) (by rw [List.getElem?_map,hf];rfl)
   have HTK := zh (show ((srt nd.fr).take (j + 1)).flatMap (recvF (fstN M) nd.id ix) = ((srt nd.fr).take j).flatMap (recvF (fstN M) nd.id ix) ++ chans f nd.id ix pn.par.toNat by
    rw [List.take_add_one,hf,List.flatMap_append]
    simp [recvF_some hpn])
   have FB:=zh (G2.out.fr hB HZ.out);have HFI:=zh (find_any f A c B n M wr (HN.out wr FB.out) (Nat.le_trans hB G2.out.size) HS.out);have HPN:=zh hpn;clear hcell hf hfm hpm g4;go_wp2_with fail;refine HFI.out.mono ?_;rintro e w3 ⟨h1,f3⟩
   rcases h1 with ⟨h1,_⟩ | ⟨x,sf,sp,h1,rfl,⟨⟨sA,sc,hsf,_⟩,⟨tA,tc,hsp,_⟩⟩⟩
   · exact absurd ((show findN (fstN M) f=none from h1).symm.trans HPN.out) (by simp)
   obtain rfl:x=pn:=by
    have:findN (fstN M) f=some x:=h1;rw [HPN.out] at this;injection this with this
    exact this.symm
   simp only at hsf hsp;subst hsf hsp;clear h1 HFI;have RM3:=zh (RM.out.cg0 (cg0 f3));have FRD3:=zh (FRD.out.cg (cg0 f3) (fun h=>h));have G3:=zh (G2.out.trans (cgf NC f3));clear f3 RM FRD G2 FB x0;go_upto_region 7 with fail;have fa:=(Fr.refl w3.heap.size [] w3).alloc (Nat.le_refl _) (.cells (ndA x (.slice sA x.fr.length sc) (.slice tA x.pg.length tc)) 66);have RM4:=zh (RM3.out.cg0 (cg0 fa));have FRD4:=zh (FRD3.out.cg (cg0 fa) (fun h=>h));have G4:=zh (G3.out.trans (cgf NC fa));clear fa RM3 FRD3 G3;generalize w3.alloc _=w4 at *;obtain ⟨pt,hpt⟩:∃ pt:Nat,(pt:Int)=x.par:=⟨x.par.toNat,by omega⟩;have HPT:=zh (show x.par.toNat=pt by omega);rw [<- hpt];have hpt3:pt<=3:=(by omega);obtain ⟨Lj,hLj⟩:=nm (((srt nd.fr).take j).flatMap (recvF (fstN M) nd.id ix));rw [<- hLj] at RM4 HTK;have HLJ:=zh hLj;have HLL:=zh (by rw [hLj];exact recv_len HR.out HND.out ix j:Lj.length<=9);clear hpt hLj;go_loopg [35] pt (fun q s35 wi=>∃ i:Nat,i<=pt/\q=pt - i/\s35=.int .i64 i/\∃ coli iA2 ic2 gis2,Hid (RecvM coli wi g cs inc (Lj ++ chans f nd.id ix i) iA2 ic2 gis2)/\Hid (CRd coli 9 wi 1 (some ⟨b,off,none⟩) m ((srt nd.fr).map (Value.int .i64)))/\Hid (Cg NC col w coli wi))
   case atStart=>exact ⟨0,Nat.zero_le _,rfl,rfl,colr,iA,ic,gis,by simpa [chans] using RM4,FRD4,G4⟩
   case round =>
    clear RM4 FRD4 G4;obtain ⟨i,hi,rfl,rfl,coli,iA2,ic2,gis2,RM,FRD,G⟩:=hrel
    by_cases hip:i < pt
    ·
     have hii:(i:Int) < (pt:Int):=by omega
     obtain ⟨ch,hch⟩:=nm (chanN f (i:Int) nd.id ix);have HCA:=zh (by rw [hch];exact channel_any f (i:Int) nd.id ix (by omega) (by omega) (by omega) (by omega):∀ W,Calls Tryz.prog 38 #[.int .i64 f,.int .i64 (i:Int),.int .i64 nd.id,.int .i64 ix] W fun e w'=>e=.returned (.int .i64 ch)/\w'=W);obtain ⟨Ls,hLs⟩:=nm (Lj ++ chans f nd.id ix i);rw [<- hLs] at RM;have HLS:=zh (show Lj ++ chans f nd.id ix (i+1)=Ls ++ [(f,ch)] by rw [chans_snoc,<- List.append_assoc,<- hLs,<- hch])
     have hll:Ls.length<=1000000:=by
      rw [hLs,List.length_append];have h1:(chans f nd.id ix i).length=i:=(by simp [chans]);have h2:=HLL.out;omega
     clear hch hLs;have SF:=zh (⟨(RM.out.st.b.cell 2).trans (set17_ne HC2.out (by decide)),(RM.out.st.b.cell 15).trans (set17_ne HC15.out (by decide))⟩:wr.cell? ⟨g,2,none⟩=some (.int .i64 nd.id)/\wr.cell? ⟨g,15,none⟩=some (.int .i64 ix));go_upto_region 9 with fail;refine wp_region_held_drew (S:=fun W=>W.cell? ⟨g,2,none⟩=some (.int .i64 nd.id)/\W.cell? ⟨g,15,none⟩=some (.int .i64 ix)) (by kernel_rfl) (SF.out) (fun hHeld => ?_);refine tk (i:=0) (oi:=⟨some 38,_,_,_,_,_⟩) (v:=?_) rfl ?_ hHeld ?_
     rotate_left
     · intro w hSw;(try dsimp only at hSw);go_simp;(try with_reducible rfl)
     simp only [Act.put,lPt];refine tk (i:=1) (oi:=⟨some 39,_,_,_,_,_⟩) (v:=?_) rfl ?_ hHeld ?_
     rotate_left
     · intro w hSw;(try dsimp only at hSw);go_simp;(try with_reducible rfl)
     simp only [Act.put,lPt];refine tk (i:=2) (oi:=⟨some 40,_,_,_,_,_⟩) (v:=?_) rfl ?_ hHeld ?_
     rotate_left
     · intro w hSw;(try dsimp only at hSw);go_simp;(try with_reducible rfl)
     simp only [Act.put,lPt];refine tk (i:=3) (oi:=⟨some 41,_,_,_,_,_⟩) (v:=?_) rfl ?_ hHeld ?_
     rotate_left
     · intro w hSw;(try dsimp only at hSw);go_simp;(try with_reducible rfl)
     simp only [Act.put,lPt];refine tk (i:=4) (oi:=⟨some 42,_,_,_,_,_⟩) (v:=?_) rfl ?_ hHeld ?_
     rotate_left
     · intro w hSw;(try dsimp only at hSw);go_simp;(try with_reducible rfl)
     simp only [Act.put,lPt];refine tk (i:=5) (oi:=⟨some 43,_,_,_,_,_⟩) (v:=?_) rfl ?_ hHeld ?_
     rotate_left
     · intro w hSw;(try dsimp only at hSw);go_simp;(try with_reducible rfl)
     simp only [Act.put,lPt];refine tk (i:=6) (oi:=⟨some 44,_,_,_,_,_⟩) (v:=?_) rfl ?_ hHeld ?_
     rotate_left
     · intro w hSw;(try dsimp only at hSw);go_simp;(try with_reducible rfl)
     simp only [Act.put,lPt];refine tk (i:=7) (oi:=⟨some 45,_,_,_,_,_⟩) (v:=?_) rfl ?_ hHeld ?_
     rotate_left
     · intro w hSw;(try dsimp only at hSw);go_simp;(try with_reducible rfl)
     simp only [Act.put,lPt];refine tk (i:=8) (oi:=⟨some 46,_,_,_,_,_⟩) (v:=?_) rfl ?_ hHeld ?_
     rotate_left
     · intro w hSw;(try dsimp only at hSw);go_simp;(try with_reducible rfl)
     simp only [Act.put,lPt];refine tk (i:=9) (oi:=⟨some 47,_,_,_,_,_⟩) (v:=?_) rfl ?_ hHeld ?_
     rotate_left
     · intro w hSw;(try dsimp only at hSw);go_simp;(try with_reducible rfl)
     simp only [Act.put,lPt];refine tk (i:=10) (oi:=⟨some 48,_,_,_,_,_⟩) (v:=?_) rfl ?_ hHeld ?_
     rotate_left
     · intro w hSw;(try dsimp only at hSw);go_simp;(try with_reducible rfl)
     simp only [Act.put,lPt];refine wpAnyH_ready (rs:=[11]) (by kernel_rfl) (by simp) ?_;refine AllReadyH.cons (o:=⟨some 49,_,_,_,_,_⟩) rfl (fun K hK => ?_) AllReadyH.nil;rw [if_pos (by rfl)];go_simp;refine (HCA.out _).mono ?_;rintro e w' ⟨rfl,rfl⟩;refine hK.out _ _ (SF.out) (fun hHeld => ?_);clear hK K
     try simp only [Act.put,lPt]
     refine tk (i:=12) (oi:=⟨some 12,_,_,_,_,_⟩) (v:=?_) rfl ?_ hHeld ?_
     rotate_left
     · intro w hSw;(try dsimp only at hSw);go_simp;(try with_reducible rfl)
     simp only [Act.put,lPt];refine wpAnyH_done (by kernel_rfl) ?_ _
     skip
     go_upto_region 10 with fail;replace RM:=zh (RM.out.cg0 ((Cg.refl _ _ _).drew));replace FRD:=zh (FRD.out.cg (C:=fun _=>False) ((Cg.refl _ _ _).drew) (fun h=>h));replace G:=zh G.out.drew;clear SF hHeld;generalize wr.drew=wd at *;have RM:=zh (RM.out.cg0 ((Cg.refl _ _ _).drew));have FRD:=zh (FRD.out.cg (C:=fun _=>False) ((Cg.refl _ _ _).drew) (fun h=>h));have G:=zh G.out.drew;have c17:wd.cell? ⟨g,17,none⟩=some (.slice iA2 Ls.length ic2):=(RM.out.st.b.cell 17).trans (set17_eq HC17.out);refine wp_region_held_drew (S:=fun _=>True) (by kernel_rfl) (trivial) (fun hHeld => ?_);refine tk (i:=0) (oi:=⟨some 50,_,_,_,_,_⟩) (v:=?_) rfl ?_ hHeld ?_
     rotate_left
     · intro w hSw;(try dsimp only at hSw);go_simp;(try with_reducible rfl)
     simp only [Act.put,lPt];refine tk (i:=1) (oi:=⟨some 51,_,_,_,_,_⟩) (v:=?_) rfl ?_ hHeld ?_
     rotate_left
     · intro w hSw;(try dsimp only at hSw);go_simp;(try with_reducible rfl)
     simp only [Act.put,lPt];refine tk (i:=2) (oi:=⟨some 52,_,_,_,_,_⟩) (v:=?_) rfl ?_ hHeld ?_
     rotate_left
     · intro w hSw;(try dsimp only at hSw);go_simp;(try with_reducible rfl)
     simp only [Act.put,lPt];refine tk (i:=3) (oi:=⟨some 53,_,_,_,_,_⟩) (v:=?_) rfl ?_ hHeld ?_
     rotate_left
     · intro w hSw;(try dsimp only at hSw);go_simp;(try with_reducible rfl)
     simp only [Act.put,lPt];refine tk (i:=5) (oi:=⟨some 55,_,_,_,_,_⟩) (v:=?_) rfl ?_ hHeld ?_
     rotate_left
     · intro w hSw;(try dsimp only at hSw);go_simp;(try with_reducible rfl)
     simp only [Act.put,lPt];refine tk (i:=6) (oi:=⟨some 56,_,_,_,_,_⟩) (v:=?_) rfl ?_ hHeld ?_
     rotate_left
     · intro w hSw;(try dsimp only at hSw);go_simp;(try with_reducible rfl)
     simp only [Act.put,lPt];refine tk (i:=8) (oi:=⟨some 58,_,_,_,_,_⟩) (v:=?_) rfl ?_ hHeld ?_
     rotate_left
     · intro w hSw;(try dsimp only at hSw);go_simp;(try with_reducible rfl)
     simp only [Act.put,lPt];refine tk (i:=9) (oi:=⟨some 59,_,_,_,_,_⟩) (v:=?_) rfl ?_ hHeld ?_
     rotate_left
     · intro w hSw;(try dsimp only at hSw);go_simp;(try with_reducible rfl)
     simp only [Act.put,lPt];refine wpAnyH_ready (rs:=[4,7]) (by kernel_rfl) (by simp) ?_;refine AllReadyH.cons (o:=⟨some 54,_,_,_,_,_⟩) rfl (fun K hK => ?_) (AllReadyH.cons (o:=⟨some 57,_,_,_,_,_⟩) rfl (fun K hK => ?_) AllReadyH.nil)
     ·
      skip
      rw [if_pos (by rfl)];go_simp;refine hK.out _ _ (trivial) (fun hHeld => ?_);clear hK K
      try simp only [Act.put,lPt]
      refine wpAnyH_ready (rs:=[7]) (by kernel_rfl) (by simp) ?_;refine AllReadyH.cons (o:=⟨some 57,_,_,_,_,_⟩) rfl (fun K hK => ?_) AllReadyH.nil;rw [if_pos (by rfl)];go_simp;refine (newIn_any _ _ _).mono ?_;rintro e w5 ⟨rfl,f5,hin⟩;have k5:=(cg0 (col:=coli) f5).paint (20+2 * Ls.length);have RM:=zh (RM.out.cg0 k5);have FRD:=zh (FRD.out.cg k5 (fun h=>h));have G:=zh (G.out.trans (k5.mono (C':=NC) (fun _ h=>h.elim)));have HIN:=zh (hin coli (20+2 * Ls.length));have BT5:=zh RM.out.st.b;clear f5 hin k5;generalize paint coli _ _=col5 at *;obtain ⟨gn,hgn⟩:=nm (wd.drew.heap.size);rw [<- hgn] at HIN ⊢;clear hgn;refine hK.out _ _ (trivial) (fun hHeld => ?_);clear hK K
      try simp only [Act.put,lPt]
      refine tk (i:=10) (oi:=⟨some 60,_,_,_,_,_⟩) (v:=?_) rfl ?_ hHeld ?_
      rotate_left
      · intro w hSw;(try dsimp only at hSw);go_simp;(try with_reducible rfl)
      simp only [Act.put,lPt];refine wpAnyH_ready (rs:=[11]) (by kernel_rfl) (by simp) ?_;refine AllReadyH.cons (o:=⟨some 61,_,_,_,_,_⟩) rfl (fun K hK => ?_) AllReadyH.nil;rw [if_pos (by rfl)];go_simp;have BL:=zh (Blk.new w5 172 #[.pointer (some ⟨gn,0,none⟩),.int .i64 f,.int .i64 ch]);have fa:=(Fr.refl w5.heap.size [] w5).alloc (Nat.le_refl _) (.cells #[.pointer (some ⟨gn,0,none⟩),.int .i64 f,.int .i64 ch] 172);have RM:=zh (RM.out.cg0 (cg0 fa));have FRD:=zh (FRD.out.cg (cg0 fa) (fun h=>h));have G:=zh (G.out.trans (cgf NC fa));have HIN:=zh (HIN.out.fr0 fa);clear fa;refine hK.out _ _ (trivial) (fun hHeld => ?_);clear hK K
      try simp only [Act.put,lPt]
      refine wpAnyH_ready (rs:=[12]) (by kernel_rfl) (by simp) ?_;refine AllReadyH.cons (o:=⟨some 62,_,_,_,_,_⟩) rfl (fun K hK => ?_) AllReadyH.nil;refine step_appC _ (by rfl) (.tmp 54) (.tmp 61) inletTy (by rfl) _ Ls.length _ (by rfl) RM.out.row (w5.heap.size+1) (some ⟨w5.heap.size,0,none⟩) 1 1 (inF (gn,f,ch)) (by rfl) (Reads.of_blk (m:=1) (size:=3) BL.out rfl) (by simp [inF,Value.oneCell']) (by omega) (by omega) ?_;intro A' c' w6 hrow hap hgr;have ST6:=zh (RM.out.st.cg hap (by omega));have IM6:=zh (fun k gk mm (h1:gis2[k]?=some gk) (h2:Ls[k]?=some mm)=>(RM.out.im k gk mm h1 h2).cg hap (by omega));have HIN:=zh (HIN.out.cg hap (by omega));have FRD:=zh (FRD.out.cg hap (by omega));have G:=zh (G.out.trans (hap.mono (C':=NC) (fun _ h=>.inr h)));have GL:=zh RM.out.gl;generalize paint col5 _ 5=col6 at *;have ROW:=zh hrow;clear hrow hap hgr BL;refine hK.out _ _ (trivial) (fun hHeld => ?_);clear hK K
      try simp only [Act.put,lPt]
      refine tk (i:=13) (oi:=⟨some 63,_,_,_,_,_⟩) (v:=?_) rfl ?_ hHeld ?_
      rotate_left
      · intro w hSw;(try dsimp only at hSw);go_simp;(try with_reducible rfl)
      simp only [Act.put,lPt];refine tk (i:=14) (oi:=⟨some 64,_,_,_,_,_⟩) (v:=?_) rfl ?_ hHeld ?_
      rotate_left
      · intro w hSw;(try dsimp only at hSw);go_simp;(try with_reducible rfl)
      simp only [Act.put,lPt];refine wpAnyH_ready (rs:=[15]) (by kernel_rfl) (by simp) ?_;refine AllReadyH.cons (o:=⟨none,_,_,_,_,_⟩) rfl (fun K hK => ?_) AllReadyH.nil;rw [if_pos (by rfl)];have c17z:=(ST6.out.b.cell 17).trans (set17_eq HC17.out);have f17z:=ST6.out.b.frozen 17;have g17z:=ST6.out.b.lt;go_simp;have k1:Cg (· = 1) col6 w6 col6 (w6.setCell ⟨g,17,none⟩ (.slice A' (Ls.length+1) c')):=(Cg.refl _ _ _).set ST6.out.k _;have hln:(Ls ++ [(f,ch)]).length=Ls.length+1:=(by simp)
      have RMF := zh (by
       refine ⟨⟨?_,ST6.out.k⟩,by simp [GL.out],?_,fun k gk mm h1 h2 => ?_⟩
       · have:=ST6.out.b.set_ 17 (.slice A' (Ls.length+1) c');rw [Array.setIfInBounds_setIfInBounds] at this;rw [hln];exact this
       · have:=ROW.out.cg k1 (by omega);rw [hln,zip_snoc _ _ GL.out,List.flatMap_append];simpa using this
       ·
        rcases Nat.lt_or_ge k Ls.length with hk | hk
        · rw [List.getElem?_append_left (by rw [GL.out];exact hk)] at h1;rw [List.getElem?_append_left hk] at h2;exact (IM6.out k gk mm h1 h2).cg k1 (by omega)
        ·
         have hk2:k=Ls.length:=by
          have:=(List.getElem?_eq_some_iff.1 h2).1;simp at this;omega
         subst hk2;rw [<- GL.out,List.getElem?_append_right (Nat.le_refl _),Nat.sub_self] at h1;rw [List.getElem?_append_right (Nat.le_refl _),Nat.sub_self] at h2;injection h1 with h1
         injection h2 with h2
         rw [<- h1,<- h2]
         exact HIN.out.cg k1 (by omega):RecvM col6 (w6.setCell ⟨g,17,none⟩ (.slice A' (Ls.length+1) c')) g cs inc (Ls ++ [(f,ch)]) A' c' (gis2 ++ [gn]))
      have FRD:=zh (FRD.out.cg k1 (by omega));have G:=zh (G.out.trans (k1.mono (C':=NC) (fun _ h=>.inl h)));clear k1 hln c17z f17z g17z;refine hK.out _ _ (trivial) (fun hHeld => ?_);clear hK K
      try simp only [Act.put]
      refine wpAnyH_done (by kernel_rfl) ?_ _;rw [<- HLS.out] at RMF;generalize w6.setCell _ _=w7 at *;clear hHeld ROW IM6 ST6 HIN GL;have hi30:i<=1000:=(by omega);go_wp2_with fail;go_roundg (pt - (i+1))
      case measure=>omega
      case rel=>exact ⟨i+1,hip,rfl,by go_num,col6,A',c',gis2 ++ [gn],RMF,FRD,G⟩
     ·
      skip
      rw [if_pos (by rfl)];go_simp;refine (newIn_any _ _ _).mono ?_;rintro e w5 ⟨rfl,f5,hin⟩;have k5:=(cg0 (col:=coli) f5).paint (20+2 * Ls.length);have RM:=zh (RM.out.cg0 k5);have FRD:=zh (FRD.out.cg k5 (fun h=>h));have G:=zh (G.out.trans (k5.mono (C':=NC) (fun _ h=>h.elim)));have HIN:=zh (hin coli (20+2 * Ls.length));have BT5:=zh RM.out.st.b;clear f5 hin k5;generalize paint coli _ _=col5 at *;obtain ⟨gn,hgn⟩:=nm (wd.drew.heap.size);rw [<- hgn] at HIN ⊢;clear hgn;refine hK.out _ _ (trivial) (fun hHeld => ?_);clear hK K
      try simp only [Act.put,lPt]
      refine tk (i:=10) (oi:=⟨some 60,_,_,_,_,_⟩) (v:=?_) rfl ?_ hHeld ?_
      rotate_left
      · intro w hSw;(try dsimp only at hSw);go_simp;(try with_reducible rfl)
      simp only [Act.put,lPt];refine wpAnyH_ready (rs:=[4,11]) (by kernel_rfl) (by simp) ?_;refine AllReadyH.cons (o:=⟨some 54,_,_,_,_,_⟩) rfl (fun K hK => ?_) (AllReadyH.cons (o:=⟨some 61,_,_,_,_,_⟩) rfl (fun K hK => ?_) AllReadyH.nil)
      ·
       skip
       rw [if_pos (by rfl)];have c17:=(BT5.out.cell 17).trans (set17_eq HC17.out);go_simp;refine hK.out _ _ (trivial) (fun hHeld => ?_);clear hK K
       try simp only [Act.put,lPt]
       refine wpAnyH_ready (rs:=[11]) (by kernel_rfl) (by simp) ?_;refine AllReadyH.cons (o:=⟨some 61,_,_,_,_,_⟩) rfl (fun K hK => ?_) AllReadyH.nil;rw [if_pos (by rfl)];go_simp;have BL:=zh (Blk.new w5 172 #[.pointer (some ⟨gn,0,none⟩),.int .i64 f,.int .i64 ch]);have fa:=(Fr.refl w5.heap.size [] w5).alloc (Nat.le_refl _) (.cells #[.pointer (some ⟨gn,0,none⟩),.int .i64 f,.int .i64 ch] 172);have RM:=zh (RM.out.cg0 (cg0 fa));have FRD:=zh (FRD.out.cg (cg0 fa) (fun h=>h));have G:=zh (G.out.trans (cgf NC fa));have HIN:=zh (HIN.out.fr0 fa);clear fa;refine hK.out _ _ (trivial) (fun hHeld => ?_);clear hK K
       try simp only [Act.put,lPt]
       refine wpAnyH_ready (rs:=[12]) (by kernel_rfl) (by simp) ?_;refine AllReadyH.cons (o:=⟨some 62,_,_,_,_,_⟩) rfl (fun K hK => ?_) AllReadyH.nil;refine step_appC _ (by rfl) (.tmp 54) (.tmp 61) inletTy (by rfl) _ Ls.length _ (by rfl) RM.out.row (w5.heap.size+1) (some ⟨w5.heap.size,0,none⟩) 1 1 (inF (gn,f,ch)) (by rfl) (Reads.of_blk (m:=1) (size:=3) BL.out rfl) (by simp [inF,Value.oneCell']) (by omega) (by omega) ?_;intro A' c' w6 hrow hap hgr;have ST6:=zh (RM.out.st.cg hap (by omega));have IM6:=zh (fun k gk mm (h1:gis2[k]?=some gk) (h2:Ls[k]?=some mm)=>(RM.out.im k gk mm h1 h2).cg hap (by omega));have HIN:=zh (HIN.out.cg hap (by omega));have FRD:=zh (FRD.out.cg hap (by omega));have G:=zh (G.out.trans (hap.mono (C':=NC) (fun _ h=>.inr h)));have GL:=zh RM.out.gl;generalize paint col5 _ 5=col6 at *;have ROW:=zh hrow;clear hrow hap hgr BL;refine hK.out _ _ (trivial) (fun hHeld => ?_);clear hK K
       try simp only [Act.put,lPt]
       refine tk (i:=13) (oi:=⟨some 63,_,_,_,_,_⟩) (v:=?_) rfl ?_ hHeld ?_
       rotate_left
       · intro w hSw;(try dsimp only at hSw);go_simp;(try with_reducible rfl)
       simp only [Act.put,lPt];refine tk (i:=14) (oi:=⟨some 64,_,_,_,_,_⟩) (v:=?_) rfl ?_ hHeld ?_
       rotate_left
       · intro w hSw;(try dsimp only at hSw);go_simp;(try with_reducible rfl)
       simp only [Act.put,lPt];refine wpAnyH_ready (rs:=[15]) (by kernel_rfl) (by simp) ?_;refine AllReadyH.cons (o:=⟨none,_,_,_,_,_⟩) rfl (fun K hK => ?_) AllReadyH.nil;rw [if_pos (by rfl)];have c17z:=(ST6.out.b.cell 17).trans (set17_eq HC17.out);have f17z:=ST6.out.b.frozen 17;have g17z:=ST6.out.b.lt;go_simp;have k1:Cg (· = 1) col6 w6 col6 (w6.setCell ⟨g,17,none⟩ (.slice A' (Ls.length+1) c')):=(Cg.refl _ _ _).set ST6.out.k _;have hln:(Ls ++ [(f,ch)]).length=Ls.length+1:=(by simp)
       have RMF := zh (by
        refine ⟨⟨?_,ST6.out.k⟩,by simp [GL.out],?_,fun k gk mm h1 h2 => ?_⟩
        · have:=ST6.out.b.set_ 17 (.slice A' (Ls.length+1) c');rw [Array.setIfInBounds_setIfInBounds] at this;rw [hln];exact this
        · have:=ROW.out.cg k1 (by omega);rw [hln,zip_snoc _ _ GL.out,List.flatMap_append];simpa using this
        ·
         rcases Nat.lt_or_ge k Ls.length with hk | hk
         · rw [List.getElem?_append_left (by rw [GL.out];exact hk)] at h1;rw [List.getElem?_append_left hk] at h2;exact (IM6.out k gk mm h1 h2).cg k1 (by omega)
         ·
          have hk2:k=Ls.length:=by
           have:=(List.getElem?_eq_some_iff.1 h2).1;simp at this;omega
          subst hk2;rw [<- GL.out,List.getElem?_append_right (Nat.le_refl _),Nat.sub_self] at h1;rw [List.getElem?_append_right (Nat.le_refl _),Nat.sub_self] at h2;injection h1 with h1
          injection h2 with h2
          rw [<- h1,<- h2]
          exact HIN.out.cg k1 (by omega):RecvM col6 (w6.setCell ⟨g,17,none⟩ (.slice A' (Ls.length+1) c')) g cs inc (Ls ++ [(f,ch)]) A' c' (gis2 ++ [gn]))
       have FRD:=zh (FRD.out.cg k1 (by omega));have G:=zh (G.out.trans (k1.mono (C':=NC) (fun _ h=>.inl h)));clear k1 hln c17z f17z g17z;refine hK.out _ _ (trivial) (fun hHeld => ?_);clear hK K
       try simp only [Act.put]
       refine wpAnyH_done (by kernel_rfl) ?_ _;rw [<- HLS.out] at RMF;generalize w6.setCell _ _=w7 at *;clear hHeld ROW IM6 ST6 HIN GL;have hi30:i<=1000:=(by omega);go_wp2_with fail;go_roundg (pt - (i+1))
       case measure=>omega
       case rel=>exact ⟨i+1,hip,rfl,by go_num,col6,A',c',gis2 ++ [gn],RMF,FRD,G⟩
      ·
       skip
       rw [if_pos (by rfl)];go_simp;have BL:=zh (Blk.new w5 172 #[.pointer (some ⟨gn,0,none⟩),.int .i64 f,.int .i64 ch]);have fa:=(Fr.refl w5.heap.size [] w5).alloc (Nat.le_refl _) (.cells #[.pointer (some ⟨gn,0,none⟩),.int .i64 f,.int .i64 ch] 172);have RM:=zh (RM.out.cg0 (cg0 fa));have FRD:=zh (FRD.out.cg (cg0 fa) (fun h=>h));have G:=zh (G.out.trans (cgf NC fa));have HIN:=zh (HIN.out.fr0 fa);clear fa;refine hK.out _ _ (trivial) (fun hHeld => ?_);clear hK K
       try simp only [Act.put,lPt]
       refine wpAnyH_ready (rs:=[4]) (by kernel_rfl) (by simp) ?_;refine AllReadyH.cons (o:=⟨some 54,_,_,_,_,_⟩) rfl (fun K hK => ?_) AllReadyH.nil;rw [if_pos (by rfl)];have hg5:=BT5.out.lt;have c17:=(BT5.out.cell 17).trans (set17_eq HC17.out);go_simp;refine hK.out _ _ (trivial) (fun hHeld => ?_);clear hK K
       try simp only [Act.put,lPt]
       refine wpAnyH_ready (rs:=[12]) (by kernel_rfl) (by simp) ?_;refine AllReadyH.cons (o:=⟨some 62,_,_,_,_,_⟩) rfl (fun K hK => ?_) AllReadyH.nil;refine step_appC _ (by rfl) (.tmp 54) (.tmp 61) inletTy (by rfl) _ Ls.length _ (by rfl) RM.out.row (w5.heap.size+1) (some ⟨w5.heap.size,0,none⟩) 1 1 (inF (gn,f,ch)) (by rfl) (Reads.of_blk (m:=1) (size:=3) BL.out rfl) (by simp [inF,Value.oneCell']) (by omega) (by omega) ?_;intro A' c' w6 hrow hap hgr;have ST6:=zh (RM.out.st.cg hap (by omega));have IM6:=zh (fun k gk mm (h1:gis2[k]?=some gk) (h2:Ls[k]?=some mm)=>(RM.out.im k gk mm h1 h2).cg hap (by omega));have HIN:=zh (HIN.out.cg hap (by omega));have FRD:=zh (FRD.out.cg hap (by omega));have G:=zh (G.out.trans (hap.mono (C':=NC) (fun _ h=>.inr h)));have GL:=zh RM.out.gl;generalize paint col5 _ 5=col6 at *;have ROW:=zh hrow;clear hrow hap hgr BL;refine hK.out _ _ (trivial) (fun hHeld => ?_);clear hK K
       try simp only [Act.put,lPt]
       refine tk (i:=13) (oi:=⟨some 63,_,_,_,_,_⟩) (v:=?_) rfl ?_ hHeld ?_
       rotate_left
       · intro w hSw;(try dsimp only at hSw);go_simp;(try with_reducible rfl)
       simp only [Act.put,lPt];refine tk (i:=14) (oi:=⟨some 64,_,_,_,_,_⟩) (v:=?_) rfl ?_ hHeld ?_
       rotate_left
       · intro w hSw;(try dsimp only at hSw);go_simp;(try with_reducible rfl)
       simp only [Act.put,lPt];refine wpAnyH_ready (rs:=[15]) (by kernel_rfl) (by simp) ?_;refine AllReadyH.cons (o:=⟨none,_,_,_,_,_⟩) rfl (fun K hK => ?_) AllReadyH.nil;rw [if_pos (by rfl)];have c17z:=(ST6.out.b.cell 17).trans (set17_eq HC17.out);have f17z:=ST6.out.b.frozen 17;have g17z:=ST6.out.b.lt;go_simp;have k1:Cg (· = 1) col6 w6 col6 (w6.setCell ⟨g,17,none⟩ (.slice A' (Ls.length+1) c')):=(Cg.refl _ _ _).set ST6.out.k _;have hln:(Ls ++ [(f,ch)]).length=Ls.length+1:=(by simp)
       have RMF := zh (by
        refine ⟨⟨?_,ST6.out.k⟩,by simp [GL.out],?_,fun k gk mm h1 h2 => ?_⟩
        · have:=ST6.out.b.set_ 17 (.slice A' (Ls.length+1) c');rw [Array.setIfInBounds_setIfInBounds] at this;rw [hln];exact this
        · have:=ROW.out.cg k1 (by omega);rw [hln,zip_snoc _ _ GL.out,List.flatMap_append];simpa using this
        ·
         rcases Nat.lt_or_ge k Ls.length with hk | hk
         · rw [List.getElem?_append_left (by rw [GL.out];exact hk)] at h1;rw [List.getElem?_append_left hk] at h2;exact (IM6.out k gk mm h1 h2).cg k1 (by omega)
         ·
          have hk2:k=Ls.length:=by
           have:=(List.getElem?_eq_some_iff.1 h2).1;simp at this;omega
          subst hk2;rw [<- GL.out,List.getElem?_append_right (Nat.le_refl _),Nat.sub_self] at h1;rw [List.getElem?_append_right (Nat.le_refl _),Nat.sub_self] at h2;injection h1 with h1
          injection h2 with h2
          rw [<- h1,<- h2]
          exact HIN.out.cg k1 (by omega):RecvM col6 (w6.setCell ⟨g,17,none⟩ (.slice A' (Ls.length+1) c')) g cs inc (Ls ++ [(f,ch)]) A' c' (gis2 ++ [gn]))
       have FRD:=zh (FRD.out.cg k1 (by omega));have G:=zh (G.out.trans (k1.mono (C':=NC) (fun _ h=>.inl h)));clear k1 hln c17z f17z g17z;refine hK.out _ _ (trivial) (fun hHeld => ?_);clear hK K
       try simp only [Act.put]
       refine wpAnyH_done (by kernel_rfl) ?_ _;rw [<- HLS.out] at RMF;generalize w6.setCell _ _=w7 at *;clear hHeld ROW IM6 ST6 HIN GL;have hi30:i<=1000:=(by omega);go_wp2_with fail;go_roundg (pt - (i+1))
       case measure=>omega
       case rel=>exact ⟨i+1,hip,rfl,by go_num,col6,A',c',gis2 ++ [gn],RMF,FRD,G⟩
    ·
     obtain rfl:i=pt:=by omega
     have hj30:j<=1000000:=(by omega);go_wp2_with fail;go_roundg (m - (j+1))
     case measure=>omega
     case rel=>exact ⟨j+1,hjm,rfl,by go_num,.inr ⟨_,rfl⟩,coli,iA2,ic2,gis2,by rw [HTK.out,HPT.out];exact RM,FRD,G⟩
  ·
   obtain rfl:j=m:=by omega
   go_wp2_with fail;refine bodyPost_end (results_none rfl _ _ _) rfl ⟨colr,iA,ic,gis,rfl,?_,G2.out⟩;have h1:=RM.out;rw [List.take_of_length_le (by rw [hsl];exact Nat.le_refl _)] at h1;exact h1
end Go.Proofs.YtgblfflikgnfpaaGreat
