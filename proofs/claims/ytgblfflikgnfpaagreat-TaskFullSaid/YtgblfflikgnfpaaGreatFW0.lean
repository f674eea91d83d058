/- Texts merged into one: TfP, LkT, TaT, PlMap, PkMap, TfQ, TfA, TfB, TkG, GrS, GrV, IntM, CMap, TfC, TfD, TaskFull. -/
import Derived.Test.YtgblfflikgnfpaaGreatTk
import Derived.Test.YtgblfflikgnfpaaGreatTY4
import Derived.Test.YtgblfflikgnfpaaGreatTY6
import Derived.Test.YtgblfflikgnfpaaGreatTY9
import Derived.Test.YtgblfflikgnfpaaGreatTY14
import Derived.Test.YtgblfflikgnfpaaGreatTY15
import Derived.Test.YtgblfflikgnfpaaGreatTY21
import Derived.Deep.CutBlock
import Derived.Maps.RangeRun
import Derived.WideKeyEntry
import Derived.WideMake
namespace Go.Fb
set_option maxRecDepth 100000
set_option maxHeartbeats 16000000
set_option linter.unusedVariables false
def waitP (S:OutS):List Pkt:=(List.range S.ws.length).map fun (i:Nat)=>⟨S.ch,0,S.inc,S.last - (S.ws.length:Int)+1+(i:Int),0,S.ws.getD i emptyB⟩
def tickO (S:OutS):OutS × List Pkt :=
 if S.ws.length=0 then (S,[]) else if (S.ticks+1) % 4 ≠ 0 then ({ S with ticks:=S.ticks+1 },[]) else ({ S with ticks:=S.ticks+1 },waitP S)
end Go.Fb
namespace Go.Proofs.YtgblfflikgnfpaaGreat
open Go.RowKit Go.Fb
set_option maxRecDepth 100000
set_option maxHeartbeats 16000000
set_option linter.unusedVariables false
section
variable {col:Nat->Nat} {w:World} {g:Nat} {S:TaskS} {X:TX}
theorem read_full (h:TaskM col w g S X) (hr:S.room 1=false) (vs:Value) :
  Calls Tryz.prog 64 #[.pointer (some ⟨g,0,none⟩),vs] w fun e w'=>e=.returned (.tuple #[.slice none 0 0,.bool false])/\Fr w.heap.size [] w w':=by
 have HRM:=zh (by have:=room_any h 1;rw [hr] at this;exact this:Calls Tryz.prog 100 #[.pointer (some ⟨g,0,none⟩),.int .i64 1] w fun e w'=>e=.returned (.bool false)/\Fr w.heap.size [] w w');clear h hr;go_enter Tryz.func64,Tryz.ntmps64;go_wp2_with fail;refine HRM.out.mono ?_;rintro e w2 ⟨rfl,f2⟩;have F2:=zh f2;clear f2;go_wp2_with fail;go_ret2;exact ⟨rfl,F2.out⟩
end
end Go.Proofs.YtgblfflikgnfpaaGreat
namespace Go.Proofs.YtgblfflikgnfpaaGreat
open Go.RowKit Go.Fb
set_option maxRecDepth 100000
set_option maxHeartbeats 16000000
set_option linter.unusedVariables false
def outW (m:Chn) (W:List ByteArray):OutS:=⟨m.2.2,3,W,(W.length:Int),0⟩
def outsF (om:List Chn) (W:Nat->List ByteArray):List OutS:=om.mapIdx fun j m=>outW m (W j)
def pkF (m:Chn) (n:Nat) (s:ByteArray):Pkt:=⟨m.2.2,0,3,(n:Int)+1,0,s⟩
def upW (W:Nat->List ByteArray) (b:Nat->Bool) (s:ByteArray) (j:Nat):List ByteArray:=if b j then W j ++ [s] else W j
theorem upW_no (W:Nat->List ByteArray) (s:ByteArray):upW W noB s=W:=by funext j;rfl
theorem outsF_get {om:List Chn} {W:Nat->List ByteArray} (j:Nat):(outsF om W)[j]?=om[j]?.map fun m=>outW m (W j):=List.getElem?_mapIdx
theorem outsF_len {om:List Chn} {W:Nat->List ByteArray}:(outsF om W).length=om.length:=List.length_mapIdx
theorem outsF_congr {om:List Chn} {W W':Nat->List ByteArray} (h:∀ j m,om[j]?=some m->W j=W' j):outsF om W=outsF om W':=by
 apply List.ext_getElem?;intro j;rw [outsF_get,outsF_get]
 cases hm:om[j]? with
 | none=>rfl
 | some m=>rw [h j m hm]
structure MidF (S0 S:TaskS) (om:List Chn) (W:Nat->List ByteArray) (b:Nat->Bool) (s:ByteArray):Prop where
 eq:S={ S0 with outs:=outsF om (upW W b s),out:=S.out }
 w6:∀ k m,om[k]?=some m->(W k).length ≠ 6
 p1:∀ p ∈ S.out,∃ j m,om[j]?=some m/\b j=true/\p=pkF m (W j).length s
 p2:∀ j m,om[j]?=some m->b j=true->pkF m (W j).length s ∈ S.out
theorem MidF.start {S0:TaskS} {om:List Chn} {W:Nat->List ByteArray} {s:ByteArray} (h:S0.outs=outsF om W) (ho:S0.out=[]) (h6:∀ k m,om[k]?=some m->(W k).length ≠ 6):MidF S0 S0 om W noB s :=
 ⟨by rw [upW_no,<- h],h6,by rw [ho];simp,fun j m _ h=>by cases h⟩
theorem MidF.cong {S0 S:TaskS} {om:List Chn} {W:Nat->List ByteArray} {b b':Nat->Bool} {s:ByteArray} (h:MidF S0 S om W b s) (hb:∀ j,j < om.length->b j=b' j):MidF S0 S om W b' s:=by
 have hlt:∀ {j:Nat} {m:Chn},om[j]?=some m->j < om.length:=fun e=>(List.getElem?_eq_some_iff.1 e).1;refine ⟨?_,h.w6,fun p hp => ?_,fun j m hm hj=>h.p2 j m hm (by rw [hb j (hlt hm)];exact hj)⟩
 · rw [outsF_congr (W':=upW W b s) (fun j m hm=>by unfold upW;rw [hb j (hlt hm)])];exact h.eq
 · obtain ⟨j,m,hm,hj,he⟩:=h.p1 p hp;exact ⟨j,m,hm,by rw [<- hb j (hlt hm)];exact hj,he⟩
theorem MidF.put {S0 S:TaskS} {om:List Chn} {W:Nat->List ByteArray} {b:Nat->Bool} {s:ByteArray} (h:MidF S0 S om W b s) {k:Nat} {m:Chn} (hm:om[k]?=some m) (hb:b k=false) {it:Itm} (hs:putS it.put=s) (hz:s.size ≠ 0) :
  MidF S0 (S.put k it) om W (fun j=>b j || decide (j=k)) s:=by
 have hW:upW W b s k=W k:=(by unfold upW;rw [hb];rfl);have ho:S.outs[k]?=some (outW m (W k)):=(by rw [h.eq];show (outsF om (upW W b s))[k]?=_;rw [outsF_get,hm,hW];rfl)
 have hp:S.put k it={ S with outs:=S.outs.set k (outW m (W k ++ [s])),out:=S.out ++ [pkF m (W k).length s] }:=by
  unfold TaskS.put;rw [ho,hs];unfold sendO outW;simp only;rw [if_neg hz,if_neg (h.w6 k m hm),List.length_append];rfl
 have hset:S.outs.set k (outW m (W k ++ [s]))=outsF om (upW W (fun j=>b j || decide (j=k)) s):=by
  have e0:S.outs=outsF om (upW W b s):=(by rw [h.eq]);rw [e0];apply List.ext_getElem?;intro j;rw [outsF_get]
  by_cases hj:j=k
  · subst hj;rw [List.getElem?_set_self (by rw [outsF_len];exact (List.getElem?_eq_some_iff.1 hm).1),hm];simp [upW]
  · rw [List.getElem?_set_ne (by omega),outsF_get];simp [hj,upW]
 rw [hp,hset];refine ⟨?_,h.w6,fun p hpp => ?_,fun j m' hm' hj => ?_⟩
 · have:=h.eq;rw [this]
 ·
  rcases List.mem_append.1 hpp with hpp | hpp
  · obtain ⟨j,m',hm',hj,he⟩:=h.p1 p hpp;exact ⟨j,m',hm',by rw [hj];rfl,he⟩
  · rw [List.mem_singleton] at hpp;exact ⟨k,m,hm,by simp,hpp⟩
 ·
  by_cases hjk:j=k
  ·
   subst hjk;rw [hm] at hm';injection hm' with hm'
   subst hm';simp
  · refine List.mem_append_left _ (h.p2 j m' hm' ?_);simpa [hjk] using hj
theorem MidF.putTo {S0 S:TaskS} {om:List Chn} {W:Nat->List ByteArray} {b:Nat->Bool} {s:ByteArray} (h:MidF S0 S om W b s) (hom:S0.om=om) (k:Nat) (id t:Int) (hb:matchB om k id t=true->b k=false) {it:Itm} (hs:putS it.put=s) (hz:s.size ≠ 0) :
  MidF S0 (S.putTo k id t it) om W (fun j=>b j || (decide (j=k) && matchB om j id t)) s:=by
 have ho:S.om=om:=(by rw [h.eq];exact hom);unfold TaskS.putTo;rw [ho]
 cases hm:om[k]? with
 | none =>
  refine h.cong (fun j hj => ?_)
  have:j ≠ k:=by
   intro e;subst e;rw [List.getElem?_eq_getElem hj] at hm
   cases hm
  simp [this]
 | some m =>
  simp only
  by_cases hc:m.1=id/\m.2.1=t
  ·
   rw [if_pos hc];have hmt:matchB om k id t=true:=(by unfold matchB;rw [hm];simp [hc]);refine (h.put hm (hb hmt) hs hz).cong (fun j _ => ?_)
   by_cases e:j=k
   · subst e;simp [hmt]
   · simp [e]
  ·
   rw [if_neg hc];have hmt:matchB om k id t=false:=(by unfold matchB;rw [hm];simpa using hc);refine h.cong (fun j _ => ?_)
   by_cases e:j=k
   · subst e;simp [hmt]
   · simp [e]
theorem MidF.toKid {S0 S:TaskS} {om:List Chn} {W:Nat->List ByteArray} {b:Nat->Bool} {s:ByteArray} (h:MidF S0 S om W b s) (hom:S0.om=om) (n:Nd) (x:Nat->Int) (hb:∀ k,matchB om k n.id (n.rt (x 0 % 8).toNat)=true->b k=false) (hs:putS (recI x).put=s) (hz:s.size ≠ 0):∀ k,MidF S0 (S.toKid n x k) om W (fun j=>b j || (decide (j < k) && matchB om j n.id (n.rt (x 0 % 8).toNat))) s
 | 0=>h.cong (fun j _=>by simp)
 | k+1=>by
  rw [toKid_next];refine ((MidF.toKid h hom n x hb hs hz k).putTo hom k _ _ (fun hk=>by rw [hb k hk];simp) hs hz).cong (fun j _ => ?_);generalize matchB om j n.id (n.rt (x 0 % 8).toNat)=q;generalize b j=c
  by_cases h1:j < k
  ·
   have h2:j < k+1:=by omega
   simp [h1,h2];cases c <;> cases q <;> simp
  ·
   by_cases h2:j=k
   · subst h2;simp
   ·
    have h3:¬ j < k+1:=by omega
    simp [h1,h2,h3]
theorem MidF.record {S0 S:TaskS} {om:List Chn} {W:Nat->List ByteArray} {s:ByteArray} (h:MidF S0 S om W noB s) (hom:S0.om=om) (x:Nat->Int) (hk:InjK S0.kids) (hs:putS (recI x).put=s) (hz:s.size ≠ 0):∀ k,MidF S0 (S.record x k) om W (fun j=>selB (S0.kids.take k) om x j) s
 | 0=>h.cong (fun j _=>by simp [noB,selB])
 | k+1=>by
  have ih:=MidF.record h hom x hk hs hz k;have hks:S.kids=S0.kids:=(by rw [h.eq])
  cases hn:S0.kids[k]? with
  | none =>
   rw [record_end (by rw [hks];exact hn)];refine ih.cong (fun j _ => ?_);rw [List.take_add_one,hn];simp
  | some n =>
   rw [record_next (by rw [hks];exact hn)];have hl:(S.record x k).outs.length=om.length:=(by rw [ih.eq];exact outsF_len);rw [hl];refine (ih.toKid hom n x (fun j hj => ?_) hs hz om.length).cong (fun j hj => ?_)
   · unfold selB;rw [List.any_eq_false];intro n' hn' hq;obtain ⟨i,hi,hi2⟩:=List.getElem_of_mem hn';rw [List.getElem_take] at hi2;have hik:i < k:=(by rw [List.length_take] at hi;omega);have e1:S0.kids[i]?=some n':=(by rw [<- hi2];exact List.getElem?_eq_getElem _);have:=hk i k n' n e1 hn (matchB_id hq hj);omega
   · unfold selB;rw [List.take_add_one,hn,List.any_append];simp [hj]
def wsJ (L:List Nd) (nd:Nd) (ix:Int) (X:List (Nat->Int)) (j:Nat):List ByteArray:=(X.filter fun x=>selK (kidsL L nd.id) (sendL L nd.id ix) (x 0) j).map fun x=>putS (recI x).put
def fullT (L:List Nd) (nd:Nd) (ix:Int) (X:List (Nat->Int)):TaskS:={ task0 L nd ix 3 [] with outs:=outsF (sendL L nd.id ix) (wsJ L nd ix X) }
theorem outs_startF (om:List Chn):(om.map fun m=>(⟨m.2.2,3,[],0,0⟩:OutS))=outsF om (fun _=>[]):=by
 apply List.ext_getElem?;intro j;rw [outsF_get,List.getElem?_map];rfl
theorem full_start (L:List Nd) (nd:Nd) (ix:Int):task0 L nd ix 3 []=fullT L nd ix []:=by
 unfold fullT;have e:wsJ L nd ix []=fun _=>[]:=(by funext j;rfl);rw [e,<- outs_startF];rfl
section
variable {L:List Nd} {nd:Nd} {ix:Int} {X:List (Nat->Int)}
theorem wsJ_next (x:Nat->Int) (j:Nat):wsJ L nd ix (X ++ [x]) j=if selK (kidsL L nd.id) (sendL L nd.id ix) (x 0) j then wsJ L nd ix X j ++ [putS (recI x).put] else wsJ L nd ix X j:=by
 unfold wsJ;rw [List.filter_append,List.map_append]
 cases hq:selK (kidsL L nd.id) (sendL L nd.id ix) (x 0) j with
 | false=>simp [hq]
 | true=>simp [hq]
theorem full_room:(fullT L nd ix X).room 1=true ↔ ∀ j m,(sendL L nd.id ix)[j]?=some m->(wsJ L nd ix X j).length < 6:=by
 unfold TaskS.room;rw [List.all_eq_true];constructor
 · intro h j m hm;have h1:=h (outW m (wsJ L nd ix X j)) (List.mem_of_getElem? (by show (outsF _ _)[j]?=_;rw [outsF_get,hm];rfl));simp only [Bool.not_eq_true',decide_eq_false_iff_not] at h1;have h2:¬ ((6:Int) - ((wsJ L nd ix X j).length:Int) < 1):=h1;omega
 ·
  intro h o ho;obtain ⟨j,hj⟩:=List.getElem?_of_mem ho;replace hj:(outsF (sendL L nd.id ix) (wsJ L nd ix X))[j]?=some o:=hj;rw [outsF_get] at hj
  cases hm:(sendL L nd.id ix)[j]? with
  | none=>rw [hm] at hj;cases hj
  | some m =>
   rw [hm] at hj;injection hj with hj
   have h1:=h j m hm;rw [<- hj];simp only [Bool.not_eq_true',decide_eq_false_iff_not]
   show ¬ ((6:Int) - ((wsJ L nd ix X j).length:Int) < 1)
   omega
theorem full_rec (hR:RightG L) (x:Nat->Int) (hx:recB (x 0) (x 1) (x 2)=true) (h6:(fullT L nd ix X).room 1=true):∃ S2,S2=(fullT L nd ix X).record x (fullT L nd ix X).kids.length/\{ S2 with out:=[] }=fullT L nd ix (X ++ [x])/\(∀ p ∈ S2.out,∃ j m,(sendL L nd.id ix)[j]?=some m/\selK (kidsL L nd.id) (sendL L nd.id ix) (x 0) j=true/\p=pkF m (wsJ L nd ix X j).length (putS (recI x).put)) /\ ∀ j m,(sendL L nd.id ix)[j]?=some m->selK (kidsL L nd.id) (sendL L nd.id ix) (x 0) j=true->pkF m (wsJ L nd ix X j).length (putS (recI x).put) ∈ S2.out:=by
 have hsm:(recI x).put.isSome=true:=by
  show (putI false (x 0) (x 1) (x 2) 0 false).isSome=true
  unfold putI;rw [if_neg (by simp),if_pos hx];rfl
 have hsz:=put_size hsm;have hm0:MidF (fullT L nd ix X) (fullT L nd ix X) (sendL L nd.id ix) (wsJ L nd ix X) noB (putS (recI x).put):=MidF.start rfl rfl (fun k m hm=>by have:=full_room.1 h6 k m hm;omega);have hm:=hm0.record rfl x (kids_inj nd.id) rfl hsz.1 (fullT L nd ix X).kids.length;rw [List.take_length] at hm;have hb:(fun j=>selB (fullT L nd ix X).kids (sendL L nd.id ix) x j)=fun j=>selK (kidsL L nd.id) (sendL L nd.id ix) (x 0) j:=rfl;rw [hb] at hm;refine ⟨_,rfl,?_,hm.p1,hm.p2⟩;have e:=hm.eq;have e2:outsF (sendL L nd.id ix) (upW (wsJ L nd ix X) (fun j=>selK (kidsL L nd.id) (sendL L nd.id ix) (x 0) j) (putS (recI x).put))=outsF (sendL L nd.id ix) (wsJ L nd ix (X ++ [x])):=outsF_congr (fun j m _=>by rw [wsJ_next];rfl);rw [e,e2];rfl
end
end Go.Proofs.YtgblfflikgnfpaaGreat
namespace Go.Proofs.YtgblfflikgnfpaaGreat
open Go.RowKit Go.Fb
set_option maxRecDepth 100000
set_option maxHeartbeats 16000000
set_option linter.unusedVariables false
def TickOut (col:Nat->Nat) (c d g:Nat) (S:OutS) (w:World) (e:Ending) (w':World):Prop :=
 ∃ A cp col',e=.returned (.slice A (tickO S).2.length cp)/\CRd col' d w' 6 A (tickO S).2.length (pksC (tickO S).2)/\OutM col' c w' g (tickO S).1/\Cg (fun q=>q=c \/ q=d) col w col' w'
theorem wait_at {S:OutS} {i:Nat} (hi:i < S.ws.length):(waitP S)[i]?=some (wpk S i):=by
 unfold waitP;rw [List.getElem?_map,List.getElem?_range hi];rfl
theorem wait_len (S:OutS):(waitP S).length=S.ws.length:=by simp [waitP]
section
variable {col:Nat->Nat} {c g:Nat} {w:World}
theorem tick_any {S:OutS} (h:OutM col c w g S) (hn:S.ws.length<=6) (h0:0<=S.last) (h1:S.last<=1099511627776) (ht0:0<=S.ticks) (ht1:S.ticks<=1000000) (d:Nat) (hd:d ≠ c):Calls Tryz.prog 69 #[.pointer (some ⟨g,0,none⟩)] w (TickOut col c d g S w):=by
 have H:=zh h;obtain ⟨A,cp,hb,hr⟩:=h;have c2:w.cell? ⟨g,2,none⟩=some (.slice A S.ws.length cp):=hb.b.cell 2;have c4:w.cell? ⟨g,4,none⟩=some (.int .i64 S.ticks):=hb.b.cell 4;have f4:=hb.b.frozen 4;have HB:=zh hb;have HR:=zh hr;obtain ⟨n,hnn⟩:=nm (S.ws.length);obtain ⟨t,htt⟩:=nm (S.ticks);rw [<- hnn] at c2 hn;rw [<- htt] at c4 ht0 ht1;have HN:=zh hnn;have HT:=zh htt;have HL:=zh (show 0<=S.last/\S.last<=1099511627779 by omega);clear hb hr hnn htt h0 h1
 by_cases hn0:n=0
 · subst hn0;have he:tickO S=(S,[]):=(by unfold tickO;rw [if_pos HN.out.symm]);have HE:=zh he;clear he;go_enter Tryz.func69,Tryz.ntmps69;go_wp2_with fail;go_ret;exact ⟨none,0,col,by rw [HE.out];rfl,by rw [HE.out];exact CRd.none_ _ _ _,by rw [HE.out];exact H.out,Cg.refl _ _ _⟩
 have hn1:((n:Int) == 0)=false:=(by simpa using hn0);have htw:IntKind.i64.wrap (t+1)=t+1:=(by rw [IntKind.wrap_i64];omega);have hmod:(t+1).tmod 4=(t+1) % 4:=Int.tmod_eq_emod_of_nonneg (by omega);have hmw:IntKind.i64.wrap ((t+1) % 4)=(t+1) % 4:=(by rw [IntKind.wrap_i64];omega);obtain ⟨S1,hS1⟩:=nm ({ S with ticks:=t+1 }:OutS);have K1:Cg (fun q=>q=c \/ q=d) col w col (w.setCell ⟨g,4,none⟩ (.int .i64 (t+1))):=(Cg.refl _ _ _).set (p:=⟨g,4,none⟩) (.inl HB.out.k) _
 have M1:OutM col c (w.setCell ⟨g,4,none⟩ (.int .i64 (t+1))) g S1:=by
  refine ⟨A,cp,⟨?_,HB.out.k⟩,?_⟩
  · have:=HB.out.b.set_ 4 (.int .i64 (t+1));rw [hS1];simpa using this
  · rw [hS1];exact HR.out.far (p:=⟨g,4,none⟩) (HB.out.b.ne_rowO HR.out.r (by decide)) _
 have C1:=zh K1;have M1:=zh M1
 by_cases hm:(t+1) % 4=0
 case neg =>
  have HE:=zh (show tickO S=(S1,[]) by unfold tickO;rw [if_neg (by rw [<- HN.out];exact hn0),if_pos (by rw [<- HT.out];exact hm),hS1,<- HT.out]);clear hS1 K1;go_enter Tryz.func69,Tryz.ntmps69;go_wp2_with fail;go_ret;exact ⟨none,0,col,by rw [HE.out];rfl,by rw [HE.out];exact CRd.none_ _ _ _,by rw [HE.out];exact M1.out,C1.out⟩
 have HE:=zh (show tickO S=(S1,waitP S1) by unfold tickO;rw [if_neg (by rw [<- HN.out];exact hn0),if_neg (by rw [<- HT.out];omega),hS1,<- HT.out];rfl);have HS1:=zh (show S1.ws.length=n/\0<=S1.last/\S1.last<=1099511627779 by rw [hS1];exact ⟨HN.out.symm,HL.out⟩);have HDC:=zh hd
 have d2:(w.setCell ⟨g,4,none⟩ (.int .i64 (t+1))).cell? ⟨g,2,none⟩=some (.slice A n cp):=by
  have:=(HB.out.b.set_ 4 (.int .i64 (t+1))).cell 2;rw [HN.out];simpa using this
 clear hS1 K1 hd HL HT HN HB HR H;go_enter Tryz.func69,Tryz.ntmps69;go_upto_region 7 with fail;generalize w.setCell _ _=w1 at *;clear c2 c4 f4 hmod hmw htw hm hn1;go_upto_region 8 with fail;clear d2;go_loopg [3,4,33] n (fun q s3 s4 s33 wr=>∃ i:Nat,i<=n/\q=n - i/\s33=.int .i64 i/\(s4=undef \/ ∃ z,s4=.int .i64 z)/\∃ Ar cr colr,s3=.slice Ar i cr/\Hid (CR colr d wr 89 6 (.slice Ar i cr) i (pksC ((waitP S1).take i)))/\Hid (OutM colr c wr g S1)/\Hid (Cg (fun q=>q=c \/ q=d) col w colr wr))
 case atStart=>exact ⟨0,Nat.zero_le _,rfl,rfl,.inl rfl,none,0,col,rfl,zh (CR.nil _ _ _ _ _),M1,C1⟩
 case round =>
  clear M1 C1;obtain ⟨i,hi,rfl,rfl,hs4,Ar,cr,colr,rfl,RW,M1,C1⟩:=hrel
  by_cases hin:i < n
  ·
   have hii:(i:Int) < (n:Int):=by omega
   have hi6:i<=6:=(by omega);have hp9:=packet_any M1.out i (by rw [HS1.out.1];exact hin) (by rw [HS1.out.1];exact hn) HS1.out.2.1 HS1.out.2.2;have hw9:=wait_at (S:=S1) (i:=i) (by rw [HS1.out.1];exact hin);obtain ⟨p,hp⟩:=nm (wpk S1 i);rw [<- hp] at hp9 hw9;simp only [pkC] at hp9;have HP:=zh hp9;have HW:=zh (show (waitP S1).take (i+1)=(waitP S1).take i ++ [p] by rw [List.take_add_one,hw9];rfl);clear hp9 hw9 hp hs4;go_wp2_with fail;refine HP.out.mono ?_;rintro e w5 ⟨rfl,f5⟩;have fa:=(Fr.refl w5.heap.size [] w5).alloc (Nat.le_refl _) (.cells #[.int .i64 p.ch,.int .i64 p.bk,.int .i64 p.inc,.int .i64 p.seq,.int .i64 p.ack,.string p.ld] 89);have BS:=zh (Blk.new w5 89 #[.int .i64 p.ch,.int .i64 p.bk,.int .i64 p.inc,.int .i64 p.seq,.int .i64 p.ack,.string p.ld]);have k5:=(cg0 (col:=colr) f5).trans (cg0 fa);have RW:=zh (RW.out.cg k5 (fun h=>h));have M1:=zh (M1.out.cg k5 (fun h=>h));have C1:=zh (C1.out.trans (k5.mono (C':=fun q=>q=c \/ q=d) (fun _ h=>h.elim)));clear f5 fa k5 HP;go_wp2_with (at_builtin;refine wpList_appC _ rfl (.tmp 36) (.tmp 40) pktTy rfl _ i _ rfl RW.out (w5.heap.size+1) (some ⟨w5.heap.size,0,none⟩) 1 1 (pkC p).toList rfl (Reads.of_blk (m:=1) (size:=6) BS.out rfl) (by have:=pksC_one [p];simpa [pksC] using this) (by omega) (by omega) ?_);intro A' c' w8 hrow hap hgr;have hcr:pksC ((waitP S1).take i) ++ (pkC p).toList=pksC ((waitP S1).take (i+1)):=(by rw [HW.out,pksC_app];simp [pksC]);rw [hcr] at hrow;have RW:=zh hrow;have M1:=zh (M1.out.cg hap (fun h=>HDC.out h.symm));have C1:=zh (C1.out.trans (hap.mono (C':=fun q=>q=c \/ q=d) (fun _ h=>.inr h)));clear hrow hap hgr hcr BS;generalize paint colr _ _=col8 at *;go_wp2_with fail;go_roundg (n - (i+1))
   case measure=>omega
   case rel=>exact ⟨i+1,hin,rfl,by go_num,.inr ⟨_,rfl⟩,A',c',col8,rfl,RW,M1,C1⟩
  ·
   have hii:¬ (i:Int) < (n:Int):=by omega
   have e9:i=n:=(by omega);have RW9:=zh (by have h9:=RW.out;rw [List.take_of_length_le (by rw [wait_len,HS1.out.1];omega)] at h9;exact h9:CR colr d wr 89 6 (.slice Ar i cr) i (pksC (waitP S1)));have HLN:=zh (show i=(waitP S1).length by rw [wait_len,HS1.out.1];exact e9);clear hin e9 RW;go_wp2_with fail;go_ret;refine ⟨Ar,cr,colr,?_,?_,by rw [HE.out];exact M1.out,C1.out⟩
   ·
    rw [HE.out]
    show Ending.returned (.slice Ar i cr)=.returned (.slice Ar (waitP S1).length cr)
    rw [<- HLN.out]
   rw [HE.out]
   show CRd colr d wr 6 Ar (waitP S1).length (pksC (waitP S1))
   rw [<- HLN.out];exact RW9.out.rd
end
end Go.Proofs.YtgblfflikgnfpaaGreat
namespace Go.Proofs.YtgblfflikgnfpaaGreat
open Go.RowKit Go.Fb
set_option maxRecDepth 100000
set_option maxHeartbeats 16000000
set_option linter.unusedVariables false
def TaskS.ticks1 (S:TaskS) (k:Nat):TaskS:={ S with outs:=(S.outs.take k).map (fun o=>(tickO o).1) ++ S.outs.drop k }
def TaskS.told (S:TaskS) (k:Nat):List Pkt:=(S.outs.take k).flatMap fun o=>(tickO o).2
def TaskS.tick (S:TaskS):TaskS:={ S with outs:=S.outs.map fun o=>(tickO o).1 }
theorem ticks1_next {S:TaskS} {k:Nat} {o:OutS} (h:S.outs[k]?=some o):{ S.ticks1 k with outs:=(S.ticks1 k).outs.set k (tickO o).1 }=S.ticks1 (k+1):=by
 unfold TaskS.ticks1;rw [<- step_map (fun o=>(tickO o).1) S.outs h]
theorem told_next {S:TaskS} {k:Nat} {o:OutS} (h:S.outs[k]?=some o):S.told (k+1)=S.told k ++ (tickO o).2:=by
 unfold TaskS.told;rw [List.take_add_one,h,List.flatMap_append];simp
theorem tickO_few (o:OutS):(tickO o).2.length<=o.ws.length:=by
 unfold tickO
 split
 · simp
 ·
  split
  · simp
  ·
   show (waitP _).length<=_
   rw [wait_len];exact Nat.le_refl _
theorem told_few {S:TaskS} (h:∀ o ∈ S.outs,o.ws.length<=6):∀ k,k<=S.outs.length->(S.told k).length<=6 * k
 | 0,_=>by simp [TaskS.told]
 | k+1,hk=>by
  obtain ⟨o,ho⟩:∃ o,S.outs[k]?=some o:=⟨_,List.getElem?_eq_getElem (by omega)⟩;rw [told_next ho,List.length_append];have h1:=told_few h k (by omega);have h2:=tickO_few o;have h3:=h o (List.mem_of_getElem? ho);omega
theorem TaskM.setOut2 {col col':Nat->Nat} {w w':World} {g:Nat} {S:TaskS} {X:TX} (h:TaskM col w g S X) {k gk:Nat} {s s':OutS} (hg:X.go[k]?=some gk) (hs:S.outs[k]?=some s) (hc:Cg (fun c=>c=21+2 * k \/ c=11) col w col' w') (hm:OutM col' (21+2 * k) w' gk s'):TaskM col' w' g { S with outs:=S.outs.set k s' } X:=by
 have t:=ct_cg h.tab h.tk1 h.tk2 hc (by omega);have a:=al_cg h.al h.ak1 h.ak2 hc (by omega);have hk:=(List.getElem?_eq_some_iff.1 hs).1;refine ⟨h.st.cg hc (by omega),t.1,t.2.1,t.2.2,a.1,a.2.1,a.2.2,h.pg.cg hc (by omega),h.ks,h.kr.cg hc (by omega),h.gi,h.il,h.ir.cg hc (by omega),fun j gj s h1 h2=>(h.im j gj s h1 h2).cg hc (by omega),h.go,by simpa using h.ol,h.or_.cg hc (by omega),fun j gj sj h1 h2 => ?_,h.ln.cg hc (by omega),h.ou.cg hc (by omega),h.few⟩
 rcases Nat.decEq j k with hjk | rfl
 · rw [List.getElem?_set_ne (by omega)] at h2;exact (h.om j gj sj h1 h2).cg hc (by omega)
 ·
  rw [List.getElem?_set_self hk] at h2;rw [h1] at hg;injection hg with hg
  injection h2 with h2
  subst hg h2;exact hm
def TaTick (col:Nat->Nat) (g:Nat) (S:TaskS) (X:TX) (w:World) (e:Ending) (w':World):Prop :=
 ∃ A cp col',e=.returned (.slice A (S.told S.outs.length).length cp)/\CRd col' 10 w' 6 A (S.told S.outs.length).length (pksC (S.told S.outs.length))/\TaskM col' w' g S.tick X/\Cg (fun c=>(20<=c/\c < 100) \/ c=10 \/ c=11) col w col' w'
theorem ttick_any {col:Nat->Nat} {g:Nat} {S:TaskS} {X:TX} {w:World} (h:TaskM col w g S X) (ho:∀ o ∈ S.outs,o.ws.length<=6/\(0<=o.last/\o.last<=1099511627776)/\0<=o.ticks/\o.ticks<=1000000) :
  Calls Tryz.prog 28 #[.pointer (some ⟨g,0,none⟩)] w (TaTick col g S X w):=by
 have HO:=zh ho;have HOL:=zh h.ol;have HGO:=zh h.go;have HFW:=zh h.few;have HTF:=zh (told_few (S:=S) (fun o hm=>(ho o hm).1));have T0:=zh (show TaskM col w g (S.ticks1 0) X by simpa [TaskS.ticks1] using h);have R0:=zh (CR.nil col 10 w 89 6);have C0:=zh (Cg.refl (fun c=>(20<=c/\c < 100) \/ c=10 \/ c=11) col w);have hd18:w.cell? ⟨g,18,none⟩=some (.slice X.oA S.om.length X.oc):=h.st.b.cell 18;clear h ho;go_enter Tryz.func28,Tryz.ntmps28;go_upto_region 5 with fail;clear hd18;go_loopg [3,5,13] (S.om.length) (fun q s3 s5 s13 wl=>∃ j:Nat,j<=S.om.length/\q=S.om.length - j/\s13=.int .i64 j/\(s5=undef \/ ∃ a,s5=.pointer a)/\∃ A m cp coll,s3=.slice A m cp/\Hid (m=(S.told j).length)/\Hid (CR coll 10 wl 89 6 (.slice A m cp) m (pksC (S.told j)))/\Hid (TaskM coll wl g (S.ticks1 j) X)/\Hid (Cg (fun c=>(20<=c/\c < 100) \/ c=10 \/ c=11) col w coll wl))
 case atStart=>exact ⟨0,Nat.zero_le _,rfl,rfl,.inl rfl,none,0,0,col,rfl,zh (by simp [TaskS.told]),zh (by simpa [TaskS.told,pksC] using R0.out),T0,C0⟩
 case round =>
  clear T0 R0 C0;obtain ⟨j,hj,rfl,rfl,hs5,A,m,cp,coll,rfl,HM,RW,T,CC⟩:=hrel
  by_cases hjn:j < S.om.length
  ·
   have hji:(j:Int) < (S.om.length:Int):=by omega
   obtain ⟨mx,hmx⟩:∃ mx,S.om[j]?=some mx:=⟨_,List.getElem?_eq_getElem hjn⟩;obtain ⟨gk,hgk⟩:∃ gk,X.go[j]?=some gk:=⟨_,List.getElem?_eq_getElem (by rw [HGO.out];exact hjn)⟩;obtain ⟨sk,hsk⟩:∃ sk,S.outs[j]?=some sk:=⟨_,List.getElem?_eq_getElem (by rw [HOL.out];exact hjn)⟩;have hz:(X.go.zip S.om)[j]?=some (gk,mx):=(by rw [List.getElem?_zip_eq_some];exact ⟨hgk,hmx⟩);obtain ⟨b,off,hA,hb,_,hcell⟩:=Reads.elem outF_len T.out.or_.1 hz (by omega);have x0:=hcell 0 _ rfl;have x1:=hcell 1 _ rfl;have x2:=hcell 2 _ rfl;have x3:=hcell 3 _ rfl;simp only [Nat.add_zero] at x0 x1 x2 x3;have hsk2:(S.ticks1 j).outs[j]?=some sk:=(by unfold TaskS.ticks1;exact (at_map _ _ _).trans hsk);have hsm:=HO.out sk (List.mem_of_getElem? hsk);have hj30:j<=30:=(by have:=HFW.out.2;omega);have hm200:m<=200:=(by have h1:=HTF.out j (by rw [HOL.out];exact hj);rw [HM.out];omega);have F1:=(Fr.refl wr.heap.size [] wr).alloc (Nat.le_refl _) (.cells #[.pointer (some ⟨gk,0,none⟩),.int .i64 mx.1,.int .i64 mx.2.1,.int .i64 mx.2.2] 170);have T1:=zh (T.out.fr0 F1);have HTK:=zh (tick_any (T1.out.om j gk sk hgk hsk2) hsm.1 hsm.2.1.1 hsm.2.1.2 hsm.2.2.1 hsm.2.2.2 11 (by omega));have C1:=zh (CC.out.trans ((cg0 F1).mono (fun _ h=>h.elim)));have R1:=zh (RW.out.cg (cg0 F1) (fun h=>h));have HSK:=zh hsk;have HSK2:=zh hsk2;have HGK:=zh hgk;have hlen:=Nat.le_trans (tickO_few sk) hsm.1;clear hz hcell T CC RW hsm hsk hsk2 hgk hmx F1 hs5;rw [hA];go_wp2_with fail;refine HTK.out.mono ?_;rintro e w1 ⟨A1,c1,col1,rfl,hrd,hin,hcg⟩;generalize wr.alloc _=wa at *;have hc9:Cg (fun c=>c=21+2 * j \/ c=11) coll wa col1 w1:=hcg;have RD:=zh hrd.1;have R2:=zh (R1.out.cg hc9 (by omega));have C2:=zh (C1.out.trans (hc9.mono (C':=fun c=>(20<=c/\c < 100) \/ c=10 \/ c=11) (fun c hc=>by omega)));have T2:=T1.out.setOut2 HGK.out HSK2.out hc9 hin;rw [ticks1_next HSK.out] at T2;have T2:=zh T2;obtain ⟨nt,hnt⟩:=nm ((tickO sk).2.length);rw [<- hnt] at RD hlen ⊢;have HNT:=zh hnt;clear hrd hin hcg hc9 T1 C1 R1 HTK hnt;go_wp2_with (at_builtin;refine wpList_appC _ rfl (.tmp 17) (.tmp 20) pktTy rfl _ m _ rfl R2.out w1.heap.size A1 nt c1 _ rfl RD.out (pksC_one _) (by omega) (by omega) ?_);intro A3 c3 w3 hrow hap hgr;have C3:=zh (C2.out.trans (hap.mono (C':=fun c=>(20<=c/\c < 100) \/ c=10 \/ c=11) (fun c hc=>.inr (.inl hc))));have T3:=zh (T2.out.cg hap (fun c hc h=>by subst h;unfold TC at hc;omega));rw [<- pksC_app,<- told_next HSK.out] at hrow;have R3:=zh hrow;have HM2:=zh (show m+nt=(S.told (j+1)).length by rw [told_next HSK.out,List.length_append,HM.out,HNT.out]);clear hrow hap hgr T2 C2 R2;generalize paint col1 _ _=col8 at *;go_wp2_with fail;rw [<- hA];go_roundg (S.om.length - (j+1))
   case measure=>omega
   case rel=>exact ⟨j+1,hjn,rfl,by go_num,.inr ⟨_,rfl⟩,A3,m+nt,c3,col8,rfl,HM2,R3,T3,C3⟩
  ·
   have hji:¬ (j:Int) < (S.om.length:Int):=by omega
   have HJ:=zh (show j=S.outs.length by rw [HOL.out];omega);clear hjn;go_wp2_with fail;go_ret;have hm:=HM.out;have hr:=RW.out.rd;have ht:=T.out;rw [HJ.out] at hm hr ht;refine ⟨A,cp,coll,by rw [<- hm];rfl,by rw [<- hm];exact hr,?_,CC.out⟩
   have e:S.ticks1 S.outs.length=S.tick:=by
    unfold TaskS.ticks1 TaskS.tick;rw [List.take_length,List.drop_length,List.append_nil]
   rw [e] at ht;exact ht
def setB (w:World) (r:Nat) (o:Obj):World:={ w with heap:=w.heap.setIfInBounds r o }
theorem setB_fr (w:World) (r:Nat) (o:Obj):Fr w.heap.size [r] w (setB w r o) :=
 ⟨rfl, rfl, rfl, by simp [setB], fun k _ hk => by
  have:r ≠ k:=fun h=>hk (by simp [h])
  simp [setB,this]⟩
theorem setB_new {w:World} {r:Nat} (h:r < w.heap.size) (o:Obj):(setB w r o).heap[r]?=some o:=by simp [setB,h]
theorem setB_size (w:World) (r:Nat) (o:Obj):(setB w r o).heap.size=w.heap.size:=by simp [setB]
abbrev pqV (p:Pkt):Value:=.agg #[.int .i64 p.ch,.int .i64 p.bk,.int .i64 p.inc,.int .i64 p.seq,.int .i64 p.ack,.string p.ld]
def pqE (x y:Pkt):Bool:=x.ch == y.ch && (x.bk == y.bk && (x.inc == y.inc && (x.seq == y.seq && (x.ack == y.ack && x.ld.toList == y.ld.toList))))
theorem pqE_iff (x y:Pkt):pqE x y=true ↔ x=y:=by
 obtain ⟨a,b,c,d,e,f⟩:=x;obtain ⟨a',b',c',d',e',f'⟩:=y
 have hl:f.toList=f'.toList ↔ f=f':=by
  constructor
  · intro h;rw [ByteArray.toList_eq,ByteArray.toList_eq] at h;exact ByteArray.ext (Array.toList_inj.1 h)
  · intro h;rw [h]
 simp [pqE,hl]
instance:DecidableEq Pkt:=fun a b=>if h:pqE a b=true then .isTrue ((pqE_iff a b).1 h) else .isFalse fun e=>h ((pqE_iff a b).2 e)
theorem pq_beq (x y:Pkt):pqE x y=decide (x=y):=by
 rw [Bool.eq_iff_iff,pqE_iff,decide_eq_true_eq]
theorem pq_eq (x y:Pkt) (w:World):(Op.equal 89 (pqV x) (pqV y)).run Tryz.prog w=.ok (decide (x=y)) w:=by
 have h:(Op.equalIn 10000 89 (pqV x) (pqV y)).run Tryz.prog w=.ok (pqE x y) w:=by
  unfold pqE;rw [run_equalIn_struct w 9999 89 _ _ (by kernel_rfl) (by kernel_rfl)];simp only [Program.fieldsOf,Tryz.underlying89];have ei:=fun (a b:Int)=>run_equalIn_int w 9998 3 .i64 .i64 a b Tryz.underlying3;have es:=run_equalIn_string w 9998 9 x.ld y.ld Tryz.underlying9
  by_cases h1:x.ch=y.ch
  ·
   by_cases h2:x.bk=y.bk
   ·
    by_cases h3:x.inc=y.inc
    ·
     by_cases h4:x.seq=y.seq
     ·
      by_cases h5:x.ack=y.ack
      ·
       by_cases h6:x.ld.toList=y.ld.toList
       · simp [Op.eqFields,part,isAgg,run_underlying Tryz.underlying3,run_underlying Tryz.underlying9,ei,es,h1,h2,h3,h4,h5,h6]
       · simp [Op.eqFields,part,isAgg,run_underlying Tryz.underlying3,run_underlying Tryz.underlying9,ei,es,h1,h2,h3,h4,h5,h6]
      · simp [Op.eqFields,part,isAgg,run_underlying Tryz.underlying3,ei,h1,h2,h3,h4,h5]
     · simp [Op.eqFields,part,isAgg,run_underlying Tryz.underlying3,ei,h1,h2,h3,h4]
    · simp [Op.eqFields,part,isAgg,run_underlying Tryz.underlying3,ei,h1,h2,h3]
   · simp [Op.eqFields,part,isAgg,run_underlying Tryz.underlying3,ei,h1,h2]
  · simp [Op.eqFields,part,isAgg,run_underlying Tryz.underlying3,ei,h1]
 rw [pq_beq] at h;simp [Op.equal,Op.maxDepth,h]
theorem pq_check (b:Bool) (x:Pkt) (w:World):(Instr.checkKey b 10000 89 (pqV x)).run Tryz.prog w=.ok () w:=by
 have hi:∀ v:Int,(Instr.checkKey b 9999 3 (.int .i64 v)).run Tryz.prog w=.ok () w:=fun v=>MapKept.run_checkKey (k:=.int .i64 v) Tryz.underlying3 (by simp [MapKept.IsKey]) b 9998;have hs:∀ v:ByteArray,(Instr.checkKey b 9999 9 (.string v)).run Tryz.prog w=.ok () w:=fun v=>MapKept.run_checkKey (k:=.string v) Tryz.underlying9 (by simp [MapKept.IsKey]) b 9998;rw [show (10000:Nat)=9999+1 from rfl];unfold Instr.checkKey;simp [run_underlying Tryz.underlying89,Result.andThen,part,isAgg,run_underlying Tryz.underlying3,run_underlying Tryz.underlying9,hi,hs]
theorem pq_stays (x:Pkt) (w:World):(Instr.keyThatStays (pqV x) (pqV x)).run Tryz.prog w=.ok (pqV x) w:=by
 have h:Instr.sameBits 10000 (pqV x) (pqV x)=true:=by
  rw [show (10000:Nat)=9998+1+1 from rfl];simp [Instr.sameBits,MapKept.bytes_beq]
 unfold Instr.keyThatStays;rw [if_pos h];rfl
def findQ (p:Pkt):List (Pkt × Value)->Nat->Option (Nat × Value)
 | [],_=>none
 | x :: l,i=>if p=x.1 then some (i,x.2) else findQ p l (i+1)
def putQ (ps:List (Pkt × Value)) (p:Pkt) (v:Value):List (Pkt × Value):=match findQ p ps 0 with
 | none=>ps ++ [(p,v)]
 | some x=>ps.set x.1 (p,v)
theorem findQ_some {p:Pkt}:∀ {ps:List (Pkt × Value)} {i j:Nat} {v:Value},findQ p ps i=some (j,v)->i<=j/\ps[j - i]?=some (p,v)
 | [],i,j,v,h=>by simp [findQ] at h
 | x :: l,i,j,v,h=>by
  unfold findQ at h
  split at h
  · rename_i hp;simp only [Option.some.injEq,Prod.mk.injEq] at h;obtain ⟨rfl,rfl⟩:=h;subst hp;exact ⟨Nat.le_refl _,by simp⟩
  · obtain ⟨a,b⟩:=findQ_some h;refine ⟨by omega,?_⟩;rw [show j - i=(j - (i+1))+1 by omega,List.getElem?_cons_succ];exact b
def PqM (w:World) (r:Nat) (ps:List (Pkt × Value)):Prop :=
 ∃ es clock,w.heap[r]?=some (.map es clock)/\(∀ x ∈ es.toList,x.born < clock)/\(es.toList.map (·.born)).Nodup/\es.toList.map (fun e=>(e.key,e.val))=ps.map (fun x=>(pqV x.1,x.2))
theorem pq_asking (x:Pkt) (w:World):∀ (es:List MapEntry) (ps:List (Pkt × Value)) (i:Nat),es.map (fun e=>(e.key,e.val))=ps.map (fun y=>(pqV y.1,y.2))->(Instr.findAsking 89 (pqV x) es i).run Tryz.prog w=.ok (findQ x ps i) w
 | [],[],i,_=>by simp [Instr.findAsking,findQ]
 | [],_ :: _,_,h=>by simp at h
 | _ :: _,[],_,h=>by simp at h
 | e :: es,y :: l,i,h=>by
  simp only [List.map_cons,List.cons.injEq,Prod.mk.injEq] at h;obtain ⟨⟨h1,h2⟩,h3⟩:=h;have ih:=pq_asking x w es l (i+1) h3;have he:=pq_eq x y.1 w;rw [<- h1] at he;unfold findQ
  by_cases hxy:x=y.1
  · rw [decide_eq_true hxy] at he;rw [if_pos hxy];simp [Instr.findAsking,he,Result.andThen,h2]
  · rw [decide_eq_false hxy] at he;rw [if_neg hxy];simp only [Instr.findAsking,Sem.run_bind,he,Result.andThen_ok,Bool.false_eq_true,if_false];exact ih
theorem pq_find {w:World} {ps:List (Pkt × Value)} (x:Pkt) (es:Array MapEntry) (h:es.toList.map (fun e=>(e.key,e.val))=ps.map (fun y=>(pqV y.1,y.2))) :
  (Instr.findKey 89 (pqV x) es.toList).run Tryz.prog w=.ok (findQ x ps 0) w:=by
 have ha:=pq_asking x w es.toList ps 0 h
 cases hl:es.toList with
 | nil =>
  rw [hl] at h;have:ps=[]:=(by simpa using h.symm);subst this;simp [Instr.findKey,run_underlying Tryz.underlying89,Result.andThen,Instr.findNow,findQ]
 | cons e es' =>
  rw [hl] at ha h
  cases ps with
  | nil=>simp at h
  | cons y l' =>
   have hk:e.key=pqV y.1:=(by simp at h;exact h.1.1)
   have hn:Instr.findNow (Tryz.prog.underlying 89 |>.getD .bool) (pqV x) (e :: es') 0=none:=by
    rw [Tryz.underlying89];simp [Instr.findNow,hk,Instr.sameNow]
   have hrun:(Instr.findKey 89 (pqV x) (e :: es')).run Tryz.prog w=(Instr.findAsking 89 (pqV x) (e :: es') 0).run Tryz.prog w:=by
    rw [Tryz.underlying89] at hn;simp only [Option.getD_some] at hn;simp [Instr.findKey,run_underlying Tryz.underlying89,Result.andThen,hn]
   rw [hrun];exact ha
theorem PqM.lt {w:World} {r:Nat} {ps:List (Pkt × Value)} (h:PqM w r ps):r < w.heap.size:=by
 obtain ⟨es,clock,hb,_⟩:=h
 rcases Nat.lt_or_ge r w.heap.size with h | h
 · exact h
 · rw [Array.getElem?_eq_none h] at hb;cases hb
theorem PqM.new (w:World):PqM (w.alloc (.map #[] 0)) w.heap.size []:=⟨#[],0,heap_alloc_new w _,by simp,by simp,rfl⟩
theorem PqM.fr {w w':World} {r B:Nat} {L:List Nat} {ps:List (Pkt × Value)} (h:PqM w r ps) (hf:Fr B L w w') (h1:r < B) (h2:r ∉ L):PqM w' r ps:=by
 obtain ⟨es,clock,hb,he⟩:=h;exact ⟨es,clock,(hf.block r h1 h2).trans hb,he⟩
def getQ (ps:List (Pkt × Value)) (p:Pkt):Value:=match findQ p ps 0 with
 | none=>(Value.bool false)
 | some x=>x.2
theorem PqM.look {w:World} {r:Nat} {ps:List (Pkt × Value)} (h:PqM w r ps) (x:Pkt):(Instr.lookup 84 (.map (some r)) (pqV x) false).run Tryz.prog w=.ok (getQ ps x) w:=by
 obtain ⟨es,clock,hb,_,_,he⟩:=h;have hc:=fun b=>pq_check b x w;have hz:(zeroValue 4).run Tryz.prog w=.ok (Value.bool false) w:=(by kernel_rfl);have hf:=pq_find (w:=w) x es he;unfold getQ
 cases hm:findQ x ps 0 with
 | none =>
  rw [hm] at hf;simp [Instr.lookup,run_underlying Tryz.underlying84,MapKept.run_getObj_map hb,hc,hf,hz,Result.andThen]
 | some y =>
  rw [hm] at hf;simp [Instr.lookup,run_underlying Tryz.underlying84,MapKept.run_getObj_map hb,hc,hf,Result.andThen]
theorem PqM.store {w:World} {r:Nat} {ps:List (Pkt × Value)} (h:PqM w r ps) (x:Pkt) (v:Value) :
  ∃ w',(Instr.mapUpdate 84 (.map (some r)) (pqV x) v).run Tryz.prog w=.ok () w'/\PqM w' r (putQ ps x v)/\Fr w.heap.size [r] w w'/\w'.heap.size=w.heap.size:=by
 have hlt:=h.lt;obtain ⟨es,clock,hb,h1,h2,he⟩:=h;have hc:=fun b=>pq_check b x w;have hf:=pq_find (w:=w) x es he;have hlen:es.toList.length=ps.length:=(by have:=congrArg List.length he;simpa using this);unfold putQ
 cases hm:findQ x ps 0 with
 | none =>
  rw [hm] at hf;refine ⟨setB w r (.map (es.push { key:=pqV x,val:=v,born:=clock }) (clock+1)),?_,⟨_,_,setB_new hlt _,?_,?_,?_⟩,setB_fr _ _ _,setB_size _ _ _⟩
  · simp [Instr.mapUpdate,run_underlying Tryz.underlying84,MapKept.run_getObj_map hb,hc,hf,MapKept.run_setObj_map _ hb,Result.andThen,setB]
  ·
   intro y hy;rw [Array.toList_push,List.mem_append,List.mem_singleton] at hy
   rcases hy with hy | rfl
   · have:=h1 y hy;omega
   · show clock < clock+1;omega
  · rw [Array.toList_push,List.map_append];refine List.nodup_append.2 ⟨h2,by simp,fun a ha c hc e1 => ?_⟩;simp at hc;obtain ⟨y,hy,rfl⟩:=List.mem_map.1 ha;have:=h1 y hy;omega
  · rw [Array.toList_push,List.map_append,List.map_append,he];rfl
 | some y =>
  rw [hm] at hf;obtain ⟨_,g2⟩:=findQ_some (p:=x) (v:=y.2) (j:=y.1) hm;rw [Nat.sub_zero] at g2
  have hjl:y.1 < es.toList.length:=by
   rw [hlen]
   rcases Nat.lt_or_ge y.1 ps.length with h | h
   · exact h
   · rw [List.getElem?_eq_none h] at g2;cases g2
  obtain ⟨e0,he0⟩:∃ e0,es.toList[y.1]?=some e0:=⟨_,List.getElem?_eq_getElem hjl⟩
  have hkv:(e0.key,e0.val)=(pqV x,y.2):=by
   have a:(es.toList.map (fun e=>(e.key,e.val)))[y.1]?=some (e0.key,e0.val):=(by rw [List.getElem?_map,he0];rfl);rw [he,List.getElem?_map,g2] at a;simpa using a.symm
  have hk0:e0.key=pqV x:=congrArg Prod.fst hkv;have hj:es[y.1]?=some e0:=(by simpa using he0)
  have hml:(es.modify y.1 (fun e=>{ e with key:=pqV x,val:=v })).toList=es.toList.set y.1 { e0 with key:=pqV x,val:=v }:=by
   rw [Array.toList_modify,Go.ChangeMaps.modify_eq_set _ _ _ _ he0]
  refine ⟨setB w r (.map (es.modify y.1 (fun e=>{ e with key:=pqV x,val:=v })) clock),?_,⟨_,_,setB_new hlt _,?_,?_,?_⟩,setB_fr _ _ _,setB_size _ _ _⟩
  · simp [Instr.mapUpdate,run_underlying Tryz.underlying84,MapKept.run_getObj_map hb,hc,hf,hj,hk0,pq_stays,MapKept.run_setObj_map _ hb,Result.andThen,setB]
  ·
   intro z hz;rw [hml] at hz
   rcases List.mem_or_eq_of_mem_set hz with hz | rfl
   · exact h1 z hz
   · exact h1 e0 (List.mem_of_getElem? he0)
  ·
   rw [hml,List.map_set]
   show (List.set _ y.1 e0.born).Nodup
   rw [Go.WideElems.set_self _ _ _ (by rw [List.getElem?_map,he0];rfl)];exact h2
  · rw [hml,List.map_set,List.map_set,he]
end Go.Proofs.YtgblfflikgnfpaaGreat
namespace Go.Proofs.YtgblfflikgnfpaaGreat
open Go.RowKit Go.Fb
set_option maxRecDepth 100000
set_option maxHeartbeats 16000000
set_option linter.unusedVariables false
def pkW (m:Chn) (W:List ByteArray):List Pkt:=(List.range W.length).map fun (i:Nat)=>⟨m.2.2,0,3,(i:Int)+1,0,W.getD i emptyB⟩
theorem wait_pkW (m:Chn) (W:List ByteArray) (t:Int):waitP { outW m W with ticks:=t }=pkW m W:=by
 unfold waitP pkW outW;refine List.map_congr_left (fun i _ => ?_);simp;omega
theorem mem_pkW {m:Chn} {W:List ByteArray} {p:Pkt}:p ∈ pkW m W ↔ ∃ i,i < W.length/\p=⟨m.2.2,0,3,(i:Int)+1,0,W.getD i emptyB⟩:=by
 unfold pkW;rw [List.mem_map];constructor
 · rintro ⟨i,hi,rfl⟩;exact ⟨i,List.mem_range.1 hi,rfl⟩
 · rintro ⟨i,hi,rfl⟩;exact ⟨i,List.mem_range.2 hi,rfl⟩
theorem pkW_nodup (m:Chn) (W:List ByteArray):(pkW m W).Nodup:=by
 unfold pkW;rw [List.nodup_iff_pairwise_ne,List.pairwise_map]
 exact List.pairwise_lt_range.imp (fun {i j} h e => by
  have:=congrArg Pkt.seq e;simp at this
  omega)
section
variable (L:List Nd) (nd:Nd) (ix:Int) (X:List (Nat->Int))
def AllW (p:Pkt):Prop:=∃ j m,(sendL L nd.id ix)[j]?=some m/\p ∈ pkW m (wsJ L nd ix X j)
end
section
variable {L:List Nd} {nd:Nd} {ix:Int} {X:List (Nat->Int)} {K:List Pkt}
theorem allW_none (p:Pkt):¬ AllW L nd ix [] p:=by
 rintro ⟨j,m,_,h⟩;obtain ⟨i,hi,_⟩:=mem_pkW.1 h;exact absurd hi (by show ¬ i < ([]:List ByteArray).length;simp)
theorem allW_next (x:Nat->Int) (p:Pkt):AllW L nd ix (X ++ [x]) p ↔ AllW L nd ix X p \/ ∃ j m,(sendL L nd.id ix)[j]?=some m/\selK (kidsL L nd.id) (sendL L nd.id ix) (x 0) j=true/\p=pkF m (wsJ L nd ix X j).length (putS (recI x).put):=by
 constructor
 ·
  rintro ⟨j,m,hm,h⟩;obtain ⟨i,hi,rfl⟩:=mem_pkW.1 h;rw [wsJ_next] at hi ⊢
  cases hq:selK (kidsL L nd.id) (sendL L nd.id ix) (x 0) j with
  | false =>
   rw [hq] at hi;simp only [Bool.false_eq_true,if_false] at hi ⊢;exact .inl ⟨j,m,hm,mem_pkW.2 ⟨i,hi,rfl⟩⟩
  | true =>
   rw [hq] at hi;simp only [if_true,List.length_append,List.length_singleton] at hi ⊢
   by_cases he:i < (wsJ L nd ix X j).length
   · refine .inl ⟨j,m,hm,mem_pkW.2 ⟨i,he,?_⟩⟩;rw [List.getD_eq_getElem?_getD,List.getElem?_append_left he,<- List.getD_eq_getElem?_getD]
   ·
    have hi2:i=(wsJ L nd ix X j).length:=by omega
    subst hi2;refine .inr ⟨j,m,hm,hq,?_⟩;rw [List.getD_eq_getElem?_getD,List.getElem?_append_right (Nat.le_refl _),Nat.sub_self];rfl
 ·
  rintro (⟨j,m,hm,h⟩ | ⟨j,m,hm,hq,rfl⟩)
  ·
   obtain ⟨i,hi,rfl⟩:=mem_pkW.1 h;refine ⟨j,m,hm,mem_pkW.2 ⟨i,?_,?_⟩⟩
   ·
    rw [wsJ_next]
    split
    · rw [List.length_append];omega
    · exact hi
   ·
    rw [wsJ_next]
    split
    · rw [List.getD_eq_getElem?_getD,List.getD_eq_getElem?_getD,List.getElem?_append_left hi]
    · rfl
  ·
   refine ⟨j,m,hm,mem_pkW.2 ⟨(wsJ L nd ix X j).length,?_,?_⟩⟩
   · rw [wsJ_next,hq];simp
   · rw [wsJ_next,hq];simp [pkF]
def cnt (K:List Pkt) (c:Int):Nat:=(K.filter fun p=>decide (p.ch=c)).length
theorem cnt_eq (hR:RightG L) (hn:K.Nodup) (hk:∀ p,p ∈ K ↔ AllW L nd ix X p) {j:Nat} {m:Chn} (hm:(sendL L nd.id ix)[j]?=some m):cnt K m.2.2=(wsJ L nd ix X j).length:=by
 have hp:(K.filter fun p=>decide (p.ch=m.2.2)).Perm (pkW m (wsJ L nd ix X j)):=by
  rw [List.perm_ext_iff_of_nodup (hn.filter _) (pkW_nodup _ _)];intro p;rw [List.mem_filter,hk,decide_eq_true_eq];constructor
  ·
   rintro ⟨⟨j',m',hm',h⟩,hc⟩;obtain ⟨i,hi,rfl⟩:=mem_pkW.1 h;have:=send_inj hR nd.id ix j' j m' m hm' hm hc;subst this;rw [hm] at hm';injection hm' with hm'
   subst hm';exact h
  · intro h;refine ⟨⟨j,m,hm,h⟩,?_⟩;obtain ⟨i,hi,rfl⟩:=mem_pkW.1 h;rfl
 unfold cnt;rw [hp.length_eq];unfold pkW;simp
theorem cnt_perm {K K':List Pkt} (h:K.Perm K') (c:Int):cnt K c=cnt K' c:=(h.filter _).length_eq
theorem cnt_next (K:List Pkt) (p:Pkt) (c:Int):cnt (K ++ [p]) c=if p.ch=c then cnt K c+1 else cnt K c:=by
 unfold cnt;rw [List.filter_append,List.length_append]
 by_cases h:p.ch=c
 · simp [h]
 · simp [h]
theorem cnt_le (hR:RightG L) (hn:K.Nodup) (hk:∀ p,p ∈ K ↔ AllW L nd ix X p) (h6:∀ j m,(sendL L nd.id ix)[j]?=some m->(wsJ L nd ix X j).length<=6) {p:Pkt} (hp:p ∈ K):cnt K p.ch<=6:=by
 obtain ⟨j,m,hm,h⟩:=(hk p).1 hp;obtain ⟨i,hi,rfl⟩:=mem_pkW.1 h
 show cnt K m.2.2<=6
 rw [cnt_eq hR hn hk hm];exact h6 j m hm
theorem cnt_full (hR:RightG L) (hn:K.Nodup) (hk:∀ p,p ∈ K ↔ AllW L nd ix X p) (h6:∀ j m,(sendL L nd.id ix)[j]?=some m->(wsJ L nd ix X j).length<=6) (hf:∀ p ∈ K,cnt K p.ch ≠ 6):(fullT L nd ix X).room 1=true:=by
 rw [full_room];intro j m hm;have h1:=h6 j m hm
 rcases Nat.lt_or_ge (wsJ L nd ix X j).length 6 with h | h
 · exact h
 · have hp:(⟨m.2.2,0,3,((0:Nat):Int)+1,0,(wsJ L nd ix X j).getD 0 emptyB⟩:Pkt) ∈ K:=(hk _).2 ⟨j,m,hm,mem_pkW.2 ⟨0,by omega,rfl⟩⟩;have:=hf _ hp;rw [show (⟨m.2.2,0,3,((0:Nat):Int)+1,0,(wsJ L nd ix X j).getD 0 emptyB⟩:Pkt).ch=m.2.2 from rfl,cnt_eq hR hn hk hm] at this;omega
def tickT (L:List Nd) (nd:Nd) (ix:Int) (X:List (Nat->Int)) (t:Int):TaskS:={ fullT L nd ix X with outs:=(sendL L nd.id ix).mapIdx fun j m=>{ outW m (wsJ L nd ix X j) with ticks:=if (wsJ L nd ix X j).length=0 then 0 else t } }
theorem tickT_0:tickT L nd ix X 0=fullT L nd ix X:=by
 unfold tickT fullT outsF
 have e:((sendL L nd.id ix).mapIdx fun j m=>({ outW m (wsJ L nd ix X j) with ticks:=if (wsJ L nd ix X j).length=0 then 0 else (0:Int) }:OutS))=(sendL L nd.id ix).mapIdx fun j m=>outW m (wsJ L nd ix X j):=by
  refine congrArg (fun f=>List.mapIdx f (sendL L nd.id ix)) (funext fun j=>funext fun m => ?_)
  split <;> rfl
 rw [e]
theorem tick_one (m:Chn) (W:List ByteArray) (t:Int):(tickO { outW m W with ticks:=if W.length=0 then 0 else t }).1={ outW m W with ticks:=if W.length=0 then 0 else t+1 } /\ ∀ p ∈ (tickO { outW m W with ticks:=if W.length=0 then 0 else t }).2,p ∈ pkW m W:=by
 unfold tickO
 by_cases h:W.length=0
 · have h2:(outW m W).ws.length=0:=h;simp [h,h2]
 ·
  have h2:¬ (outW m W).ws.length=0:=h;simp only [h,h2,if_false]
  split
  · exact ⟨rfl,by simp⟩
  · refine ⟨rfl,fun p hp => ?_⟩;rw [wait_pkW] at hp;exact hp
theorem tickT_next (t:Int):(tickT L nd ix X t).tick=tickT L nd ix X (t+1):=by
 unfold TaskS.tick
 have e:(tickT L nd ix X t).outs.map (fun o=>(tickO o).1)=(tickT L nd ix X (t+1)).outs:=by
  apply List.ext_getElem?;intro j
  show (((sendL L nd.id ix).mapIdx _).map _)[j]?=((sendL L nd.id ix).mapIdx _)[j]?
  rw [List.getElem?_map,List.getElem?_mapIdx,List.getElem?_mapIdx]
  cases hm:(sendL L nd.id ix)[j]? with
  | none=>rfl
  | some m=>exact congrArg some (tick_one m (wsJ L nd ix X j) t).1
 rw [e];rfl
theorem tickT_told (t:Int) {p:Pkt} (hp:p ∈ (tickT L nd ix X t).told (tickT L nd ix X t).outs.length):AllW L nd ix X p:=by
 unfold TaskS.told at hp;rw [List.take_length] at hp;obtain ⟨o,ho,hp⟩:=List.mem_flatMap.1 hp;obtain ⟨j,hj⟩:=List.getElem?_of_mem ho;replace hj:((sendL L nd.id ix).mapIdx fun j m=>({ outW m (wsJ L nd ix X j) with ticks:=if (wsJ L nd ix X j).length=0 then 0 else t }:OutS))[j]?=some o:=hj;rw [List.getElem?_mapIdx] at hj
 cases hm:(sendL L nd.id ix)[j]? with
 | none=>rw [hm] at hj;cases hj
 | some m =>
  rw [hm] at hj;injection hj with hj
  rw [<- hj] at hp;exact ⟨j,m,hm,(tick_one m (wsJ L nd ix X j) t).2 p hp⟩
end
end Go.Proofs.YtgblfflikgnfpaaGreat
namespace Go.Proofs.YtgblfflikgnfpaaGreat
open Go.RowKit Go.Fb
set_option maxRecDepth 100000
set_option maxHeartbeats 16000000
set_option linter.unusedVariables false
structure FuX where
 (w:World) (gt gm:Nat) (L:List Nd) (nd:Nd) (gs gp P base:Nat) (r:Nat->Int) (R:Nat->List (Nat->Int)) (V:Nat->Value)
def FuX.X (Z:FuX) (k:Nat):List (Nat->Int):=(Z.R 0).take k
def FuX.six (Z:FuX) (k:Nat):Prop:=∀ j m,(sendL Z.L Z.nd.id 0)[j]?=some m->(wsJ Z.L Z.nd 0 (Z.X k) j).length<=6
def mapK (K:List Pkt):List (Pkt × Value):=K.map fun p=>(p,.bool true)
def FuX.S (Z:FuX) (k:Nat) (t:Int) (K:List Pkt) (wx:World):Prop :=
 ∃ X a col,TaskM col wx Z.gt (tickT Z.L Z.nd 0 (Z.X k) t) X/\a 0=(k:Int)/\SpU 3000 Z.base Z.gs Z.gp Z.P Z.r Z.R Z.V a col wx/\PqM wx Z.gm (mapK K)/\col Z.gm=4000/\Z.six k/\Cg (· ≠ 5000) (fun _=>5000) Z.w col wx
structure FuX.Ok (Z:FuX):Prop where
 hR:RightG Z.L
 hk:Z.nd.kind=0
 hf:Z.nd.fr=[]
 hi:0 < Z.P
 hl:(Z.R 0).length<=60
 hx:∀ x ∈ Z.R 0,recB (x 0) (x 1) (x 2)=true
theorem PqM.cg {C:Nat->Prop} {col col':Nat->Nat} {w w':World} {r:Nat} {ps:List (Pkt × Value)} (h:PqM w r ps) (k:Cg C col w col' w') (hc:¬ C (col r)):PqM w' r ps:=by
 have hl:=h.lt;obtain ⟨es,clock,hb,he⟩:=h;exact ⟨es,clock,(k.block r hl hc).trans hb,he⟩
theorem sc4000:¬ (SC 4000 \/ (4000:Nat)=3000):=by unfold SC;omega
theorem sc5000 {c:Nat} (h:SC c \/ c=3000):c ≠ 5000:=by unfold SC at h;omega
theorem full_few {L:List Nd} {nd:Nd} {ix:Int} {X:List (Nat->Int)} (h6:∀ j m,(sendL L nd.id ix)[j]?=some m->(wsJ L nd ix X j).length<=6):Few (fullT L nd ix X) 6 0:=by
 refine ⟨fun o ho => ?_,Nat.le_refl _⟩;obtain ⟨j,hj⟩:=List.getElem?_of_mem ho;replace hj:(outsF (sendL L nd.id ix) (wsJ L nd ix X))[j]?=some o:=hj;rw [outsF_get] at hj
 cases hm:(sendL L nd.id ix)[j]? with
 | none=>rw [hm] at hj;cases hj
 | some m =>
  rw [hm] at hj;injection hj with hj
  have:=h6 j m hm;rw [<- hj]
  show (wsJ L nd ix X j).length<=6/\(0:Int)<=((wsJ L nd ix X j).length:Int)/\((wsJ L nd ix X j).length:Int)<=6
  omega
section
variable {Z:FuX} {k:Nat} {t:Int} {K:List Pkt} {wx:World}
theorem FuX.S.fr0 (h:Z.S k t K wx) {w':World} (f:Fr wx.heap.size [] wx w'):Z.S k t K w':=by
 obtain ⟨X,a,col,h1,h2,h3,h4,h5,h6,h7⟩:=h;exact ⟨X,a,col,h1.fr0 f,h2,h3.fr0 f,h4.fr f h4.lt (by simp),h5,h6,h7.trans (cgf _ f)⟩
theorem FuX.S.frame (h:Z.S k t K wx):Fr Z.w.heap.size [] Z.w wx:=by
 obtain ⟨X,a,col,h1,h2,h3,h4,h5,h6,h7⟩:=h;exact h7.fr (Nat.le_refl _) (fun q _ hq=>hq rfl)
def FuX.W (Z:FuX) (k:Nat) (K:List Pkt) (e:Ending) (w':World):Prop :=
 ∃ A c V did k2,∃ l:List Pkt,e=.returned (.tuple #[.slice A l.length c,V,.bool did])/\Reads w' w'.heap.size 6 A l.length (pksC l)/\l.length<=1000/\Z.S k2 0 K w'/\((k2=k+1/\k < (Z.R 0).length/\(fullT Z.L Z.nd 0 (Z.X k)).room 1=true) \/ (k2=k/\((Z.R 0).length<=k \/ (fullT Z.L Z.nd 0 (Z.X k)).room 1=false))) /\ ∀ p,AllW Z.L Z.nd 0 (Z.X k2) p ↔ AllW Z.L Z.nd 0 (Z.X k) p \/ p ∈ l
theorem fu_work (h:Z.S k 0 K wx) (ok:Z.Ok) (hk:k<=60):Calls Tryz.prog 25 #[.pointer (some ⟨Z.gt,0,none⟩),.pointer (some ⟨Z.gs,0,none⟩)] wx (Z.W k K):=by
 obtain ⟨X,a,col,h1,h2,h3,h4,h5,h6,h7⟩:=h;rw [tickT_0] at h1;have hcs:RCo 3000:=rs_co rs3000
 by_cases hr:(fullT Z.L Z.nd 0 (Z.X k)).room 1=true/\k < (Z.R 0).length
 ·
  obtain ⟨hr,hkl⟩:=hr;obtain ⟨x,hx⟩:∃ x,(Z.R 0)[k]?=some x:=⟨_,List.getElem?_eq_getElem hkl⟩;obtain ⟨S2,hS2,he,hp1,hp2⟩:=full_rec ok.hR x (ok.hx x (List.mem_of_getElem? hx)) hr;have hkf:(fullT Z.L Z.nd 0 (Z.X k)).kids.length<=8:=kids_few ok.hR Z.nd.id;have hof:(fullT Z.L Z.nd 0 (Z.X k)).outs.length<=24:=(by show (outsF _ _).length<=24;rw [outsF_len];exact send_few2 ok.hR _ _)
  have hlen:S2.out.length<=1000:=by
   have h9:=(record_few (full_few h6) x (fullT Z.L Z.nd 0 (Z.X k)).kids.length).2;rw [<- hS2] at h9;have:=Nat.mul_le_mul hkf hof;omega
  have hw:=workS_rec h1 ok.hk hr rfl rfl 6 0 (by omega) (by omega) (full_few h6) hkf 3000 hcs h3 ok.hi rfl h2 (by have:=ok.hl;omega) hx;rw [<- hS2] at hw;have hXn:Z.X (k+1)=Z.X k ++ [x]:=(by unfold FuX.X;rw [List.take_add_one,hx];rfl);refine hw.mono ?_;rintro e w' ⟨A,c,V,X',col',rfl,hrd,htm,hcg,hu,_⟩;refine ⟨A,c,V,true,k+1,S2.out,rfl,hrd.1,hlen,⟨X',updA a 0 ((k:Int)+1),col',?_,by unfold updA;rw [if_pos rfl];omega,hu,h4.cg hcg (by rw [h5];exact sc4000),?_,?_,h7.trans (hcg.mono (fun c h=>sc5000 h))⟩,.inl ⟨rfl,hkl,hr⟩,fun p => ?_⟩
  · rw [tickT_0,hXn,<- he];exact htm
  · rw [hcg.same _ h4.lt];exact h5
  ·
   intro j m hm;rw [hXn,wsJ_next];have:=full_room.1 hr j m hm
   split
   · rw [List.length_append,List.length_singleton];omega
   · omega
  ·
   rw [hXn,allW_next];constructor
   ·
    rintro (h | ⟨j,m,hm,hq,rfl⟩)
    · exact .inl h
    · exact .inr (hp2 j m hm hq)
   ·
    rintro (h | h)
    · exact .inl h
    · obtain ⟨j,m,hm,hq,rfl⟩:=hp1 p h;exact .inr ⟨j,m,hm,hq,rfl⟩
 ·
  have hno:(Z.R 0).length<=k \/ (fullT Z.L Z.nd 0 (Z.X k)).room 1=false:=by
   cases hq:(fullT Z.L Z.nd 0 (Z.X k)).room 1 with
   | false=>exact .inr rfl
   | true=>exact .inl (by rcases Nat.lt_or_ge k (Z.R 0).length with h | h;exact absurd ⟨hq,h⟩ hr;exact h)
  have hrd:Calls Tryz.prog 64 #[.pointer (some ⟨Z.gt,0,none⟩),.pointer (some ⟨Z.gs,0,none⟩)] wx fun e w'=>e=.returned (.tuple #[.slice none 0 0,.bool false])/\Fr wx.heap.size [] wx w':=by
   cases hq:(fullT Z.L Z.nd 0 (Z.X k)).room 1 with
   | false=>exact read_full h1 hq _
   | true =>
    refine read_end h1 hq rfl rfl h3.1 ok.hi rfl h2 ?_
    rcases hno with h | h
    · exact h
    · rw [hq] at h;cases h
  have hw:=workS_no h1 ok.hk 3000 hcs h3 _ hrd;refine hw.mono ?_;rintro e w' ⟨A,c,V,X',col',rfl,hrd,htm,hcg,hu,_⟩;refine ⟨A,c,V,false,k,[],rfl,hrd.1,by simp,⟨X',a,col',by rw [tickT_0];exact htm,h2,hu,h4.cg hcg (by rw [h5];exact sc4000),by rw [hcg.same _ h4.lt];exact h5,h6,h7.trans (hcg.mono (fun c h=>sc5000 h))⟩,.inr ⟨rfl,hno⟩,fun p=>by simp⟩
end
end Go.Proofs.YtgblfflikgnfpaaGreat
namespace Go.Proofs.YtgblfflikgnfpaaGreat
open Go.RowKit Go.Fb
set_option maxRecDepth 100000
set_option maxHeartbeats 16000000
set_option linter.unusedVariables false
theorem findQ_mapK (K:List Pkt) (p:Pkt):∀ i,findQ p (mapK K) i=none/\p ∉ K \/ ∃ j,findQ p (mapK K) i=some (j,.bool true)/\p ∈ K:=by
 induction K with
 | nil=>exact fun i=>.inl ⟨rfl,by simp⟩
 | cons q K ih =>
  intro i
  by_cases h:p=q
  ·
   refine .inr ⟨i,?_,by simp [h]⟩
   show findQ p ((q,.bool true) :: mapK K) i=_
   unfold findQ;rw [if_pos h]
  ·
   have e:findQ p (mapK (q :: K)) i=findQ p (mapK K) (i+1):=by
    show findQ p ((q,.bool true) :: mapK K) i=_
    rw [findQ,if_neg h]
   rcases ih (i+1) with ⟨h1,h2⟩ | ⟨j,h1,h2⟩
   · exact .inl ⟨by rw [e,h1],by simp [h,h2]⟩
   · exact .inr ⟨j,by rw [e,h1],by simp [h2]⟩
theorem getQ_mapK (K:List Pkt) (p:Pkt):getQ (mapK K) p=.bool (decide (p ∈ K)):=by
 unfold getQ
 rcases findQ_mapK K p 0 with ⟨h1,h2⟩ | ⟨j,h1,h2⟩
 · rw [h1,decide_eq_false h2]
 · rw [h1,decide_eq_true h2]
def addK (K:List Pkt) (p:Pkt):List Pkt:=if p ∈ K then K else K ++ [p]
theorem putQ_mapK (K:List Pkt) (p:Pkt):putQ (mapK K) p (.bool true)=mapK (addK K p):=by
 unfold putQ addK
 rcases findQ_mapK K p 0 with ⟨h1,h2⟩ | ⟨j,h1,h2⟩
 · rw [h1,if_neg h2];simp [mapK]
 ·
  rw [h1,if_pos h2];obtain ⟨_,h3⟩:=findQ_some h1;rw [Nat.sub_zero] at h3
  show (mapK K).set j (p,.bool true)=mapK K
  exact set_same' h3
theorem addK_nodup {K:List Pkt} (h:K.Nodup) (p:Pkt):(addK K p).Nodup:=by
 unfold addK
 split
 · exact h
 · rename_i hp;rw [List.nodup_append];exact ⟨h,by simp,fun a ha b hb=>by rw [List.mem_singleton] at hb;subst hb;exact fun e=>hp (e ▸ ha)⟩
theorem mem_addK {K:List Pkt} {p q:Pkt}:q ∈ addK K p ↔ q ∈ K \/ q=p:=by
 unfold addK
 split
 ·
  rename_i hp;constructor
  · exact .inl
  ·
   rintro (h | rfl)
   · exact h
   · exact hp
 · rw [List.mem_append,List.mem_singleton]
section
variable {Z:FuX} {k:Nat} {t:Int} {K:List Pkt} {wx:World}
theorem fu_look (h:Z.S k t K wx) (p:Pkt):(Instr.lookup 84 (.map (some Z.gm)) (pqV p) false).run Tryz.prog wx=.ok (.bool (decide (p ∈ K))) wx:=by
 obtain ⟨X,a,col,h1,h2,h3,h4,h5,h6,h7⟩:=h;have:=h4.look p;rw [getQ_mapK] at this;exact this
theorem fu_put (h:Z.S k t K wx) (p:Pkt):∃ w',(Instr.mapUpdate 84 (.map (some Z.gm)) (pqV p) (.bool true)).run Tryz.prog wx=.ok () w'/\Z.S k t (addK K p) w'/\Fr wx.heap.size [Z.gm] wx w'/\w'.heap.size=wx.heap.size:=by
 obtain ⟨X,a,col,h1,h2,h3,h4,h5,h6,h7⟩:=h;obtain ⟨w',hr,hm,hf,hs⟩:=h4.store p (.bool true);rw [putQ_mapK] at hm;have hc:Cg (· = 4000) col wx col w':=Cg.of_fr hf (by intro q hq;simp at hq;subst hq;exact h5);exact ⟨w',hr,⟨X,a,col,h1.cg hc (fun c hT h=>by subst h;unfold TC at hT;omega),h2,h3.1.cg h3.2 hc (by omega),hm,h5,h6,h7.trans (hc.mono (fun c h=>by omega))⟩,hf,hs⟩
theorem fu_tick (h:Z.S k t K wx) (ok:Z.Ok) (ht0:0<=t) (ht1:t<=1000):Calls Tryz.prog 28 #[.pointer (some ⟨Z.gt,0,none⟩)] wx fun e w'=>∃ A c,∃ l:List Pkt,e=.returned (.slice A l.length c)/\Reads w' w'.heap.size 6 A l.length (pksC l)/\l.length<=200/\(∀ p ∈ l,AllW Z.L Z.nd 0 (Z.X k) p)/\Z.S k (t+1) K w':=by
 obtain ⟨X,a,col,h1,h2,h3,h4,h5,h6,h7⟩:=h
 have hof:(tickT Z.L Z.nd 0 (Z.X k) t).outs.length<=24:=by
  show ((sendL Z.L Z.nd.id 0).mapIdx _).length<=24
  rw [List.length_mapIdx];exact send_few2 ok.hR _ _
 have hall:∀ o ∈ (tickT Z.L Z.nd 0 (Z.X k) t).outs,o.ws.length<=6/\(0<=o.last/\o.last<=1099511627776)/\0<=o.ticks/\o.ticks<=1000000:=by
  intro o ho;obtain ⟨j,hj⟩:=List.getElem?_of_mem ho;replace hj:((sendL Z.L Z.nd.id 0).mapIdx fun j m=>({ outW m (wsJ Z.L Z.nd 0 (Z.X k) j) with ticks:=if (wsJ Z.L Z.nd 0 (Z.X k) j).length=0 then 0 else t }:OutS))[j]?=some o:=hj;rw [List.getElem?_mapIdx] at hj
  cases hm:(sendL Z.L Z.nd.id 0)[j]? with
  | none=>rw [hm] at hj;cases hj
  | some m =>
   rw [hm] at hj;injection hj with hj
   have h9:=h6 j m hm;rw [<- hj];refine ⟨h9,⟨?_,?_⟩,?_,?_⟩
   · show (0:Int)<=((wsJ Z.L Z.nd 0 (Z.X k) j).length:Int);omega
   · show ((wsJ Z.L Z.nd 0 (Z.X k) j).length:Int)<=1099511627776;omega
   ·
    show (0:Int)<=if (wsJ Z.L Z.nd 0 (Z.X k) j).length=0 then 0 else t
    split <;> omega
   ·
    show (if (wsJ Z.L Z.nd 0 (Z.X k) j).length=0 then (0:Int) else t)<=1000000
    split <;> omega
 have hlen:=told_few (S:=tickT Z.L Z.nd 0 (Z.X k) t) (fun o ho=>(hall o ho).1) _ (Nat.le_refl _);refine (ttick_any h1 hall).mono ?_;rintro e w' ⟨A,c,col',rfl,hrd,htm,hcg⟩;rw [tickT_next] at htm;exact ⟨A,c,_,rfl,hrd.1,by omega,fun p hp=>tickT_told t hp,X,a,col',htm,h2,h3.1.cg h3.2 hcg (by omega),h4.cg hcg (by rw [h5];omega),by rw [hcg.same _ h4.lt];exact h5,h6,h7.trans (hcg.mono (fun c h=>by omega))⟩
end
end Go.Proofs.YtgblfflikgnfpaaGreat
namespace Go.Proofs.YtgblfflikgnfpaaGreat
open Go.RowKit Go.Fb
set_option maxRecDepth 100000
set_option maxHeartbeats 16000000
set_option linter.unusedVariables false
theorem iterSeen_ofG {w:World} {r:Nat} {m:Option Nat} {a c:Nat} {s:Array Nat} (h:w.heap[r]?=some (.mapIter m a s c)):w.iterSeen r=s:=by
 unfold World.iterSeen;rw [h]
theorem setBlock_frG (w:World) (r:Nat) (o:Obj):Fr w.heap.size [r] w (Go.ChangeMaps.setBlock w r o) :=
 ⟨rfl, rfl, rfl, by simp [Go.ChangeMaps.setBlock], fun k _ hk => by
  have:r ≠ k:=fun h=>hk (by simp [h])
  simp [Go.ChangeMaps.setBlock,this]⟩
theorem setBlock_newG {w:World} {r:Nat} (h:r < w.heap.size) (o:Obj):(Go.ChangeMaps.setBlock w r o).heap[r]?=some o:=by simp [Go.ChangeMaps.setBlock,h]
theorem nodup_leG {α:Type} [DecidableEq α]:∀ {K' K:List α},K'.Nodup->(∀ p ∈ K',p ∈ K)->K'.length<=K.length
 | [],_,_,_=>Nat.zero_le _
 | p :: K',K,hn,hs=>by
  obtain ⟨h1,h2⟩:=List.nodup_cons.1 hn;have hp:=hs p (by simp);have:=nodup_leG (K':=K') (K:=K.erase p) h2 (fun q hq=>(List.mem_erase_of_ne (fun e:q=p=>h1 (e ▸ hq))).2 (hs q (by simp [hq])));rw [List.length_erase_of_mem hp] at this;have:=List.length_pos_of_mem hp;simp only [List.length_cons];omega
structure TookG {α:Type} (kv:α->Value) (es:Array MapEntry) (K K':List α) (seen:Array Nat):Prop where
 nd:K'.Nodup
 sub:∀ p ∈ K',p ∈ K
 all:∀ e ∈ es.toList,seen.contains e.born=true->∃ p ∈ K',e.key=kv p
 back:∀ e ∈ es.toList,∀ p ∈ K',e.key=kv p->seen.contains e.born=true
section
variable {α:Type} {kv fv:α->Value} {es:Array MapEntry} {K K':List α} {seen:Array Nat}
theorem TookG.start (kv:α->Value) (es:Array MapEntry) (K:List α):TookG kv es K [] #[]:=⟨List.nodup_nil,by simp,by simp,by simp⟩
theorem same_keyG:∀ {es:List MapEntry} {K:List α},es.map (fun e=>(e.key,e.val))=K.map (fun x=>(kv x,fv x))->K.Nodup->(∀ p ∈ K,∀ q ∈ K,kv p=kv q->p=q) -> ∀ {e e':MapEntry},e ∈ es->e' ∈ es->e.key=e'.key->e=e'
 | [],_,_,_,_,_,_,h,_,_=>by cases h
 | x :: es,[],he,_,_,_,_,_,_,_=>by simp at he
 | x :: es,p :: K,he,hnd,hj,e,e',h,h',hk=>by
  simp only [List.map_cons,List.cons.injEq,Prod.mk.injEq] at he;obtain ⟨⟨hx,_⟩,he⟩:=he;obtain ⟨hp,hnd⟩:=List.nodup_cons.1 hnd
  have far:∀ y ∈ es,y.key ≠ kv p:=fun y hy hyp=>by
   have:(y.key,y.val) ∈ K.map (fun x=>(kv x,fv x)):=(by rw [<- he];exact List.mem_map.2 ⟨y,hy,rfl⟩);obtain ⟨q,hq,he2⟩:=List.mem_map.1 this;simp only [Prod.mk.injEq] at he2;have:q=p:=hj q (by simp [hq]) p (by simp) (he2.1.trans hyp);exact hp (this ▸ hq)
  rcases List.mem_cons.1 h with h1 | h1 <;> rcases List.mem_cons.1 h' with h2 | h2
  · rw [h1,h2]
  · subst h1;exact absurd (hk.symm.trans hx) (far _ h2)
  · subst h2;exact absurd (hk.trans hx) (far _ h1)
  · exact same_keyG (K:=K) he hnd (fun p hp q hq=>hj p (by simp [hp]) q (by simp [hq])) h1 h2 hk
theorem entryG (he:es.toList.map (fun e=>(e.key,e.val))=K.map (fun x=>(kv x,fv x))) {e:MapEntry} (h:e ∈ es.toList):∃ p ∈ K,e.key=kv p/\e.val=fv p:=by
 have:(e.key,e.val) ∈ K.map (fun x=>(kv x,fv x)):=(by rw [<- he];exact List.mem_map.2 ⟨e,h,rfl⟩);obtain ⟨p,hp,h2⟩:=List.mem_map.1 this;simp only [Prod.mk.injEq] at h2;exact ⟨p,hp,h2.1.symm,h2.2.symm⟩
theorem TookG.step (h:TookG kv es K K' seen) (hbn:(es.toList.map (·.born)).Nodup)
  (he:es.toList.map (fun e=>(e.key,e.val))=K.map (fun x=>(kv x,fv x))) (hnd:K.Nodup) (hj:∀ p ∈ K,∀ q ∈ K,kv p=kv q->p=q) {e:MapEntry} (hel:e ∈ (leftOf es seen).toList) {p:α} (hp:p ∈ K) (hk:e.key=kv p):TookG kv es K (K' ++ [p]) (seen.push e.born):=by
 have hes:e ∈ es.toList:=(mem_left hel).1
 have hns:seen.contains e.born=false:=by
  unfold leftOf at hel;rw [Array.mem_toList_iff,Array.mem_filter] at hel;simpa using hel.2
 have hpn:p ∉ K':=fun hc=>by rw [h.back e hes p hc hk] at hns;cases hns
 refine ⟨?_,fun q hq => ?_,fun y hy hs => ?_,fun y hy q hq hyq => ?_⟩
 · rw [List.nodup_append];exact ⟨h.nd,by simp,fun a ha b hb=>by rw [List.mem_singleton] at hb;subst hb;exact fun e=>hpn (e ▸ ha)⟩
 ·
  rcases List.mem_append.1 hq with hq | hq
  · exact h.sub q hq
  · rw [List.mem_singleton] at hq;subst hq;exact hp
 ·
  rw [contains_push] at hs
  cases hc:seen.contains y.born with
  | true =>
   obtain ⟨q,hq,hyq⟩:=h.all y hy hc;exact ⟨q,List.mem_append_left _ hq,hyq⟩
  | false =>
   rw [hc,Bool.false_or,beq_iff_eq] at hs
   have hye:y=e:=by
    have a:=find_born y es.toList hbn hy;have b:=find_born e es.toList hbn hes;rw [hs,b] at a;injection a with a
    exact a.symm
   subst hye;exact ⟨p,by simp,hk⟩
 ·
  rw [contains_push]
  rcases List.mem_append.1 hq with hq | hq
  · rw [h.back y hy q hq hyq,Bool.true_or]
  · rw [List.mem_singleton] at hq;subst hq;have:y=e:=same_keyG he hnd hj hy hes (hyq.trans hk.symm);subst this;simp
theorem TookG.done (h:TookG kv es K K' seen) (he:es.toList.map (fun e=>(e.key,e.val))=K.map (fun x=>(kv x,fv x))) (hj:∀ p ∈ K,∀ q ∈ K,kv p=kv q->p=q) (h0:(leftOf es seen).size=0):∀ p,p ∈ K' ↔ p ∈ K:=by
 refine fun p=>⟨h.sub p,fun hp => ?_⟩
 have:(kv p,fv p) ∈ es.toList.map (fun e=>(e.key,e.val)):=by
  rw [he];exact List.mem_map.2 ⟨p,hp,rfl⟩
 obtain ⟨e,hes,h2⟩:=List.mem_map.1 this;simp only [Prod.mk.injEq] at h2
 have hs:seen.contains e.born=true:=by
  cases hc:seen.contains e.born with
  | true=>rfl
  | false =>
   exfalso
   have hm:e ∈ leftOf es seen:=(by unfold leftOf;rw [Array.mem_filter];exact ⟨by simpa using hes,by rw [hc];rfl⟩);have:leftOf es seen = #[]:=Array.eq_empty_of_size_eq_zero h0;rw [this] at hm;simp at hm
 obtain ⟨q,hq,hk⟩:=h.all e hes hs;rw [h2.1] at hk;rw [hj p hp q (h.sub q hq) hk];exact hq
end
end Go.Proofs.YtgblfflikgnfpaaGreat
namespace Go.Proofs.YtgblfflikgnfpaaGreat
set_option maxRecDepth 100000
set_option maxHeartbeats 16000000
set_option linter.unusedVariables false

def getD:List (Int × Nat)->Int->Nat
 | [],_=>0
 | e :: E,x=>if e.1=x then e.2 else getD E x
end Go.Proofs.YtgblfflikgnfpaaGreat
namespace Go.Proofs.YtgblfflikgnfpaaGreat
open Go.RowKit Go.Fb
set_option maxRecDepth 100000
set_option maxHeartbeats 16000000
set_option linter.unusedVariables false
def DMap (w:World) (r:Nat) (E:List (Int × Nat)):Prop :=
 ∃ es clock,w.heap[r]?=some (.map es clock)/\es.toList.map (fun e=>(e.key,e.val))=E.map (fun x=>(Value.int .i64 x.1,Value.int .i64 (x.2:Nat)))
theorem dfind (x:Int):∀ (es:List MapEntry) (E:List (Int × Nat)) (i:Nat),es.map (fun e=>(e.key,e.val))=E.map (fun x=>(Value.int .i64 x.1,Value.int .i64 (x.2:Nat))) ->
  (x ∉ E.map (·.1)/\Instr.findNow (.int .i64) (.int .i64 x) es i=some none) \/ (x ∈ E.map (·.1)/\∃ j,Instr.findNow (.int .i64) (.int .i64 x) es i=some (some (j,.int .i64 (getD E x))))
 | [],[],_,_=>.inl ⟨by simp,rfl⟩
 | [],_ :: _,_,h=>by simp at h
 | e :: es,[],_,h=>by simp at h
 | e :: es,k :: ks,i,h=>by
  simp only [List.map_cons,List.cons.injEq,Prod.mk.injEq] at h;obtain ⟨⟨h1,h2⟩,h3⟩:=h
  by_cases c:k.1=x
  ·
   right
   refine ⟨by simp [c],i,?_⟩;simp [Instr.findNow,h1,Instr.sameNow,h2,getD,c]
  ·
   have hc:(x == k.1)=false:=by rw [beq_eq_false_iff_ne];exact fun e=>c e.symm
   rcases dfind x es ks (i+1) h3 with ⟨g1,g2⟩ | ⟨g1,j,g2⟩
   ·
    left
    refine ⟨?_,by simp [Instr.findNow,h1,Instr.sameNow,hc,g2]⟩;rw [List.map_cons,List.mem_cons];rintro (e | e)
    · exact c e.symm
    · exact g1 e
   ·
    right
    refine ⟨by rw [List.map_cons,List.mem_cons];exact .inr g1,j,?_⟩;simp [Instr.findNow,h1,Instr.sameNow,hc,g2,getD,c]
theorem getD_none {E:List (Int × Nat)} {x:Int} (h:x ∉ E.map (·.1)):getD E x=0:=by
 induction E with
 | nil=>rfl
 | cons e E ih =>
  have hx:e.1 ≠ x:=fun c=>h (by simp [c])
  show (if e.1=x then e.2 else getD E x)=0
  rw [if_neg hx];exact ih fun hm=>h (by simp only [List.map_cons,List.mem_cons];exact .inr hm)
theorem DMap.get {w:World} {r:Nat} {E:List (Int × Nat)} (h:DMap w r E) (x:Int):(Instr.lookup 90 (.map (some r)) (.int .i64 x) false).run Tryz.prog w=.ok (.int .i64 (getD E x)) w:=by
 obtain ⟨es,clock,hb,he⟩:=h
 have hc:∀ b,(Instr.checkKey b 10000 3 (.int .i64 x)).run Tryz.prog w=.ok () w:=fun b =>
  MapKept.run_checkKey (k:=.int .i64 x) Tryz.underlying3 (by simp [MapKept.IsKey]) b 9999
 have hz:(zeroValue 3).run Tryz.prog w=.ok (.int .i64 0) w:=(by kernel_rfl)
 rcases dfind x _ _ 0 he with ⟨h1,h2⟩ | ⟨h1,j,h2⟩
 · rw [getD_none h1];simp [Instr.lookup,run_underlying Tryz.underlying90,MapKept.run_getObj_map hb,hc,MapKept.run_findKey Tryz.underlying3 h2,hz,Result.andThen]
 · simp [Instr.lookup,run_underlying Tryz.underlying90,MapKept.run_getObj_map hb,hc,MapKept.run_findKey Tryz.underlying3 h2,Result.andThen]
def CMap (w:World) (r:Nat) (E:List (Int × Nat)):Prop :=
 ∃ es clock,w.heap[r]?=some (.map es clock)/\(∀ x ∈ es.toList,x.born < clock)/\(es.toList.map (·.born)).Nodup/\es.toList.map (fun e=>(e.key,e.val))=E.map (fun x=>(Value.int .i64 x.1,Value.int .i64 (x.2:Nat)))
def putE:List (Int × Nat)->Int->Nat->List (Int × Nat)
 | [],c,v=>[(c,v)]
 | k :: ks,c,v=>if k.1=c then (c,v) :: ks else k :: putE ks c v
theorem putE_new {E:List (Int × Nat)} {c:Int} {v:Nat} (h:c ∉ E.map (·.1)):putE E c v=E ++ [(c,v)]:=by
 induction E with
 | nil=>rfl
 | cons k ks ih =>
  have hk:k.1 ≠ c:=fun e=>h (by simp [e])
  show (if k.1=c then _ else _)=_
  rw [if_neg hk,ih (fun hm=>h (by simp only [List.map_cons,List.mem_cons];exact .inr hm))];rfl
theorem getD_putE (E:List (Int × Nat)) (c x:Int) (v:Nat):getD (putE E c v) x=if x=c then v else getD E x:=by
 induction E with
 | nil =>
  show (if c=x then v else 0)=_
  by_cases h:x=c
  · rw [if_pos h,if_pos h.symm]
  · rw [if_neg h,if_neg (fun e=>h e.symm)];rfl
 | cons k ks ih =>
  unfold putE
  by_cases hk:k.1=c
  ·
   rw [if_pos hk]
   show (if c=x then v else getD ks x)=_
   by_cases h:x=c
   · rw [if_pos h,if_pos h.symm]
   ·
    rw [if_neg h,if_neg (fun e=>h e.symm)]
    show _=if k.1=x then k.2 else getD ks x
    rw [if_neg (by rw [hk];exact fun e=>h e.symm)]
  ·
   rw [if_neg hk]
   show (if k.1=x then k.2 else getD (putE ks c v) x)=_
   rw [ih]
   by_cases h:x=c
   · rw [if_pos h,if_neg (by rw [h];exact hk),if_pos h]
   · rw [if_neg h,if_neg h];rfl
theorem keys_putE (E:List (Int × Nat)) (c:Int) (v:Nat):(putE E c v).map (·.1)=if c ∈ E.map (·.1) then E.map (·.1) else E.map (·.1) ++ [c]:=by
 induction E with
 | nil=>rfl
 | cons k ks ih =>
  unfold putE
  by_cases hk:k.1=c
  · rw [if_pos hk,if_pos (by simp [hk])];simp [hk]
  ·
   rw [if_neg hk,List.map_cons,ih]
   by_cases hm:c ∈ ks.map (·.1)
   · rw [if_pos hm,if_pos (by rw [List.map_cons,List.mem_cons];exact .inr hm)];rfl
   · rw [if_neg hm,if_neg (by rw [List.map_cons,List.mem_cons];rintro (e | e);exact hk e.symm;exact hm e)];rfl
theorem cfind (x:Int):∀ (es:List MapEntry) (E:List (Int × Nat)) (i:Nat),es.map (fun e=>(e.key,e.val))=E.map (fun x=>(Value.int .i64 x.1,Value.int .i64 (x.2:Nat))) ->
  (x ∉ E.map (·.1)/\Instr.findNow (.int .i64) (.int .i64 x) es i=some none) \/ (x ∈ E.map (·.1)/\∃ j,Instr.findNow (.int .i64) (.int .i64 x) es i=some (some (j+i,.int .i64 (getD E x)))/\E[j]?=some (x,getD E x) /\ ∀ v,putE E x v=E.set j (x,v))
 | [],[],_,_=>.inl ⟨by simp,rfl⟩
 | [],_ :: _,_,h=>by simp at h
 | e :: es,[],_,h=>by simp at h
 | e :: es,k :: ks,i,h=>by
  simp only [List.map_cons,List.cons.injEq,Prod.mk.injEq] at h;obtain ⟨⟨h1,h2⟩,h3⟩:=h
  by_cases c:k.1=x
  ·
   right
   refine ⟨by simp [c],0,?_,?_,fun v => ?_⟩
   · simp [Instr.findNow,h1,Instr.sameNow,h2,getD,c]
   ·
    show some k=some (x,if k.1=x then k.2 else getD ks x)
    rw [if_pos c,<- c]
   ·
    show (if k.1=x then _ else _)=_
    rw [if_pos c];rfl
  ·
   have hc:(x == k.1)=false:=by rw [beq_eq_false_iff_ne];exact fun e=>c e.symm
   have hg:getD (k :: ks) x=getD ks x:=by
    show (if k.1=x then k.2 else getD ks x)=_
    rw [if_neg c]
   rcases cfind x es ks (i+1) h3 with ⟨g1,g2⟩ | ⟨g1,j,g2,g3,g4⟩
   ·
    left
    refine ⟨?_,by simp [Instr.findNow,h1,Instr.sameNow,hc,g2]⟩;rw [List.map_cons,List.mem_cons];rintro (e | e)
    · exact c e.symm
    · exact g1 e
   ·
    right
    refine ⟨by rw [List.map_cons,List.mem_cons];exact .inr g1,j+1,?_,?_,fun v => ?_⟩
    · rw [hg];simp [Instr.findNow,h1,Instr.sameNow,hc,g2];omega
    · rw [hg,List.getElem?_cons_succ];exact g3
    ·
     show (if k.1=x then _ else k :: putE ks x v)=_
     rw [if_neg c,g4 v];rfl
theorem CMap.lt {w:World} {r:Nat} {E:List (Int × Nat)} (h:CMap w r E):r < w.heap.size:=by
 obtain ⟨es,clock,hb,_⟩:=h
 rcases Nat.lt_or_ge r w.heap.size with h | h
 · exact h
 · rw [Array.getElem?_eq_none h] at hb;cases hb
theorem CMap.new (w:World):CMap (w.alloc (.map #[] 0)) w.heap.size []:=⟨#[],0,heap_alloc_new w _,by simp,by simp,rfl⟩
theorem CMap.fr {w w':World} {r B:Nat} {L:List Nat} {E:List (Int × Nat)} (h:CMap w r E) (hf:Fr B L w w') (h1:r < B) (h2:r ∉ L):CMap w' r E:=by
 obtain ⟨es,clock,hb,he⟩:=h;exact ⟨es,clock,(hf.block r h1 h2).trans hb,he⟩
theorem CMap.get {w:World} {r:Nat} {E:List (Int × Nat)} (h:CMap w r E) (x:Int):(Instr.lookup 90 (.map (some r)) (.int .i64 x) false).run Tryz.prog w=.ok (.int .i64 (getD E x)) w:=by
 obtain ⟨es,clock,hb,_,_,he⟩:=h;exact DMap.get ⟨es,clock,hb,he⟩ x
theorem CMap.put {w:World} {r:Nat} {E:List (Int × Nat)} (h:CMap w r E) (x:Int) (v:Nat) :
  ∃ w',(Instr.mapUpdate 90 (.map (some r)) (.int .i64 x) (.int .i64 (v:Nat))).run Tryz.prog w=.ok () w'/\CMap w' r (putE E x v)/\Fr w.heap.size [r] w w'/\w'.heap.size=w.heap.size:=by
 have hlt:=h.lt;obtain ⟨es,clock,hb,h1,h2,he⟩:=h
 have hc:(Instr.checkKey false 10000 3 (.int .i64 x)).run Tryz.prog w=.ok () w :=
  MapKept.run_checkKey (k:=.int .i64 x) Tryz.underlying3 (by simp [MapKept.IsKey]) false 9999
 have hlen:es.toList.length=E.length:=(by have:=congrArg List.length he;simpa using this)
 rcases cfind x _ _ 0 he with ⟨hx,hfn⟩ | ⟨hx,j,hfn,hj,hput⟩
 ·
  refine ⟨setB w r (.map (es.push { key:=.int .i64 x,val:=.int .i64 (v:Nat),born:=clock }) (clock+1)),?_,⟨_,_,setB_new hlt _,?_,?_,?_⟩,setB_fr _ _ _,setB_size _ _ _⟩
  · simp [Instr.mapUpdate,run_underlying Tryz.underlying90,MapKept.run_getObj_map hb,hc,MapKept.run_findKey Tryz.underlying3 hfn,MapKept.run_setObj_map _ hb,Result.andThen,setB]
  ·
   intro y hy;rw [Array.toList_push,List.mem_append,List.mem_singleton] at hy
   rcases hy with hy | rfl
   · have:=h1 y hy;omega
   · show clock < clock+1;omega
  · rw [Array.toList_push,List.map_append];refine List.nodup_append.2 ⟨h2,by simp,fun a ha c hc e1 => ?_⟩;simp at hc;obtain ⟨y,hy,rfl⟩:=List.mem_map.1 ha;have:=h1 y hy;omega
  · rw [putE_new hx,Array.toList_push,List.map_append,List.map_append,he];rfl
 ·
  have hjl:j < es.toList.length:=by rw [hlen];exact (List.getElem?_eq_some_iff.1 hj).1
  obtain ⟨e0,he0⟩:∃ e0,es.toList[j]?=some e0:=⟨_,List.getElem?_eq_getElem hjl⟩
  have hkv:(e0.key,e0.val)=(Value.int .i64 x,Value.int .i64 (getD E x:Nat)):=by
   have a:(es.toList.map (fun e=>(e.key,e.val)))[j]?=some (e0.key,e0.val):=(by rw [List.getElem?_map,he0];rfl);rw [he,List.getElem?_map,hj] at a;simpa using a.symm
  have hk0:e0.key=.int .i64 x:=congrArg Prod.fst hkv;have hj2:es[j]?=some e0:=(by simpa using he0)
  have hml:(es.modify j (fun e=>{ e with key:=.int .i64 x,val:=.int .i64 (v:Nat) })).toList=es.toList.set j { e0 with key:=.int .i64 x,val:=.int .i64 (v:Nat) }:=by
   rw [Array.toList_modify,Go.ChangeMaps.modify_eq_set _ _ _ _ he0]
  have hst:(Instr.keyThatStays (.int .i64 x) (.int .i64 x)).run Tryz.prog w=.ok (.int .i64 x) w:=MapKept.run_keyThatStays (d:=.int .i64) (by simp [MapKept.IsKey]);refine ⟨setB w r (.map (es.modify j (fun e=>{ e with key:=.int .i64 x,val:=.int .i64 (v:Nat) })) clock),?_,⟨_,_,setB_new hlt _,?_,?_,?_⟩,setB_fr _ _ _,setB_size _ _ _⟩
  · simp [Instr.mapUpdate,run_underlying Tryz.underlying90,MapKept.run_getObj_map hb,hc,MapKept.run_findKey Tryz.underlying3 hfn,hj2,hk0,hst,MapKept.run_setObj_map _ hb,Result.andThen,setB]
  ·
   intro z hz;rw [hml] at hz
   rcases List.mem_or_eq_of_mem_set hz with hz | rfl
   · exact h1 z hz
   · exact h1 e0 (List.mem_of_getElem? he0)
  ·
   rw [hml,List.map_set]
   show (List.set _ j e0.born).Nodup
   rw [Go.WideElems.set_self _ _ _ (by rw [List.getElem?_map,he0];rfl)];exact h2
  · rw [hput,hml,List.map_set,List.map_set,he]
end Go.Proofs.YtgblfflikgnfpaaGreat
namespace Go.Proofs.YtgblfflikgnfpaaGreat
open Go.RowKit Go.Fb
set_option maxRecDepth 100000
set_option maxHeartbeats 16000000
set_option linter.unusedVariables false
structure FuX.Law (Z:FuX) (w:World) (L:List Nd):Prop where
 w:Z.w=w
 L:Z.L=L
 ok:Z.Ok
 P:1<=Z.P/\Z.P<=3
theorem fu_append {w wx:World} {col:Nat->Nat} {gt gs gp P base:Nat} {X:TX} {L:List Nd} {nd:Nd} (htm:TaskM col wx gt (task0 L nd 0 3 []) X) (hsp:Sp base gs gp P nd.rt noR noV noA wx) (hsc:SpC col 3000 gs gp P noV) (hf:Cg (· ≠ 5000) (fun _=>5000) w col wx) (hrt:right8 nd.par nd.rt=true) (hP:nd.par=(P:Int)) (xs:List (Nat->Int)) (rA:Option Addr) (rc:Nat) (hx:xs.length<=60) (hr:Reads w w.heap.size 3 rA xs.length (cellsR xs)) (hgp:w.heap.size<=gp) (hR:RightG L) (hk:nd.kind=0) (hfr:nd.fr=[]) :
  Calls Tryz.prog 24 #[.pointer (some ⟨gs,0,none⟩),.slice rA xs.length rc] wx fun e w'=>∃ v1 v2,∃ Z:FuX,e=.returned (.tuple #[.int .i64 v1,.int .i64 v2])/\Z.gt=gt/\Z.gs=gs/\Z.gm=w'.heap.size/\FuX.Law Z w L/\Z.S 0 0 [] (w'.alloc (.map #[] 0)):=by
 rw [hP] at hrt;have hfr2:Fr w.heap.size [] w wx:=hf.fr (Nat.le_refl _) (fun q _ hq=>hq rfl);refine (append_any (hsp.up (base':=wx.heap.size)) (Nat.le_refl _) hrt xs rA rc w.heap.size (fun i _=>by show ([]:List (Nat->Int)).length+xs.length<=399;simp only [List.length_nil];omega) (hr.fr hfr2 (Nat.le_refl _) (by simp)) hf.size hgp).mono ?_;rintro e w' ⟨V,rfl,hsp',hfw⟩;have hc:Cg (· = 3000) col wx (paint col wx.heap.size 3000) w':=Cg.of_fr_new hfw (by intro q hq;simp at hq;subst hq;exact hsc.2.1) 3000
 have hsc':SpC (paint col wx.heap.size 3000) 3000 gs gp P V:=by
  refine ⟨?_,?_,fun j hj q hq => ?_⟩
  · rw [paint_lt hsp.st.lt];exact hsc.1
  · rw [paint_lt hsp.pt.lt];exact hsc.2.1
  · exact paint_ge ((hsp'.own j hj).lt q hq).1
 have htm':=htm.cg hc (fun c hc=>by unfold TC at hc;omega);have hf':=hf.trans (hc.mono (C':=(· ≠ 5000)) (fun c h=>by omega));obtain ⟨col2,hcol2⟩:=nm (paint col wx.heap.size 3000);rw [<- hcol2] at hc hsc' htm' hf';have fa:=(Fr.refl w'.heap.size [] w').alloc (Nat.le_refl _) (.map #[] 0);have ka:=(cg0 (col:=col2) fa).paint 4000;refine ⟨_,_,⟨w,gt,w'.heap.size,L,nd,gs,gp,P,wx.heap.size,nd.rt,addR nd.rt noR (xs.take (goodN xs)),V⟩,rfl,rfl,rfl,rfl,⟨rfl,rfl,⟨hR,hk,hfr,hsp.pos.1,noR_few hx 0,noR_good 0⟩,hsp.pos⟩,X,noA,paint col2 w'.heap.size 4000,?_,rfl,?_,PqM.new w',paint_ge (Nat.le_refl _),?_,hf'.trans (ka.mono (fun _ h=>h.elim))⟩
 ·
  have e:tickT L nd 0 ([]:List (Nat->Int)) 0=task0 L nd 0 3 []:=by rw [tickT_0,full_start]
  show TaskM _ _ gt (tickT L nd 0 ((addR nd.rt noR (xs.take (goodN xs)) 0).take 0) 0) X
  rw [List.take_zero,e];exact htm'.cg ka (fun _ _ h=>h)
 · exact hsp'.cg hsc' ka (fun h=>h)
 ·
  intro j m hm
  show (wsJ L nd 0 ((addR nd.rt noR (xs.take (goodN xs)) 0).take 0) j).length<=6
  rw [List.take_zero]
  show ([]:List ByteArray).length<=6
  simp
structure FuX.I (Z:FuX) (j k:Nat) (K:List Pkt):Prop where
 nd:K.Nodup
 all:∀ p,p ∈ K ↔ AllW Z.L Z.nd 0 (Z.X k) p
 le:k<=(Z.R 0).length
 len:K.length<=1000 * j
 on:j<=k \/ (Z.R 0).length<=k \/ (fullT Z.L Z.nd 0 (Z.X k)).room 1=false
section
variable {Z:FuX} {j k:Nat} {K:List Pkt}
theorem fu_apart {t:Int} {wx:World} {B n:Nat} {A:Option Addr} {ys:List Value} (h:Z.S k t K wx) (hr:Reads wx B 6 A n ys):0 < n -> ∀ ad,A=some ad->ad.block ∉ [Z.gm]:=by
 rintro hn ad rfl hm;rw [List.mem_singleton] at hm;obtain ⟨b,off,e,_,hc⟩:=hr.2 hn;injection e with e
 subst e;have hl:0 < ys.length:=(by rw [hr.1];omega);have:=hc 0 _ (List.getElem?_eq_getElem hl);obtain ⟨X,a,col,h1,h2,h3,⟨es,clock,hb,_⟩,h5,h6,h7⟩:=h;simp only at hm;subst hm;simp [World.cell?,hb] at this
theorem fu_i0 (Z : FuX) : Z.I 0 0 [] := ⟨List.nodup_nil, fun p => by
 have e:Z.X 0=[]:=(by unfold FuX.X;rw [List.take_zero]);rw [e]
 exact ⟨fun h=>absurd h (by simp),fun h=>absurd h (allW_none p)⟩,Nat.zero_le _,Nat.zero_le _,.inl (Nat.le_refl _)⟩
def addL (K:List Pkt) (l:List Pkt):List Pkt:=l.foldl addK K
theorem addL_snoc (K l:List Pkt) (p:Pkt):addL K (l ++ [p])=addK (addL K l) p:=by unfold addL;rw [List.foldl_append];rfl
theorem addL_nodup {K:List Pkt} (h:K.Nodup):∀ l,(addL K l).Nodup:=by
 intro l
 induction l generalizing K with
 | nil=>exact h
 | cons p l ih=>exact ih (addK_nodup h p)
theorem mem_addL {q:Pkt}:∀ {l K:List Pkt},q ∈ addL K l ↔ q ∈ K \/ q ∈ l
 | [],K=>by simp [addL]
 | p :: l,K=>by
  show q ∈ addL (addK K p) l ↔ _
  rw [mem_addL,mem_addK,List.mem_cons,or_assoc]
theorem addL_len:∀ (l K:List Pkt),(addL K l).length<=K.length+l.length
 | [],K=>Nat.le_refl _
 | p :: l,K=>by
  show (addL (addK K p) l).length<=_
  have h1:=addL_len l (addK K p)
  have h2:(addK K p).length<=K.length+1:=by
   unfold addK
   split
   · omega
   · rw [List.length_append];simp
  rw [List.length_cons];omega
theorem fu_inext (h:Z.I j k K) {k2:Nat} {l:List Pkt} (hll:l.length<=1000) (hk:(k2=k+1/\k < (Z.R 0).length/\(fullT Z.L Z.nd 0 (Z.X k)).room 1=true) \/ (k2=k/\((Z.R 0).length<=k \/ (fullT Z.L Z.nd 0 (Z.X k)).room 1=false))) (ha:∀ p,AllW Z.L Z.nd 0 (Z.X k2) p ↔ AllW Z.L Z.nd 0 (Z.X k) p \/ p ∈ l):Z.I (j+1) k2 (addL K l):=by
 have hle:=h.le;refine ⟨addL_nodup h.nd l,fun p=>by rw [mem_addL,h.all,ha],?_,by have:=addL_len l K;have:=h.len;omega,?_⟩
 · rcases hk with ⟨rfl,h2,_⟩ | ⟨rfl,_⟩ <;> omega
 ·
  rcases hk with ⟨rfl,h2,h3⟩ | ⟨rfl,hk⟩
  ·
   rcases h.on with h1 | h1 | h1
   · exact .inl (by omega)
   · omega
   · rw [h3] at h1;cases h1
  · exact .inr hk
theorem fu_done (h:Z.I 80 k K) (ok:Z.Ok):(Z.R 0).length=k \/ (fullT Z.L Z.nd 0 (Z.X k)).room 1=false:=by
 have h1:=h.le;have h2:=ok.hl
 rcases h.on with h3 | h3 | h3
 · omega
 · exact .inl (by omega)
 · exact .inr h3
theorem fu_map {t:Int} {wx:World} (h:Z.S k t K wx):∃ es clock,wx.heap[Z.gm]?=some (.map es clock)/\(∀ x ∈ es.toList,x.born < clock)/\(es.toList.map (·.born)).Nodup/\es.toList.map (fun e=>(e.key,e.val))=K.map (fun p=>(pqV p,Value.bool true)):=by
 obtain ⟨X,a,col,h1,h2,h3,⟨es,clock,hb,b1,b2,he⟩,h5,h6,h7⟩:=h;refine ⟨es,clock,hb,b1,b2,?_⟩;rw [he];unfold mapK;rw [List.map_map];rfl
theorem fu_gm {t:Int} {wx:World} (h:Z.S k t K wx):Z.gm < wx.heap.size:=by
 obtain ⟨X,a,col,h1,h2,h3,h4,h5,h6,h7⟩:=h;exact h4.lt
end
theorem pqV_inj {p q:Pkt} (h:pqV p=pqV q):p=q:=by
 obtain ⟨a,b,c,d,e,f⟩:=p;obtain ⟨a',b',c',d',e',f'⟩:=q;unfold pqV at h;injection h with h
 simp only [Array.mk.injEq,List.cons.injEq,Value.int.injEq,Value.string.injEq,true_and,and_true] at h;obtain ⟨rfl,rfl,rfl,rfl,rfl,rfl⟩:=h;rfl
structure CntE (E:List (Int × Nat)) (K:List Pkt):Prop where
 val:∀ c,getD E c=cnt K c
 key:∀ c,c ∈ E.map (·.1) ↔ ∃ p ∈ K,p.ch=c
 nd:(E.map (·.1)).Nodup
theorem CntE.start:CntE [] []:=⟨fun c=>rfl,fun c=>by simp,List.nodup_nil⟩
theorem CntE.step {E:List (Int × Nat)} {K:List Pkt} (h:CntE E K) (p:Pkt):CntE (putE E p.ch (getD E p.ch+1)) (K ++ [p]):=by
 refine ⟨fun c => ?_,fun c => ?_,?_⟩
 ·
  rw [getD_putE,cnt_next,h.val,h.val]
  by_cases hc:c=p.ch
  · rw [if_pos hc,if_pos hc.symm,hc]
  · rw [if_neg hc,if_neg (fun e=>hc e.symm)]
 ·
  rw [keys_putE]
  by_cases hm:p.ch ∈ E.map (·.1)
  ·
   rw [if_pos hm,h.key];constructor
   · rintro ⟨q,hq,rfl⟩;exact ⟨q,List.mem_append_left _ hq,rfl⟩
   ·
    rintro ⟨q,hq,rfl⟩
    rcases List.mem_append.1 hq with hq | hq
    · exact ⟨q,hq,rfl⟩
    · rw [List.mem_singleton] at hq;subst hq;exact (h.key _).1 hm
  ·
   rw [if_neg hm,List.mem_append,List.mem_singleton,h.key];constructor
   ·
    rintro (⟨q,hq,rfl⟩ | rfl)
    · exact ⟨q,List.mem_append_left _ hq,rfl⟩
    · exact ⟨p,by simp,rfl⟩
   ·
    rintro ⟨q,hq,rfl⟩
    rcases List.mem_append.1 hq with hq | hq
    · exact .inl ⟨q,hq,rfl⟩
    · rw [List.mem_singleton] at hq;subst hq;exact .inr rfl
 ·
  rw [keys_putE]
  by_cases hm:p.ch ∈ E.map (·.1)
  · rw [if_pos hm];exact h.nd
  · rw [if_neg hm,List.nodup_append];exact ⟨h.nd,by simp,fun a ha b hb=>by rw [List.mem_singleton] at hb;subst hb;exact fun e=>hm (e ▸ ha)⟩
theorem cnt_small {K:List Pkt} (c:Int):cnt K c<=K.length:=List.length_filter_le _ _
end Go.Proofs.YtgblfflikgnfpaaGreat
namespace Go.Proofs.YtgblfflikgnfpaaGreat
open Go.RowKit Go.Fb
set_option maxRecDepth 100000
set_option maxHeartbeats 16000000
set_option linter.unusedVariables false
section
variable {Z:FuX} {k:Nat} {t:Int} {K:List Pkt} {wx:World}
def First (z:Int) (w:World) (e:Ending) (w':World):Prop:=∃ b off n c,e=.returned (.slice (some ⟨b,off,none⟩) n c)/\0 < n/\b < w'.heap.size/\w'.cell? ⟨b,off,none⟩=some (.int .i64 z)/\Fr w.heap.size [] w w'
theorem fu_offs (h:Z.S k t K wx) (ok:Z.Ok):Calls Tryz.prog 26 #[.pointer (some ⟨Z.gs,0,none⟩)] wx (First (k:Int) wx):=by
 obtain ⟨X,a,col,h1,h2,h3,h4,h5,h6,h7⟩:=h;refine (offs_any h3.1).mono ?_;rintro e w' ⟨A,c,rfl,hown,hf⟩;obtain ⟨b,off,hA,hb,hc⟩:=(Reads.of_own hown).2 ok.hi;subst hA;refine ⟨b,off,Z.P,c,rfl,ok.hi,hb,?_,hf⟩;have:=hc 0 _ (offsL_get ok.hi);rw [h2] at this;exact this
theorem fu_lens (h:Z.S k t K wx) (ok:Z.Ok):Calls Tryz.prog 27 #[.pointer (some ⟨Z.gs,0,none⟩)] wx (First ((Z.R 0).length:Nat) wx):=by
 obtain ⟨X,a,col,h1,h2,h3,h4,h5,h6,h7⟩:=h;refine (lens_any h3.1).mono ?_;rintro e w' ⟨A,c,rfl,hown,hf⟩;obtain ⟨b,off,hA,hb,hc⟩:=(Reads.of_own hown).2 ok.hi;subst hA;exact ⟨b,off,Z.P,c,rfl,ok.hi,hb,hc 0 _ (lensL_get ok.hi),hf⟩
end
def kvI (x:Int × Nat):Value:=.int .i64 x.1
def fvI (x:Int × Nat):Value:=.int .i64 (x.2:Nat)
theorem getD_mem {E:List (Int × Nat)} (hn:(E.map (·.1)).Nodup) {x:Int × Nat} (hx:x ∈ E):getD E x.1=x.2:=by
 induction E with
 | nil=>cases hx
 | cons y E ih =>
  rw [List.map_cons,List.nodup_cons] at hn
  show (if y.1=x.1 then y.2 else getD E x.1)=x.2
  rcases List.mem_cons.1 hx with rfl | hx
  · rw [if_pos rfl]
  · rw [if_neg (fun e=>hn.1 (by rw [e];exact List.mem_map.2 ⟨x,hx,rfl⟩))];exact ih hn.2 hx
theorem keys_inj {E:List (Int × Nat)} (hn:(E.map (·.1)).Nodup):∀ p ∈ E,∀ q ∈ E,kvI p=kvI q->p=q:=by
 intro p hp q hq h;unfold kvI at h;injection h with _ h
 have h1:=getD_mem hn hp;have h2:=getD_mem hn hq;rw [h,h2] at h1;exact Prod.ext h h1.symm
theorem keys_nodup {E:List (Int × Nat)} (hn:(E.map (·.1)).Nodup):E.Nodup:=by
 rw [List.nodup_iff_pairwise_ne,List.pairwise_map] at hn;rw [List.nodup_iff_pairwise_ne];exact hn.imp (fun {a b} h e=>h (congrArg Prod.fst e))
theorem CntE.mem {E:List (Int × Nat)} {K K':List Pkt} (h:CntE E K') (hK:∀ p,p ∈ K' ↔ p ∈ K) (hn:K.Nodup) (hn':K'.Nodup) {x:Int × Nat} (hx:x ∈ E):∃ p ∈ K,x.1=p.ch/\x.2=cnt K p.ch:=by
 obtain ⟨p,hp,hpc⟩:=(h.key x.1).1 (List.mem_map.2 ⟨x,hx,rfl⟩);have hperm:K'.Perm K:=(List.perm_ext_iff_of_nodup hn' hn).2 hK;refine ⟨p,(hK p).1 hp,hpc.symm,?_⟩;rw [<- getD_mem h.nd hx,h.val,cnt_perm hperm,hpc]
theorem CntE.all {E:List (Int × Nat)} {K K':List Pkt} (h:CntE E K') (hK:∀ p,p ∈ K' ↔ p ∈ K) (hn:K.Nodup) (hn':K'.Nodup) {p:Pkt} (hp:p ∈ K):∃ x ∈ E,x.2=cnt K p.ch:=by
 obtain ⟨x,hx,hxc⟩:=List.mem_map.1 ((h.key p.ch).2 ⟨p,(hK p).2 hp,rfl⟩);obtain ⟨q,_,h2,h3⟩:=h.mem hK hn hn' hx;exact ⟨x,hx,by rw [h3,<- h2,hxc]⟩
section
variable {Z:FuX} {k:Nat} {K K':List Pkt} {E:List (Int × Nat)} {w:World} {L:List Nd}
theorem fu_six {t:Int} {wx:World} (hS:Z.S k t K wx) (law:Z.Law w L) (hI:Z.I 80 k K) (h:CntE E K') (hK:∀ p,p ∈ K' ↔ p ∈ K) (hn':K'.Nodup) {x:Int × Nat} (hx:x ∈ E):x.2<=6:=by
 obtain ⟨p,hp,_,h2⟩:=h.mem hK hI.nd hn' hx;obtain ⟨X,a,col,_,_,_,_,_,h6,_⟩:=hS;rw [h2];exact cnt_le law.ok.hR hI.nd hI.all h6 hp
theorem fu_read {t:Int} {wx:World} (hS:Z.S k t K wx) (law:Z.Law w L) (hI:Z.I 80 k K) (h:CntE E K') (hK:∀ p,p ∈ K' ↔ p ∈ K) (hn':K'.Nodup) (hf:(E.any fun x=>decide (x.2=6))=false):(Z.R 0).length=k:=by
 obtain ⟨X,a,col,_,_,_,_,_,h6,_⟩:=hS
 rcases fu_done hI law.ok with h1 | h1
 · exact h1
 ·
  rw [cnt_full law.ok.hR hI.nd hI.all h6 (fun p hp => by
   obtain ⟨x,hx,h2⟩:=h.all hK hI.nd hn' hp;rw [List.any_eq_false] at hf;have:=hf x hx;rw [<- h2]
   simpa using this)] at h1
  cases h1
end
end Go.Proofs.YtgblfflikgnfpaaGreat
namespace Go.Proofs.YtgblfflikgnfpaaGreat
open Go.RowKit Go.Fb
set_option maxRecDepth 100000
set_option maxHeartbeats 16000000
set_option linter.unusedVariables false
def TfW (w:World) (e:Ending) (w':World):Prop:=e=.returned (.bool true)/\Below w.heap.size w w'
theorem walk_TaskFull (A:Option Addr) (n c:Nat) (M:List Ndm) (hnc:n<=c) (hm:c<=maxLen) (rA:Option Addr) (rc:Nat) (xs:List (Nat->Int)) (hrc:xs.length<=rc) (hrm:rc<=maxLen) (ti:Int) (hti:0<=ti/\ti<=255) (w:World) (h:Nds w w.heap.size A n M) (hcap:CapN M) (hr:Reads w w.heap.size 3 rA xs.length (cellsR xs)) :
  Calls Tryz.prog 5 #[.slice A n c,.slice rA xs.length rc,.int .u8 ti] w (TfW w):=by
 obtain ⟨L,hL⟩:=nm (fstN M);have HL:=zh hL;have H:=zh h;have HCAP:=zh hcap;have HRX:=zh hr;have HG0:=great08_any A c w.heap.size n M;obtain ⟨gb,hgb⟩:=nm (greatN L)
 have HG := zh (fun (wx : World) (hx : Fr w.heap.size [] w wx) => (by
  have:=HG0 wx (h.frw hx (Nat.le_refl _) (by simp)) hx.size (by omega);rw [<- hL,<- hgb] at this
  exact this:Calls Tryz.prog 21 #[.slice A n c] wx fun e w'=>e=.returned (.bool gb)/\Fr wx.heap.size [] wx w'))
 have HGB:=zh hgb;obtain ⟨nx,hnx⟩:=nm (xs.length);have HNX:=zh hnx;have hnx2:=Nat.le_trans hrc hrm;unfold maxLen at hnx2;rw [<- hnx] at hnx2 ⊢;obtain ⟨col1,hcol1⟩:∃ c:Nat->Nat,c=fun _=>5000:=⟨_,rfl⟩;have C1:=zh (by rw [hcol1];exact Cg.refl _ _ _:Cg (· ≠ 5000) (fun _=>5000) w col1 w);have HCL:=zh (show ∀ q,col1 q=5000 by intro q;rw [hcol1]);clear h hL hgb HG0 hcap hr hnx hrc hrm hnc hm hcol1;go_enter Tryz.func5,Tryz.ntmps5;go_wp2_with fail;refine (awake20_any _).mono ?_;rintro e w1 ⟨rfl,f1⟩;have C2:=zh (C1.out.trans (cgf _ f1));have F2:=zh (C2.out.fr (Nat.le_refl _) (fun q _ hq=>hq rfl));clear f1 C1;go_wp2_with fail;refine (HG.out w1 F2.out).mono ?_;rintro e w2 ⟨rfl,f2⟩;have C3:=zh (C2.out.trans (cgf _ f2));have F3:=zh (C3.out.fr (Nat.le_refl _) (fun q _ hq=>hq rfl));clear f2 C2 F2 HG
 cases gb with
 | true =>
  go_wp2_with fail;go_ret;exact ⟨rfl,F3.out.below⟩
 | false =>
 by_cases h60:nx<=60
 case neg =>
  have hd:decide (60 < (nx:Int))=true:=decide_eq_true (by omega);go_wp2_with fail;go_ret;exact ⟨rfl,F3.out.below⟩
 have hd60:decide (60 < (nx:Int))=false:=decide_eq_false (by omega);obtain ⟨hl20,hs,_⟩:=small_grt (by rw [<- HL.out];exact HGB.out.symm:greatN (fstN M)=false);have HS:=zh hs;have hn20:n<=20:=(by rw [H.out.num];exact hl20);clear hs hl20 HGB;have HRC:=zh (by have:=rcheck_any A c w.heap.size n M w2 (H.out.frw F3.out (Nat.le_refl _) (by simp)) F3.out.size HS.out HCAP.out;rw [<- HL.out] at this;exact this);obtain ⟨cv,hcv⟩:=nm (checkN L);rw [<- hcv] at HRC;have HCV:=zh hcv;clear hcv HCAP;go_wp2_with fail;refine HRC.out.mono ?_;rintro e w3 ⟨rfl,f3⟩;have C4:=zh (C3.out.trans (cgf _ f3));have F4:=zh (C4.out.fr (Nat.le_refl _) (fun q _ hq=>hq rfl));clear f3 C3 F3 HRC
 by_cases hcv0:cv=0
 case neg =>
  go_wp2_with fail;go_ret;exact ⟨rfl,F4.out.below⟩
 subst hcv0;have HRG:=zh (checkN_zero.1 HCV.out.symm:RightG L);obtain ⟨nd,hfn,hkd,hfr,hrt,hp1,hp3⟩:=src_node HRG.out
 obtain ⟨k,m,hk0,hmk,hmn⟩:∃ (k:Nat) (m:Ndm),ixN L 0=(k:Int)/\M[k]?=some m/\m.1=nd:=by
  rcases ixN_cases L 0 with ⟨_,h2⟩ | ⟨k,x,h1,h2,h3⟩
  · rw [hfn] at h2;cases h2
  ·
   rw [hfn] at h3;injection h3 with h3
   rw [HL.out] at h2;unfold fstN at h2;rw [List.getElem?_map] at h2
   cases hm:M[k]? with
   | none=>rw [hm] at h2;cases h2
   | some m =>
    rw [hm] at h2;injection h2 with h2
    exact ⟨k,m,h1,hm,h2.trans h3.symm⟩
 obtain ⟨nd',sf,sp⟩:=m;obtain rfl:nd'=nd:=hmn;have HFN:=zh hfn;have HKD:=zh hkd;have HFR:=zh hfr;have HRT:=zh hrt;obtain ⟨P,hP⟩:∃ P:Nat,nd'.par=(P:Int):=⟨nd'.par.toNat,by omega⟩;have HP:=zh hP;have hP1:1<=P:=(by omega);have hP3:P<=3:=(by omega);have hkn:k < n:=(by rw [H.out.num];exact (List.getElem?_eq_some_iff.1 hmk).1);have hki:(k:Int) < (n:Int):=(by omega);have hk00:(0:Int)<=(k:Int):=(by omega);have HFI:=zh (by have:=rfind_any 0 A c w.heap.size n M w3 (H.out.frw F4.out (Nat.le_refl _) (by simp)) (by omega);rw [<- HL.out,hk0] at this;exact this);have HND1:=H.out.frw F4.out (Nat.le_refl _) (by simp);obtain ⟨⟨Af,cf,hf1,hf2⟩,⟨Ap,cp,hp91,hp92⟩⟩:=HND1.inn _ (List.mem_of_getElem? hmk);simp only at hf1 hf2 hp91 hp92;subst hf1 hp91;obtain ⟨b1,o1,rfl,hb1,hcell⟩:=HND1.get hmk;have p0:=hcell 0 _ rfl;have p1:=hcell 1 _ rfl;have p2:=hcell 2 _ rfl;have p3:=hcell 3 _ rfl;have p4:=hcell 4 _ rfl;have p5:=hcell 5 _ rfl;have p6:=hcell 6 _ rfl;have p7:=hcell 7 _ rfl;have p8:=hcell 8 _ rfl;have p9:=hcell 9 _ rfl;have p10:=hcell 10 _ rfl;have p11:=hcell 11 _ rfl;have p12:=hcell 12 _ rfl;simp only [Nat.add_zero] at p0;have fa:=(Fr.refl w3.heap.size [] w3).alloc (Nat.le_refl _) (.cells (ndA nd' (.slice Af nd'.fr.length cf) (.slice Ap nd'.pg.length cp)) 66);have C5:=zh (C4.out.trans (cgf _ fa));have BN:=zh (Blk.new w3 66 (ndA nd' (.slice Af nd'.fr.length cf) (.slice Ap nd'.pg.length cp)));clear hfn hkd hfr hrt hp1 hp3 hk0 hmk hcell fa hP hb1 hf2 hp92 HND1;go_wp2_with fail;refine HFI.out.mono ?_;rintro e w4 ⟨rfl,rfl⟩;clear HFI;go_upto_region 6 with fail;obtain ⟨gn,hgn⟩:=nm (w3.heap.size);rw [<- hgn] at BN ⊢;clear hgn p0 p1 p2 p3 p4 p5 p6 p7 p8 p9 p10 p11 p12 C4 F4;generalize w3.alloc _=w4 at *;have n0:=BN.out.cell 0;have n1:=BN.out.cell 1;have n2:=BN.out.cell 2;have n3:=BN.out.cell 3;have n4:=BN.out.cell 4;have n5:=BN.out.cell 5;have n6:=BN.out.cell 6;have n7:=BN.out.cell 7;have n8:=BN.out.cell 8;have n9:=BN.out.cell 9;have n10:=BN.out.cell 10;have n11:=BN.out.cell 11;have n12:=BN.out.cell 12;simp at n0 n1 n2 n3 n4 n5 n6 n7 n8 n9 n10 n11 n12;have HNW:=zh (snew_any nd'.id nd'.kind nd'.par (.slice Af nd'.fr.length cf) (.slice Ap nd'.pg.length cp) nd'.rt w4);go_wp2_with fail;refine HNW.out.mono ?_;rintro e w5 (⟨_,_,P',gs,gp,hP',rfl,hsp,hlow,f5⟩ | ⟨hno,_⟩)
 case inr=>exact absurd ⟨HKD.out,HRT.out⟩ hno
 obtain rfl:P'=P:=by have:=HP.out;omega
 have k5:=(cg0 (col:=col1) f5).paint 3000;obtain ⟨col2,hcol2⟩:=nm (paint col1 w4.heap.size 3000);rw [<- hcol2] at k5;have SPC:=zh (by rw [hcol2];exact ⟨paint_ge hlow.1,paint_ge hlow.2,fun _ _ q hq=>by cases hq⟩:SpC col2 3000 gs gp P' noV);have SP:=zh hsp
 have HCL2 := zh (show ∀ q, ¬ TC (col2 q) by
  intro q
  have h9:col2 q=5000 \/ col2 q=3000:=by
   rw [hcol2]
   by_cases hq:q < w4.heap.size
   · rw [paint_lt hq];exact .inl (HCL.out q)
   · exact .inr (paint_ge (by omega))
  unfold TC
  omega)
 have C6:=zh (C5.out.trans (k5.mono (C':=(· ≠ 5000)) (fun _ h=>h.elim)));have F6:=zh (C6.out.fr (Nat.le_refl _) (fun q _ hq=>hq rfl));have HGP:=zh (show w.heap.size<=gp from Nat.le_trans (C5.out.size) hlow.2);have HTN:=zh (tnew_any col2 w5 (some ⟨b1,o1,none⟩) none n c 0 M 0 0 3 nd' [] ((H.out.frw F6.out (Nat.le_refl _) (by simp)).more F6.out.size) HS.out (by rw [<- HL.out];exact HRG.out) (by rw [<- HL.out];exact HFN.out) (by omega) (by rw [hP'];omega) (by simp) rfl Reads.none_ (fun q _=>HCL2.out q));rw [<- HL.out] at HTN;clear hP' hsp hlow f5 k5 hcol2 HCL C5 BN HNW n0 n1 n2 n3 n4 n5 n6 n7 n8 n9 n10 n11 n12;go_wp2_with fail;refine HTN.out.mono ?_;rintro e w6 ⟨gt,X0,col3,rfl,_,htm,hc6⟩;have SP6:=zh (SP.out.cg SPC.out hc6 (fun h=>h));have C7:=zh (C6.out.trans (hc6.mono (C':=(· ≠ 5000)) (fun c h=>h.elim)));have HAP:=zh (by have:=fu_append htm SP6.out.1 SP6.out.2 C7.out HRT.out HP.out xs rA rc (by rw [<- HNX.out];exact h60) HRX.out HGP.out HRG.out HKD.out HFR.out;rw [<- HNX.out] at this;exact this);clear htm hc6 HTN SP SPC C6 F6 HCL2 SP6 C7;go_wp2_with fail;refine HAP.out.mono ?_;rintro e w7 ⟨v1,v2,Z,rfl,rfl,rfl,hgm,hlaw,hS⟩;have HS0:=zh hS;have LAW:=zh hlaw;have HGM:=zh hgm;clear hS hlaw hgm HAP HKD HFR HRT HFN HP HGP HRX HNX hP1 hP3;have hmm:=@run_makeMap Tryz.prog;go_upto_region 12 with fail;clear hmm;rw [<- HGM.out];clear HGM HCV HRG HS hkn hki hk00 h60 hd60 hnx2;generalize w7.alloc _=w8 at *;go_upto_region 13 with fail;go_loopg [13,14,15,16,18] 80 (fun q s13 s14 s15 s16 s18 wr=>∃ (j k:Nat) (K:List Pkt),j<=80/\q=80 - j/\s13=.int .i64 j/\Hid (Z.S k 0 K wr)/\Hid (Z.I j k K))
 case atStart=>exact ⟨0,0,[],Nat.zero_le _,rfl,rfl,HS0,zh (fu_i0 Z)⟩
 case round =>
  clear HS0;obtain ⟨j,k9,K,hj,rfl,rfl,SW,SI⟩:=hrel
  by_cases hj80:j < 80
  ·
   have hji:(j:Int) < 80:=by omega
   have HW:=zh (fu_work SW.out LAW.out.ok (Nat.le_trans SI.out.le LAW.out.ok.hl));clear SW;go_wp2_with fail;refine HW.out.mono ?_;rintro e w9 ⟨pA,pc,pV,did,k2,l,rfl,hrd,hlen,hS,hk2,hal⟩;have SI2:=zh (fu_inext SI.out hlen hk2 hal);obtain ⟨nl,hnl⟩:=nm (l.length);rw [<- hnl] at hrd hlen ⊢;have HNL:=zh hnl;have SW:=zh (show Z.S k2 0 (addL K (l.take 0)) w9 by rw [List.take_zero];exact hS);have RX:=zh (fun W (f:Fr w9.heap.size [Z.gm] w9 W)=>(hrd.frL f (Nat.le_refl _) (fu_apart hS hrd):Reads W w9.heap.size 6 pA nl (pksC l)));clear hrd hS hk2 hal hnl HW SI;go_upto_region 17 with fail;go_loopg [18,79] nl (fun q s18 s79 wl=>∃ i:Nat,i<=nl/\q=nl - i/\s79=.int .i64 i/\Hid (Z.S k2 0 (addL K (l.take i)) wl)/\Hid (Fr w9.heap.size [Z.gm] w9 wl))
   case atStart=>exact ⟨0,Nat.zero_le _,rfl,rfl,SW,zh (Fr.refl _ _ _)⟩
   case round =>
    clear SW;obtain ⟨i,hi,rfl,rfl,SW,FW⟩:=hrel
    by_cases hin:i < nl
    ·
     have hii:(i:Int) < (nl:Int):=Int.ofNat_lt.2 hin;obtain ⟨p,hp⟩:∃ p,l[i]?=some p:=⟨_,List.getElem?_eq_getElem (by rw [<- HNL.out];exact hin)⟩;obtain ⟨b3,off3,hA3,hb3,_,hcell⟩:=Reads.elem pkF_len (RX.out _ FW.out) hp (by decide);have a0:=hcell 0 _ rfl;have a1:=hcell 1 _ rfl;have a2:=hcell 2 _ rfl;have a3:=hcell 3 _ rfl;have a4:=hcell 4 _ rfl;have a5:=hcell 5 _ rfl;simp only [Nat.add_zero] at a0;have HTK:=zh (show addL K (l.take (i+1))=addK (addL K (l.take i)) p by rw [List.take_add_one,hp];exact addL_snoc _ _ _);have fa:=(Fr.refl wr.heap.size [] wr).alloc (Nat.le_refl _) (.cells (pkC p) 89);have BX:=zh (Blk.new wr 89 #[.int .i64 p.ch,.int .i64 p.bk,.int .i64 p.inc,.int .i64 p.seq,.int .i64 p.ack,.string p.ld]);have SW2:=zh (SW.out.fr0 fa);have FW2:=zh (FW.out.trans (fa.mono (B':=w9.heap.size) (L':=[Z.gm]) FW.out.size (by simp)));rw [hA3];simp only [pkC] at SW2 FW2;clear hcell hp fa SW FW;go_upto_region 19 with fail;obtain ⟨gx,hgx⟩:=nm (wr.heap.size);rw [<- hgx] at BX ⊢;clear hgx a0 a1 a2 a3 a4 a5;generalize wr.alloc _=wb at *;have x0:=BX.out.cell 0;have x1:=BX.out.cell 1;have x2:=BX.out.cell 2;have x3:=BX.out.cell 3;have x4:=BX.out.cell 4;have x5:=BX.out.cell 5;simp at x0 x1 x2 x3 x4 x5;obtain ⟨w5,hst,hS5,hf5,_⟩:=fu_put SW2.out p;have SW3:=zh (by rw [HTK.out];exact hS5:Z.S k2 0 (addL K (l.take (i+1))) w5);have FW3:=zh (FW2.out.trans (hf5.mono (B':=w9.heap.size) (L':=[Z.gm]) FW2.out.size (by simp)));clear hS5 hf5 SW2 FW2 BX;go_wp2_with fail;rw [<- hA3];go_roundg (nl - (i+1))
     case measure=>omega
     case rel=>exact ⟨i+1,hin,rfl,by go_num,SW3,FW3⟩
    ·
     have hii:¬ (i:Int) < (nl:Int):=fun e=>hin (Int.ofNat_lt.1 e);have SW3:=zh (by have h9:=SW.out;rw [List.take_of_length_le (by rw [<- HNL.out];omega)] at h9;exact h9:Z.S k2 0 (addL K l) wr);clear SW FW hin;go_wp2_with fail;go_roundg (80 - (j+1))
     case measure=>omega
     case rel=>exact ⟨j+1,k2,addL K l,hj80,rfl,by go_num,SW3,SI2⟩
  ·
   have hji:¬ (j:Int) < 80:=by omega
   have hj9:j=80:=(by omega);rw [hj9] at SI;clear hj hj80 hj9;have hmm:=@run_makeMap Tryz.prog;go_upto_region 22 with fail;clear hmm;obtain ⟨E0,rfl⟩:=nm (wr);obtain ⟨gc,hgc⟩:=nm (E0.heap.size);rw [<- hgc];have fm:=(Fr.refl E0.heap.size [] E0).alloc (Nat.le_refl _) (.map #[] 0);have CM:=zh (by rw [hgc];exact CMap.new E0:CMap (E0.alloc (.map #[] 0)) gc []);have FM:=zh fm;have HGC:=zh hgc;obtain ⟨es,clock,hb,b1,b2,he⟩:=fu_map (SW.out.fr0 fm);have hgm:=fu_gm SW.out;have hgmc:Z.gm < gc:=(by rw [hgc];exact hgm);have SE0:=zh SW.out;have hKl:K.length<=80000:=SI.out.len;clear fm SW hgc;generalize E0.alloc _=wm at *;have hrg:=run_range_map (P:=Tryz.prog) wm 84 89 4 Z.gm es clock Tryz.underlying84 hb;have HBB:=zh hb;have H1:=zh b1;have H2:=zh b2;have HE:=zh he;obtain ⟨gi,hgi2⟩:=nm (wm.heap.size);have HGI:=zh hgi2;have hgcl:gc < gi:=(by rw [hgi2];exact CM.out.lt);clear b1 b2 he;go_upto_region 23 with fail;simp only [<- hgi2];clear hgi2 hb;go_loopw [20] (fun s20 wr=>∃ (seen:Array Nat) (K':List Pkt) (E:List (Int × Nat)),(s20=undef \/ ∃ a,s20=.pointer a)/\Hid (wr.heap[gi]?=some (.mapIter (some Z.gm) clock seen clock))/\Hid (TookG pqV es K K' seen)/\Hid (CMap wr gc E)/\Hid (CntE E K')/\Hid (Fr E0.heap.size [] E0 wr)) (fun _ wr=>(leftOf es (wr.iterSeen gi)).size)
   case atStart=>exact ⟨#[],[],[],.inl rfl,zh (by rw [HGI.out];exact heap_alloc_new wm _),zh (TookG.start _ _ _),zh (CM.out.fr ((Fr.refl wm.heap.size [] wm).alloc (Nat.le_refl _) _) CM.out.lt (by simp)),zh CntE.start,zh (FM.out.alloc FM.out.size _)⟩
   case round =>
    clear hrg CM;obtain ⟨seen,K',E,hs20,HI,HTk,CM,HCE,FF⟩:=hrel
    have hgi9:gi < wr.heap.size:=by
     rcases Nat.lt_or_ge gi wr.heap.size with h | h
     · exact h
     · have:=HI.out;rw [Array.getElem?_eq_none h] at this;cases this
    have hbm:wr.heap[Z.gm]?=some (.map es clock):=by
     obtain ⟨es2,clock2,hb2,_⟩:=fu_map (SE0.out.fr0 FF.out);obtain ⟨es3,clock3,hb3,_⟩:=fu_map (SE0.out.fr0 FM.out);have h4:=FF.out.block Z.gm hgm (by simp);have h5:=FM.out.block Z.gm hgm (by simp);rw [h4,<- h5];exact HBB.out
    have hKs:K'.length<=K.length:=nodup_leG HTk.out.nd HTk.out.sub
    rcases run_next_at (P:=Tryz.prog) wr 0 gi Z.gm clock clock seen es clock HI.out hbm H1.out (Nat.le_refl _) with ⟨h0,hrun⟩ | ⟨e,hel,w3,hw3,hrun⟩
    ·
     have hnx:∀ ty,(Instr.next (.pointer (some ⟨gi,0,none⟩)) false ty).run Tryz.prog wr=_:=fun _=>hrun;have HD:=zh (HTk.out.done HE.out (fun p _ q _ h=>pqV_inj h) h0);clear hrun h0 hbm;have HN':=zh HTk.out.nd;go_upto_region 27 with fail;clear hnx hs20 HI hKs hgi9;obtain ⟨es2,clock2,hb2,c1,c2,ce⟩:=CM.out;obtain ⟨E1,hE1⟩:=nm (wr);have hgc9:gc < wr.heap.size:=CM.out.lt;have hrg:=run_range_map (P:=Tryz.prog) wr 90 3 3 gc es2 clock2 Tryz.underlying90 hb2;have HBB2:=zh hb2;have K1:=zh c1;have K2:=zh c2;have KE:=zh (show es2.toList.map (fun e=>(e.key,e.val))=E.map (fun x=>(kvI x,fvI x)) from ce);obtain ⟨g2,hg2⟩:=nm (wr.heap.size);have HG2:=zh hg2;have HE1:=zh hE1;clear c1 c2 ce;go_upto_region 28 with fail;simp only [<- hg2];clear hg2 hb2 hrg CM HTk HBB H1 H2 HE;rw [<- hE1] at hgc9 FF HBB2 HG2 ⊢;clear hE1;go_loopw [21,23] (fun s21 s23 wr=>∃ (seen:Array Nat) (C':List (Int × Nat)) (fl:Bool),s21=.bool fl/\Hid (wr.heap[g2]?=some (.mapIter (some gc) clock2 seen clock2))/\Hid (TookG kvI es2 E C' seen)/\Hid (fl=C'.any fun x=>decide (x.2=6))/\Hid (Fr E1.heap.size [] E1 wr)) (fun _ _ wr=>(leftOf es2 (wr.iterSeen g2)).size)
     case atStart=>exact ⟨#[],[],false,rfl,zh (by rw [HG2.out];exact heap_alloc_new E1 _),zh (TookG.start _ _ _),zh rfl,zh ((Fr.refl E1.heap.size [] E1).alloc (Nat.le_refl _) _)⟩
     case round =>
      obtain ⟨seen2,C',fl,rfl,HI,HTk,HFL,F2⟩:=hrel
      have hgi9:g2 < wr.heap.size:=by
       rcases Nat.lt_or_ge g2 wr.heap.size with h | h
       · exact h
       · have:=HI.out;rw [Array.getElem?_eq_none h] at this;cases this
      have hbm:wr.heap[gc]?=some (.map es2 clock2):=(F2.out.block gc hgc9 (by simp)).trans HBB2.out
      rcases run_next_at (P:=Tryz.prog) wr 0 g2 gc clock2 clock2 seen2 es2 clock2 HI.out hbm K1.out (Nat.le_refl _) with ⟨h0,hrun⟩ | ⟨e,hel,w3,hw3,hrun⟩
      ·
       have hnx:∀ ty,(Instr.next (.pointer (some ⟨g2,0,none⟩)) false ty).run Tryz.prog wr=_:=fun _=>hrun;have HCC:=zh (HTk.out.done KE.out (keys_inj HCE.out.nd) h0);have SW:=zh (SE0.out.fr0 (FF.out.nx F2.out))
       have HFA := zh (show fl = E.any fun x => decide (x.2 = 6) by
        rw [HFL.out,Bool.eq_iff_iff,List.any_eq_true,List.any_eq_true]
        exact ⟨fun ⟨x,h1,h2⟩=>⟨x,(HCC.out x).1 h1,h2⟩,fun ⟨x,h1,h2⟩=>⟨x,(HCC.out x).2 h1,h2⟩⟩)
       clear hrun h0 hbm HI HTk HFL;go_upto_region 33 with fail;clear hnx FF F2;go_cut [123] (fun s wx=>s=.bool false/\Hid (Z.S k9 0 K wx))
       case first =>
        have T:=zh (SW.out.fr0 (Fr.refl wr.heap.size [] wr).drew)
        cases fl with
        | true =>
         refine wp_region_held_drew (S:=fun W=>True) (by kernel_rfl) (trivial) (fun hHeld => ?_);refine tk (i:=0) (oi:=⟨some 111,_,_,_,_,_⟩) (v:=?_) rfl ?_ hHeld ?_
         rotate_left
         · intro w hSw;(try dsimp only at hSw);go_simp;(try with_reducible rfl)
         simp only [Act.put,lPt];refine tk (i:=1) (oi:=⟨some 112,_,_,_,_,_⟩) (v:=?_) rfl ?_ hHeld ?_
         rotate_left
         · intro w hSw;(try dsimp only at hSw);go_simp;(try with_reducible rfl)
         simp only [Act.put,lPt];refine tk (i:=2) (oi:=⟨some 113,_,_,_,_,_⟩) (v:=?_) rfl ?_ hHeld ?_
         rotate_left
         · intro w hSw;(try dsimp only at hSw);go_simp;(try with_reducible rfl)
         simp only [Act.put,lPt];refine wpAnyH_take (i:=3) (oi:=⟨some 114,_,_,_,_,_⟩) (v:=undef) rfl (by kernel_rfl) (by kernel_rfl) (by kernel_rfl) (fun _ _ _ h=>h) (Or.inr ⟨by rfl,rfl⟩) hHeld ?_;simp only [Act.put,lPt];refine wpAnyH_take (i:=4) (oi:=⟨some 115,_,_,_,_,_⟩) (v:=undef) rfl (by kernel_rfl) (by kernel_rfl) (by kernel_rfl) (fun _ _ _ h=>h) (Or.inr ⟨by rfl,rfl⟩) hHeld ?_;simp only [Act.put,lPt];refine wpAnyH_take (i:=5) (oi:=⟨some 116,_,_,_,_,_⟩) (v:=undef) rfl (by kernel_rfl) (by kernel_rfl) (by kernel_rfl) (fun _ _ _ h=>h) (Or.inr ⟨by rfl,rfl⟩) hHeld ?_;simp only [Act.put,lPt];refine wpAnyH_take (i:=6) (oi:=⟨some 117,_,_,_,_,_⟩) (v:=undef) rfl (by kernel_rfl) (by kernel_rfl) (by kernel_rfl) (fun _ _ _ h=>h) (Or.inr ⟨by rfl,rfl⟩) hHeld ?_;simp only [Act.put,lPt];refine wpAnyH_take (i:=7) (oi:=⟨some 118,_,_,_,_,_⟩) (v:=undef) rfl (by kernel_rfl) (by kernel_rfl) (by kernel_rfl) (fun _ _ _ h=>h) (Or.inr ⟨by rfl,rfl⟩) hHeld ?_;simp only [Act.put,lPt];refine wpAnyH_take (i:=8) (oi:=⟨some 119,_,_,_,_,_⟩) (v:=undef) rfl (by kernel_rfl) (by kernel_rfl) (by kernel_rfl) (fun _ _ _ h=>h) (Or.inr ⟨by rfl,rfl⟩) hHeld ?_;simp only [Act.put,lPt];refine wpAnyH_take (i:=9) (oi:=⟨some 120,_,_,_,_,_⟩) (v:=undef) rfl (by kernel_rfl) (by kernel_rfl) (by kernel_rfl) (fun _ _ _ h=>h) (Or.inr ⟨by rfl,rfl⟩) hHeld ?_;simp only [Act.put,lPt];refine wpAnyH_take (i:=10) (oi:=⟨some 121,_,_,_,_,_⟩) (v:=undef) rfl (by kernel_rfl) (by kernel_rfl) (by kernel_rfl) (fun _ _ _ h=>h) (Or.inr ⟨by rfl,rfl⟩) hHeld ?_;simp only [Act.put,lPt];refine wpAnyH_take (i:=11) (oi:=⟨some 122,_,_,_,_,_⟩) (v:=undef) rfl (by kernel_rfl) (by kernel_rfl) (by kernel_rfl) (fun _ _ _ h=>h) (Or.inr ⟨by rfl,rfl⟩) hHeld ?_;simp only [Act.put,lPt];refine tk (i:=12) (oi:=⟨some 123,_,_,_,_,_⟩) (v:=?_) rfl ?_ hHeld ?_
         rotate_left
         · intro w hSw;(try dsimp only at hSw);go_simp;(try with_reducible rfl)
         simp only [Act.put,lPt];refine wpAnyH_done (by kernel_rfl) ?_ _;clear hHeld;go_wp2_with fail;go_meet
         case rel=>exact ⟨rfl,T⟩
        | false =>
         have hlen:=fu_read SE0.out LAW.out SI.out HCE.out HD.out HN'.out HFA.out.symm;have HOF:=zh (fun W (h:Z.S k9 0 K W)=>fu_offs h LAW.out.ok);have HLE:=zh (fun W (h:Z.S k9 0 K W)=>(by have:=fu_lens h LAW.out.ok;rw [hlen] at this;exact this:Calls Tryz.prog 27 #[.pointer (some ⟨Z.gs,0,none⟩)] W (First (k9:Int) W)));clear hlen;refine wp_region_held_drew (S:=fun W=>True) (by kernel_rfl) (trivial) (fun hHeld => ?_);refine tk (i:=0) (oi:=⟨some 111,_,_,_,_,_⟩) (v:=?_) rfl ?_ hHeld ?_
         rotate_left
         · intro w hSw;(try dsimp only at hSw);go_simp;(try with_reducible rfl)
         simp only [Act.put,lPt];refine tk (i:=1) (oi:=⟨some 112,_,_,_,_,_⟩) (v:=?_) rfl ?_ hHeld ?_
         rotate_left
         · intro w hSw;(try dsimp only at hSw);go_simp;(try with_reducible rfl)
         simp only [Act.put,lPt];refine tk (i:=2) (oi:=⟨some 113,_,_,_,_,_⟩) (v:=?_) rfl ?_ hHeld ?_
         rotate_left
         · intro w hSw;(try dsimp only at hSw);go_simp;(try with_reducible rfl)
         simp only [Act.put,lPt];refine tk (i:=3) (oi:=⟨some 114,_,_,_,_,_⟩) (v:=?_) rfl ?_ hHeld ?_
         rotate_left
         · intro w hSw;(try dsimp only at hSw);go_simp;(try with_reducible rfl)
         simp only [Act.put,lPt];refine tk (i:=7) (oi:=⟨some 118,_,_,_,_,_⟩) (v:=?_) rfl ?_ hHeld ?_
         rotate_left
         · intro w hSw;(try dsimp only at hSw);go_simp;(try with_reducible rfl)
         simp only [Act.put,lPt];refine wpAnyH_ready (rs:=[4]) (by kernel_rfl) (by simp) ?_;refine AllReadyH.cons (o:=⟨some 115,_,_,_,_,_⟩) rfl (fun K hK => ?_) AllReadyH.nil;rw [if_pos (by rfl)];go_simp;refine (HOF.out _ T.out).mono ?_;rintro e wa ⟨ba,oa,na,ca,rfl,hna,hba,hca,hfa⟩;have T:=zh (T.out.fr0 hfa);have hna':(0:Int) < (na:Int):=(by omega);clear hfa;refine hK.out _ _ (trivial) (fun hHeld => ?_);clear hK K
         try simp only [Act.put,lPt]
         refine tk (i:=5) (oi:=⟨some 116,_,_,_,_,_⟩) (v:=?_) rfl ?_ hHeld ?_
         rotate_left
         · intro w hSw;(try dsimp only at hSw);go_simp;(try with_reducible rfl)
         simp only [Act.put,lPt];refine wpAnyH_ready (rs:=[6,8]) (by kernel_rfl) (by simp) ?_;refine AllReadyH.cons (o:=⟨some 117,_,_,_,_,_⟩) rfl (fun K hK => ?_) (AllReadyH.cons (o:=⟨some 119,_,_,_,_,_⟩) rfl (fun K hK => ?_) AllReadyH.nil)
         ·
          skip
          rw [if_pos (by rfl)];go_simp;refine hK.out _ _ (trivial) (fun hHeld => ?_);clear hK K
          try simp only [Act.put,lPt]
          refine wpAnyH_ready (rs:=[8]) (by kernel_rfl) (by simp) ?_;refine AllReadyH.cons (o:=⟨some 119,_,_,_,_,_⟩) rfl (fun K hK => ?_) AllReadyH.nil;rw [if_pos (by rfl)];go_simp;refine (HLE.out _ T.out).mono ?_;rintro e wb ⟨bb,ob,nb,cb,rfl,hnb,hbb,hcb,hfb⟩;have T:=zh (T.out.fr0 hfb);have hnb':(0:Int) < (nb:Int):=(by omega);have hca:=(hfb.cell (p:=⟨ba,oa,none⟩) hba (by simp)).trans hca;clear hfb;refine hK.out _ _ (trivial) (fun hHeld => ?_);clear hK K
          try simp only [Act.put,lPt]
          refine tk (i:=9) (oi:=⟨some 120,_,_,_,_,_⟩) (v:=?_) rfl ?_ hHeld ?_
          rotate_left
          · intro w hSw;(try dsimp only at hSw);go_simp;(try with_reducible rfl)
          simp only [Act.put,lPt];refine wpAnyH_ready (rs:=[10]) (by kernel_rfl) (by simp) ?_;refine AllReadyH.cons (o:=⟨some 121,_,_,_,_,_⟩) rfl (fun K hK => ?_) AllReadyH.nil;rw [if_pos (by rfl)];go_simp;refine hK.out _ _ (trivial) (fun hHeld => ?_);clear hK K
          try simp only [Act.put,lPt]
          refine tk (i:=11) (oi:=⟨some 122,_,_,_,_,_⟩) (v:=?_) rfl ?_ hHeld ?_
          rotate_left
          · intro w hSw;(try dsimp only at hSw);go_simp;(try with_reducible rfl)
          simp only [Act.put,lPt];refine tk (i:=12) (oi:=⟨some 123,_,_,_,_,_⟩) (v:=?_) rfl ?_ hHeld ?_
          rotate_left
          · intro w hSw;(try dsimp only at hSw);go_simp;(try with_reducible rfl)
          simp only [Act.put,lPt];refine wpAnyH_done (by kernel_rfl) ?_ _;clear hHeld;go_wp2_with fail;go_meet
          case rel=>exact ⟨rfl,T⟩
         ·
          skip
          rw [if_pos (by rfl)];go_simp;refine (HLE.out _ T.out).mono ?_;rintro e wb ⟨bb,ob,nb,cb,rfl,hnb,hbb,hcb,hfb⟩;have T:=zh (T.out.fr0 hfb);have hnb':(0:Int) < (nb:Int):=(by omega);have hca:=(hfb.cell (p:=⟨ba,oa,none⟩) hba (by simp)).trans hca;clear hfb;refine hK.out _ _ (trivial) (fun hHeld => ?_);clear hK K
          try simp only [Act.put,lPt]
          refine tk (i:=9) (oi:=⟨some 120,_,_,_,_,_⟩) (v:=?_) rfl ?_ hHeld ?_
          rotate_left
          · intro w hSw;(try dsimp only at hSw);go_simp;(try with_reducible rfl)
          simp only [Act.put,lPt];refine wpAnyH_ready (rs:=[6,10]) (by kernel_rfl) (by simp) ?_;refine AllReadyH.cons (o:=⟨some 117,_,_,_,_,_⟩) rfl (fun K hK => ?_) (AllReadyH.cons (o:=⟨some 121,_,_,_,_,_⟩) rfl (fun K hK => ?_) AllReadyH.nil)
          ·
           skip
           rw [if_pos (by rfl)];go_simp;refine hK.out _ _ (trivial) (fun hHeld => ?_);clear hK K
           try simp only [Act.put,lPt]
           refine wpAnyH_ready (rs:=[10]) (by kernel_rfl) (by simp) ?_;refine AllReadyH.cons (o:=⟨some 121,_,_,_,_,_⟩) rfl (fun K hK => ?_) AllReadyH.nil;rw [if_pos (by rfl)];go_simp;refine hK.out _ _ (trivial) (fun hHeld => ?_);clear hK K
           try simp only [Act.put,lPt]
           refine tk (i:=11) (oi:=⟨some 122,_,_,_,_,_⟩) (v:=?_) rfl ?_ hHeld ?_
           rotate_left
           · intro w hSw;(try dsimp only at hSw);go_simp;(try with_reducible rfl)
           simp only [Act.put,lPt];refine tk (i:=12) (oi:=⟨some 123,_,_,_,_,_⟩) (v:=?_) rfl ?_ hHeld ?_
           rotate_left
           · intro w hSw;(try dsimp only at hSw);go_simp;(try with_reducible rfl)
           simp only [Act.put,lPt];refine wpAnyH_done (by kernel_rfl) ?_ _;clear hHeld;go_wp2_with fail;go_meet
           case rel=>exact ⟨rfl,T⟩
          ·
           skip
           rw [if_pos (by rfl)];go_simp;refine hK.out _ _ (trivial) (fun hHeld => ?_);clear hK K
           try simp only [Act.put,lPt]
           refine wpAnyH_ready (rs:=[6]) (by kernel_rfl) (by simp) ?_;refine AllReadyH.cons (o:=⟨some 117,_,_,_,_,_⟩) rfl (fun K hK => ?_) AllReadyH.nil;rw [if_pos (by rfl)];go_simp;refine hK.out _ _ (trivial) (fun hHeld => ?_);clear hK K
           try simp only [Act.put,lPt]
           refine tk (i:=11) (oi:=⟨some 122,_,_,_,_,_⟩) (v:=?_) rfl ?_ hHeld ?_
           rotate_left
           · intro w hSw;(try dsimp only at hSw);go_simp;(try with_reducible rfl)
           simp only [Act.put,lPt];refine tk (i:=12) (oi:=⟨some 123,_,_,_,_,_⟩) (v:=?_) rfl ?_ hHeld ?_
           rotate_left
           · intro w hSw;(try dsimp only at hSw);go_simp;(try with_reducible rfl)
           simp only [Act.put,lPt];refine wpAnyH_done (by kernel_rfl) ?_ _;clear hHeld;go_wp2_with fail;go_meet
           case rel=>exact ⟨rfl,T⟩
       case rest =>
        obtain ⟨rfl,T⟩:=hcut;clear SW HFA HCE HD HN' SE0;go_upto_region 36 with fail;have ht20:0<=ti % 20/\ti % 20 < 20:=(by omega);obtain ⟨T9,hT9⟩:∃ T9:Nat,(T9:Int)=ti % 20:=⟨(ti % 20).toNat,by omega⟩;have hT20:T9 < 20:=(by omega);have htw:IntKind.i64.wrap ti=ti:=(by rw [IntKind.wrap_i64];omega);have hrm:ti.tmod 20=ti % 20:=Int.tmod_eq_emod_of_nonneg hti.1;have hrw:IntKind.i64.wrap (ti % 20)=ti % 20:=(by rw [IntKind.wrap_i64];omega);go_loopg [24,26] T9 (fun q s24 s26 wr=>∃ j:Nat,j<=T9/\q=T9 - j/\s24=.int .i64 j/\Hid (Z.S k9 (j:Int) K wr))
        case atStart=>exact ⟨0,Nat.zero_le _,rfl,rfl,T⟩
        case round =>
         clear T;obtain ⟨j,hj,rfl,rfl,SW⟩:=hrel
         by_cases hjT:j < T9
         ·
          have hji:(j:Int) < ti % 20:=by omega
          have HW:=zh (fu_tick SW.out LAW.out.ok (Int.natCast_nonneg _) (by omega));clear SW;go_wp2_with fail;refine HW.out.mono ?_;rintro e w9 ⟨pA,pc,l,rfl,hrd,hlen,hal,hS⟩;obtain ⟨nl,hnl⟩:=nm (l.length);rw [<- hnl] at hrd hlen ⊢;have HNL:=zh hnl;have HAL:=zh hal;have SW:=zh hS;have RX:=zh (fun W (f:Fr w9.heap.size [] w9 W)=>(hrd.fr f (Nat.le_refl _) (by simp):Reads W w9.heap.size 6 pA nl (pksC l)));clear hrd hS hal hnl HW;go_upto_region 39 with fail;go_loopg [26,134] nl (fun q s26 s134 wl=>∃ i:Nat,i<=nl/\q=nl - i/\s134=.int .i64 i/\Hid (Z.S k9 ((j:Int)+1) K wl)/\Hid (Fr w9.heap.size [] w9 wl))
          case atStart=>exact ⟨0,Nat.zero_le _,rfl,rfl,SW,zh (Fr.refl _ _ _)⟩
          case round =>
           clear SW;obtain ⟨i,hi,rfl,rfl,SW,FW⟩:=hrel
           by_cases hin:i < nl
           ·
            have hii:(i:Int) < (nl:Int):=Int.ofNat_lt.2 hin;obtain ⟨p,hp⟩:∃ p,l[i]?=some p:=⟨_,List.getElem?_eq_getElem (by rw [<- HNL.out];exact hin)⟩;obtain ⟨b3,off3,hA3,hb3,_,hcell⟩:=Reads.elem pkF_len (RX.out _ FW.out) hp (by decide);have a0:=hcell 0 _ rfl;have a1:=hcell 1 _ rfl;have a2:=hcell 2 _ rfl;have a3:=hcell 3 _ rfl;have a4:=hcell 4 _ rfl;have a5:=hcell 5 _ rfl;simp only [Nat.add_zero] at a0;have HPK:=zh ((SI.out.all p).2 (HAL.out p (List.mem_of_getElem? hp)));have fa:=(Fr.refl wr.heap.size [] wr).alloc (Nat.le_refl _) (.cells (pkC p) 89);have BX:=zh (Blk.new wr 89 #[.int .i64 p.ch,.int .i64 p.bk,.int .i64 p.inc,.int .i64 p.seq,.int .i64 p.ack,.string p.ld]);have SW2:=zh (SW.out.fr0 fa);have FW2:=zh (FW.out.nx fa);rw [hA3];simp only [pkC] at SW2 FW2;clear hcell hp fa SW FW;go_upto_region 41 with fail;obtain ⟨gx,hgx⟩:=nm (wr.heap.size);rw [<- hgx] at BX ⊢;clear hgx a0 a1 a2 a3 a4 a5;generalize wr.alloc _=wb at *;have x0:=BX.out.cell 0;have x1:=BX.out.cell 1;have x2:=BX.out.cell 2;have x3:=BX.out.cell 3;have x4:=BX.out.cell 4;have x5:=BX.out.cell 5;simp at x0 x1 x2 x3 x4 x5;have hlk:=fu_look SW2.out p;rw [decide_eq_true HPK.out] at hlk;clear BX;go_wp2_with fail;rw [<- hA3];go_roundg (nl - (i+1))
            case measure=>omega
            case rel=>exact ⟨i+1,hin,rfl,by go_num,SW2,FW2⟩
           ·
            have hii:¬ (i:Int) < (nl:Int):=fun e=>hin (Int.ofNat_lt.1 e);have SW3:=zh (by rw [show ((j+1:Nat):Int)=(j:Int)+1 by omega];exact SW.out:Z.S k9 ((j+1:Nat):Int) K wr);clear SW FW hin;go_wp2_with fail;go_roundg (T9 - (j+1))
            case measure=>omega
            case rel=>exact ⟨j+1,hjT,rfl,by go_num,SW3⟩
         ·
          have hji:¬ (j:Int) < ti % 20:=by omega
          have FE:=SW.out.frame;rw [LAW.out.w] at FE;have FEH:=zh FE;clear FE;go_wp2_with fail;go_ret;exact ⟨rfl,FEH.out.below⟩
      ·
       obtain ⟨hee,_⟩:=mem_left hel;obtain ⟨x,hxK,hk2,hxv⟩:=entryG KE.out hee;have HT2:=zh (HTk.out.step K2.out KE.out (keys_nodup HCE.out.nd) (keys_inj HCE.out.nd) hel hxK hk2);have hx6:=fu_six SE0.out LAW.out SI.out HCE.out HD.out HN'.out hxK;have hx6':¬ (6:Int) < ((x.2:Nat):Int):=(by omega);have hsz3:w3.heap.size=wr.heap.size:=by rcases hw3 with rfl | rfl <;> rfl
       have hlt:g2 < w3.heap.size:=(by rw [hsz3];exact hgi9)
       have F1:Fr wr.heap.size [] wr w3:=by
        rcases hw3 with rfl | rfl
        · exact Fr.refl _ _ _
        · exact (Fr.refl _ _ _).drew
       have hgc8:gc < wr.heap.size:=Nat.lt_of_lt_of_le hgc9 F2.out.size;have hgg:E1.heap.size<=g2:=(by rw [HG2.out];exact Nat.le_refl _);have hen:=run_entry_at (P:=Tryz.prog) (Go.ChangeMaps.setBlock w3 g2 (.mapIter (some gc) clock2 (seen2.push e.born) clock2)) g2 gc clock2 seen2 es2 clock2 e (setBlock_newG hlt _) (((setBlock_frG w3 g2 _).block gc (by omega) (by simp;omega)).trans ((F1.block gc hgc8 (by simp)).trans hbm)) hee K2.out;simp only [hk2,hxv,kvI,fvI] at hrun hen;have hnx:∀ ty,(Instr.next (.pointer (some ⟨g2,0,none⟩)) false ty).run Tryz.prog wr=_:=fun _=>hrun;have HI2:=zh (setBlock_newG (w:=w3) hlt (.mapIter (some gc) clock2 (seen2.push e.born) clock2));have F3:=zh ((F1.mono (B':=wr.heap.size) (L':=[g2]) (Nat.le_refl _) (by simp)).trans ((setBlock_frG w3 g2 (.mapIter (some gc) clock2 (seen2.push e.born) clock2)).mono (B':=wr.heap.size) (L':=[g2]) (by omega) (by simp)));have HSH:=zh (show (leftOf es2 ((Go.ChangeMaps.setBlock w3 g2 (.mapIter (some gc) clock2 (seen2.push e.born) clock2)).iterSeen g2)).size < (leftOf es2 (wr.iterSeen g2)).size by rw [iterSeen_ofG HI.out,iterSeen_ofG HI2.out];exact left_shrinks es2 seen2 e (by simpa using hel));generalize Go.ChangeMaps.setBlock w3 g2 (.mapIter (some gc) clock2 (seen2.push e.born) clock2)=w4 at *;have F4:=zh (F2.out.trans (F3.out.mono (B':=E1.heap.size) (L':=[]) F2.out.size (by intro q hq hlt;simp at hq;omega)));obtain ⟨v,hv⟩:=nm (x.2);have HFN:=zh (show ((C' ++ [x]).any fun x=>decide (x.2=6))=(fl || decide (v=6)) by rw [List.any_append,<- HFL.out,hv];simp);rw [<- hv] at hrun hen hnx hx6';clear hee hk2 hxv hel hlt F1 hw3 hsz3 hbm hrun hx6 hv hxK
       cases fl with
       | true =>
        go_wp2_with fail;go_roundw
        case rel=>exact ⟨seen2.push e.born,C' ++ [x],true,rfl,HI2,HT2,by rw [HFN.out];exact zh rfl,F4⟩
        case measure=>exact HSH.out
       | false =>
        by_cases hv6:v=6
        ·
         have hvb:((v:Int) == 6)=true:=by rw [hv6];rfl
         have HF9:=zh (show true=((C' ++ [x]).any fun x=>decide (x.2=6)) by rw [HFN.out,hv6];rfl);clear hv6;go_wp2_with fail;go_roundw
         case rel=>exact ⟨seen2.push e.born,C' ++ [x],true,rfl,HI2,HT2,HF9,F4⟩
         case measure=>exact HSH.out
        ·
         have hvb:((v:Int) == 6)=false:=beq_eq_false_iff_ne.2 (by omega);have HF9:=zh (show false=((C' ++ [x]).any fun x=>decide (x.2=6)) by rw [HFN.out,decide_eq_false hv6];rfl);clear hv6;go_wp2_with fail;go_roundw
         case rel=>exact ⟨seen2.push e.born,C' ++ [x],false,rfl,HI2,HT2,HF9,F4⟩
         case measure=>exact HSH.out
    ·
     obtain ⟨hee,_⟩:=mem_left hel;obtain ⟨p,hpK,hk2,hxv⟩:=entryG HE.out hee;have HT2:=zh (HTk.out.step H2.out HE.out SI.out.nd (fun p _ q _ h=>pqV_inj h) hel hpK hk2);have hsz3:w3.heap.size=wr.heap.size:=by rcases hw3 with rfl | rfl <;> rfl
     have hlt:gi < w3.heap.size:=(by rw [hsz3];exact hgi9)
     have F1:Fr wr.heap.size [] wr w3:=by
      rcases hw3 with rfl | rfl
      · exact Fr.refl _ _ _
      · exact (Fr.refl _ _ _).drew
     have hgmi:Z.gm ≠ gi:=(by omega);have hgm9:Z.gm < wr.heap.size:=(by omega);have hen:=run_entry_at (P:=Tryz.prog) (Go.ChangeMaps.setBlock w3 gi (.mapIter (some Z.gm) clock (seen.push e.born) clock)) gi Z.gm clock seen es clock e (setBlock_newG hlt _) (((setBlock_frG w3 gi _).block Z.gm (by omega) (by simp;omega)).trans ((F1.block Z.gm hgm9 (by simp)).trans hbm)) hee H2.out;simp only [hk2,hxv] at hrun hen;have hnx:∀ ty,(Instr.next (.pointer (some ⟨gi,0,none⟩)) false ty).run Tryz.prog wr=_:=fun _=>hrun;have HI2:=zh (setBlock_newG (w:=w3) hlt (.mapIter (some Z.gm) clock (seen.push e.born) clock));have F2:=zh ((F1.mono (B':=wr.heap.size) (L':=[gi]) (Nat.le_refl _) (by simp)).trans ((setBlock_frG w3 gi (.mapIter (some Z.gm) clock (seen.push e.born) clock)).mono (B':=wr.heap.size) (L':=[gi]) (by omega) (by simp)));have HSH:=zh (show (leftOf es ((Go.ChangeMaps.setBlock w3 gi (.mapIter (some Z.gm) clock (seen.push e.born) clock)).iterSeen gi)).size < (leftOf es (wr.iterSeen gi)).size by rw [iterSeen_ofG HI.out,iterSeen_ofG HI2.out];exact left_shrinks es seen e (by simpa using hel));generalize Go.ChangeMaps.setBlock w3 gi (.mapIter (some Z.gm) clock (seen.push e.born) clock)=w4 at *;have hs4:wr.heap.size<=w4.heap.size:=F2.out.size;have CM4:=zh (CM.out.fr F2.out CM.out.lt (by simp;omega));have hgie:E0.heap.size<=gi:=(by have:=HGC.out;omega);have F4:=zh (FF.out.trans (F2.out.mono (B':=E0.heap.size) (L':=[]) FF.out.size (by intro q hq hlt;simp at hq;omega)));clear hrun hee hk2 hxv hel hlt F1 hw3 hsz3 hbm;have fa:=(Fr.refl w4.heap.size [] w4).alloc (Nat.le_refl _) (.cells (pkC p) 89);have BX:=zh (Blk.new w4 89 #[.int .i64 p.ch,.int .i64 p.bk,.int .i64 p.inc,.int .i64 p.seq,.int .i64 p.ack,.string p.ld]);have CM5:=zh (CM4.out.fr fa CM4.out.lt (by simp));have F5:=zh (F4.out.nx fa);have HI5:=zh ((fa.block gi (by omega) (by simp)).trans HI2.out);have hs5:wr.heap.size<=(w4.alloc (.cells (pkC p) 89)).heap.size:=Nat.le_trans hs4 fa.size;simp only [pkC] at CM5 F5 HI5 hs5;clear fa CM4 F4 F2 CM FF hs20;obtain ⟨gx,hgx⟩:=nm (w4.heap.size);go_upto_region 25 with fail;rw [<- hgx] at BX ⊢;have hgxi:gi < gx:=(by omega);clear hgx hen hnx hs4;generalize w4.alloc _=w5 at *;have x0:w5.cell? ⟨gx,0,none⟩=some (.int .i64 p.ch):=BX.out.cell 0;obtain ⟨v,hv⟩:=nm (getD E p.ch);have hvb:v<=80000:=(by rw [hv,HCE.out.val];exact Nat.le_trans (cnt_small _) (Nat.le_trans hKs hKl));have hlk:=CM5.out.get p.ch;rw [<- hv] at hlk;have hcs:=HCE.out.step p;rw [<- hv] at hcs;obtain ⟨w6,hst,hcm6,hf6,hs6⟩:=CM5.out.put p.ch (v+1);rw [show ((v+1:Nat):Int)=(v:Int)+1 by omega] at hst;have hvw:IntKind.i64.wrap ((v:Int)+1)=(v:Int)+1:=(by rw [IntKind.wrap_i64];omega);have CM6:=zh hcm6;have HC6:=zh hcs;have F6:=zh (F5.out.trans (hf6.mono (B':=E0.heap.size) (L':=[]) F5.out.size (by intro q hq hlt;simp at hq;have:=HGC.out;omega)));have HI6:=zh ((hf6.block gi (by omega) (by simp;omega)).trans HI5.out);have HSH6:=zh (show (leftOf es (w6.iterSeen gi)).size < (leftOf es (wr.iterSeen gi)).size by rw [iterSeen_ofG HI6.out,<- iterSeen_ofG HI2.out];exact HSH.out);clear hv hcs hcm6 hf6 F5 HI5 CM5 HCE;go_wp2_with fail;go_roundw
     case rel=>exact ⟨seen.push e.born,K' ++ [p],_,.inr ⟨_,rfl⟩,HI6,HT2,CM6,HC6,F6⟩
     case measure=>exact HSH6.out
end Go.Proofs.YtgblfflikgnfpaaGreat
