/- Texts merged into one, for the number of files a claim may have: TcP, TrQ, RwD, TsW, TsA, TsB, TsP, TsC, TsD, TcA, TcW. -/
import Derived.Test.YtgblfflikgnfpaaGreatTY6
import Derived.Test.YtgblfflikgnfpaaGreatTY11
import Derived.Test.YtgblfflikgnfpaaGreatTY13
import Derived.Test.YtgblfflikgnfpaaGreatTY14
import Derived.Test.YtgblfflikgnfpaaGreatTY17
import Derived.Test.YtgblfflikgnfpaaGreatTY18
import Derived.Test.YtgblfflikgnfpaaGreatTY19
import Derived.Test.YtgblfflikgnfpaaGreatTY20
namespace Go.Proofs.YtgblfflikgnfpaaGreat
open Go.RowKit Go.Fb
set_option maxRecDepth 100000
set_option maxHeartbeats 16000000
set_option linter.unusedVariables false
def tkS (n:Int) (ls:List ByteArray) (L:List (Nat->Int)) (b:Bool) (ep:Int) (p:Bool):TaskS :=
 ⟨pasS 1,0,tabL [],[b],b,ep,p,if b then 1 else 0,0,[],[(0,3)],[⟨3,1,ls,n⟩],[],[],L,Itm.zero,false,[]⟩
def rgS (n m:Int) (ls ws:List ByteArray) (L:List (Nat->Int)) (b:Bool) (ep:Int) (p:Bool) (left:List Itm) (acks:List AckS):RigS :=
 ⟨tkS n ls L b ep p,[⟨⟨3,1,ws,m,0⟩,0,left⟩],[],acks,0⟩
theorem task0_pass:task0 (passL 1) (pasS 1) 0 1 []=tkS 0 [] [] false 0 false:=by
 have h1:recvL (passL 1) (pasS 1) 0=[(0,3)]:=by
  unfold recvL;rw [show srt (pasS 1).fr=[0] by simp [srt,pasS]];rfl
 have h2:childN (passL 1) 1=[]:=by
  unfold childN;rw [show kidsN (passL 1) 1 []=[] by rfl];simp [srt]
 have h3:sendL (passL 1) 1 0=[]:=(by unfold sendL;rw [h2];rfl);have h4:kidsL (passL 1) 1=[]:=(by unfold kidsL;rw [h2];rfl);unfold task0 tkS;rw [h1,show (pasS 1).id=1 from rfl,h3,h4];rfl
theorem feeds_pass:feedsN (passL 1) (pasS 1) 0 8=[⟨⟨3,1,[],0,0⟩,0,[]⟩]:=by rfl
theorem drains_pass:drainsL (passL 1) (pasS 1) 0=[]:=by rfl
theorem put_size {i:Itm} (h:i.put.isSome=true):(putS i.put).size ≠ 0/\(putS i.put).size<=1000:=by
 unfold Itm.put putI at *
 split at h <;> split at h <;> simp_all [putS,strOfNums_size,be_length]
theorem put_get {i:Itm} (h:i.put.isSome=true):goodI (putS i.put)=true/\getI (putS i.put)=i.back:=by
 obtain ⟨l,hl⟩:=Option.isSome_iff_exists.1 h;obtain ⟨h1,h2⟩:=put_back hl;rw [hl];exact ⟨h2,by unfold getI;rw [show putS (some l)=strOfNums l from rfl,h2];exact h1⟩
def lnS (i:Itm):Nat->Int:=fun j=>if j=0 then 1 else if j=1 then 0 else if j=2 then i.k else if j=3 then i.re else i.im
theorem sink_take {n:Int} {s:ByteArray} (hs:s.size ≠ 0):takeI ⟨3,0,1,n+1,0,s⟩ ⟨3,1,[],n⟩=(⟨3,1,[s],n⟩,[⟨3,1,1,0,n,emptyB⟩]):=by
 simp [takeI,isP,hs,ackP]
theorem ack_old {n:Int} {s:ByteArray}:ackO ⟨3,1,1,0,n,emptyB⟩ ⟨3,1,[s],n+1,0⟩=⟨3,1,[s],n+1,0⟩:=by
 simp [ackO,isP]
theorem ack_new {n:Int} {s:ByteArray}:ackO ⟨3,1,1,0,n+1,emptyB⟩ ⟨3,1,[s],n+1,0⟩=⟨3,1,[],n+1,0⟩:=by
 have:(n+1 - n).toNat=1:=(by omega);simp [ackO,isP,this]
theorem sent_one {n:Int} {L:List (Nat->Int)} {b:Bool} {ep:Int} {p:Bool} {s:ByteArray} {rest left:List Itm} {acks:List AckS} (hs:s.size ≠ 0) :
  (let R:=rgS n n [] [] L b ep p left acks;({ R with t:=R.t.take ⟨3,0,1,n+1,0,s⟩,fs:=R.fs.set 0 ⟨ackAll (R.t.tells ⟨3,0,1,n+1,0,s⟩ R.t.ins.length) ⟨3,1,[s],n+1,0⟩,0,rest⟩ }:RigS))=rgS n (n+1) [s] [s] L b ep p rest acks:=by
 simp [rgS,tkS,TaskS.take,TaskS.takes,TaskS.acks,TaskS.tells,sink_take hs,ackAll,ack_old]
theorem rec_state {n:Int} {L:List (Nat->Int)} {s:ByteArray} {i:Itm} :
  ({ ((tkS n [s] L false 0 false).popped 0).line 0 i with out:=[] }:TaskS)=tkS (n+1) [] (L ++ [lnS i]) false 0 false/\(((tkS n [s] L false 0 false).popped 0).line 0 i).out=[⟨3,1,1,0,n+1,emptyB⟩]:=by
 refine ⟨?_,rfl⟩;simp [TaskS.popped,TaskS.line,tkS,popI]
 funext j
 simp [lineF,lnS,pasS]
theorem bar_state {n:Int} {L:List (Nat->Int)} {s:ByteArray} {i:Itm} (hb:i.b=true) :
  ({ ((tkS n [s] L false 0 false).popped 0).block 0 i with out:=[] }:TaskS)=tkS (n+1) [] L true i.ep i.p/\(((tkS n [s] L false 0 false).popped 0).block 0 i).out=[⟨3,1,1,0,n+1,emptyB⟩]:=by
 refine ⟨?_,rfl⟩;simp [TaskS.popped,TaskS.block,tkS,popI]
theorem met_state {n:Int} {L:List (Nat->Int)} {ep:Int} {p:Bool} :
  (((tkS n [] L true ep p).puts (tkS n [] L true ep p).bar 0).clear)=tkS n [] L false 0 false/\(tkS n [] L true ep p).ack (tkS n [] L true ep p).bar 0=⟨1,0,ep,[],L,0⟩:=by
 refine ⟨?_,?_⟩
 · simp [TaskS.puts,TaskS.clear,tkS]
 · simp [TaskS.ack,TaskS.bar,tkS,pasS]
theorem tk_ok {n:Int} {ls:List ByteArray} {L:List (Nat->Int)} {b:Bool} {ep:Int} {p:Bool} (h1:ls.length<=6) (h2:0<=n/\n<=1000000) (h3:∀ x ∈ ls,x.size<=1000) (h4:L.length<=100000):TaskOk (tkS n ls L b ep p):=by
 refine ⟨rfl,rfl,by simp [tkS],by simp [tkS],by simp only [tkS];split <;> omega,by simp only [tkS];split <;> omega,tabL_ok [] _ TOk.zero rfl,h4,by simp [tkS],?_,by simp [tkS]⟩;intro s hs;simp [tkS] at hs;subst hs;exact ⟨h1,⟨by show _<=n;omega,by show n<=_;omega⟩,h3⟩
end Go.Proofs.YtgblfflikgnfpaaGreat
namespace Go.Proofs.YtgblfflikgnfpaaGreat
open Go.RowKit Go.Fb
set_option maxRecDepth 100000
set_option maxHeartbeats 16000000
set_option linter.unusedVariables false
theorem child_same {L:List Nd} (hR:RightG L) (id:Int):childR L id=childN L id:=by
 refine rises_eq ?_ (childN_rises L id) (fun c => ?_)
 · unfold childR;refine List.Pairwise.filter _ ?_;unfold rngI;rw [List.pairwise_map];exact List.pairwise_lt_range.imp (fun h=>by omega)
 ·
  unfold childR;rw [List.mem_filter,childN_mem,hasI_iff];constructor
  ·
   rintro ⟨_,h⟩
   cases hf:findN L c with
   | none=>rw [getN_none hf] at h;cases h
   | some n =>
    rw [getN_some hf] at h;exact ⟨n,findN_mem hf,findN_id hf,h⟩
  · rintro ⟨n,hn,rfl,hf⟩;have h1:=nodeB_iff.1 (hR.each n hn);refine ⟨?_,by rw [getN_some (findN_one hR.uni hn)];exact hf⟩;unfold rngI;rw [List.mem_map];exact ⟨n.id.toNat,by rw [List.mem_range];omega,by omega⟩
theorem sendF_at {L:List Nd} (hR:RightG L) {id ix c:Int} {m:Chn} (h:m ∈ sendF L id ix c):∃ n k,findN L c=some n/\0<=k/\k < n.par/\n.par<=3/\m=(c,k,chanN id ix c k):=by
 unfold sendF at h
 split at h
 · cases h
 · rename_i n hn;unfold goes at h;obtain ⟨k,hk,rfl⟩:=List.mem_map.1 h;rw [List.mem_range] at hk;have:=right8_par (nodeB_iff.1 (hR.each n (findN_mem hn))).2.2.2.1;exact ⟨n,k,hn,by omega,by omega,this.2,rfl⟩
theorem send_rises {L:List Nd} (hR:RightG L) (id ix:Int):(sendL L id ix).Pairwise fun a b=>a.2.2 < b.2.2:=by
 unfold sendL;rw [List.pairwise_flatMap];refine ⟨fun c _ => ?_,(childN_rises L id).imp fun {a b} hab x hx y hy => ?_⟩
 ·
  unfold sendF
  split
  · exact .nil
  · unfold goes;rw [List.pairwise_map];exact List.pairwise_lt_range.imp (fun {i j} h=>by show chanN id ix c (i:Int) < chanN id ix c (j:Int);unfold chanN;omega)
 ·
  obtain ⟨n,k,_,h1,h2,h3,rfl⟩:=sendF_at hR hx;obtain ⟨n',k',_,h1',h2',h3',rfl⟩:=sendF_at hR hy
  show chanN id ix a k < chanN id ix b k'
  unfold chanN;omega
theorem send_inj {L:List Nd} (hR:RightG L) (id ix:Int):Inj3 (sendL L id ix):=by
 have hp:=List.pairwise_iff_getElem.1 (send_rises hR id ix);intro i j a b hi hj hab;obtain ⟨hi1,rfl⟩:=List.getElem?_eq_some_iff.1 hi;obtain ⟨hj1,rfl⟩:=List.getElem?_eq_some_iff.1 hj
 rcases Nat.lt_trichotomy i j with h | h | h
 · have:=hp i j hi1 hj1 h;omega
 · exact h
 · have:=hp j i hj1 hi1 h;omega
theorem kids_inj {L:List Nd} (id:Int):InjK (kidsL L id):=by
 have hp:(kidsL L id).Pairwise fun a b=>a.id < b.id:=by
  unfold kidsL;rw [List.pairwise_filterMap];exact (childN_rises L id).imp (fun {a b} hab x hx y hy=>by rw [findN_id hx,findN_id hy];exact hab)
 have hp:=List.pairwise_iff_getElem.1 hp;intro i j a b hi hj hab;obtain ⟨hi1,rfl⟩:=List.getElem?_eq_some_iff.1 hi;obtain ⟨hj1,rfl⟩:=List.getElem?_eq_some_iff.1 hj
 rcases Nat.lt_trichotomy i j with h | h | h
 · have:=hp i j hi1 hj1 h;omega
 · exact h
 · have:=hp j i hj1 hi1 h;omega
theorem kids_few {L:List Nd} (hR:RightG L) (id:Int):(kidsL L id).length<=8:=Nat.le_trans (List.length_filterMap_le _ _) (child_few hR id)
theorem send_few2 {L:List Nd} (hR:RightG L) (id ix:Int):(sendL L id ix).length<=24:=by
 have:=send_len hR id ix (childN L id).length;rw [List.take_length] at this;exact this
def selK (ks:List Nd) (om:List Chn) (key:Int) (j:Nat):Bool:=ks.any fun n=>matchB om j n.id (n.rt (key % 8).toNat)
def selI (ks:List Nd) (om:List Chn) (j:Nat) (it:Itm):Bool:=it.b || selK ks om it.k j
theorem sel_eq {L:List Nd} (hR:RightG L) {id ix:Int} {j:Nat} {m:Chn} (hm:(sendL L id ix)[j]?=some m):∃ n,findN L m.1=some n/\0<=m.2.1/\m.2.1 < n.par /\ ∀ key,selK (kidsL L id) (sendL L id ix) key j=decide (n.rt (key % 8).toNat=m.2.1):=by
 have hmem:=List.mem_of_getElem? hm;unfold sendL at hmem;obtain ⟨c,hc,hmc⟩:=List.mem_flatMap.1 hmem;obtain ⟨n,k,hn,h1,h2,h3,rfl⟩:=sendF_at hR hmc;refine ⟨n,hn,h1,h2,fun key => ?_⟩;unfold selK
 have hmt:∀ a t,matchB (sendL L id ix) j a t=decide (c=a/\k=t):=by
  intro a t;unfold matchB;rw [hm]
 rw [Bool.eq_iff_iff,List.any_eq_true,decide_eq_true_eq];constructor
 ·
  rintro ⟨n',hn',hq⟩;rw [hmt,decide_eq_true_eq] at hq;unfold kidsL at hn';obtain ⟨c',hc',hf'⟩:=List.mem_filterMap.1 hn';have e:=findN_id hf';rw [<- hq.1] at e;rw [<- e,hn] at hf';injection hf' with hf'
  rw [hf'];exact hq.2.symm
 · intro hq;refine ⟨n,List.mem_filterMap.2 ⟨c,hc,hn⟩,?_⟩;rw [hmt,decide_eq_true_eq];exact ⟨(findN_id hn).symm,hq.symm⟩
def gOf (L:List Nd) (nd:Nd) (ix:Int) (I:List Itm) (j:Nat):List Itm:=I.filter (selI (kidsL L nd.id) (sendL L nd.id ix) j)
def srcT (L:List Nd) (nd:Nd) (ix:Int) (I:List Itm) (asked:Itm) (stop:Bool):TaskS:={ task0 L nd ix 1 [] with outs:=outsG (sendL L nd.id ix) (gOf L nd ix I) noB emptyB,asked:=asked,stop:=stop }
def srcRg (L:List Nd) (nd:Nd) (ix:Int) (I:List Itm) (asked:Itm) (stop:Bool) (aks:List AckS):RigS:=⟨srcT L nd ix I asked stop,[],drsG (sendL L nd.id ix) (gOf L nd ix I) noB emptyB,aks,ix⟩
theorem recv_none {L:List Nd} {nd:Nd} (h:nd.fr=[]) (ix:Int):recvL L nd ix=[]:=by
 unfold recvL;rw [h,List.eq_nil_of_length_eq_zero (srt_len [])];rfl
theorem feeds_none {L:List Nd} {nd:Nd} (h:nd.fr=[]) (ix:Int) (j:Nat):feedsN L nd ix j=[]:=by
 unfold feedsN;rw [List.flatMap_eq_nil_iff];intro f _;rw [h];rfl
theorem drains_start {L:List Nd} (hR:RightG L) (nd:Nd) (ix:Int):drainsL L nd ix=drsG (sendL L nd.id ix) (fun _=>[]) noB emptyB:=by
 have h1:drainsL L nd ix=(sendL L nd.id ix).map fun m=>⟨⟨m.2.2,1,[],0⟩,m.1,m.2.1,[]⟩:=by
  unfold drainsL sendL;rw [child_same hR,List.map_flatMap];refine congrArg (fun f=>(childN L nd.id).flatMap f) (funext fun c => ?_);unfold drainF sendF
  cases findN L c with
  | none=>rfl
  | some p =>
   unfold goes;simp only [List.map_map];rfl
 rw [h1];apply List.ext_getElem?;intro j;rw [drsG_get,List.getElem?_map];rfl
theorem outs_start (om:List Chn):(om.map fun m=>(⟨m.2.2,1,[],0,0⟩:OutS))=outsG om (fun _=>[]) noB emptyB:=by
 apply List.ext_getElem?;intro j;rw [outsG_get,List.getElem?_map];rfl
theorem src_start {L:List Nd} (hR:RightG L) {nd:Nd} (h:nd.fr=[]) (ix:Int):(⟨task0 L nd ix 1 [],feedsN L nd ix 8,drainsL L nd ix,[],ix⟩:RigS)=srcRg L nd ix [] Itm.zero false []:=by
 rw [feeds_none h,drains_start hR];unfold srcRg srcT;have e:gOf L nd ix []=fun _=>[]:=(by funext j;rfl);rw [e,<- outs_start];rfl
section
variable {L:List Nd} {nd:Nd} {ix:Int} {I:List Itm} {asked:Itm} {stop:Bool} {aks:List AckS}
theorem src_ins (h:nd.fr=[]):(srcT L nd ix I asked stop).ins=[]:=by
 show (recvL L nd ix).map _=[]
 rw [recv_none h];rfl
theorem src_room:(srcT L nd ix I asked stop).room 1=true:=outsG_room rfl
theorem gOf_le (j:Nat):(gOf L nd ix I j).length<=I.length:=List.length_filter_le _ _
theorem src_outs {o:OutS} (h:o ∈ (srcT L nd ix I asked stop).outs):o.ws.length<=0/\0<=o.last/\o.last<=I.length:=by
 obtain ⟨j,hj⟩:=List.getElem?_of_mem h;replace hj:(outsG (sendL L nd.id ix) (gOf L nd ix I) noB emptyB)[j]?=some o:=hj;rw [outsG_get] at hj
 cases hm:(sendL L nd.id ix)[j]? with
 | none=>rw [hm] at hj;cases hj
 | some m =>
  rw [hm] at hj;injection hj with hj
  have:=gOf_le (L:=L) (nd:=nd) (ix:=ix) (I:=I) j;rw [<- hj]
  show ([]:List ByteArray).length<=0/\(0:Int)<=((gOf L nd ix I j).length:Int)/\((gOf L nd ix I j).length:Int)<=(I.length:Int)
  simp only [List.length_nil];omega
theorem src_few:Few (srcT L nd ix I asked stop) (I.length:Int) 0:=⟨fun o ho=>by have:=src_outs ho;omega,Nat.le_refl _⟩
structure TellOk (R:RigS) (l:List Pkt):Prop where
 len:l.length<=1000
 p:∀ p ∈ l,Cn p.ack
 f:∀ F ∈ R.fs,F.o.ws.length<=1000000/\Cn F.o.last
 d:∀ D ∈ R.ds,D.i.ls.length<=6/\Cn D.i.out
 t:TkOk R.t
 d2:∀ D ∈ R.ds.map (takeD l),0<=D.i.out/\D.i.out<=1000000000/\D.got.length<=100000 /\ ∀ s ∈ D.i.ls,s.size<=1000
theorem tell_ok {S0 S:TaskS} {om:List Chn} {G:Nat->List Itm} {b:Nat->Bool} {s:ByteArray} (h:Mid S0 S om G b s) (hT:S0.ins=[]) (hi:Inj3 om) (hz:s.size ≠ 0) (hs:s.size<=1000) (hG:∀ j,(G j).length<=1000) (hl:S.out.length<=1000) (aks:List AckS) (ix:Int):TellOk ⟨{ S with out:=[] },[],drsG om G noB s,aks,ix⟩ S.out:=by
 refine ⟨hl,fun p hp => ?_,by simp,fun D hD => ?_,⟨?_,fun o ho => ?_⟩,fun D hD => ?_⟩
 · obtain ⟨j,m,_,_,rfl⟩:=h.p1 p hp;exact ⟨by show (-1099511627776:Int)<=0;omega,by show (0:Int)<=1099511627776;omega⟩
 ·
  obtain ⟨j,hj⟩:=List.getElem?_of_mem hD;replace hj:(drsG om G noB s)[j]?=some D:=hj;rw [drsG_get] at hj
  cases hm:om[j]? with
  | none=>rw [hm] at hj;cases hj
  | some m =>
   rw [hm] at hj;injection hj with hj
   have:=hG j;rw [<- hj];exact ⟨by show 0<=6;omega,by show (-1099511627776:Int)<=((G j).length:Int);omega,by show ((G j).length:Int)<=1099511627776;omega⟩
 ·
  intro i hi;rw [h.eq] at hi;replace hi:i ∈ S0.ins:=hi;rw [hT] at hi
  cases hi
 ·
  rw [h.eq] at ho;replace ho:o ∈ outsG om G b s:=ho;obtain ⟨j,hj⟩:=List.getElem?_of_mem ho;rw [outsG_get] at hj
  cases hm:om[j]? with
  | none=>rw [hm] at hj;cases hj
  | some m =>
   rw [hm] at hj;injection hj with hj
   have:=hG j;rw [<- hj];unfold ouJ Cn
   split
   · exact ⟨by show 1<=1000000;omega,by show (-1099511627776:Int)<=((G j).length:Int)+1;omega,by show ((G j).length:Int)+1<=1099511627776;omega⟩
   · exact ⟨by show 0<=1000000;omega,by show (-1099511627776:Int)<=((G j).length:Int);omega,by show ((G j).length:Int)<=1099511627776;omega⟩
 ·
  replace hD:D ∈ (drsG om G noB s).map (takeD S.out):=hD;rw [drains_mid h hi hz] at hD;obtain ⟨j,hj⟩:=List.getElem?_of_mem hD;rw [drsG_get] at hj
  cases hm:om[j]? with
  | none=>rw [hm] at hj;cases hj
  | some m =>
   rw [hm] at hj;injection hj with hj
   have:=hG j;rw [<- hj];refine ⟨by show (0:Int)<=((G j).length:Int);omega,by show ((G j).length:Int)<=1000000000;omega,by show (G j).length<=100000;omega,fun u hu => ?_⟩;replace hu:u ∈ (if b j then [s] else []):=hu
   split at hu
   · rw [List.mem_singleton] at hu;rw [hu];exact hs
   · cases hu
theorem src_noS (s:ByteArray):(⟨({ task0 L nd ix 1 [] with outs:=outsG (sendL L nd.id ix) (gOf L nd ix I) noB s,asked:=asked,stop:=stop }:TaskS),[],drsG (sendL L nd.id ix) (gOf L nd ix I) noB s,aks,ix⟩:RigS)=srcRg L nd ix I asked stop aks:=by
 unfold srcRg srcT;rw [outsG_none (s:=s) (s':=emptyB),drsG_none (s:=s) (s':=emptyB)]
theorem item_back {it:Itm} (h:it.put.isSome=true) (hb:it.back=it):itemOf (putS it.put)=it:=by
 have:=put_get h;unfold itemOf;rw [if_pos this.1,this.2,hb]
theorem src_rec (hR:RightG L) (hf:nd.fr=[]) (hI:I.length<=900) (x:Nat->Int) (hx:recB (x 0) (x 1) (x 2)=true):∃ S2,S2=(srcT L nd ix I asked stop).record x (srcT L nd ix I asked stop).kids.length/\TellOk ⟨{ S2 with out:=[] },[],drsG (sendL L nd.id ix) (gOf L nd ix I) noB emptyB,aks,ix⟩ S2.out/\tellR ⟨{ S2 with out:=[] },[],drsG (sendL L nd.id ix) (gOf L nd ix I) noB emptyB,aks,ix⟩ S2.out=srcRg L nd ix (I ++ [recI x]) asked stop aks:=by
 obtain ⟨s,hs⟩:=nm (putS (recI x).put)
 have hsm:(recI x).put.isSome=true:=by
  show (putI false (x 0) (x 1) (x 2) 0 false).isSome=true
  unfold putI;rw [if_neg (by simp),if_pos hx];rfl
 have hsz:=put_size hsm;rw [<- hs] at hsz;have hit:itemOf s=recI x:=(by rw [hs];exact item_back hsm rfl);have hm0:Mid (srcT L nd ix I asked stop) (srcT L nd ix I asked stop) (sendL L nd.id ix) (gOf L nd ix I) noB s:=Mid.start (by show outsG _ _ _ _=_;exact outsG_none) rfl;have hm:=hm0.record rfl x (kids_inj nd.id) hs.symm hsz.1 (srcT L nd ix I asked stop).kids.length;have hfw:=record_few (src_few (L:=L) (nd:=nd) (ix:=ix) (I:=I) (asked:=asked) (stop:=stop)) x (srcT L nd ix I asked stop).kids.length;obtain ⟨S2,hS2⟩:=nm ((srcT L nd ix I asked stop).record x (srcT L nd ix I asked stop).kids.length);rw [<- hS2] at hm hfw;have hk8:(srcT L nd ix I asked stop).kids.length<=8:=kids_few hR nd.id
 have ho24:(srcT L nd ix I asked stop).outs.length<=24:=by
  show (outsG _ _ _ _).length<=24
  rw [outsG_len];exact send_few2 hR nd.id ix
 have hlen:S2.out.length<=1000:=by
  have h1:=hfw.2;have h2:=Nat.mul_le_mul hk8 ho24;omega
 have hins:=src_ins (L:=L) (ix:=ix) (I:=I) (asked:=asked) (stop:=stop) hf;refine ⟨S2,hS2,?_,?_⟩
 · rw [drsG_none (s:=emptyB) (s':=s)];exact tell_ok hm hins (send_inj hR nd.id ix) hsz.1 hsz.2 (fun j=>Nat.le_trans (gOf_le j) (by omega)) hlen aks ix
 ·
  rw [drsG_none (s:=emptyB) (s':=s),tell_mid hm hins (send_inj hR nd.id ix) hsz.1 aks ix,<- src_noS s]
  have e:(fun j=>if selB ((srcT L nd ix I asked stop).kids.take (srcT L nd ix I asked stop).kids.length) (sendL L nd.id ix) x j then gOf L nd ix I j ++ [itemOf s] else gOf L nd ix I j)=gOf L nd ix (I ++ [recI x]):=by
   funext j
   rw [List.take_length,hit];unfold gOf;rw [List.filter_append];have e1:selI (kidsL L nd.id) (sendL L nd.id ix) j (recI x)=selB (srcT L nd ix I asked stop).kids (sendL L nd.id ix) x j:=rfl
   cases hq:selB (srcT L nd ix I asked stop).kids (sendL L nd.id ix) x j with
   | false=>simp [e1,hq]
   | true=>simp [e1,hq]
  rw [e];rfl
theorem puts_few (S:TaskS) (i:Itm) {b:Int} {q:Nat} (h:Few S b q):∀ n,Few (S.puts i n) (b+n) (q+n)
 | 0=>h.mono (by omega) (by omega)
 | n+1=>by
  rw [puts_next];exact (put_few2 (puts_few S i h n) n i).mono (by omega) (by omega)
theorem src_bar (hR:RightG L) (hf:nd.fr=[]) (hI:I.length<=900) (hb:asked.b=true) (hp:asked.put.isSome=true) (hbk:asked.back=asked):∃ S2,S2=(srcT L nd ix I asked stop).begun.puts asked (srcT L nd ix I asked stop).om.length/\TellOk ⟨{ S2 with out:=[] },[],drsG (sendL L nd.id ix) (gOf L nd ix I) noB emptyB,aks,ix⟩ S2.out/\tellR ⟨{ S2 with out:=[] },[],drsG (sendL L nd.id ix) (gOf L nd ix I) noB emptyB,aks,ix⟩ S2.out=srcRg L nd ix (I ++ [asked]) Itm.zero asked.p aks:=by
 obtain ⟨s,hs⟩:=nm (putS asked.put);have hsz:=put_size hp;rw [<- hs] at hsz;have hit:itemOf s=asked:=(by rw [hs];exact item_back hp hbk);have hbg:(srcT L nd ix I asked stop).begun=srcT L nd ix I Itm.zero asked.p:=rfl;have hol:(srcT L nd ix I asked stop).om.length=(sendL L nd.id ix).length:=rfl;rw [hbg,hol];have hm0:Mid (srcT L nd ix I Itm.zero asked.p) (srcT L nd ix I Itm.zero asked.p) (sendL L nd.id ix) (gOf L nd ix I) noB s:=Mid.start (by show outsG _ _ _ _=_;exact outsG_none) rfl;have hm:=hm0.puts hs.symm hsz.1 (sendL L nd.id ix).length (Nat.le_refl _);have hfw:=puts_few (srcT L nd ix I Itm.zero asked.p) asked (src_few (L:=L) (nd:=nd) (ix:=ix) (I:=I) (asked:=Itm.zero) (stop:=asked.p)) (sendL L nd.id ix).length;obtain ⟨S2,hS2⟩:=nm ((srcT L nd ix I Itm.zero asked.p).puts asked (sendL L nd.id ix).length);rw [<- hS2] at hm hfw;have ho24:=send_few2 hR nd.id ix
 have hlen:S2.out.length<=1000:=by
  have h1:=hfw.2;omega
 have hins:=src_ins (L:=L) (ix:=ix) (I:=I) (asked:=Itm.zero) (stop:=asked.p) hf;refine ⟨S2,hS2,?_,?_⟩
 · rw [drsG_none (s:=emptyB) (s':=s)];exact tell_ok hm hins (send_inj hR nd.id ix) hsz.1 hsz.2 (fun j=>Nat.le_trans (gOf_le j) (by omega)) hlen aks ix
 ·
  rw [drsG_none (s:=emptyB) (s':=s),tell_mid hm hins (send_inj hR nd.id ix) hsz.1 aks ix,<- src_noS s];have hlt:∀ {j:Nat} {m:Chn},(sendL L nd.id ix)[j]?=some m->j < (sendL L nd.id ix).length:=fun e=>(List.getElem?_eq_some_iff.1 e).1
  have e:∀ j,j < (sendL L nd.id ix).length->(if decide (j < (sendL L nd.id ix).length) then gOf L nd ix I j ++ [itemOf s] else gOf L nd ix I j)=gOf L nd ix (I ++ [asked]) j:=by
   intro j hj;rw [hit];unfold gOf;rw [List.filter_append];have e1:selI (kidsL L nd.id) (sendL L nd.id ix) j asked=true:=(by unfold selI;rw [hb];rfl);simp [e1,hj]
  have e1:outsG (sendL L nd.id ix) (fun j=>if decide (j < (sendL L nd.id ix).length) then gOf L nd ix I j ++ [itemOf s] else gOf L nd ix I j) noB s=outsG (sendL L nd.id ix) (gOf L nd ix (I ++ [asked])) noB s:=outsG_congr (fun j m hm=>by rw [e j (hlt hm)]);have e2:drsG (sendL L nd.id ix) (fun j=>if decide (j < (sendL L nd.id ix).length) then gOf L nd ix I j ++ [itemOf s] else gOf L nd ix I j) noB s=drsG (sendL L nd.id ix) (gOf L nd ix (I ++ [asked])) noB s:=drsG_congr (fun j m hm=>by rw [e j (hlt hm)]);rw [e1,e2];rfl
end
end Go.Proofs.YtgblfflikgnfpaaGreat
namespace Go.Proofs.YtgblfflikgnfpaaGreat
open Go.RowKit Go.Fb
set_option maxRecDepth 100000
set_option maxHeartbeats 16000000
set_option linter.unusedVariables false
section
variable {col:Nat->Nat} {w:World} {g:Nat} {R:RigS} {Y:RX}
theorem RigM.setT2 {C:Nat->Prop} {col':Nat->Nat} {w':World} (h:RigM col w g R Y) (k:Cg C col w col' w') (hc:∀ c,C c->TC c \/ ¬ RC c) {t:TaskS} {X:TX} (ht:TaskM col' w' Y.gt t X):RigM col' w' g { R with t:=t } { Y with X:=X }:=by
 have hn:∀ c,(c=12 \/ (110<=c/\c<=113) \/ (200<=c/\c < 1000))->¬ C c:=fun c h hC=>by
  rcases hc c hC with h1 | h1
  · unfold TC at h1;omega
  · exact h1 (.inr h)
 have hfw:=h.few;refine ⟨h.st.cg k (hn _ (by omega)),ht,h.fl,h.fr.cg k (hn _ (by omega)),fun j gj F h1 h2 => ?_,h.dl,h.dr.cg k (hn _ (by omega)),fun j gj D h1 h2 => ?_,h.al,h.ar.cg k (hn _ (by omega)),fun x hx=>⟨(h.am x hx).1.cg k (hn _ (by omega)),(h.am x hx).2.cg k (hn _ (by omega))⟩,h.few⟩
 · have hj:=(List.getElem?_eq_some_iff.1 h2).1;replace hj:j < R.fs.length:=hj;exact (h.fm j gj F h1 h2).cg k ⟨hn _ (by omega),hn _ (by omega),hn _ (by omega)⟩
 · have hj:=(List.getElem?_eq_some_iff.1 h2).1;replace hj:j < R.ds.length:=hj;exact (h.dm j gj D h1 h2).cg k ⟨hn _ (by omega),hn _ (by omega),hn _ (by omega)⟩
def RS (c:Nat):Prop:=¬ XD c
def RwOut (col:Nat->Nat) (cs g gt:Nat) (R2:RigS) (did:Bool) (U:(Nat->Nat)->World->Prop) (w:World) (e:Ending) (w':World):Prop :=
 ∃ Y' col',e=.returned (.bool did)/\Y'.gt=gt/\RigM col' w' g R2 Y'/\U col' w'/\Cg (fun c=>XD c \/ c=cs) col w col' w'
theorem rworkD_any (h:RigM col w g R Y) (hn:R.acks.length<=10000) (cs:Nat) (hcs:RS cs) (S2:TaskS) (did:Bool) (aks:List AckS) (has:aks.length<=10) (ok:TellOk ⟨{ S2 with out:=[] },R.fs,R.ds,R.acks ++ aks,R.ix⟩ S2.out) (U:(Nat->Nat)->World->Prop) (hU:∀ col1 w1 col2 w2,U col1 w1->Cg XD col1 w1 col2 w2->U col2 w2) (vs:Value)
  (hwk:Calls Tryz.prog 25 #[.pointer (some ⟨Y.gt,0,none⟩),vs] w (WorkS col cs Y.gt S2 did U (AcksM aks) w)) :
  Calls Tryz.prog 13 #[.pointer (some ⟨g,0,none⟩),vs] w (RwOut col cs g Y.gt (tellR ⟨{ S2 with out:=[] },R.fs,R.ds,R.acks ++ aks,R.ix⟩ S2.out) did U w):=by
 have RM:=zh h;have HN:=zh hn;have HA:=zh has;have HOK:=zh ok;have HU:=zh hU;have HW:=zh hwk;have r0:w.cell? ⟨g,0,none⟩=some (.pointer (some ⟨Y.gt,0,none⟩)):=h.st.b.cell 0
 have HCS := zh (show ∀ c, SC c \/ c = cs -> TC c \/ ¬ RC c from fun c h => by
  rcases h with h | rfl
  · exact .inl (by unfold SC at h;unfold TC;omega)
  · exact .inr (fun h=>hcs (.inl h)))
 have HXC := zh (show ∀ c, SC c \/ c = cs -> XD c \/ c = cs from fun c h => by
  rcases h with h | h
  · exact .inl (.inl (.inl (by unfold SC at h;unfold TC;omega)))
  · exact .inr h)
 have H113:=zh (show ∀ c,c=113->XD c from fun c h=>.inl (.inr (.inr (.inl (by omega)))));have H110:=zh (show ∀ c,c=110->XD c from fun c h=>.inl (.inr (.inr (.inl (by omega)))));clear h hn has ok hU hwk;go_enter Tryz.func13,Tryz.ntmps13;go_wp2_with fail;refine HW.out.mono ?_;rintro e w2 ⟨A2,c2,V,X2,col2,rfl,hrd,hm,hc,hu,A3,c3,xs,rfl,hxs,hrx,hxm⟩;have RM2:=zh (RM.out.setT2 hc HCS.out hm);have RD:=zh hrd;have C2:=zh (hc.mono HXC.out);have U2:=zh hu;have HX:=zh hxs;have HRX:=zh hrx;have HXM:=zh hxm;have c3':=RM2.out.st.b.cell 3;replace c3':w2.cell? ⟨g,3,none⟩=some (.slice Y.aA R.acks.length Y.ac):=c3';have hf3:=RM2.out.st.b.frozen 3;have hg2:=RM2.out.st.b.lt;have HOU:=zh (RM2.out.ar:CR col2 113 w2 72 6 (.slice Y.aA R.acks.length Y.ac) R.acks.length (Y.aks.flatMap ackF));clear hrd hm hc hu hxs hrx hxm RM r0 HW HCS HXC;generalize hnl:aks.length=nl at *;generalize hno:R.acks.length=no at *;generalize hnp:S2.out.length=np at *;have HNL:=zh hnl;have HNO:=zh hno;have HNP:=zh hnp;clear hnl hno hnp;have hno1:=HN.out;have hnl1:=HA.out;go_wp2_with (at_builtin;refine wpList_appC _ rfl (.tmp 22) (.tmp 23) ackTy rfl _ _ _ rfl HOU.out w2.heap.size A3 nl c3 _ rfl HRX.out.1 (acks_one _) (by omega) (by omega) ?_);intro A4 c4 w4 hrow hap hgr;have hs4:=RM2.out.st.cg hap (by omega);have hf4:=hs4.b.frozen 3;have c4':=hs4.b.cell 3;have hg4:=hs4.b.lt;have hl:(R.acks ++ aks).length=no+nl:=(by rw [List.length_append,HNO.out,HNL.out]);rw [<- List.flatMap_append,<- hl] at hrow;have hal:=RM2.out.al
 have RM4 := zh (by
  have h9 := RM2.out.setA hap (A := A4) (c := c4) (xs := Y.aks ++ xs) (aks := R.acks ++ aks) (by rw [List.map_append, HX.out]; exact congrArg (· ++ aks) hal) hrow (fun x hx => by
   rcases List.mem_append.1 hx with h | h
   · exact RM2.out.am x h
   · exact HXM.out x h)
  rw [hl] at h9
  exact h9)
 have K4:Cg XD col2 w2 _ (w4.setCell ⟨g,3,none⟩ (.slice A4 (no+nl) c4)):=(hap.mono H113.out).set (p:=⟨g,3,none⟩) (H110.out _ hs4.k) (.slice A4 (no+nl) c4);have RD4:=zh ((RD.out.cg hap (by omega)).cg (C:=(· = 110)) ((Cg.refl _ _ _).set (p:=⟨g,3,none⟩) hs4.k (.slice A4 (no+nl) c4)) (by omega));have C4:=zh (C2.out.trans (K4.mono (C':=fun c=>XD c \/ c=cs) (fun c hc=>.inl hc)));have U4:=zh (HU.out _ _ _ _ U2.out K4);clear hrow hap hgr hl hal c3' hf3 hg2 HRX HXM HX hs4 RM2 RD C2 K4 U2;go_wp2_with fail;rw [<- HNP.out] at RD4 ⊢;refine (tells_any RM4.out S2.out A2 c2 RD4.out HOK.out.len HOK.out.p HOK.out.f HOK.out.d HOK.out.t HOK.out.d2).mono ?_;rintro e w6 ⟨col6,rfl,hm,hc⟩;have RM6:=zh hm;have U6:=zh (HU.out _ _ _ _ U4.out hc);have C6:=zh (C4.out.trans (hc.mono (C':=fun c=>XD c \/ c=cs) (fun c h=>.inl h)));clear hm hc RM4 RD4 C4 U4;go_wp2_with fail;go_ret;refine ⟨_,col6,rfl,?_,RM6.out,U6.out,C6.out⟩;rfl
end
end Go.Proofs.YtgblfflikgnfpaaGreat
namespace Go.Proofs.YtgblfflikgnfpaaGreat
open Go.RowKit Go.Fb
set_option maxRecDepth 100000
set_option maxHeartbeats 16000000
set_option linter.unusedVariables false
theorem rs_co {cs:Nat} (h:RS cs):RCo cs:=⟨fun ht=>h (.inl (.inl ht)),fun e=>h (.inl (.inr (.inl e)))⟩
section
variable {col:Nat->Nat} {w:World} {g:Nat} {Y:RX} {L:List Nd} {nd:Nd} {ix:Int} {I:List Itm} {asked:Itm} {stop:Bool} {aks:List AckS} {cs base gs gp P:Nat} {r:Nat->Int} {R:Nat->List (Nat->Int)} {V:Nat->Value} {a:Nat->Int}
theorem spU_xd (hcs:RS cs) (col1:Nat->Nat) (w1:World) (col2:Nat->Nat) (w2:World) (h:SpU cs base gs gp P r R V a col1 w1) (k:Cg XD col1 w1 col2 w2):SpU cs base gs gp P r R V a col2 w2:=h.1.cg h.2 k hcs
theorem workS_none {S2:TaskS} {did:Bool} {U:(Nat->Nat)->World->Prop} {gt:Nat} (e:Ending) (w':World) (h:WorkS col cs gt S2 did U (fun V _ _=>V=.slice none 0 0) w e w'):WorkS col cs gt S2 did U (AcksM []) w e w':=by
 obtain ⟨A,c,V,X',col',h1,h2,h3,h4,h5,h6⟩:=h;exact ⟨A,c,V,X',col',h1,h2,h3,h4,h5,AcksM.none h6⟩
theorem workS_one {S2:TaskS} {did:Bool} {U:(Nat->Nat)->World->Prop} {gt:Nat} {k:AckS} (e:Ending) (w':World) (h:WorkS col cs gt S2 did U (AckM k) w e w'):WorkS col cs gt S2 did U (AcksM [k]) w e w':=by
 obtain ⟨A,c,V,X',col',h1,h2,h3,h4,h5,h6⟩:=h;exact ⟨A,c,V,X',col',h1,h2,h3,h4,h5,AcksM.one h6⟩
theorem round_rec (h:RigM col w g (srcRg L nd ix I asked stop aks) Y) (hR:RightG L) (hk0:nd.kind=0) (hf:nd.fr=[]) (hI:I.length<=900) (hak:aks.length<=100) (ha:asked.b=false) (hst:stop=false) (hcs:RS cs) (hu:SpU cs base gs gp P r R V a col w) {i at_:Nat} (hi:i < P) (hix:ix=(i:Int)) (hat:a i=(at_:Int)) (hl:(R i).length<=400) {x:Nat->Int} (hx:(R i)[at_]?=some x) (hxr:recB (x 0) (x 1) (x 2)=true) :
  Calls Tryz.prog 13 #[.pointer (some ⟨g,0,none⟩),.pointer (some ⟨gs,0,none⟩)] w (RwOut col cs g Y.gt (srcRg L nd ix (I ++ [recI x]) asked stop aks) true (SpU cs base gs gp P r R V (updA a i ((at_:Int)+1))) w):=by
 obtain ⟨S2,hS2,hok,htl⟩:=src_rec (aks:=aks) (asked:=asked) (stop:=stop) (ix:=ix) hR hf hI x hxr;have hT:TaskM col w Y.gt (srcT L nd ix I asked stop) Y.X:=h.t;have hw:=workS_rec hT hk0 src_room ha hst (I.length:Int) 0 (by omega) (by omega) src_few (kids_few hR nd.id) cs (rs_co hcs) hu hi hix hat hl hx;rw [<- hS2] at hw;have h9:=rworkD_any h (by show aks.length<=10000;omega) cs hcs S2 true [] (by simp) (by rw [List.append_nil];exact hok) _ (spU_xd hcs) _ (hw.mono workS_none);rw [List.append_nil] at h9
 exact h9.mono fun e w' h=>by
  have h8:=h;rw [show tellR ⟨{ S2 with out:=[] },(srcRg L nd ix I asked stop aks).fs,(srcRg L nd ix I asked stop aks).ds,(srcRg L nd ix I asked stop aks).acks,(srcRg L nd ix I asked stop aks).ix⟩ S2.out=srcRg L nd ix (I ++ [recI x]) asked stop aks from htl] at h8;exact h8
def srcA (L:List Nd) (nd:Nd) (ix:Int) (I:List Itm) (asked:Itm) (stop:Bool) (off:Int):AckS:=(srcT L nd ix I asked stop).begun.ack asked off
theorem round_bar (h:RigM col w g (srcRg L nd ix I asked stop aks) Y) (hR:RightG L) (hk0:nd.kind=0) (hf:nd.fr=[]) (hI:I.length<=900) (hak:aks.length<=100) (ha:asked.b=true) (hp:asked.put.isSome=true) (hbk:asked.back=asked) (hcs:RS cs) (hu:SpU cs base gs gp P r R V a col w) {i:Nat} (hi:i < P) (hix:ix=(i:Int)) :
  Calls Tryz.prog 13 #[.pointer (some ⟨g,0,none⟩),.pointer (some ⟨gs,0,none⟩)] w (RwOut col cs g Y.gt (srcRg L nd ix (I ++ [asked]) Itm.zero asked.p (aks ++ [srcA L nd ix I asked stop (a i)])) true (SpU cs base gs gp P r R V a) w):=by
 obtain ⟨S2,hS2,hok,htl⟩:=src_bar (aks:=aks ++ [srcA L nd ix I asked stop (a i)]) (asked:=asked) (stop:=stop) (ix:=ix) hR hf hI ha hp hbk;have hT:TaskM col w Y.gt (srcT L nd ix I asked stop) Y.X:=h.t;have hTk:TOk (srcT L nd ix I asked stop).T:=TOk.zero;have hw:=workS_bar hT hk0 src_room ha hTk (by show 0<=1000000;omega) (by show 0<=900000;omega) (fun o ho=>by have:=src_outs ho;omega) cs (rs_co hcs) hu hi hix;rw [show (srcT L nd ix I asked stop).asked=asked from rfl,<- hS2] at hw;have h9:=rworkD_any h (by show aks.length<=10000;omega) cs hcs S2 true [srcA L nd ix I asked stop (a i)] (by simp) hok _ (spU_xd hcs) _ (hw.mono workS_one)
 exact h9.mono fun e w' h=>by
  have h8:=h;rw [show tellR ⟨{ S2 with out:=[] },(srcRg L nd ix I asked stop aks).fs,(srcRg L nd ix I asked stop aks).ds,(srcRg L nd ix I asked stop aks).acks ++ [srcA L nd ix I asked stop (a i)],(srcRg L nd ix I asked stop aks).ix⟩ S2.out=_ from htl] at h8;exact h8
theorem src_idle (hR:RightG L) (hf:nd.fr=[]) (hI:I.length<=900):TellOk ⟨{ srcT L nd ix I asked stop with out:=[] },[],drsG (sendL L nd.id ix) (gOf L nd ix I) noB emptyB,aks,ix⟩ []/\tellR ⟨{ srcT L nd ix I asked stop with out:=[] },[],drsG (sendL L nd.id ix) (gOf L nd ix I) noB emptyB,aks,ix⟩ []=srcRg L nd ix I asked stop aks:=by
 obtain ⟨s,hs⟩:=nm (⟨#[0]⟩:ByteArray);have hs1:s.size=1:=(by rw [hs];rfl);have hm:Mid (srcT L nd ix I asked stop) (srcT L nd ix I asked stop) (sendL L nd.id ix) (gOf L nd ix I) noB s:=Mid.start (by show outsG _ _ _ _=_;exact outsG_none) rfl;have hins:=src_ins (L:=L) (ix:=ix) (I:=I) (asked:=asked) (stop:=stop) hf;rw [drsG_none (s:=emptyB) (s':=s)];refine ⟨tell_ok hm hins (send_inj hR nd.id ix) (by omega) (by omega) (fun j=>Nat.le_trans (gOf_le j) (by omega)) (by show 0<=1000;omega) aks ix,?_⟩;have h9:=tell_mid hm hins (send_inj hR nd.id ix) (by omega) aks ix;rw [<- src_noS s];exact h9
theorem round_no (h:RigM col w g (srcRg L nd ix I asked stop aks) Y) (hR:RightG L) (hk0:nd.kind=0) (hf:nd.fr=[]) (hI:I.length<=900) (hak:aks.length<=100) (ha:asked.b=false) (hcs:RS cs) (hu:SpU cs base gs gp P r R V a col w) {i at_:Nat} (hi:i < P) (hix:ix=(i:Int)) (hat:a i=(at_:Int)) (hx:stop=true \/ (R i).length<=at_) :
  Calls Tryz.prog 13 #[.pointer (some ⟨g,0,none⟩),.pointer (some ⟨gs,0,none⟩)] w (RwOut col cs g Y.gt (srcRg L nd ix I asked stop aks) false (SpU cs base gs gp P r R V a) w):=by
 obtain ⟨hok,htl⟩:=src_idle (aks:=aks) (asked:=asked) (stop:=stop) (ix:=ix) hR hf hI;have hT:TaskM col w Y.gt (srcT L nd ix I asked stop) Y.X:=h.t
 have hrd:Calls Tryz.prog 64 #[.pointer (some ⟨Y.gt,0,none⟩),.pointer (some ⟨gs,0,none⟩)] w fun e w'=>e=.returned (.tuple #[.slice none 0 0,.bool false])/\Fr w.heap.size [] w w':=by
  cases hs:stop with
  | true=>subst hs;exact read_stop hT src_room ha rfl _
  | false =>
   subst hs
   rcases hx with hx | hx
   · cases hx
   · exact read_end hT src_room ha rfl hu.1 hi hix hat hx
 have hw:=workS_no hT hk0 cs (rs_co hcs) hu _ hrd;have h9:=rworkD_any h (by show aks.length<=10000;omega) cs hcs (srcT L nd ix I asked stop) false [] (by simp) (by rw [List.append_nil];exact hok) _ (spU_xd hcs) _ (hw.mono workS_none);rw [List.append_nil] at h9
 exact h9.mono fun e w' h=>by
  have h8:=h;rw [show tellR ⟨{ srcT L nd ix I asked stop with out:=[] },(srcRg L nd ix I asked stop aks).fs,(srcRg L nd ix I asked stop aks).ds,(srcRg L nd ix I asked stop aks).acks,(srcRg L nd ix I asked stop aks).ix⟩ (srcT L nd ix I asked stop).out=srcRg L nd ix I asked stop aks from htl] at h8;exact h8
end
end Go.Proofs.YtgblfflikgnfpaaGreat
namespace Go.Proofs.YtgblfflikgnfpaaGreat
open Go.RowKit Go.Fb
set_option maxRecDepth 100000
set_option maxHeartbeats 16000000
set_option linter.unusedVariables false
section
variable {col:Nat->Nat} {w:World} {g:Nat} {S:TaskS} {X:TX}
theorem stopped_any (h:TaskM col w g S X):Calls Tryz.prog 32 #[.pointer (some ⟨g,0,none⟩)] w fun e w'=>e=.returned (.bool S.stop)/\Fr w.heap.size [] w w':=by
 have t26:=h.st.b.cell 26;replace t26:w.cell? ⟨g,26,none⟩=some (.bool S.stop):=t26;clear h;generalize S.stop=sb at *;go_enter Tryz.func32,Tryz.ntmps32;go_wp2_with fail;go_ret;exact ⟨rfl,Fr.refl _ _ _⟩
theorem resume_any (h:TaskM col w g S X):Calls Tryz.prog 30 #[.pointer (some ⟨g,0,none⟩)] w fun e w'=>e=.returned (.tuple #[])/\TaskM col w' g { S with stop:=false } X/\Cg (· = 1) col w col w':=by
 have f26:=h.st.b.frozen 26;have t26:=h.st.b.cell 26;replace t26:w.cell? ⟨g,26,none⟩=some (.bool S.stop):=t26;have H:=zh h;clear h;go_enter Tryz.func30,Tryz.ntmps30;go_wp2_with fail;have K:Cg (· = 1) col w col (w.setCell ⟨g,26,none⟩ (.bool false)):=(Cg.refl (· = 1) col w).set (p:=⟨g,26,none⟩) H.out.st.k _;refine bodyPost_end (results_none rfl _ _ _) rfl ⟨rfl,H.out.mark _ _ K ?_,K⟩;have hb:=H.out.st.b.set_ 26 (.bool false);simpa using hb
end
section
variable {col:Nat->Nat} {w:World} {g:Nat} {Y:RX} {L:List Nd} {nd:Nd} {ix:Int} {I:List Itm} {asked:Itm} {stop:Bool} {aks:List AckS} {cs base gs gp P:Nat} {r:Nat->Int} {R:Nat->List (Nat->Int)} {V:Nat->Value} {a:Nat->Int}
def AtTask (col:Nat->Nat) (g:Nat) (R2:RigS) (Y:RX) (U:(Nat->Nat)->World->Prop) (v:Value) (w:World) (e:Ending) (w':World):Prop :=
 e=.returned v/\RigM col w' g R2 Y/\U col w'/\Cg (· = 1) col w col w'
theorem rs_one (hcs:RS cs):cs ≠ 1:=fun e=>hcs (.inl (.inl (by unfold TC;omega)))
theorem at_task (h:RigM col w g (srcRg L nd ix I asked stop aks) Y) (hcs:RS cs) (hu:SpU cs base gs gp P r R V a col w) {w':World} {asked':Itm} {stop':Bool} (k:Cg (· = 1) col w col w') (ht:TaskM col w' Y.gt (srcT L nd ix I asked' stop') Y.X):RigM col w' g (srcRg L nd ix I asked' stop' aks) Y/\SpU cs base gs gp P r R V a col w' :=
 ⟨h.setT k (fun c hc=>.inl (by unfold TC;omega)) ht,hu.1.cg hu.2 k (rs_one hcs)⟩
theorem rask_yes (h:RigM col w g (srcRg L nd ix I asked stop aks) Y) (hcs:RS cs) (hu:SpU cs base gs gp P r R V a col w) (hk0:nd.kind=0) (ha:asked.b=false) (hs:stop=false) (ep:Int) (p:Bool) (h0:0<=ep) (h1:ep<=2147483647) :
  Calls Tryz.prog 31 #[.pointer (some ⟨Y.gt,0,none⟩),.int .i64 ep,.bool p] w (AtTask col g (srcRg L nd ix I ⟨true,0,0,0,ep,p⟩ stop aks) Y (SpU cs base gs gp P r R V a) (.int .i64 0) w):=by
 have hT:TaskM col w Y.gt (srcT L nd ix I asked stop) Y.X:=h.t
 have hv:askE (srcT L nd ix I asked stop) ep=0:=by
  unfold askE;rw [if_neg (by show ¬ (nd.kind ≠ 0 \/ ep < 0 \/ 2147483647 < ep);omega),if_neg (by show ¬ (asked.b=true \/ stop=true);rw [ha,hs];simp)]
 refine (ask_any hT ep p).mono ?_;rintro e w' ⟨rfl,ht,k⟩;rw [hv]
 have e2:(srcT L nd ix I asked stop).ask ep p=srcT L nd ix I ⟨true,0,0,0,ep,p⟩ stop:=by
  unfold TaskS.ask;rw [if_pos hv];rfl
 rw [e2] at ht;have:=at_task h hcs hu k ht;exact ⟨rfl,this.1,this.2,k⟩
theorem rask_no (h:RigM col w g (srcRg L nd ix I asked stop aks) Y) (hcs:RS cs) (hu:SpU cs base gs gp P r R V a col w) (hk0:nd.kind=0) (ha:asked.b=true \/ stop=true) (ep:Int) (p:Bool) (h0:0<=ep) (h1:ep<=2147483647) :
  Calls Tryz.prog 31 #[.pointer (some ⟨Y.gt,0,none⟩),.int .i64 ep,.bool p] w (AtTask col g (srcRg L nd ix I asked stop aks) Y (SpU cs base gs gp P r R V a) (.int .i64 14) w):=by
 have hT:TaskM col w Y.gt (srcT L nd ix I asked stop) Y.X:=h.t
 have hv:askE (srcT L nd ix I asked stop) ep=14:=by
  unfold askE;rw [if_neg (by show ¬ (nd.kind ≠ 0 \/ ep < 0 \/ 2147483647 < ep);omega),if_pos (by exact ha)]
 refine (ask_any hT ep p).mono ?_;rintro e w' ⟨rfl,ht,k⟩;rw [hv]
 have e2:(srcT L nd ix I asked stop).ask ep p=srcT L nd ix I asked stop:=by
  unfold TaskS.ask;rw [if_neg (by rw [hv];decide)]
 rw [e2] at ht;have:=at_task h hcs hu k ht;exact ⟨rfl,this.1,this.2,k⟩
theorem rstop_any (h:RigM col w g (srcRg L nd ix I asked stop aks) Y):Calls Tryz.prog 32 #[.pointer (some ⟨Y.gt,0,none⟩)] w fun e w'=>e=.returned (.bool stop)/\Fr w.heap.size [] w w':=stopped_any h.t
theorem rresume_any (h:RigM col w g (srcRg L nd ix I asked stop aks) Y) (hcs:RS cs) (hu:SpU cs base gs gp P r R V a col w) :
  Calls Tryz.prog 30 #[.pointer (some ⟨Y.gt,0,none⟩)] w (AtTask col g (srcRg L nd ix I asked false aks) Y (SpU cs base gs gp P r R V a) (.tuple #[]) w):=by
 have hT:TaskM col w Y.gt (srcT L nd ix I asked stop) Y.X:=h.t;refine (resume_any hT).mono ?_;rintro e w' ⟨rfl,ht,k⟩;have:=at_task h hcs hu k ht;exact ⟨rfl,this.1,this.2,k⟩
end
end Go.Proofs.YtgblfflikgnfpaaGreat
namespace Go.Proofs.YtgblfflikgnfpaaGreat
open Go.RowKit Go.Fb
set_option maxRecDepth 100000
set_option maxHeartbeats 16000000
set_option linter.unusedVariables false
structure RdX where
 (w:World) (gq:Nat) (tk ak:Int) (plan:Bool) (g gt:Nat) (L:List Nd) (nd:Nd) (i gs gp P base:Nat) (r:Nat->Int) (R:Nat->List (Nat->Int)) (V:Nat->Value)
def RdX.S (Z:RdX) (I:List Itm) (asked:Itm) (stop:Bool) (aks:List AckS) (a:Nat->Int) (wx:World):Prop :=
 ∃ Y col,Y.gt=Z.gt/\RigM col wx Z.g (srcRg Z.L Z.nd (Z.i:Int) I asked stop aks) Y/\SpU 3000 Z.base Z.gs Z.gp Z.P Z.r Z.R Z.V a col wx/\CB col 4000 wx Z.gq 112 #[.int .u8 Z.tk,.int .u8 Z.ak,.bool Z.plan]/\Cg (· ≠ 5000) (fun _=>5000) Z.w col wx
structure RdX.Ok (Z:RdX):Prop where
 hR:RightG Z.L
 hk:Z.nd.kind=0
 hf:Z.nd.fr=[]
 hi:Z.i < Z.P
 hl:(Z.R Z.i).length<=400
 hx:∀ x ∈ Z.R Z.i,recB (x 0) (x 1) (x 2)=true
theorem rs3000:RS 3000:=by unfold RS XD RC TC;omega
theorem xd4000:¬ (XD 4000 \/ (4000:Nat)=3000):=by unfold XD RC TC;omega
theorem xd5000 {c:Nat} (h:XD c \/ c=3000):c ≠ 5000:=by unfold XD RC TC at h;omega
section
variable {Z:RdX} {I:List Itm} {asked:Itm} {stop:Bool} {aks:List AckS} {a:Nat->Int} {wx:World}
theorem RdX.S.out {I2:List Itm} {asked2:Itm} {stop2 did:Bool} {aks2:List AckS} {a2:Nat->Int} {col:Nat->Nat} {gt:Nat} (hgt:gt=Z.gt) (hq:CB col 4000 wx Z.gq 112 #[.int .u8 Z.tk,.int .u8 Z.ak,.bool Z.plan]) (hf:Cg (· ≠ 5000) (fun _=>5000) Z.w col wx) (e:Ending) (w':World) (h:RwOut col 3000 Z.g gt (srcRg Z.L Z.nd (Z.i:Int) I2 asked2 stop2 aks2) did (SpU 3000 Z.base Z.gs Z.gp Z.P Z.r Z.R Z.V a2) wx e w'):e=.returned (.bool did)/\Z.S I2 asked2 stop2 aks2 a2 w':=by
 obtain ⟨Y',col',he,hg2,hrm,hu,hc⟩:=h;exact ⟨he,Y',col',hg2.trans hgt,hrm,hu,hq.cg hc xd4000,hf.trans (hc.mono (fun c h=>xd5000 h))⟩
theorem RdX.S.fr0 (h:Z.S I asked stop aks a wx) {w':World} (k:Fr wx.heap.size [] wx w'):Z.S I asked stop aks a w':=by
 obtain ⟨Y,col,h1,h2,h3,h4,h5⟩:=h;exact ⟨Y,col,h1,h2.fr0 k,h3.fr0 k,h4.cg (cg0 k) (fun h=>h),h5.trans (cgf _ k)⟩
theorem RdX.S.frame (h:Z.S I asked stop aks a wx):Fr Z.w.heap.size [] Z.w wx:=by
 obtain ⟨Y,col,h1,h2,h3,h4,h5⟩:=h;exact h5.fr (Nat.le_refl _) (fun q _ hq=>hq rfl)
theorem RdX.S.rec (h:Z.S I asked stop aks a wx) (ok:Z.Ok) (hI:I.length<=900) (hak:aks.length<=100) (ha:asked.b=false) (hs:stop=false) {k:Nat} (hat:a Z.i=(k:Int)) {x:Nat->Int} (hx:(Z.R Z.i)[k]?=some x) :
  Calls Tryz.prog 13 #[.pointer (some ⟨Z.g,0,none⟩),.pointer (some ⟨Z.gs,0,none⟩)] wx fun e w'=>e=.returned (.bool true)/\Z.S (I ++ [recI x]) asked stop aks (updA a Z.i ((k:Int)+1)) w':=by
 obtain ⟨Y,col,h1,h2,h3,h4,h5⟩:=h;exact (round_rec h2 ok.hR ok.hk ok.hf hI hak ha hs rs3000 h3 ok.hi rfl hat ok.hl hx (ok.hx x (List.mem_of_getElem? hx))).mono (RdX.S.out h1 h4 h5)
theorem RdX.S.bar (h:Z.S I asked stop aks a wx) (ok:Z.Ok) (hI:I.length<=900) (hak:aks.length<=100) (ha:asked.b=true) (hp:asked.put.isSome=true) (hbk:asked.back=asked) :
  Calls Tryz.prog 13 #[.pointer (some ⟨Z.g,0,none⟩),.pointer (some ⟨Z.gs,0,none⟩)] wx fun e w'=>e=.returned (.bool true)/\Z.S (I ++ [asked]) Itm.zero asked.p (aks ++ [srcA Z.L Z.nd (Z.i:Int) I asked stop (a Z.i)]) a w':=by
 obtain ⟨Y,col,h1,h2,h3,h4,h5⟩:=h;exact (round_bar h2 ok.hR ok.hk ok.hf hI hak ha hp hbk rs3000 h3 ok.hi rfl).mono (RdX.S.out h1 h4 h5)
theorem RdX.S.no (h:Z.S I asked stop aks a wx) (ok:Z.Ok) (hI:I.length<=900) (hak:aks.length<=100) (ha:asked.b=false) {k:Nat} (hat:a Z.i=(k:Int)) (hx:stop=true \/ (Z.R Z.i).length<=k) :
  Calls Tryz.prog 13 #[.pointer (some ⟨Z.g,0,none⟩),.pointer (some ⟨Z.gs,0,none⟩)] wx fun e w'=>e=.returned (.bool false)/\Z.S I asked stop aks a w':=by
 obtain ⟨Y,col,h1,h2,h3,h4,h5⟩:=h;exact (round_no h2 ok.hR ok.hk ok.hf hI hak ha rs3000 h3 ok.hi rfl hat hx).mono (RdX.S.out h1 h4 h5)
theorem RdX.S.task (h:Z.S I asked stop aks a wx):wx.cell? ⟨Z.g,0,none⟩=some (.pointer (some ⟨Z.gt,0,none⟩)):=by
 obtain ⟨Y,col,h1,h2,h3,h4,h5⟩:=h;rw [<- h1];exact h2.st.b.cell 0
theorem RdX.S.ask (h:Z.S I asked stop aks a wx):wx.cell? ⟨Z.gq,0,none⟩=some (.int .u8 Z.tk)/\wx.cell? ⟨Z.gq,1,none⟩=some (.int .u8 Z.ak)/\wx.cell? ⟨Z.gq,2,none⟩=some (.bool Z.plan):=by
 obtain ⟨Y,col,h1,h2,h3,h4,h5⟩:=h;exact ⟨h4.b.cell 0,h4.b.cell 1,h4.b.cell 2⟩
theorem RdX.S.tsk {asked2:Itm} {stop2:Bool} {v:Value} {Y:RX} {col:Nat->Nat} (h1:Y.gt=Z.gt) (hq:CB col 4000 wx Z.gq 112 #[.int .u8 Z.tk,.int .u8 Z.ak,.bool Z.plan]) (hf:Cg (· ≠ 5000) (fun _=>5000) Z.w col wx) (e:Ending) (w':World) (h:AtTask col Z.g (srcRg Z.L Z.nd (Z.i:Int) I asked2 stop2 aks) Y (SpU 3000 Z.base Z.gs Z.gp Z.P Z.r Z.R Z.V a) v wx e w'):e=.returned v/\Z.S I asked2 stop2 aks a w':=by
 obtain ⟨he,hrm,hu,hc⟩:=h;exact ⟨he,Y,col,h1,hrm,hu,hq.cg hc (by omega),hf.trans (hc.mono (fun c h=>by omega))⟩
theorem RdX.S.askY (h:Z.S I asked stop aks a wx) (ok:Z.Ok) (ha:asked.b=false) (hs:stop=false) (ep:Int) (p:Bool) (h0:0<=ep) (h9:ep<=2147483647) :
  Calls Tryz.prog 31 #[.pointer (some ⟨Z.gt,0,none⟩),.int .i64 ep,.bool p] wx fun e w'=>e=.returned (.int .i64 0)/\Z.S I ⟨true,0,0,0,ep,p⟩ stop aks a w':=by
 obtain ⟨Y,col,h1,h2,h3,h4,h5⟩:=h;rw [<- h1];exact (rask_yes h2 rs3000 h3 ok.hk ha hs ep p h0 h9).mono (RdX.S.tsk h1 h4 h5)
theorem RdX.S.askN (h:Z.S I asked stop aks a wx) (ok:Z.Ok) (ha:asked.b=true \/ stop=true) (ep:Int) (p:Bool) (h0:0<=ep) (h9:ep<=2147483647) :
  Calls Tryz.prog 31 #[.pointer (some ⟨Z.gt,0,none⟩),.int .i64 ep,.bool p] wx fun e w'=>e=.returned (.int .i64 14)/\Z.S I asked stop aks a w':=by
 obtain ⟨Y,col,h1,h2,h3,h4,h5⟩:=h;rw [<- h1];exact (rask_no h2 rs3000 h3 ok.hk ha ep p h0 h9).mono (RdX.S.tsk h1 h4 h5)
theorem RdX.S.stopped (h:Z.S I asked stop aks a wx):Calls Tryz.prog 32 #[.pointer (some ⟨Z.gt,0,none⟩)] wx fun e w'=>e=.returned (.bool stop)/\Z.S I asked stop aks a w':=by
 have h0:=h;obtain ⟨Y,col,h1,h2,h3,h4,h5⟩:=h;rw [<- h1];refine (rstop_any h2).mono ?_;rintro e w' ⟨rfl,hf⟩;exact ⟨rfl,h0.fr0 hf⟩
theorem RdX.S.resume (h:Z.S I asked stop aks a wx):Calls Tryz.prog 30 #[.pointer (some ⟨Z.gt,0,none⟩)] wx fun e w'=>e=.returned (.tuple #[])/\Z.S I asked false aks a w':=by
 obtain ⟨Y,col,h1,h2,h3,h4,h5⟩:=h;rw [<- h1];exact (rresume_any h2 rs3000 h3).mono (RdX.S.tsk h1 h4 h5)
theorem RdX.S.ack1 {k:AckS} (h:Z.S I asked stop [k] a wx):∃ b off c,wx.cell? ⟨Z.g,3,none⟩=some (.slice (some ⟨b,off,none⟩) 1 c)/\wx.cell? ⟨b,off+2,none⟩=some (.int .i64 k.ep)/\wx.cell? ⟨b,off+5,none⟩=some (.int .i64 k.off):=by
 obtain ⟨Y,col,h1,h2,h3,h4,h5⟩:=h;have h6:=h2.st.b.cell 3;replace h6:wx.cell? ⟨Z.g,3,none⟩=some (.slice Y.aA 1 Y.ac):=h6;have h7:=h2.al;replace h7:Y.aks.map (·.a)=[k]:=h7
 obtain ⟨x,hx,hk⟩:∃ x,Y.aks=[x]/\x.a=k:=by
  match hy:Y.aks,h7 with
  | [x],h7=>exact ⟨x,rfl,by simpa using h7⟩
 have h8:=h2.ar.rd;obtain ⟨b,off,hA,_,_,hc⟩:=Reads.elem ackF_len h8.1 (by rw [hx];rfl:Y.aks[0]?=some x) (by omega);refine ⟨b,off,Y.ac,?_,?_,?_⟩
 · rw [h6,hA]
 · have:=hc 2 _ rfl;rw [<- hk];simpa using this
 · have:=hc 5 _ rfl;rw [<- hk];simpa using this
theorem RdX.S.lens (h:Z.S I asked stop aks a wx):Calls Tryz.prog 27 #[.pointer (some ⟨Z.gs,0,none⟩)] wx (LensOut Z.P Z.R wx):=by
 obtain ⟨Y,col,h1,h2,h3,h4,h5⟩:=h;exact lens_any h3.1
theorem RdX.S.between (h:Z.S I asked stop aks a wx) (hl:(flatR Z.R Z.P).length<=1000) (AL:Option Addr) (cL B:Nat) (hr:Reads wx B 1 AL Z.P (lensL Z.R Z.P)) (hB:B<=wx.heap.size) :
  Calls Tryz.prog 39 #[.pointer (some ⟨Z.gs,0,none⟩),.slice none 0 0,.slice AL Z.P cL] wx (AllOut Z.P Z.R wx):=by
 obtain ⟨Y,col,h1,h2,h3,h4,h5⟩:=h;exact betweenall_any h3.1 hl AL cL B hr hB
theorem RdX.S.drains (h:Z.S I asked stop aks a wx):∃ dA dc,∃ gd:List Nat,wx.cell? ⟨Z.g,2,none⟩=some (.slice dA (sendL Z.L Z.nd.id (Z.i:Int)).length dc)/\gd.length=(sendL Z.L Z.nd.id (Z.i:Int)).length/\Reads wx wx.heap.size 1 dA (sendL Z.L Z.nd.id (Z.i:Int)).length (gd.flatMap ptrF) /\ ∀ (j gk:Nat) (m:Chn),gd[j]?=some gk->(sendL Z.L Z.nd.id (Z.i:Int))[j]?=some m->∃ gi A c,Blk wx gk 117 #[.pointer (some ⟨gi,0,none⟩),.int .i64 m.1,.int .i64 m.2.1,.slice A (gOf Z.L Z.nd (Z.i:Int) I j).length c]/\Reads wx wx.heap.size 6 A (gOf Z.L Z.nd (Z.i:Int) I j).length (itmsC (gOf Z.L Z.nd (Z.i:Int) I j)):=by
 obtain ⟨Y,col,h1,h2,h3,h4,h5⟩:=h;have h6:=h2.st.b.cell 2;replace h6:wx.cell? ⟨Z.g,2,none⟩=some (.slice Y.dA (drsG (sendL Z.L Z.nd.id (Z.i:Int)) (gOf Z.L Z.nd (Z.i:Int) I) noB emptyB).length Y.dc):=h6;have h7:=h2.dl;replace h7:Y.gd.length=(drsG (sendL Z.L Z.nd.id (Z.i:Int)) (gOf Z.L Z.nd (Z.i:Int) I) noB emptyB).length:=h7;have h8:=h2.dr.1;replace h8:Reads wx wx.heap.size 1 Y.dA (drsG (sendL Z.L Z.nd.id (Z.i:Int)) (gOf Z.L Z.nd (Z.i:Int) I) noB emptyB).length (Y.gd.flatMap ptrF):=h8;rw [drsG_len] at h6 h7 h8;refine ⟨Y.dA,Y.dc,Y.gd,h6,h7,h8,fun j gk m hg hm => ?_⟩;obtain ⟨gi,A,c,k1,k2,k3⟩:=h2.dm j gk (drJ m (gOf Z.L Z.nd (Z.i:Int) I j) false emptyB) hg (by show (drsG _ _ _ _)[j]?=_;rw [drsG_get,hm];rfl);exact ⟨gi,A,c,k1.b,k2.rd.1⟩
end
end Go.Proofs.YtgblfflikgnfpaaGreat
namespace Go.Proofs.YtgblfflikgnfpaaGreat
open Go.RowKit Go.Fb
set_option maxRecDepth 100000
set_option maxHeartbeats 16000000
set_option linter.unusedVariables false
def evA (l:List (Nat->Int)) (k:Nat):List Itm:=(l.take k).map recI
def evB (l:List (Nat->Int)) (cut:Nat) (bar:Itm) (k:Nat):List Itm:=evA l cut ++ [bar] ++ ((l.take k).drop cut).map recI
def evI (l:List (Nat->Int)) (cut:Nat) (bar:Itm) (k:Nat):List Itm:=if k<=cut then evA l k else evB l cut bar k
theorem evA_next {l:List (Nat->Int)} {k:Nat} {x:Nat->Int} (h:l[k]?=some x):evA l (k+1)=evA l k ++ [recI x]:=by
 unfold evA;rw [List.take_add_one,h];simp
theorem evA_len (l:List (Nat->Int)) (k:Nat):(evA l k).length<=l.length:=by
 unfold evA;rw [List.length_map,List.length_take];omega
theorem evB_cut (l:List (Nat->Int)) (cut:Nat) (bar:Itm):evB l cut bar cut=evA l cut ++ [bar]:=by
 unfold evB;rw [List.drop_eq_nil_of_le (by rw [List.length_take];omega)];simp
theorem drop_next {l:List (Nat->Int)} {cut k:Nat} (hc:cut<=k) (hl:cut<=l.length):(l.take (k+1)).drop cut=(l.take k).drop cut ++ l[k]?.toList:=by
 rw [List.take_add_one,List.drop_append_of_le_length (by rw [List.length_take];omega)]
theorem evB_next {l:List (Nat->Int)} {cut:Nat} {bar:Itm} {k:Nat} {x:Nat->Int} (hc:cut<=k) (h:l[k]?=some x):evB l cut bar (k+1)=evB l cut bar k ++ [recI x]:=by
 have hk:=(List.getElem?_eq_some_iff.1 h).1;unfold evB;rw [drop_next hc (by omega),h];simp
theorem evB_len (l:List (Nat->Int)) (cut:Nat) (bar:Itm) (k:Nat):(evB l cut bar k).length<=2 * l.length+1:=by
 unfold evB;have:=evA_len l cut;simp only [List.length_append,List.length_map,List.length_drop,List.length_take,List.length_singleton];omega
theorem evI_next {l:List (Nat->Int)} {cut:Nat} {bar:Itm} {k:Nat} (hl:cut<=l.length):evI l cut bar (k+1)=evI l cut bar k ++ ((if k=cut then [bar] else []) ++ l[k]?.toList.map recI):=by
 unfold evI
 rcases Nat.lt_trichotomy k cut with h | h | h
 · obtain ⟨x,hx⟩:∃ x,l[k]?=some x:=⟨_,List.getElem?_eq_getElem (by omega)⟩;rw [if_pos (by omega),if_pos (by omega),if_neg (by omega),evA_next hx,hx];rfl
 · subst h;rw [if_neg (by omega),if_pos (by omega),if_pos rfl];unfold evB;rw [drop_next (Nat.le_refl _) hl,List.drop_eq_nil_of_le (by rw [List.length_take];omega)];simp
 · rw [if_neg (by omega),if_neg (by omega),if_neg (by omega)];unfold evB;rw [drop_next (by omega) hl];simp
theorem evI_end {l:List (Nat->Int)} {cut:Nat} {bar:Itm} (hl:cut<=l.length):evI l cut bar (l.length+1)=evB l cut bar l.length:=by
 unfold evI;rw [if_neg (by omega)];unfold evB;rw [List.take_of_length_le (by omega),List.take_of_length_le (by omega)]
def wantL (ks:List Nd) (om:List Chn) (j:Nat) (l:List (Nat->Int)) (cut:Nat) (bar:Itm) (k:Nat):List Itm:=(evI l cut bar k).filter (selI ks om j)
theorem wantL_0 (ks:List Nd) (om:List Chn) (j:Nat) (l:List (Nat->Int)) (cut:Nat) (bar:Itm):wantL ks om j l cut bar 0=[]:=by
 unfold wantL evI evA;rw [if_pos (by omega)];rfl
theorem wantL_next {ks:List Nd} {om:List Chn} {j:Nat} {l:List (Nat->Int)} {cut:Nat} {bar:Itm} {k:Nat} (hl:cut<=l.length) (hb:bar.b=true):wantL ks om j l cut bar (k+1)=wantL ks om j l cut bar k ++ ((if k=cut then [bar] else []) ++ (match l[k]? with | none=>[] | some x=>if selK ks om (x 0) j then [recI x] else [])):=by
 unfold wantL;rw [evI_next hl,List.filter_append,List.filter_append]
 have e1:(if k=cut then [bar] else []).filter (selI ks om j)=if k=cut then [bar] else []:=by
  split
  · simp [selI,hb]
  · rfl
 have e2:(l[k]?.toList.map recI).filter (selI ks om j)=match l[k]? with | none=>[] | some x=>if selK ks om (x 0) j then [recI x] else []:=by
  cases l[k]? with
  | none=>rfl
  | some x =>
   show ([recI x].filter (selI ks om j))=if selK ks om (x 0) j then [recI x] else []
   have e:selI ks om j (recI x)=selK ks om (x 0) j:=rfl
   cases hq:selK ks om (x 0) j with
   | false=>simp [e,hq]
   | true=>simp [e,hq]
 rw [e1,e2]
theorem wantL_len (ks:List Nd) (om:List Chn) (j:Nat) (l:List (Nat->Int)) (cut:Nat) (bar:Itm) (k:Nat):(wantL ks om j l cut bar k).length<=2 * l.length+1:=by
 refine Nat.le_trans (List.length_filter_le _ _) ?_;unfold evI
 split
 · have:=evA_len l k;omega
 · exact evB_len l cut bar k
theorem wantL_end {L:List Nd} {nd:Nd} {ix:Int} {j:Nat} {l:List (Nat->Int)} {cut:Nat} {bar:Itm} (hl:cut<=l.length):wantL (kidsL L nd.id) (sendL L nd.id ix) j l cut bar (l.length+1)=gOf L nd ix (evB l cut bar l.length) j:=by
 unfold wantL gOf;rw [evI_end hl]
theorem flatR_split (R:Nat->List (Nat->Int)) {i:Nat}:∀ {P:Nat},i < P->∃ t,flatR R P=flatR R i ++ (R i ++ t)
 | 0,h=>by omega
 | P+1,h=>by
  rw [flatR_succ]
  by_cases e:i=P
  · subst e;exact ⟨[],by simp⟩
  · obtain ⟨t,ht⟩:=flatR_split R (show i < P by omega);exact ⟨t ++ R P,by rw [ht];simp⟩
theorem goodN_all:∀ (l:List (Nat->Int)),∀ x ∈ l.take (goodN l),recB (x 0) (x 1) (x 2)=true
 | [],x,h=>by simp at h
 | y :: l,x,h=>by
  unfold goodN at h
  split at h
  ·
   rename_i hy;rw [List.take_succ_cons] at h
   rcases List.mem_cons.1 h with rfl | h
   · exact hy
   · exact goodN_all l x h
  · simp at h
theorem src_node {L:List Nd} (hR:RightG L):∃ nd,findN L 0=some nd/\nd.kind=0/\nd.fr=[]/\right8 nd.par nd.rt=true/\1<=nd.par/\nd.par<=3:=by
 obtain ⟨nd,hf⟩:=findN_ids.2 hR.zero;have h1:=nodeB_iff.1 (hR.each nd (findN_mem hf));have hk:=(kindB_zero h1.2.2.1).1 (findN_id hf);have hp:=right8_par h1.2.2.2.1;refine ⟨nd,hf,hk,?_,h1.2.2.2.1,hp.1,hp.2⟩;have h2:=h1.2.2.1;unfold kindB at h2;rw [hk] at h2;simp at h2;exact h2.2.1
theorem Sp.up {base base' gs gp P:Nat} {r:Nat->Int} {a:Nat->Int} {w:World} (h:Sp base gs gp P r noR noV a w):Sp base' gs gp P r noR noV a w :=
 ⟨h.pos,h.st,h.pt,fun i hi=>World.ownsRow_nil _ _ _ _,h.sep⟩
theorem rd_made (col:Nat->Nat) (wx:World) (A:Option Addr) (n c:Nat) (M:List Ndm) (nd:Nd) (hN:Nds wx wx.heap.size A n M) (hs:Small M) (hR:RightG (fstN M)) (hf:findN (fstN M) 0=some nd) (hfr:nd.fr=[]) (i:Nat) (hi:(i:Int) < nd.par) (hz:∀ q,¬ RC (col q)) :
  Calls Tryz.prog 9 #[.slice A n c,.int .i64 0,.int .i64 (i:Int),.slice none 0 0] wx fun e w'=>∃ g Y col',e=.returned (.pointer (some ⟨g,0,none⟩))/\RigM col' w' g (srcRg (fstN M) nd (i:Int) [] Itm.zero false []) Y/\Cg RC col wx col' w':=by
 have h9:=made_any1 col wx A none n c 0 M 0 (i:Int) nd [] hN hs hR hf (by omega) hi (by simp) rfl Reads.none_ (fun q _=>hz q);rw [src_start hR hfr] at h9;exact h9
theorem rd_append {w wx:World} {col:Nat->Nat} {gq g gs gp P base i:Nat} {tk ak:Int} {plan:Bool} {Y:RX} {L:List Nd} {nd:Nd} {r:Nat->Int} (hq:CB col 4000 wx gq 112 #[.int .u8 tk,.int .u8 ak,.bool plan]) (hrm:RigM col wx g (srcRg L nd (i:Int) [] Itm.zero false []) Y) (hsp:Sp base gs gp P r noR noV noA wx) (hsc:SpC col 3000 gs gp P noV) (hf:Cg (· ≠ 5000) (fun _=>5000) w col wx) (hrt:right8 P r=true) (xs:List (Nat->Int)) (rA:Option Addr) (rc:Nat) (hx:xs.length<=399) (hr:Reads w w.heap.size 3 rA xs.length (cellsR xs)) (hgp:w.heap.size<=gp) :
  Calls Tryz.prog 24 #[.pointer (some ⟨gs,0,none⟩),.slice rA xs.length rc] wx fun e w'=>∃ v1 v2 V,e=.returned (.tuple #[.int .i64 v1,.int .i64 v2])/\RdX.S ⟨w,gq,tk,ak,plan,g,Y.gt,L,nd,i,gs,gp,P,wx.heap.size,r,addR r noR (xs.take (goodN xs)),V⟩ [] Itm.zero false [] noA w':=by
 have hfr:Fr w.heap.size [] w wx:=hf.fr (Nat.le_refl _) (fun q _ hq=>hq rfl);refine (append_any (hsp.up (base':=wx.heap.size)) (Nat.le_refl _) hrt xs rA rc w.heap.size (fun i _=>by show ([]:List (Nat->Int)).length+xs.length<=399;simp only [List.length_nil];omega) (hr.fr hfr (Nat.le_refl _) (by simp)) hf.size hgp).mono ?_;rintro e w' ⟨V,rfl,hsp',hfw⟩;have hc:Cg (· = 3000) col wx (paint col wx.heap.size 3000) w':=Cg.of_fr_new hfw (by intro q hq;simp at hq;subst hq;exact hsc.2.1) 3000;refine ⟨_,_,V,rfl,Y,paint col wx.heap.size 3000,rfl,hrm.cg hc (fun c hc=>by unfold RC TC at hc;omega),⟨hsp',?_,?_,fun j hj q hq => ?_⟩,hq.cg hc (by omega),hf.trans (hc.mono (fun c h=>by omega))⟩
 · rw [paint_lt hsp.st.lt];exact hsc.1
 · rw [paint_lt hsp.pt.lt];exact hsc.2.1
 · exact paint_ge ((hsp'.own j hj).lt q hq).1
theorem flatR_few {R:Nat->List (Nat->Int)} {m:Nat} (h:∀ i,(R i).length<=m):∀ P,(flatR R P).length<=P * m
 | 0=>by simp [flatR]
 | P+1=>by
  rw [flatR_succ,List.length_append,Nat.add_mul];have:=flatR_few h P;have:=h P;omega
theorem noR_few {r:Nat->Int} {xs:List (Nat->Int)} (h:xs.length<=60) (i:Nat):(addR r noR (xs.take (goodN xs)) i).length<=60:=by
 have h1:=addR_le r noR (xs.take (goodN xs)) i;rw [List.length_take] at h1;simp only [noR,List.length_nil] at h1;omega
theorem noR_good {r:Nat->Int} {xs:List (Nat->Int)} (i:Nat):∀ x ∈ addR r noR (xs.take (goodN xs)) i,recB (x 0) (x 1) (x 2)=true:=by
 intro x hx;unfold addR noR at hx;rw [List.nil_append] at hx;exact goodN_all xs x (List.mem_filter.1 hx).1
structure RdX.Law (Z:RdX) (w:World) (plan:Bool) (ak:Int) (L:List Nd):Prop where
 w:Z.w=w
 plan:Z.plan=plan
 ak:Z.ak=ak
 L:Z.L=L
 ok:Z.Ok
 few:∀ i,(Z.R i).length<=60
 P:1<=Z.P/\Z.P<=3
theorem RdX.Law.flat {Z:RdX} {w:World} {plan:Bool} {ak:Int} {L:List Nd} (h:Z.Law w plan ak L):(flatR Z.R Z.P).length<=1000:=by
 have h1:=flatR_few h.few Z.P;have h2:=h.P.2;have h3:Z.P * 60<=3 * 60:=Nat.mul_le_mul h2 (Nat.le_refl _);omega
theorem rd_law {w wx:World} {col:Nat->Nat} {gq g gs gp P base i:Nat} {tk ak:Int} {plan:Bool} {Y:RX} {L:List Nd} {nd:Nd} (hq:CB col 4000 wx gq 112 #[.int .u8 tk,.int .u8 ak,.bool plan]) (hrm:RigM col wx g (srcRg L nd (i:Int) [] Itm.zero false []) Y) (hsp:Sp base gs gp P nd.rt noR noV noA wx) (hsc:SpC col 3000 gs gp P noV) (hf:Cg (· ≠ 5000) (fun _=>5000) w col wx) (hrt:right8 nd.par nd.rt=true) (hP:nd.par=(P:Int)) (xs:List (Nat->Int)) (rA:Option Addr) (rc:Nat) (hx:xs.length<=60) (hr:Reads w w.heap.size 3 rA xs.length (cellsR xs)) (hgp:w.heap.size<=gp) (hR:RightG L) (hk:nd.kind=0) (hfr:nd.fr=[]) (hi:i < P) :
  Calls Tryz.prog 24 #[.pointer (some ⟨gs,0,none⟩),.slice rA xs.length rc] wx fun e w'=>∃ v1 v2,∃ Z:RdX,e=.returned (.tuple #[.int .i64 v1,.int .i64 v2])/\Z.g=g/\Z.gs=gs/\Z.gq=gq/\Z.i=i/\RdX.Law Z w plan ak L/\Z.S [] Itm.zero false [] noA w':=by
 rw [hP] at hrt;refine (rd_append hq hrm hsp hsc hf hrt xs rA rc (by omega) hr hgp).mono ?_;rintro e w' ⟨v1,v2,V,he,hS⟩;exact ⟨v1,v2,_,he,rfl,rfl,rfl,rfl,⟨rfl,rfl,rfl,rfl,⟨hR,hk,hfr,hi,Nat.le_trans (noR_few hx i) (by omega),noR_good i⟩,noR_few hx,hsp.pos⟩,hS⟩
end Go.Proofs.YtgblfflikgnfpaaGreat
namespace Go.Proofs.YtgblfflikgnfpaaGreat
open Go.RowKit Go.Fb
set_option maxRecDepth 100000
set_option maxHeartbeats 16000000
set_option linter.unusedVariables false
def RdX.T (Z:RdX) (I:List Itm) (asked:Itm) (stop:Bool) (aks:List AckS) (k:Nat) (wx:World):Prop:=∃ a:Nat->Int,a Z.i=(k:Int)/\Z.S I asked stop aks a wx
def RdX.O (Z:RdX) (v:Value) (I:List Itm) (asked:Itm) (stop:Bool) (aks:List AckS) (k:Nat) (e:Ending) (w':World):Prop:=e=.returned v/\Z.T I asked stop aks k w'
def RdX.l (Z:RdX):List (Nat->Int):=Z.R Z.i
def RdX.bar (Z:RdX):Itm:=⟨true,0,0,0,7,Z.plan⟩
def RdX.ackC (Z:RdX) (cut:Nat):AckS:=srcA Z.L Z.nd (Z.i:Int) (evA Z.l cut) Z.bar false (cut:Int)
section
variable {Z:RdX} {I:List Itm} {asked:Itm} {stop:Bool} {aks:List AckS} {k cut:Nat} {wx:World} {w:World} {plan:Bool} {ak:Int} {L:List Nd}
theorem RdX.T.cells (h:Z.T I asked stop aks k wx):wx.cell? ⟨Z.g,0,none⟩=some (.pointer (some ⟨Z.gt,0,none⟩))/\wx.cell? ⟨Z.gq,2,none⟩=some (.bool Z.plan):=by
 obtain ⟨a,_,hs⟩:=h;exact ⟨hs.task,hs.ask.2.2⟩
theorem RdX.T.cell1 (h:Z.T I asked stop aks k wx):wx.cell? ⟨Z.gq,1,none⟩=some (.int .u8 Z.ak):=by
 obtain ⟨a,_,hs⟩:=h;exact hs.ask.2.1
theorem RdX.T.fr0 (h:Z.T I asked stop aks k wx) {w':World} (f:Fr wx.heap.size [] wx w'):Z.T I asked stop aks k w':=by
 obtain ⟨a,h1,hs⟩:=h;exact ⟨a,h1,hs.fr0 f⟩
theorem RdX.T.frame (h:Z.T I asked stop aks k wx) (law:Z.Law w plan ak L):Fr w.heap.size [] w wx:=by
 obtain ⟨a,h1,hs⟩:=h;rw [<- law.w];exact hs.frame
theorem RdX.T.lens (h:Z.T I asked stop aks k wx):Calls Tryz.prog 27 #[.pointer (some ⟨Z.gs,0,none⟩)] wx (LensOut Z.P Z.R wx):=by
 obtain ⟨a,h1,hs⟩:=h;exact hs.lens
theorem RdX.T.between (h:Z.T I asked stop aks k wx) (law:Z.Law w plan ak L) (AL:Option Addr) (cL B:Nat) (hr:Reads wx B 1 AL Z.P (lensL Z.R Z.P)) (hB:B<=wx.heap.size):Calls Tryz.prog 39 #[.pointer (some ⟨Z.gs,0,none⟩),.slice none 0 0,.slice AL Z.P cL] wx (AllOut Z.P Z.R wx):=by
 obtain ⟨a,h1,hs⟩:=h;exact hs.between law.flat AL cL B hr hB
theorem RdX.Law.l60 (law:Z.Law w plan ak L):Z.l.length<=60:=law.few Z.i
theorem RdX.bar_put (Z:RdX):Z.bar.put.isSome=true:=by
 show (putI true 0 0 0 7 Z.plan).isSome=true
 unfold putI;rw [if_pos rfl,if_pos (by omega)];rfl
theorem rd_start (law:Z.Law w plan ak L) (h:Z.S [] Itm.zero false [] noA wx):Z.T (evA Z.l 0) Itm.zero false [] 0 wx:=⟨noA,rfl,h⟩
theorem rd_a (law:Z.Law w plan ak L) (h:Z.T (evA Z.l k) Itm.zero false [] k wx) (hk:k < Z.l.length) :
  Calls Tryz.prog 13 #[.pointer (some ⟨Z.g,0,none⟩),.pointer (some ⟨Z.gs,0,none⟩)] wx (Z.O (.bool true) (evA Z.l (k+1)) Itm.zero false [] (k+1)):=by
 obtain ⟨a,h1,hs⟩:=h;obtain ⟨x,hx⟩:∃ x,Z.l[k]?=some x:=⟨_,List.getElem?_eq_getElem hk⟩;have hl:=law.l60;have he:=evA_len Z.l k;refine (hs.rec law.ok (by omega) (by simp) rfl rfl h1 hx).mono ?_;rintro e w' ⟨he,h2⟩;exact ⟨he,updA a Z.i ((k:Int)+1),by unfold updA;rw [if_pos rfl];omega,by rw [evA_next hx];exact h2⟩
theorem rd_ask (law:Z.Law w plan ak L) (h:Z.T I Itm.zero false aks k wx) :
  Calls Tryz.prog 31 #[.pointer (some ⟨Z.gt,0,none⟩),.int .i64 7,.bool Z.plan] wx (Z.O (.int .i64 0) I Z.bar false aks k):=by
 obtain ⟨a,h1,hs⟩:=h;refine (hs.askY law.ok rfl rfl 7 Z.plan (by omega) (by omega)).mono ?_;rintro e w' ⟨he,h2⟩;exact ⟨he,a,h1,h2⟩
theorem rd_busy (law:Z.Law w plan ak L) (h:Z.T I asked stop aks k wx) (ha:asked.b=true \/ stop=true) :
  Calls Tryz.prog 31 #[.pointer (some ⟨Z.gt,0,none⟩),.int .i64 8,.bool false] wx (Z.O (.int .i64 14) I asked stop aks k):=by
 obtain ⟨a,h1,hs⟩:=h;refine (hs.askN law.ok ha 8 false (by omega) (by omega)).mono ?_;rintro e w' ⟨he,h2⟩;exact ⟨he,a,h1,h2⟩
theorem rd_bar (law:Z.Law w plan ak L) (h:Z.T (evA Z.l cut) Z.bar false [] cut wx) :
  Calls Tryz.prog 13 #[.pointer (some ⟨Z.g,0,none⟩),.pointer (some ⟨Z.gs,0,none⟩)] wx (Z.O (.bool true) (evB Z.l cut Z.bar cut) Itm.zero Z.plan [Z.ackC cut] cut):=by
 obtain ⟨a,h1,hs⟩:=h;have hl:=law.l60;have he:=evA_len Z.l cut;refine (hs.bar law.ok (by omega) (by simp) rfl (RdX.bar_put Z) rfl).mono ?_;rintro e w' ⟨he,h2⟩;refine ⟨he,a,h1,?_⟩;rw [evB_cut];rw [h1] at h2;exact h2
theorem rd_stop (h:Z.T I asked stop aks k wx):Calls Tryz.prog 32 #[.pointer (some ⟨Z.gt,0,none⟩)] wx (Z.O (.bool stop) I asked stop aks k):=by
 obtain ⟨a,h1,hs⟩:=h;refine hs.stopped.mono ?_;rintro e w' ⟨he,h2⟩;exact ⟨he,a,h1,h2⟩
theorem rd_stands (law:Z.Law w plan ak L) (h:Z.T (evB Z.l cut Z.bar k) Itm.zero stop aks k wx) (hak:aks.length<=100) (hs:stop=true \/ Z.l.length<=k) :
  Calls Tryz.prog 13 #[.pointer (some ⟨Z.g,0,none⟩),.pointer (some ⟨Z.gs,0,none⟩)] wx (Z.O (.bool false) (evB Z.l cut Z.bar k) Itm.zero stop aks k):=by
 obtain ⟨a,h1,h2⟩:=h;have hl:=law.l60;have he:=evB_len Z.l cut Z.bar k;refine (h2.no law.ok (by omega) hak rfl h1 hs).mono ?_;rintro e w' ⟨he,h2⟩;exact ⟨he,a,h1,h2⟩
theorem rd_resume (h:Z.T I asked stop aks k wx):Calls Tryz.prog 30 #[.pointer (some ⟨Z.gt,0,none⟩)] wx (Z.O (.tuple #[]) I asked false aks k):=by
 obtain ⟨a,h1,hs⟩:=h;refine hs.resume.mono ?_;rintro e w' ⟨he,h2⟩;exact ⟨he,a,h1,h2⟩
theorem rd_b (law:Z.Law w plan ak L) (h:Z.T (evB Z.l cut Z.bar k) Itm.zero false aks k wx) (hak:aks.length<=100) (hc:cut<=k) (hk:k < Z.l.length) :
  Calls Tryz.prog 13 #[.pointer (some ⟨Z.g,0,none⟩),.pointer (some ⟨Z.gs,0,none⟩)] wx (Z.O (.bool true) (evB Z.l cut Z.bar (k+1)) Itm.zero false aks (k+1)):=by
 obtain ⟨a,h1,hs⟩:=h;obtain ⟨x,hx⟩:∃ x,Z.l[k]?=some x:=⟨_,List.getElem?_eq_getElem hk⟩;have hl:=law.l60;have he:=evB_len Z.l cut Z.bar k;refine (hs.rec law.ok (by omega) hak rfl rfl h1 hx).mono ?_;rintro e w' ⟨he,h2⟩;exact ⟨he,updA a Z.i ((k:Int)+1),by unfold updA;rw [if_pos rfl];omega,by rw [evB_next hc hx];exact h2⟩
theorem rd_acks (h:Z.T I asked stop [Z.ackC cut] k wx):∃ b off c,wx.cell? ⟨Z.g,3,none⟩=some (.slice (some ⟨b,off,none⟩) 1 c)/\wx.cell? ⟨b,off+2,none⟩=some (.int .i64 7)/\wx.cell? ⟨b,off+5,none⟩=some (.int .i64 (cut:Int)):=by
 obtain ⟨a,h1,hs⟩:=h;exact hs.ack1
def RdX.want (Z:RdX) (cut j k:Nat):List Itm:=wantL (kidsL Z.L Z.nd.id) (sendL Z.L Z.nd.id (Z.i:Int)) j Z.l cut Z.bar k
def RdX.om (Z:RdX):List Chn:=sendL Z.L Z.nd.id (Z.i:Int)
theorem rd_drains (hc:cut<=Z.l.length) (h:Z.T (evB Z.l cut Z.bar Z.l.length) asked stop aks k wx):∃ dA dc,∃ gd:List Nat,wx.cell? ⟨Z.g,2,none⟩=some (.slice dA Z.om.length dc)/\gd.length=Z.om.length/\Reads wx wx.heap.size 1 dA Z.om.length (gd.flatMap ptrF) /\ ∀ (j gk:Nat) (m:Chn),gd[j]?=some gk->Z.om[j]?=some m->∃ gi A c,Blk wx gk 117 #[.pointer (some ⟨gi,0,none⟩),.int .i64 m.1,.int .i64 m.2.1,.slice A (Z.want cut j (Z.l.length+1)).length c]/\Reads wx wx.heap.size 6 A (Z.want cut j (Z.l.length+1)).length (itmsC (Z.want cut j (Z.l.length+1))):=by
 obtain ⟨a,h1,hs⟩:=h;obtain ⟨dA,dc,gd,k1,k2,k3,k4⟩:=hs.drains;refine ⟨dA,dc,gd,k1,k2,k3,fun j gk m hg hm => ?_⟩;have:=k4 j gk m hg hm;rw [show gOf Z.L Z.nd (Z.i:Int) (evB Z.l cut Z.bar Z.l.length) j=Z.want cut j (Z.l.length+1) from (wantL_end hc).symm] at this;exact this
theorem want_0 (Z:RdX) (cut j:Nat):Z.want cut j 0=[]:=wantL_0 _ _ _ _ _ _
theorem want_next (hc:cut<=Z.l.length) (j k:Nat):Z.want cut j (k+1)=Z.want cut j k ++ ((if k=cut then [Z.bar] else []) ++ (match Z.l[k]? with | none=>[] | some x=>if selK (kidsL Z.L Z.nd.id) Z.om (x 0) j then [recI x] else [])):=wantL_next hc rfl
theorem want_len (law:Z.Law w plan ak L) (cut j k:Nat):(Z.want cut j k).length<=200:=by
 have h1:=wantL_len (kidsL Z.L Z.nd.id) (sendL Z.L Z.nd.id (Z.i:Int)) j Z.l cut Z.bar k;have h2:=law.l60;unfold RdX.want;omega
theorem want_sel (law:Z.Law w plan ak L) {j:Nat} {m:Chn} (hm:Z.om[j]?=some m):∃ n,findN L m.1=some n /\ ∀ key,selK (kidsL Z.L Z.nd.id) Z.om key j=decide (n.rt (key % 8).toNat=m.2.1):=by
 obtain ⟨n,h1,_,_,h4⟩:=sel_eq law.ok.hR hm;rw [law.L] at h1;exact ⟨n,h1,h4⟩
theorem om_few (law:Z.Law w plan ak L):Z.om.length<=24:=send_few2 law.ok.hR _ _
end
def RdX.mid (Z:RdX) (cut j k:Nat):List Itm:=Z.want cut j k ++ (if k=cut then [Z.bar] else [])
theorem mid_yes (Z:RdX) {cut j k:Nat} (h:k=cut):Z.mid cut j k=Z.want cut j k ++ [Z.bar]:=by unfold RdX.mid;rw [if_pos h]
theorem mid_no (Z:RdX) {cut j k:Nat} (h:¬ k=cut):Z.mid cut j k=Z.want cut j k:=by unfold RdX.mid;rw [if_neg h,List.append_nil]
theorem mid_end (Z:RdX) {cut j k:Nat} (hc:cut<=Z.l.length) (hk:¬ k < Z.l.length):Z.want cut j (k+1)=Z.mid cut j k:=by
 rw [want_next hc,List.getElem?_eq_none (by omega),List.append_nil];rfl
theorem mid_next (Z:RdX) {cut j k:Nat} (hc:cut<=Z.l.length) {x:Nat->Int} (hx:Z.l[k]?=some x) {b:Bool} (hb:selK (kidsL Z.L Z.nd.id) Z.om (x 0) j=b):Z.want cut j (k+1)=if b then Z.mid cut j k ++ [recI x] else Z.mid cut j k:=by
 rw [want_next hc,hx,<- List.append_assoc]
 show Z.mid cut j k ++ (if selK (kidsL Z.L Z.nd.id) Z.om (x 0) j then [recI x] else [])=_
 rw [hb]
 cases b <;> simp
theorem mid_len {Z:RdX} {w:World} {plan:Bool} {ak:Int} {L:List Nd} (law:Z.Law w plan ak L) (cut j k:Nat):(Z.mid cut j k).length<=300:=by
 have:=want_len law cut j k;unfold RdX.mid;rw [List.length_append]
 split
 · simp only [List.length_singleton];omega
 · simp only [List.length_nil];omega
theorem itmsC_snoc (l:List Itm) (i:Itm):itmsC (l ++ [i])=itmsC l ++ itF i:=by simp [itmsC]
theorem itF_ones (i:Itm):∀ u ∈ itF i,u.oneCell'=true:=by
 have:=itmsC_one [i];simpa [itmsC] using this
theorem ndA_rt (x:Nd) (sf sp:Value) {q:Nat} (hq:q < 8):(ndA x sf sp)[5+q]?=some (.int .i64 (x.rt q)):=by
 rcases (show q=0 \/ q=1 \/ q=2 \/ q=3 \/ q=4 \/ q=5 \/ q=6 \/ q=7 by omega) with rfl | rfl | rfl | rfl | rfl | rfl | rfl | rfl <;> rfl
theorem rec_key {k re im:Int} (h:recB k re im=true):∃ q:Nat,q < 8/\(k % 8).toNat=q/\k.tmod 8=(q:Int)/\IntKind.i64.wrap (k.tmod 8)=(q:Int)/\k % 8=(q:Int):=by
 unfold recB at h;simp only [Bool.and_eq_true,decide_eq_true_eq] at h;have h0:=h.1.1;have hm:k.tmod 8=k % 8:=Int.tmod_eq_emod_of_nonneg h0;refine ⟨(k % 8).toNat,by omega,rfl,by rw [hm];omega,by rw [hm,IntKind.wrap_i64];omega,by omega⟩
theorem cellsR_len:∀ l:List (Nat->Int),(cellsR l).length=l.length * 3
 | []=>rfl
 | x :: l=>by
  rw [cellsR,List.flatMap_cons,List.length_append,<- cellsR,cellsR_len l];simp [recC];omega
theorem recs_part {w:World} {B n c f mi:Nat} {A:Option Addr} {l s t:List (Nat->Int)} (h:Reads w B 3 A n (cellsR l)) (hn:n=l.length) (hc:n<=c) (hl:∃ a,l=a ++ (s ++ t)/\f=a.length) (hm:mi=s.length):Reads w B 3 (if c=f then A else A.map (·.add (f * 3))) mi (cellsR s):=by
 obtain ⟨a,hl,hf⟩:=hl;have hll:l.length=a.length+(s.length+t.length):=(by rw [hl,List.length_append,List.length_append]);refine ⟨by rw [cellsR_len,hm],fun h0 => ?_⟩;obtain ⟨b,off,e,hb,hcell⟩:=h.2 (by omega);subst e;rw [if_neg (by omega)];refine ⟨b,off+f * 3,?_,hb,fun j u hu => ?_⟩
 ·
  simp only [Option.map_some,Addr.add]
  split <;> simp_all
 ·
  have hj:j < (cellsR s).length:=(List.getElem?_eq_some_iff.1 hu).1
  have:(cellsR l)[f * 3+j]?=some u:=by
   rw [hl,cellsR_app,List.getElem?_append_right (by rw [cellsR_len];omega),cellsR_len,<- hf,Nat.add_sub_cancel_left,cellsR_app,List.getElem?_append_left hj];exact hu
  have h2:=hcell _ _ this;rw [<- Nat.add_assoc] at h2;exact h2
end Go.Proofs.YtgblfflikgnfpaaGreat
namespace Go.Proofs.YtgblfflikgnfpaaGreat
open Go.RowKit Go.Fb
set_option maxRecDepth 100000
set_option maxHeartbeats 16000000
set_option linter.unusedVariables false
section
variable {col col':Nat->Nat} {w w':World} {g:Nat} {R:RigS} {Y:RX}
theorem RigM.left (h:RigM col w g R Y) {j gj n:Nat} {F:Feed} {l:List Itm} (hg:Y.gf[j]?=some gj) (hF:R.fs[j]?=some F) (hn:n=l.length) (k:Cg (· = 201+4 * j) col w col' w') {A:Option Addr} {c:Nat} (hr:CR col' (201+4 * j) w' 46 6 (.slice A n c) n (itmsC l)) :
  RigM col' (w'.setCell ⟨gj,2,none⟩ (.slice A n c)) g { R with fs:=R.fs.set j ⟨F.o,F.fr,l⟩ } Y/\CR col' (201+4 * j) (w'.setCell ⟨gj,2,none⟩ (.slice A n c)) 46 6 (.slice A n c) n (itmsC l)/\Cg (fun q=>q=201+4 * j \/ q=200+4 * j) col w col' (w'.setCell ⟨gj,2,none⟩ (.slice A n c)):=by
 subst hn;obtain ⟨go,A0,c0,h1,h2,h3⟩:=h.fm j gj F hg hF;have hs:=h1.cg k (by omega);have K:Cg (fun q=>q=201+4 * j \/ q=200+4 * j) col w col' (w'.setCell ⟨gj,2,none⟩ (.slice A l.length c)):=(k.mono (fun _ h=>.inl h)).set (.inr hs.k) _;have k1:Cg (· = 200+4 * j) col' w' col' (w'.setCell ⟨gj,2,none⟩ (.slice A l.length c)):=(Cg.refl _ _ _).set hs.k _;refine ⟨h.setF K (fun q hq=>by omega) hg ⟨go,A,c,⟨by simpa using hs.b.set_ 2 (.slice A l.length c),hs.k⟩,hr.cg k1 (by omega),h3.cg K (by omega)⟩,hr.cg k1 (by omega),K⟩
theorem ssend_any {n:Int} {L:List (Nat->Int)} {b:Bool} {ep:Int} {p:Bool} {i:Itm} {rest:List Itm} {acks:List AckS} (h:RigM col w g (rgS n n [] [] L b ep p (i :: rest) acks) Y) (hn:0<=n/\n<=1000000) (hl:rest.length<=1000) (hs:i.put.isSome=true) :
  Calls Tryz.prog 12 #[.pointer (some ⟨g,0,none⟩),.int .i64 0] w (SentOut col g (rgS n (n+1) [putS i.put] [putS i.put] L b ep p rest acks) Y w):=by
 have hz:=put_size hs
 have:=rsend_any h 0 ⟨⟨3,1,[],n,0⟩,0,i :: rest⟩ i rest rfl rfl (by show 0 < 6;omega) hn.1 (by show n<=_;omega) (by show rest.length+1<=_;omega) hz.1
  (by
   intro s hs;simp [rgS,tkS] at hs;subst hs
   exact ⟨Nat.zero_le _,by show _<=n;omega,by show n<=_;omega⟩)
  (by simp [rgS,tkS]) ⟨3,0,1,n+1,0,putS i.put⟩ rfl ⟨3,1,[putS i.put],n+1,0⟩ rfl
 rw [sent_one hz.1] at this;exact this
theorem free_tk (n:Int) (ls:List ByteArray) (L:List (Nat->Int)) (b:Bool) (ep:Int) (p:Bool):freeAt (tkS n ls L b ep p).bs (hasL (tkS n ls L b ep p)) (tkS n ls L b ep p).last 0=(!b && decide (0 < ls.length)):=by
 simp [freeAt,pickC,offB,hasL,tkS]
def SWork (col:Nat->Nat) (g:Nat) (R':RigS) (did:Bool) (w:World) (e:Ending) (w':World):Prop :=
 ∃ Y' col',e=.returned (.bool did)/\RigM col' w' g R' Y'/\Cg RC col w col' w'
theorem swork_of {n m:Int} {ls ws:List ByteArray} {L:List (Nat->Int)} {b:Bool} {ep:Int} {p:Bool} {left:List Itm} {acks:List AckS} (h:RigM col w g (rgS n m ls ws L b ep p left acks) Y) (hm:0<=m/\m<=1000000) (hw:ws.length<=6) (ha:acks.length<=1000) (S2:TaskS) (did:Bool) (aks:List AckS) (hk:aks.length<=1) (hlen:S2.out.length<=10) (hp:∀ q ∈ S2.out,0<=q.ack/\q.ack<=1000001) (vs:Value) (R':RigS)
  (hR:R'=⟨{ S2 with out:=[] },[⟨⟨3,1,ws,m,0⟩,0,left⟩].map (ackF' S2.out),[],acks ++ aks,0⟩)
  (hwk:∀ W,Fr w.heap.size [] w W->Calls Tryz.prog 25 #[.pointer (some ⟨Y.gt,0,none⟩),vs] W (WorkOut col Y.gt S2 did (AcksM aks) W)) :
  Calls Tryz.prog 13 #[.pointer (some ⟨g,0,none⟩),vs] w (SWork col g R' did w):=by
 subst hR
 exact rwork_any h rfl (by show acks.length<=_;omega) S2 did aks (by omega) (by omega) (fun q hq=>⟨by have:=hp q hq;omega,by have:=hp q hq;omega⟩)
  (by
   intro F hF;simp [rgS] at hF;subst hF
   exact ⟨by show ws.length<=_;omega,by show _<=m;omega,by show m<=_;omega⟩) vs hwk
section
variable {n:Int} {L:List (Nat->Int)} {s:ByteArray} {left:List Itm} {acks:List AckS}
theorem swork_rec {i:Itm} (h:RigM col w g (rgS n (n+1) [putS i.put] [putS i.put] L false 0 false left acks) Y) (hn:0<=n/\n<=1000) (hL:L.length<=1000) (ha:acks.length<=1000) (hs:i.put.isSome=true) (hb:i.b=false) (vs:Value) :
  Calls Tryz.prog 13 #[.pointer (some ⟨g,0,none⟩),vs] w (SWork col g (rgS (n+1) (n+1) [] [] (L ++ [lnS i]) false 0 false left acks) true w):=by
 obtain ⟨hg1,hg2⟩:=put_get hs;have hz:=put_size hs;have hbk:i.back=⟨false,i.k,i.re,i.im,0,false⟩:=(by unfold Itm.back;rw [hb];rfl);obtain ⟨hr1,hr2⟩:=rec_state (n:=n) (L:=L) (s:=putS i.put) (i:=i.back);have hln:lnS i.back=lnS i:=(by rw [hbk];rfl);rw [hln] at hr1;refine swork_of h (by omega) (by simp) ha ((((tkS n [putS i.put] L false 0 false).popped 0).line 0 i.back)) true [] (by simp) (by rw [hr2];simp) (by rw [hr2];intro q hq;simp at hq;subst hq;exact ⟨by show 0<=n+1;omega,by show n+1<=_;omega⟩) vs _ ?_ (fun W hf => ?_)
 · rw [hr1,hr2];simp [rgS,ackF',ackAll,ack_new]
 ·
  have ht:=(h.t.fr0 hf:TaskM col W Y.gt (tkS n [putS i.put] L false 0 false) Y.X);have hok:TaskOk (tkS n [putS i.put] L false 0 false):=tk_ok (by simp) (by omega) (by simp;exact hz.2) (by omega);refine (workItem_any ht (by show (2:Int) ≠ 0;decide) vs (((tkS n [putS i.put] L false 0 false).popped 0).line 0 i.back) (flowItem_any (S:=tkS n [putS i.put] L false 0 false) ht hok rfl rfl 0 (by show 0 < 1;omega) (by rw [free_tk];rfl) (fun j hj=>absurd hj (by omega)) 0 (by simp [tkS,pickC]) (putS i.put) rfl hg1 _ (fun col' W' X' hm => ?_))).mono ?_
  · rw [hg2,hbk];refine (itemSink_any hm 0 _ rfl rfl (by simp [TaskS.popped,tkS]) (by show L.length<=_;omega)).mono ?_;rintro e w9 ⟨lA,lc,col9,rfl,h1,h2⟩;exact ⟨_,col9,rfl,h1,h2.mono (fun q hq=>by unfold FC;omega)⟩
  · rintro e w9 ⟨A,c,V,X',col9,rfl,h1,h2,h3,hV⟩;exact ⟨A,c,V,X',col9,rfl,h1,h2,h3,AcksM.none hV⟩
theorem swork_bar {i:Itm} (h:RigM col w g (rgS n (n+1) [putS i.put] [putS i.put] L false 0 false left acks) Y) (hn:0<=n/\n<=1000) (hL:L.length<=1000) (ha:acks.length<=1000) (hs:i.put.isSome=true) (hb:i.b=true) (vs:Value) :
  Calls Tryz.prog 13 #[.pointer (some ⟨g,0,none⟩),vs] w (SWork col g (rgS (n+1) (n+1) [] [] L true i.ep i.p left acks) true w):=by
 obtain ⟨hg1,hg2⟩:=put_get hs;have hz:=put_size hs;have hbk:i.back=⟨true,0,0,0,i.ep,i.p⟩:=(by unfold Itm.back;rw [hb];rfl);obtain ⟨hr1,hr2⟩:=bar_state (n:=n) (L:=L) (s:=putS i.put) (i:=i.back) (by rw [hbk]);refine swork_of h (by omega) (by simp) ha ((((tkS n [putS i.put] L false 0 false).popped 0).block 0 i.back)) true [] (by simp) (by rw [hr2];simp) (by rw [hr2];intro q hq;simp at hq;subst hq;exact ⟨by show 0<=n+1;omega,by show n+1<=_;omega⟩) vs _ ?_ (fun W hf => ?_)
 · rw [hr1,hr2,hbk];simp [rgS,ackF',ackAll,ack_new]
 ·
  have ht:=(h.t.fr0 hf:TaskM col W Y.gt (tkS n [putS i.put] L false 0 false) Y.X);have hok:TaskOk (tkS n [putS i.put] L false 0 false):=tk_ok (by simp) (by omega) (by simp;exact hz.2) (by omega);refine (workItem_any ht (by show (2:Int) ≠ 0;decide) vs (((tkS n [putS i.put] L false 0 false).popped 0).block 0 i.back) (flowItem_any (S:=tkS n [putS i.put] L false 0 false) ht hok rfl rfl 0 (by show 0 < 1;omega) (by rw [free_tk];rfl) (fun j hj=>absurd hj (by omega)) 0 (by simp [tkS,pickC]) (putS i.put) rfl hg1 _ (fun col' W' X' hm => ?_))).mono ?_
  · rw [hg2];refine (itemBar_any hm 0 _ (by rw [hbk]) ⟨rfl,.inl (by simp [TaskS.popped,tkS]),by simp [TaskS.popped,tkS],by simp [TaskS.popped,tkS]⟩).mono ?_;rintro e w9 ⟨col9,rfl,h1,h2⟩;exact ⟨_,col9,rfl,h1,h2.mono (fun q hq=>by unfold FC;omega)⟩
  · rintro e w9 ⟨A,c,V,X',col9,rfl,h1,h2,h3,hV⟩;exact ⟨A,c,V,X',col9,rfl,h1,h2,h3,AcksM.none hV⟩
theorem swork_met {ep:Int} {p:Bool} (h:RigM col w g (rgS n n [] [] L true ep p left acks) Y) (hn:0<=n/\n<=1000) (hL:L.length<=1000) (ha:acks.length<=1000) (vs:Value) :
  Calls Tryz.prog 13 #[.pointer (some ⟨g,0,none⟩),vs] w (SWork col g (rgS n n [] [] L false 0 false left (acks ++ [⟨1,0,ep,[],L,0⟩])) true w):=by
 obtain ⟨hr1,hr2⟩:=met_state (n:=n) (L:=L) (ep:=ep) (p:=p);refine swork_of h (by omega) (by simp) ha (tkS n [] L false 0 false) true [⟨1,0,ep,[],L,0⟩] (by simp) (by simp [tkS]) (by simp [tkS]) vs _ ?_ (fun W hf => ?_)
 · simp [rgS,tkS,ackF',ackAll]
 · have ht:=(h.t.fr0 hf:TaskM col W Y.gt (tkS n [] L true ep p) Y.X);have hok:TaskOk (tkS n [] L true ep p):=tk_ok (by simp) (by omega) (by simp) (by omega);have hfl:=flowMet_any (S:=tkS n [] L true ep p) ht hok rfl rfl;rw [show (tkS n [] L true ep p).om.length=0 from rfl,hr1,hr2] at hfl;refine (workMet_any ht (by show (2:Int) ≠ 0;decide) vs _ _ hfl).mono ?_;rintro e w9 ⟨A,c,V,X',col9,rfl,h1,h2,h3,hV⟩;exact ⟨A,c,V,X',col9,rfl,h1,h2,h3,AcksM.one hV⟩
theorem swork_none (h:RigM col w g (rgS n n [] [] L false 0 false left acks) Y) (hn:0<=n/\n<=1000) (hL:L.length<=1000) (ha:acks.length<=1000) (vs:Value) :
  Calls Tryz.prog 13 #[.pointer (some ⟨g,0,none⟩),vs] w (SWork col g (rgS n n [] [] L false 0 false left acks) false w):=by
 refine swork_of h (by omega) (by simp) ha (tkS n [] L false 0 false) false [] (by simp) (by simp [tkS]) (by simp [tkS]) vs _ ?_ (fun W hf => ?_)
 · simp [rgS,tkS,ackF',ackAll]
 ·
  have ht:=(h.t.fr0 hf:TaskM col W Y.gt (tkS n [] L false 0 false) Y.X);have hok:TaskOk (tkS n [] L false 0 false):=tk_ok (by simp) (by omega) (by simp) (by omega)
  have hfl := flowNone_any (S := tkS n [] L false 0 false) ht hok rfl rfl (fun k hk => by
   have hk0:k=0:=(by have:k < 1:=hk;omega);subst hk0;rw [free_tk]
   rfl)
  refine (workNone_any ht (by show (2:Int) ≠ 0;decide) vs hfl).mono ?_;rintro e w9 ⟨A,c,V,X',col9,rfl,h1,h2,h3,hV⟩;exact ⟨A,c,V,X',col9,rfl,h1,h2,h3,AcksM.none hV⟩
end
end
end Go.Proofs.YtgblfflikgnfpaaGreat
namespace Go.Proofs.YtgblfflikgnfpaaGreat
open Go.RowKit Go.Fb
set_option maxRecDepth 100000
set_option maxHeartbeats 16000000
set_option linter.unusedVariables false
theorem RigM.feed0 {col:Nat->Nat} {w:World} {g:Nat} {R:RigS} {Y:RX} (h:RigM col w g R Y) {F:Feed} (hF:R.fs=[F]):∃ gk b off go lA lc,Y.gf=[gk]/\CR col 201 w 46 6 (.slice lA F.left.length lc) F.left.length (itmsC F.left) /\
  (∀ col' W,Cg (fun q=>q=201 \/ q=200) col w col' W->W.cell? ⟨g,1,none⟩=some (.slice (some ⟨b,off,none⟩) 1 Y.fc)/\W.cell? ⟨b,off,none⟩=some (.pointer (some ⟨gk,0,none⟩))) /\
  ∀ col' W,Cg (· = 201) col w col' W->CB col' 200 W gk 37 #[.pointer (some ⟨go,0,none⟩),.int .i64 F.fr,.slice lA F.left.length lc]:=by
 have hl:=h.fl;rw [hF] at hl
 obtain ⟨gk,hgk⟩:∃ gk,Y.gf=[gk]:=by
  match hy:Y.gf,hl with
  | [a],_=>exact ⟨a,rfl⟩
 obtain ⟨b,off,hA,hb,_,hcell⟩:=Reads.elem ptrF_len h.fr.1 (by rw [hgk];rfl:Y.gf[0]?=some gk) (by omega);obtain ⟨go,lA,lc,hf1,hf2,hf3⟩:=h.fm 0 gk F (by rw [hgk];rfl) (by rw [hF];rfl);refine ⟨gk,b,off,go,lA,lc,hgk,hf2,fun col' W k=>⟨?_,?_⟩,fun col' W k=>hf1.cg k (by omega)⟩
 · have:=(h.st.cg k (by omega)).b.cell 1;replace this:W.cell? ⟨g,1,none⟩=some (.slice Y.fA R.fs.length Y.fc):=this;rw [hA,hF] at this;exact this
 ·
  have:=h.fr.cg k (by omega);rw [hgk,hA,hF] at this;obtain ⟨b',off',hA',_,hc⟩:=this.1.2 (by simp);injection hA' with hA'
  injection hA' with e1 e2
  subst e1 e2;exact hc 0 _ rfl
def iA1:Itm:=⟨false,3,0,0,0,false⟩
def iA2:Itm:=⟨true,0,0,0,1,false⟩
def stEx:Nat->RigS
 | 0=>rgS 0 0 [] [] [] false 0 false [iA1,iA2] []
 | 1=>rgS 1 1 [] [] [lnS iA1] false 0 false [iA2] []
 | 2=>rgS 2 2 [] [] [lnS iA1] true 1 false [] []
 | _=>rgS 2 2 [] [] [lnS iA1] false 0 false [] [⟨1,0,1,[],[lnS iA1],0⟩]
def mdEx:Nat->RigS
 | 0=>rgS 0 1 [putS iA1.put] [putS iA1.put] [] false 0 false [iA2] []
 | 1=>rgS 1 2 [putS iA2.put] [putS iA2.put] [lnS iA1] false 0 false [] []
 | k=>stEx k
def WkEx (k:Nat) (col:Nat->Nat) (g:Nat) (w:World) (e:Ending) (w':World):Prop:=∃ did,SWork col g (stEx (k+1)) did w e w'
section
variable {col:Nat->Nat} {w:World} {g:Nat} {Y:RX}
theorem iA_put:iA1.put.isSome=true/\iA2.put.isSome=true:=by constructor <;> rfl
theorem stEx_send {k:Nat} (hk:k < 2) (h:RigM col w g (stEx k) Y):Calls Tryz.prog 12 #[.pointer (some ⟨g,0,none⟩),.int .i64 0] w (SentOut col g (mdEx k) Y w):=by
 rcases (show k=0 \/ k=1 by omega) with rfl | rfl
 · exact ssend_any h (by omega) (by simp) iA_put.1
 · exact ssend_any h (by omega) (by simp) iA_put.2
theorem mdEx_work {k:Nat} (h:RigM col w g (mdEx k) Y) (vs:Value):Calls Tryz.prog 13 #[.pointer (some ⟨g,0,none⟩),vs] w (WkEx k col g w):=by
 match k,h with
 | 0,h=>exact (swork_rec h (by omega) (by simp) (by simp) iA_put.1 rfl vs).mono fun _ _ h=>⟨_,h⟩
 | 1,h=>exact (swork_bar h (by omega) (by simp) (by simp) iA_put.2 rfl vs).mono fun _ _ h=>⟨_,h⟩
 | 2,h=>exact (swork_met h (by omega) (by simp) (by simp) vs).mono fun _ _ h=>⟨_,h⟩
 | k+3,h=>exact (swork_none h (by omega) (by simp) (by simp) vs).mono fun _ _ h=>⟨_,h⟩
theorem stEx_fs (k:Nat):∃ F,(stEx k).fs=[F]/\(2<=k->mdEx k=stEx k/\F.left=[])/\(k < 2->0 < F.left.length):=by
 match k with
 | 0=>exact ⟨_,rfl,by simp,by simp⟩
 | 1=>exact ⟨_,rfl,by simp,by simp⟩
 | 2=>exact ⟨_,rfl,by simp [mdEx],by simp⟩
 | k+3=>exact ⟨_,rfl,by simp [mdEx],by simp⟩
end
def MadeP (w:World) (e:Ending) (w':World):Prop:=∃ g Y col',e=.returned (.pointer (some ⟨g,0,none⟩))/\RigM col' w' g (rgS 0 0 [] [] [] false 0 false [] []) Y/\Cg RC (fun _=>5000) w col' w'
theorem madeP_any {w0 w:World} {A:Option Addr} {c:Nat} {M:List Ndm} (hn:Nds w w.heap.size A 2 M) (hf:fstN M=passL 1):Calls Tryz.prog 9 #[.slice A 2 c,.int .i64 1,.int .i64 0,.slice none 0 0] w (MadeP w):=by
 have h:=made_any1 (fun _=>5000) w A none 2 c 0 M 1 0 (pasS 1) [] hn (small_pass hf) (by rw [hf];exact pass_right 1) (by rw [hf];rfl) (by omega) (by decide) (by simp) rfl Reads.none_ (fun q _=>by unfold RC TC;omega);rw [hf,task0_pass,feeds_pass,drains_pass] at h;exact h
def XC (c:Nat):Prop:=RC c \/ c=10
theorem awake20_any (w:World):Calls Tryz.prog 8 #[] w fun e w'=>e=.returned (.bool true)/\Fr w.heap.size [] w w':=by
 have HP:=zh (pass_any 1 w);go_enter Tryz.func8,Tryz.ntmps8;go_wp2_with fail;refine HP.out.mono ?_;rintro e w1 ⟨A,c,M,rfl,hn,hf,f1⟩;have F1:=zh f1;have HMD:=zh (madeP_any (w0:=w) (c:=c) (hn.nds (Fr.refl w1.heap.size [] w1) (by simp)) hf);clear HP f1 hn hf;go_wp2_with fail;refine HMD.out.mono ?_;rintro e w2 ⟨g,Y,col2,rfl,hrm,hcg⟩;have RM:=zh hrm;have CC:=zh (hcg.mono (C':=XC) (fun _ h=>.inl h));clear hrm hcg HMD;obtain ⟨gk,b,off,go,lA,lc,hgf,_,hS0,hS⟩:=RM.out.feed0 rfl;have HGF:=zh hgf;have SF:=zh hS;obtain ⟨r1,x1⟩:=hS0 _ _ (Cg.refl _ _ _);clear hgf hS hS0;have BS:=zh (Blk.new w2 46 #[.bool false,.int .i64 3,.int .i64 0,.int .i64 0,.int .i64 0,.bool false,.bool true,.int .i64 0,.int .i64 0,.int .i64 0,.int .i64 1,.bool false]);have INV:=zh (((cgf (col:=col2) (· = 201) (Fr.refl w2.heap.size [] w2)).new (.cells #[.bool false,.int .i64 3,.int .i64 0,.int .i64 0,.int .i64 0,.bool false,.bool true,.int .i64 0,.int .i64 0,.int .i64 0,.int .i64 1,.bool false] 46)).repaint w2.heap.size 201 (Nat.le_refl _));have KB:=zh (show paint col2 w2.heap.size 201 w2.heap.size=201 from paint_ge (Nat.le_refl _));have z3:=SF.out _ _ INV.out;have z2:=z3.b.cell 2;have zf:=z3.b.frozen 2;have zl:=z3.b.lt;generalize paint col2 w2.heap.size 201=col3 at *;clear z3;go_upto_region 5 with fail;have hr:CR col3 201 (w2.alloc (.cells #[.bool false,.int .i64 3,.int .i64 0,.int .i64 0,.int .i64 0,.bool false,.bool true,.int .i64 0,.int .i64 0,.int .i64 0,.int .i64 1,.bool false] 46)) 46 6 (.slice (some ⟨w2.heap.size,0,none⟩) 2 2) 2 (itmsC [iA1,iA2]):=⟨RowO.of_own (owns_blk BS.out rfl (Nat.le_refl _) (by unfold maxLen;omega)),fun g hg=>by injection hg with hg;subst hg;exact KB.out⟩;obtain ⟨hm,_,hk⟩:=RM.out.left (j:=0) (n:=2) (l:=[iA1,iA2]) (by rw [HGF.out];rfl) rfl rfl INV.out hr;have RM3:=zh (hm:RigM _ _ g (stEx 0) Y);have CC3:=zh (CC.out.trans (hk.mono (C':=XC) (fun q hq=>.inl (.inr (.inr (.inr (by omega)))))));clear hr hm hk BS INV KB z2 zf zl r1 x1;generalize (w2.alloc _).setCell _ _=w3 at *;go_upto_region 6 with fail;go_loopg [2] 6 (fun q s2 wr=>∃ k:Nat,k<=6/\q=6 - k/\s2=.int .i64 k/\∃ Yr colr,Hid (RigM colr wr g (stEx k) Yr)/\Hid (Cg XC (fun _=>5000) w1 colr wr))
 case atStart=>exact ⟨0,Nat.zero_le _,rfl,rfl,Y,col3,RM3,CC3⟩
 case round =>
  clear RM3 CC3 RM CC SF HGF;obtain ⟨k,hk,rfl,rfl,Yr,colr,RM,CC⟩:=hrel
  by_cases hk6:k < 6
  ·
   have hki:(k:Int) < 6:=by omega
   obtain ⟨F,hF,hA,hB⟩:=stEx_fs k;obtain ⟨gk,b,off,go,lA,lc,_,_,hS0,hS⟩:=RM.out.feed0 hF;obtain ⟨r1,x1⟩:=hS0 _ _ (Cg.refl _ _ _);have h3:=hS _ _ (Cg.refl _ _ _);have y2:=h3.b.cell 2;replace y2:wr.cell? ⟨gk,2,none⟩=some (.slice lA F.left.length lc):=y2;clear h3 hS hS0
   by_cases hk2:k < 2
   ·
    have hpos:(0:Int) < (F.left.length:Int):=by have:=hB hk2;omega
    have HSD:=zh (stEx_send hk2 RM.out);generalize F.left.length=nl at *;clear hA hB hF;go_wp2_with fail;refine HSD.out.mono ?_;rintro e w4 ⟨col4,rfl,hm,hc⟩;have CC4:=zh (CC.out.trans (hc.mono (C':=XC) (fun _ h=>h)));have HWK:=zh (mdEx_work hm (.pointer none));clear hm hc HSD r1 x1 y2 RM CC;go_wp2_with fail;refine HWK.out.mono ?_;rintro e w5 ⟨did,Y5,col5,rfl,hm,hc⟩;have RM5:=zh hm;have CC5:=zh (CC4.out.trans (hc.mono (C':=XC) (fun _ h=>.inl h)));clear hm hc HWK CC4;go_wp2_with fail;go_roundg (6 - (k+1))
    case measure=>omega
    case rel=>exact ⟨k+1,hk6,rfl,by go_num,Y5,col5,RM5,CC5⟩
   ·
    obtain ⟨h1,h2⟩:=hA (by omega);rw [h2] at y2;replace y2:wr.cell? ⟨gk,2,none⟩=some (.slice lA 0 lc):=y2;have RMk:=RM.out;rw [<- h1] at RMk;have HWK:=zh (mdEx_work RMk (.pointer none));clear RMk h1 h2 hA hB hF;go_wp2_with fail;refine HWK.out.mono ?_;rintro e w5 ⟨did,Y5,col5,rfl,hm,hc⟩;have RM5:=zh hm;have CC5:=zh (CC.out.trans (hc.mono (C':=XC) (fun _ h=>.inl h)));clear hm hc HWK CC RM;go_wp2_with fail;go_roundg (6 - (k+1))
    case measure=>omega
    case rel=>exact ⟨k+1,hk6,rfl,by go_num,Y5,col5,RM5,CC5⟩
  ·
   obtain rfl:k=6:=by omega
   have R6:RigM colr wr g (rgS 2 2 [] [] [lnS iA1] false 0 false [] [⟨1,0,1,[],[lnS iA1],0⟩]) Yr:=RM.out;obtain ⟨x,hx,hxa⟩:=List.map_eq_singleton_iff.1 (show Yr.aks.map (·.a)=[⟨1,0,1,[],[lnS iA1],0⟩] from R6.al);obtain ⟨xa,eA,ec,lA,lc⟩:=x;simp only at hxa;subst hxa;have r3:wr.cell? ⟨g,3,none⟩=some (.slice Yr.aA 1 Yr.ac):=R6.st.b.cell 3;have har:=R6.ar.r.reads;rw [hx] at har;obtain ⟨b,off,hA,_,hcell⟩:=har.2 (by show 0 < 1;omega);rw [hA] at r3;have c2:=hcell 2 _ rfl;have c4:=hcell 4 _ rfl;replace c2:wr.cell? ⟨b,off+2,none⟩=some (.int .i64 1):=c2;replace c4:wr.cell? ⟨b,off+4,none⟩=some (.slice lA 1 lc):=c4;obtain ⟨b2,off2,hA2,_,hcell2⟩:=(R6.am _ (by rw [hx];exact List.mem_singleton.2 rfl)).2.1.2 (by show 0 < 1;omega);simp only at hA2;rw [hA2] at c4;have d2:=hcell2 2 _ rfl;replace d2:wr.cell? ⟨b2,off2+2,none⟩=some (.int .i64 3):=d2;clear hcell hcell2 har hx hA hA2 R6 RM;go_wp2_with fail;go_ret;exact ⟨rfl,F1.out.trans (CC.out.fr F1.out.size (fun _ _ h=>by unfold XC RC TC at h;omega))⟩
end Go.Proofs.YtgblfflikgnfpaaGreat
