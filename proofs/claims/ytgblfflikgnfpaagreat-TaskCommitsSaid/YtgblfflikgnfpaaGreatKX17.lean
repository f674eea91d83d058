/- Texts merged into one, for the number of files a claim may have: TcP, TcA, TcW, TcQ, TaskCommits. -/
import Derived.Test.YtgblfflikgnfpaaGreatKX4
import Derived.Test.YtgblfflikgnfpaaGreatKX9
import Derived.Test.YtgblfflikgnfpaaGreatKX12
import Derived.Test.YtgblfflikgnfpaaGreatKX15
import Derived.Test.YtgblfflikgnfpaaGreatKX16
namespace Go.Proofs.YtgblfflikgnfpaaGreat
open Go.RowKit Go.Fb
set_option linter.unusedVariables false
def tkS (n : Int) (ls : List ByteArray) (L : List (Nat → Int)) (b : Bool) (ep : Int) (p : Bool) : TaskS :=
  ⟨pasS 1, 0, tabL [], [b], b, ep, p, if b then 1 else 0, 0, [], [(0, 3)], [⟨3, 1, ls, n⟩], [], [], L, Itm.zero, false, []⟩
def rgS (n m : Int) (ls ws : List ByteArray) (L : List (Nat → Int)) (b : Bool) (ep : Int) (p : Bool) (left : List Itm) (acks : List AckS) : RigS :=
  ⟨tkS n ls L b ep p, [⟨⟨3, 1, ws, m, 0⟩, 0, left⟩], [], acks, 0⟩
theorem task0_pass : task0 (passL 1) (pasS 1) 0 1 [] = tkS 0 [] [] false 0 false := by
  have h1 : recvL (passL 1) (pasS 1) 0 = [(0, 3)] := by
    unfold recvL
    rw [show srt (pasS 1).fr = [0] by simp [srt, pasS]]
    rfl
  have h2 : childN (passL 1) 1 = [] := by
    unfold childN
    rw [show kidsN (passL 1) 1 [] = [] by rfl]
    simp [srt]
  have h3 : sendL (passL 1) 1 0 = [] := by unfold sendL; rw [h2]; rfl
  have h4 : kidsL (passL 1) 1 = [] := by unfold kidsL; rw [h2]; rfl
  unfold task0 tkS
  rw [h1, show (pasS 1).id = 1 from rfl, h3, h4]
  rfl
theorem feeds_pass : feedsN (passL 1) (pasS 1) 0 8 = [⟨⟨3, 1, [], 0, 0⟩, 0, []⟩] := by rfl
theorem drains_pass : drainsL (passL 1) (pasS 1) 0 = [] := by rfl
theorem put_size {i : Itm} (h : i.put.isSome = true) : (putS i.put).size ≠ 0 ∧ (putS i.put).size ≤ 1000 := by
  unfold Itm.put putI at *
  split at h <;> split at h <;> simp_all [putS, strOfNums_size, be_length]
theorem put_get {i : Itm} (h : i.put.isSome = true) : goodI (putS i.put) = true ∧ getI (putS i.put) = i.back := by
  obtain ⟨l, hl⟩ := Option.isSome_iff_exists.1 h
  obtain ⟨h1, h2⟩ := put_back hl
  rw [hl]
  exact ⟨h2, by unfold getI; rw [show putS (some l) = strOfNums l from rfl, h2]; exact h1⟩
/-- The line of a record. -/
def lnS (i : Itm) : Nat → Int := fun j => if j = 0 then 1 else if j = 1 then 0 else if j = 2 then i.k else if j = 3 then i.re else i.im
theorem sink_take {n : Int} {s : ByteArray} (hs : s.size ≠ 0) : takeI ⟨3, 0, 1, n + 1, 0, s⟩ ⟨3, 1, [], n⟩ = (⟨3, 1, [s], n⟩, [⟨3, 1, 1, 0, n, emptyB⟩]) := by
  simp [takeI, isP, hs, ackP]
theorem ack_old {n : Int} {s : ByteArray} : ackO ⟨3, 1, 1, 0, n, emptyB⟩ ⟨3, 1, [s], n + 1, 0⟩ = ⟨3, 1, [s], n + 1, 0⟩ := by
  simp [ackO, isP]
theorem ack_new {n : Int} {s : ByteArray} : ackO ⟨3, 1, 1, 0, n + 1, emptyB⟩ ⟨3, 1, [s], n + 1, 0⟩ = ⟨3, 1, [], n + 1, 0⟩ := by
  have : (n + 1 - n).toNat = 1 := by omega
  simp [ackO, isP, this]
/-- The next item is sent. -/
theorem sent_one {n : Int} {L : List (Nat → Int)} {b : Bool} {ep : Int} {p : Bool} {s : ByteArray} {rest left : List Itm} {acks : List AckS} (hs : s.size ≠ 0) :
    (let R := rgS n n [] [] L b ep p left acks; ({ R with t := R.t.take ⟨3, 0, 1, n + 1, 0, s⟩, fs := R.fs.set 0 ⟨ackAll (R.t.tells ⟨3, 0, 1, n + 1, 0, s⟩ R.t.ins.length) ⟨3, 1, [s], n + 1, 0⟩, 0, rest⟩ } : RigS)) = rgS n (n + 1) [s] [s] L b ep p rest acks := by
  simp [rgS, tkS, TaskS.take, TaskS.takes, TaskS.acks, TaskS.tells, sink_take hs, ackAll, ack_old]
/-- The state behind a record that was taken out. -/
theorem rec_state {n : Int} {L : List (Nat → Int)} {s : ByteArray} {i : Itm} :
    ({ ((tkS n [s] L false 0 false).popped 0).line 0 i with out := [] } : TaskS) = tkS (n + 1) [] (L ++ [lnS i]) false 0 false ∧ (((tkS n [s] L false 0 false).popped 0).line 0 i).out = [⟨3, 1, 1, 0, n + 1, emptyB⟩] := by
  refine ⟨?_, rfl⟩
  simp [TaskS.popped, TaskS.line, tkS, popI]
  funext j
  simp [lineF, lnS, pasS]
theorem bar_state {n : Int} {L : List (Nat → Int)} {s : ByteArray} {i : Itm} (hb : i.b = true) :
    ({ ((tkS n [s] L false 0 false).popped 0).block 0 i with out := [] } : TaskS) = tkS (n + 1) [] L true i.ep i.p ∧ (((tkS n [s] L false 0 false).popped 0).block 0 i).out = [⟨3, 1, 1, 0, n + 1, emptyB⟩] := by
  refine ⟨?_, rfl⟩
  simp [TaskS.popped, TaskS.block, tkS, popI]
theorem met_state {n : Int} {L : List (Nat → Int)} {ep : Int} {p : Bool} :
    (((tkS n [] L true ep p).puts (tkS n [] L true ep p).bar 0).clear) = tkS n [] L false 0 false ∧ (tkS n [] L true ep p).ack (tkS n [] L true ep p).bar 0 = ⟨1, 0, ep, [], L, 0⟩ := by
  refine ⟨?_, ?_⟩
  · simp [TaskS.puts, TaskS.clear, tkS]
  · simp [TaskS.ack, TaskS.bar, tkS, pasS]
theorem tk_ok {n : Int} {ls : List ByteArray} {L : List (Nat → Int)} {b : Bool} {ep : Int} {p : Bool} (h1 : ls.length ≤ 6) (h2 : 0 ≤ n ∧ n ≤ 1000000) (h3 : ∀ x ∈ ls, x.size ≤ 1000) (h4 : L.length ≤ 100000) : TaskOk (tkS n ls L b ep p) := by
  refine ⟨rfl, rfl, by simp [tkS], by simp [tkS], by simp only [tkS]; split <;> omega, by simp only [tkS]; split <;> omega, tabL_ok [] _ TOk.zero rfl, h4, by simp [tkS], ?_, by simp [tkS]⟩
  intro s hs
  simp [tkS] at hs
  subst hs
  exact ⟨h1, ⟨by show _ ≤ n; omega, by show n ≤ _; omega⟩, h3⟩
end Go.Proofs.YtgblfflikgnfpaaGreat
namespace Go.Proofs.YtgblfflikgnfpaaGreat
open Go.RowKit Go.Fb
set_option linter.unusedVariables false
section
variable {col col' : Nat → Nat} {w w' : World} {g : Nat} {R : RigS} {Y : RX}
/-- What a channel that comes has left is another list. -/
theorem RigM.left (h : RigM col w g R Y) {j gj n : Nat} {F : Feed} {l : List Itm} (hg : Y.gf[j]? = some gj) (hF : R.fs[j]? = some F) (hn : n = l.length) (k : Cg (· = 201 + 4 * j) col w col' w') {A : Option Addr} {c : Nat} (hr : CR col' (201 + 4 * j) w' 46 6 (.slice A n c) n (itmsC l)) :
    RigM col' (w'.setCell ⟨gj, 2, none⟩ (.slice A n c)) g { R with fs := R.fs.set j ⟨F.o, F.fr, l⟩ } Y ∧ CR col' (201 + 4 * j) (w'.setCell ⟨gj, 2, none⟩ (.slice A n c)) 46 6 (.slice A n c) n (itmsC l) ∧ Cg (fun q => q = 201 + 4 * j ∨ q = 200 + 4 * j) col w col' (w'.setCell ⟨gj, 2, none⟩ (.slice A n c)) := by
  subst hn
  obtain ⟨go, A0, c0, h1, h2, h3⟩ := h.fm j gj F hg hF
  have hs := h1.cg k (by omega)
  have K : Cg (fun q => q = 201 + 4 * j ∨ q = 200 + 4 * j) col w col' (w'.setCell ⟨gj, 2, none⟩ (.slice A l.length c)) := (k.mono (fun _ h => .inl h)).set (.inr hs.k) _
  have k1 : Cg (· = 200 + 4 * j) col' w' col' (w'.setCell ⟨gj, 2, none⟩ (.slice A l.length c)) := (Cg.refl _ _ _).set hs.k _
  refine ⟨h.setF K (fun q hq => by omega) hg ⟨go, A, c, ⟨by simpa using hs.b.set_ 2 (.slice A l.length c), hs.k⟩, hr.cg k1 (by omega), h3.cg K (by omega)⟩, hr.cg k1 (by omega), K⟩
/-- The next item is sent. -/
theorem ssend_any {n : Int} {L : List (Nat → Int)} {b : Bool} {ep : Int} {p : Bool} {i : Itm} {rest : List Itm} {acks : List AckS} (h : RigM col w g (rgS n n [] [] L b ep p (i :: rest) acks) Y) (hn : 0 ≤ n ∧ n ≤ 1000000) (hl : rest.length ≤ 1000) (hs : i.put.isSome = true) :
    Calls Tryz.prog 12 #[.pointer (some ⟨g, 0, none⟩), .int .i64 0] w (SentOut col g (rgS n (n + 1) [putS i.put] [putS i.put] L b ep p rest acks) Y w) := by
  have hz := put_size hs
  have := rsend_any h 0 ⟨⟨3, 1, [], n, 0⟩, 0, i :: rest⟩ i rest rfl rfl (by show 0 < 6; omega) hn.1 (by show n ≤ _; omega) (by show rest.length + 1 ≤ _; omega) hz.1
    (by
      intro s hs
      simp [rgS, tkS] at hs
      subst hs
      exact ⟨Nat.zero_le _, by show _ ≤ n; omega, by show n ≤ _; omega⟩)
    (by simp [rgS, tkS]) ⟨3, 0, 1, n + 1, 0, putS i.put⟩ rfl ⟨3, 1, [putS i.put], n + 1, 0⟩ rfl
  rw [sent_one hz.1] at this
  exact this
/-- Nothing is left. -/
theorem ssend_nil {n m : Int} {ls ws : List ByteArray} {L : List (Nat → Int)} {b : Bool} {ep : Int} {p : Bool} {acks : List AckS} (h : RigM col w g (rgS n m ls ws L b ep p [] acks) Y) :
    Calls Tryz.prog 12 #[.pointer (some ⟨g, 0, none⟩), .int .i64 0] w fun e w' => e = .returned (.tuple #[]) ∧ w' = w := rsend_nil h 0 _ rfl rfl
theorem free_tk (n : Int) (ls : List ByteArray) (L : List (Nat → Int)) (b : Bool) (ep : Int) (p : Bool) : freeAt (tkS n ls L b ep p).bs (hasL (tkS n ls L b ep p)) (tkS n ls L b ep p).last 0 = (!b && decide (0 < ls.length)) := by
  simp [freeAt, pickC, offB, hasL, tkS]
/-- What the rig's work leaves. -/
def SWork (col : Nat → Nat) (g : Nat) (R' : RigS) (did : Bool) (w : World) (e : Ending) (w' : World) : Prop :=
  ∃ Y' col', e = .returned (.bool did) ∧ RigM col' w' g R' Y' ∧ Cg RC col w col' w'
theorem swork_of {n m : Int} {ls ws : List ByteArray} {L : List (Nat → Int)} {b : Bool} {ep : Int} {p : Bool} {left : List Itm} {acks : List AckS} (h : RigM col w g (rgS n m ls ws L b ep p left acks) Y) (hm : 0 ≤ m ∧ m ≤ 1000000) (hw : ws.length ≤ 6) (ha : acks.length ≤ 1000) (S2 : TaskS) (did : Bool) (aks : List AckS) (hk : aks.length ≤ 1) (hlen : S2.out.length ≤ 10) (hp : ∀ q ∈ S2.out, 0 ≤ q.ack ∧ q.ack ≤ 1000001) (vs : Value) (R' : RigS)
    (hR : R' = ⟨{ S2 with out := [] }, [⟨⟨3, 1, ws, m, 0⟩, 0, left⟩].map (ackF' S2.out), [], acks ++ aks, 0⟩)
    (hwk : ∀ W, Fr w.heap.size [] w W → Calls Tryz.prog 25 #[.pointer (some ⟨Y.gt, 0, none⟩), vs] W (WorkOut col Y.gt S2 did (AcksM aks) W)) :
    Calls Tryz.prog 13 #[.pointer (some ⟨g, 0, none⟩), vs] w (SWork col g R' did w) := by
  subst hR
  exact rwork_any h rfl (by show acks.length ≤ _; omega) S2 did aks (by omega) (by omega) (fun q hq => ⟨by have := hp q hq; omega, by have := hp q hq; omega⟩)
    (by
      intro F hF
      simp [rgS] at hF
      subst hF
      exact ⟨by show ws.length ≤ _; omega, by show _ ≤ m; omega, by show m ≤ _; omega⟩) vs hwk
section
variable {n : Int} {L : List (Nat → Int)} {s : ByteArray} {left : List Itm} {acks : List AckS}
/-- A record is taken out: one line more. -/
theorem swork_rec {i : Itm} (h : RigM col w g (rgS n (n + 1) [putS i.put] [putS i.put] L false 0 false left acks) Y) (hn : 0 ≤ n ∧ n ≤ 1000) (hL : L.length ≤ 1000) (ha : acks.length ≤ 1000) (hs : i.put.isSome = true) (hb : i.b = false) (vs : Value) :
    Calls Tryz.prog 13 #[.pointer (some ⟨g, 0, none⟩), vs] w (SWork col g (rgS (n + 1) (n + 1) [] [] (L ++ [lnS i]) false 0 false left acks) true w) := by
  obtain ⟨hg1, hg2⟩ := put_get hs
  have hz := put_size hs
  have hbk : i.back = ⟨false, i.k, i.re, i.im, 0, false⟩ := by unfold Itm.back; rw [hb]; rfl
  obtain ⟨hr1, hr2⟩ := rec_state (n := n) (L := L) (s := putS i.put) (i := i.back)
  have hln : lnS i.back = lnS i := by rw [hbk]; rfl
  rw [hln] at hr1
  refine swork_of h (by omega) (by simp) ha ((((tkS n [putS i.put] L false 0 false).popped 0).line 0 i.back)) true [] (by simp) (by rw [hr2]; simp) (by rw [hr2]; intro q hq; simp at hq; subst hq; exact ⟨by show 0 ≤ n + 1; omega, by show n + 1 ≤ _; omega⟩) vs _ ?_ (fun W hf => ?_)
  · rw [hr1, hr2]
    simp [rgS, ackF', ackAll, ack_new]
  · have ht := (h.t.fr0 hf : TaskM col W Y.gt (tkS n [putS i.put] L false 0 false) Y.X)
    have hok : TaskOk (tkS n [putS i.put] L false 0 false) := tk_ok (by simp) (by omega) (by simp; exact hz.2) (by omega)
    refine (workItem_any ht (by show (2 : Int) ≠ 0; decide) vs (((tkS n [putS i.put] L false 0 false).popped 0).line 0 i.back) (flowItem_any (S := tkS n [putS i.put] L false 0 false) ht hok rfl rfl 0 (by show 0 < 1; omega) (by rw [free_tk]; rfl) (fun j hj => absurd hj (by omega)) 0 (by simp [tkS, pickC]) (putS i.put) rfl hg1 _ (fun col' W' X' hm => ?_))).mono ?_
    · rw [hg2, hbk]
      refine (itemSink_any hm 0 _ rfl rfl (by simp [TaskS.popped, tkS]) (by show L.length ≤ _; omega)).mono ?_
      rintro e w9 ⟨lA, lc, col9, rfl, h1, h2⟩
      exact ⟨_, col9, rfl, h1, h2.mono (fun q hq => by unfold FC; omega)⟩
    · rintro e w9 ⟨A, c, V, X', col9, rfl, h1, h2, h3, hV⟩
      exact ⟨A, c, V, X', col9, rfl, h1, h2, h3, AcksM.none hV⟩
/-- A barrier is taken out: the channel is blocked. -/
theorem swork_bar {i : Itm} (h : RigM col w g (rgS n (n + 1) [putS i.put] [putS i.put] L false 0 false left acks) Y) (hn : 0 ≤ n ∧ n ≤ 1000) (hL : L.length ≤ 1000) (ha : acks.length ≤ 1000) (hs : i.put.isSome = true) (hb : i.b = true) (vs : Value) :
    Calls Tryz.prog 13 #[.pointer (some ⟨g, 0, none⟩), vs] w (SWork col g (rgS (n + 1) (n + 1) [] [] L true i.ep i.p left acks) true w) := by
  obtain ⟨hg1, hg2⟩ := put_get hs
  have hz := put_size hs
  have hbk : i.back = ⟨true, 0, 0, 0, i.ep, i.p⟩ := by unfold Itm.back; rw [hb]; rfl
  obtain ⟨hr1, hr2⟩ := bar_state (n := n) (L := L) (s := putS i.put) (i := i.back) (by rw [hbk])
  refine swork_of h (by omega) (by simp) ha ((((tkS n [putS i.put] L false 0 false).popped 0).block 0 i.back)) true [] (by simp) (by rw [hr2]; simp) (by rw [hr2]; intro q hq; simp at hq; subst hq; exact ⟨by show 0 ≤ n + 1; omega, by show n + 1 ≤ _; omega⟩) vs _ ?_ (fun W hf => ?_)
  · rw [hr1, hr2, hbk]
    simp [rgS, ackF', ackAll, ack_new]
  · have ht := (h.t.fr0 hf : TaskM col W Y.gt (tkS n [putS i.put] L false 0 false) Y.X)
    have hok : TaskOk (tkS n [putS i.put] L false 0 false) := tk_ok (by simp) (by omega) (by simp; exact hz.2) (by omega)
    refine (workItem_any ht (by show (2 : Int) ≠ 0; decide) vs (((tkS n [putS i.put] L false 0 false).popped 0).block 0 i.back) (flowItem_any (S := tkS n [putS i.put] L false 0 false) ht hok rfl rfl 0 (by show 0 < 1; omega) (by rw [free_tk]; rfl) (fun j hj => absurd hj (by omega)) 0 (by simp [tkS, pickC]) (putS i.put) rfl hg1 _ (fun col' W' X' hm => ?_))).mono ?_
    · rw [hg2]
      refine (itemBar_any hm 0 _ (by rw [hbk]) ⟨rfl, .inl (by simp [TaskS.popped, tkS]), by simp [TaskS.popped, tkS], by simp [TaskS.popped, tkS]⟩).mono ?_
      rintro e w9 ⟨col9, rfl, h1, h2⟩
      exact ⟨_, col9, rfl, h1, h2.mono (fun q hq => by unfold FC; omega)⟩
    · rintro e w9 ⟨A, c, V, X', col9, rfl, h1, h2, h3, hV⟩
      exact ⟨A, c, V, X', col9, rfl, h1, h2, h3, AcksM.none hV⟩
/-- The barrier has come on all channels: it is acknowledged. -/
theorem swork_met {ep : Int} {p : Bool} (h : RigM col w g (rgS n n [] [] L true ep p left acks) Y) (hn : 0 ≤ n ∧ n ≤ 1000) (hL : L.length ≤ 1000) (ha : acks.length ≤ 1000) (vs : Value) :
    Calls Tryz.prog 13 #[.pointer (some ⟨g, 0, none⟩), vs] w (SWork col g (rgS n n [] [] L false 0 false left (acks ++ [⟨1, 0, ep, [], L, 0⟩])) true w) := by
  obtain ⟨hr1, hr2⟩ := met_state (n := n) (L := L) (ep := ep) (p := p)
  refine swork_of h (by omega) (by simp) ha (tkS n [] L false 0 false) true [⟨1, 0, ep, [], L, 0⟩] (by simp) (by simp [tkS]) (by simp [tkS]) vs _ ?_ (fun W hf => ?_)
  · simp [rgS, tkS, ackF', ackAll]
  · have ht := (h.t.fr0 hf : TaskM col W Y.gt (tkS n [] L true ep p) Y.X)
    have hok : TaskOk (tkS n [] L true ep p) := tk_ok (by simp) (by omega) (by simp) (by omega)
    have hfl := flowMet_any (S := tkS n [] L true ep p) ht hok rfl rfl
    rw [show (tkS n [] L true ep p).om.length = 0 from rfl, hr1, hr2] at hfl
    refine (workMet_any ht (by show (2 : Int) ≠ 0; decide) vs _ _ hfl).mono ?_
    rintro e w9 ⟨A, c, V, X', col9, rfl, h1, h2, h3, hV⟩
    exact ⟨A, c, V, X', col9, rfl, h1, h2, h3, AcksM.one hV⟩
/-- There is nothing to do. -/
theorem swork_none (h : RigM col w g (rgS n n [] [] L false 0 false left acks) Y) (hn : 0 ≤ n ∧ n ≤ 1000) (hL : L.length ≤ 1000) (ha : acks.length ≤ 1000) (vs : Value) :
    Calls Tryz.prog 13 #[.pointer (some ⟨g, 0, none⟩), vs] w (SWork col g (rgS n n [] [] L false 0 false left acks) false w) := by
  refine swork_of h (by omega) (by simp) ha (tkS n [] L false 0 false) false [] (by simp) (by simp [tkS]) (by simp [tkS]) vs _ ?_ (fun W hf => ?_)
  · simp [rgS, tkS, ackF', ackAll]
  · have ht := (h.t.fr0 hf : TaskM col W Y.gt (tkS n [] L false 0 false) Y.X)
    have hok : TaskOk (tkS n [] L false 0 false) := tk_ok (by simp) (by omega) (by simp) (by omega)
    have hfl := flowNone_any (S := tkS n [] L false 0 false) ht hok rfl rfl (fun k hk => by
      have hk0 : k = 0 := by have : k < 1 := hk; omega
      subst hk0
      rw [free_tk]
      rfl)
    refine (workNone_any ht (by show (2 : Int) ≠ 0; decide) vs hfl).mono ?_
    rintro e w9 ⟨A, c, V, X', col9, rfl, h1, h2, h3, hV⟩
    exact ⟨A, c, V, X', col9, rfl, h1, h2, h3, AcksM.none hV⟩
end
end
end Go.Proofs.YtgblfflikgnfpaaGreat
namespace Go.Proofs.YtgblfflikgnfpaaGreat
open Go.RowKit Go.Fb
set_option linter.unusedVariables false
/-- Where the only channel that comes lies. -/
theorem RigM.feed0 {col : Nat → Nat} {w : World} {g : Nat} {R : RigS} {Y : RX} (h : RigM col w g R Y) {F : Feed} (hF : R.fs = [F]) : ∃ gk b off go lA lc, Y.gf = [gk] ∧ CR col 201 w 46 6 (.slice lA F.left.length lc) F.left.length (itmsC F.left) ∧
    (∀ col' W, Cg (fun q => q = 201 ∨ q = 200) col w col' W → W.cell? ⟨g, 1, none⟩ = some (.slice (some ⟨b, off, none⟩) 1 Y.fc) ∧ W.cell? ⟨b, off, none⟩ = some (.pointer (some ⟨gk, 0, none⟩))) ∧
    ∀ col' W, Cg (· = 201) col w col' W → CB col' 200 W gk 37 #[.pointer (some ⟨go, 0, none⟩), .int .i64 F.fr, .slice lA F.left.length lc] := by
  have hl := h.fl
  rw [hF] at hl
  obtain ⟨gk, hgk⟩ : ∃ gk, Y.gf = [gk] := by
    match hy : Y.gf, hl with
    | [a], _ => exact ⟨a, rfl⟩
  obtain ⟨b, off, hA, hb, _, hcell⟩ := Reads.elem ptrF_len h.fr.1 (by rw [hgk]; rfl : Y.gf[0]? = some gk) (by omega)
  obtain ⟨go, lA, lc, hf1, hf2, hf3⟩ := h.fm 0 gk F (by rw [hgk]; rfl) (by rw [hF]; rfl)
  refine ⟨gk, b, off, go, lA, lc, hgk, hf2, fun col' W k => ⟨?_, ?_⟩, fun col' W k => hf1.cg k (by omega)⟩
  · have := (h.st.cg k (by omega)).b.cell 1
    replace this : W.cell? ⟨g, 1, none⟩ = some (.slice Y.fA R.fs.length Y.fc) := this
    rw [hA, hF] at this
    exact this
  · have := h.fr.cg k (by omega)
    rw [hgk, hA, hF] at this
    obtain ⟨b', off', hA', _, hc⟩ := this.1.2 (by simp)
    injection hA' with hA'
    injection hA' with e1 e2
    subst e1 e2
    exact hc 0 _ rfl
def iA1 : Itm := ⟨false, 3, 0, 0, 0, false⟩
def iA2 : Itm := ⟨true, 0, 0, 0, 1, false⟩
/-- The rig of the example, round by round, and in the midst of a round. -/
def stEx : Nat → RigS
  | 0 => rgS 0 0 [] [] [] false 0 false [iA1, iA2] []
  | 1 => rgS 1 1 [] [] [lnS iA1] false 0 false [iA2] []
  | 2 => rgS 2 2 [] [] [lnS iA1] true 1 false [] []
  | _ => rgS 2 2 [] [] [lnS iA1] false 0 false [] [⟨1, 0, 1, [], [lnS iA1], 0⟩]
def mdEx : Nat → RigS
  | 0 => rgS 0 1 [putS iA1.put] [putS iA1.put] [] false 0 false [iA2] []
  | 1 => rgS 1 2 [putS iA2.put] [putS iA2.put] [lnS iA1] false 0 false [] []
  | k => stEx k
def WkEx (k : Nat) (col : Nat → Nat) (g : Nat) (w : World) (e : Ending) (w' : World) : Prop := ∃ did, SWork col g (stEx (k + 1)) did w e w'
section
variable {col : Nat → Nat} {w : World} {g : Nat} {Y : RX}
theorem iA_put : iA1.put.isSome = true ∧ iA2.put.isSome = true := by constructor <;> rfl
theorem stEx_send {k : Nat} (hk : k < 2) (h : RigM col w g (stEx k) Y) : Calls Tryz.prog 12 #[.pointer (some ⟨g, 0, none⟩), .int .i64 0] w (SentOut col g (mdEx k) Y w) := by
  rcases (show k = 0 ∨ k = 1 by omega) with rfl | rfl
  · exact ssend_any h (by omega) (by simp) iA_put.1
  · exact ssend_any h (by omega) (by simp) iA_put.2
theorem mdEx_work {k : Nat} (h : RigM col w g (mdEx k) Y) (vs : Value) : Calls Tryz.prog 13 #[.pointer (some ⟨g, 0, none⟩), vs] w (WkEx k col g w) := by
  match k, h with
  | 0, h => exact (swork_rec h (by omega) (by simp) (by simp) iA_put.1 rfl vs).mono fun _ _ h => ⟨_, h⟩
  | 1, h => exact (swork_bar h (by omega) (by simp) (by simp) iA_put.2 rfl vs).mono fun _ _ h => ⟨_, h⟩
  | 2, h => exact (swork_met h (by omega) (by simp) (by simp) vs).mono fun _ _ h => ⟨_, h⟩
  | k + 3, h => exact (swork_none h (by omega) (by simp) (by simp) vs).mono fun _ _ h => ⟨_, h⟩
theorem stEx_fs (k : Nat) : ∃ F, (stEx k).fs = [F] ∧ (2 ≤ k → mdEx k = stEx k ∧ F.left = []) ∧ (k < 2 → 0 < F.left.length) := by
  match k with
  | 0 => exact ⟨_, rfl, by simp, by simp⟩
  | 1 => exact ⟨_, rfl, by simp, by simp⟩
  | 2 => exact ⟨_, rfl, by simp [mdEx], by simp⟩
  | k + 3 => exact ⟨_, rfl, by simp [mdEx], by simp⟩
end
/-- The rig is made of the graph that lets all pass. -/
def MadeP (w : World) (e : Ending) (w' : World) : Prop := ∃ g Y col', e = .returned (.pointer (some ⟨g, 0, none⟩)) ∧ RigM col' w' g (rgS 0 0 [] [] [] false 0 false [] []) Y ∧ Cg RC (fun _ => 5000) w col' w'
theorem madeP_any {w0 w : World} {A : Option Addr} {c : Nat} {M : List Ndm} (hn : Nds w w.heap.size A 2 M) (hf : fstN M = passL 1) : Calls Tryz.prog 9 #[.slice A 2 c, .int .i64 1, .int .i64 0, .slice none 0 0] w (MadeP w) := by
  have h := made_any1 (fun _ => 5000) w A none 2 c 0 M 1 0 (pasS 1) [] hn (small_pass hf) (by rw [hf]; exact pass_right 1) (by rw [hf]; rfl) (by omega) (by decide) (by simp) rfl Reads.none_ (fun q _ => by unfold RC TC; omega)
  rw [hf, task0_pass, feeds_pass, drains_pass] at h
  exact h
def XC (c : Nat) : Prop := RC c ∨ c = 10
set_option maxRecDepth 100000 in
set_option maxHeartbeats 4000000 in
theorem awake20_any (w : World) : Calls Tryz.prog 8 #[] w fun e w' => e = .returned (.bool true) ∧ Fr w.heap.size [] w w' := by
  have HP := Lib.hid (pass_any 1 w)
  go_enter Tryz.func8, Tryz.ntmps8
  go_wp2_with fail
  refine HP.out.mono ?_
  rintro e w1 ⟨A, c, M, rfl, hn, hf, f1⟩
  have F1 := Lib.hid f1
  have HMD := Lib.hid (madeP_any (w0 := w) (c := c) (hn.nds (Fr.refl w1.heap.size [] w1) (by simp)) hf)
  clear HP f1 hn hf
  go_wp2_with fail
  refine HMD.out.mono ?_
  rintro e w2 ⟨g, Y, col2, rfl, hrm, hcg⟩
  have RM := Lib.hid hrm
  have CC := Lib.hid (hcg.mono (C' := XC) (fun _ h => .inl h))
  clear hrm hcg HMD
  obtain ⟨gk, b, off, go, lA, lc, hgf, _, hS0, hS⟩ := RM.out.feed0 rfl
  have HGF := Lib.hid hgf
  have SF := Lib.hid hS
  obtain ⟨r1, x1⟩ := hS0 _ _ (Cg.refl _ _ _)
  clear hgf hS hS0
  have BS := Lib.hid (Blk.new w2 46 #[.bool false, .int .i64 3, .int .i64 0, .int .i64 0, .int .i64 0, .bool false, .bool true, .int .i64 0, .int .i64 0, .int .i64 0, .int .i64 1, .bool false])
  have INV := Lib.hid (((cgf (col := col2) (· = 201) (Fr.refl w2.heap.size [] w2)).new (.cells #[.bool false, .int .i64 3, .int .i64 0, .int .i64 0, .int .i64 0, .bool false, .bool true, .int .i64 0, .int .i64 0, .int .i64 0, .int .i64 1, .bool false] 46)).repaint w2.heap.size 201 (Nat.le_refl _))
  have KB := Lib.hid (show paint col2 w2.heap.size 201 w2.heap.size = 201 from paint_ge (Nat.le_refl _))
  have z3 := SF.out _ _ INV.out
  have z2 := z3.b.cell 2
  have zf := z3.b.frozen 2
  have zl := z3.b.lt
  generalize paint col2 w2.heap.size 201 = col3 at *
  clear z3
  go_upto_region 5 with fail
  have hr : CR col3 201 (w2.alloc (.cells #[.bool false, .int .i64 3, .int .i64 0, .int .i64 0, .int .i64 0, .bool false, .bool true, .int .i64 0, .int .i64 0, .int .i64 0, .int .i64 1, .bool false] 46)) 46 6 (.slice (some ⟨w2.heap.size, 0, none⟩) 2 2) 2 (itmsC [iA1, iA2]) := ⟨RowO.of_own (owns_blk BS.out rfl (Nat.le_refl _) (by unfold maxLen; omega)), fun g hg => by injection hg with hg; subst hg; exact KB.out⟩
  obtain ⟨hm, _, hk⟩ := RM.out.left (j := 0) (n := 2) (l := [iA1, iA2]) (by rw [HGF.out]; rfl) rfl rfl INV.out hr
  have RM3 := Lib.hid (hm : RigM _ _ g (stEx 0) Y)
  have CC3 := Lib.hid (CC.out.trans (hk.mono (C' := XC) (fun q hq => .inl (.inr (.inr (.inr (by omega)))))))
  clear hr hm hk BS INV KB z2 zf zl r1 x1
  generalize (w2.alloc _).setCell _ _ = w3 at *
  go_upto_region 6 with fail
  go_loopg [2] 6 (fun q s2 wr => ∃ k : Nat, k ≤ 6 ∧ q = 6 - k ∧ s2 = .int .i64 k ∧ ∃ Yr colr, RowKit.Hid (RigM colr wr g (stEx k) Yr) ∧ RowKit.Hid (Cg XC (fun _ => 5000) w1 colr wr))
  case atStart => exact ⟨0, Nat.zero_le _, rfl, rfl, Y, col3, RM3, CC3⟩
  case round =>
    clear RM3 CC3 RM CC SF HGF
    obtain ⟨k, hk, rfl, rfl, Yr, colr, RM, CC⟩ := hrel
    by_cases hk6 : k < 6
    · have hki : (k : Int) < 6 := by omega
      obtain ⟨F, hF, hA, hB⟩ := stEx_fs k
      obtain ⟨gk, b, off, go, lA, lc, _, _, hS0, hS⟩ := RM.out.feed0 hF
      obtain ⟨r1, x1⟩ := hS0 _ _ (Cg.refl _ _ _)
      have h3 := hS _ _ (Cg.refl _ _ _)
      have y2 := h3.b.cell 2
      replace y2 : wr.cell? ⟨gk, 2, none⟩ = some (.slice lA F.left.length lc) := y2
      clear h3 hS hS0
      by_cases hk2 : k < 2
      · have hpos : (0 : Int) < (F.left.length : Int) := by have := hB hk2; omega
        have HSD := Lib.hid (stEx_send hk2 RM.out)
        generalize F.left.length = nl at *
        clear hA hB hF
        go_wp2_with fail
        refine HSD.out.mono ?_
        rintro e w4 ⟨col4, rfl, hm, hc⟩
        have CC4 := Lib.hid (CC.out.trans (hc.mono (C' := XC) (fun _ h => h)))
        have HWK := Lib.hid (mdEx_work hm (.pointer none))
        clear hm hc HSD r1 x1 y2 RM CC
        go_wp2_with fail
        refine HWK.out.mono ?_
        rintro e w5 ⟨did, Y5, col5, rfl, hm, hc⟩
        have RM5 := Lib.hid hm
        have CC5 := Lib.hid (CC4.out.trans (hc.mono (C' := XC) (fun _ h => .inl h)))
        clear hm hc HWK CC4
        go_wp2_with fail
        go_roundg (6 - (k + 1))
        case measure => omega
        case rel => exact ⟨k + 1, hk6, rfl, by go_num, Y5, col5, RM5, CC5⟩
      · obtain ⟨h1, h2⟩ := hA (by omega)
        rw [h2] at y2
        replace y2 : wr.cell? ⟨gk, 2, none⟩ = some (.slice lA 0 lc) := y2
        have RMk := RM.out
        rw [← h1] at RMk
        have HWK := Lib.hid (mdEx_work RMk (.pointer none))
        clear RMk h1 h2 hA hB hF
        go_wp2_with fail
        refine HWK.out.mono ?_
        rintro e w5 ⟨did, Y5, col5, rfl, hm, hc⟩
        have RM5 := Lib.hid hm
        have CC5 := Lib.hid (CC.out.trans (hc.mono (C' := XC) (fun _ h => .inl h)))
        clear hm hc HWK CC RM
        go_wp2_with fail
        go_roundg (6 - (k + 1))
        case measure => omega
        case rel => exact ⟨k + 1, hk6, rfl, by go_num, Y5, col5, RM5, CC5⟩
    · obtain rfl : k = 6 := by omega
      have R6 : RigM colr wr g (rgS 2 2 [] [] [lnS iA1] false 0 false [] [⟨1, 0, 1, [], [lnS iA1], 0⟩]) Yr := RM.out
      obtain ⟨x, hx, hxa⟩ := List.map_eq_singleton_iff.1 (show Yr.aks.map (·.a) = [⟨1, 0, 1, [], [lnS iA1], 0⟩] from R6.al)
      obtain ⟨xa, eA, ec, lA, lc⟩ := x
      simp only at hxa
      subst hxa
      have r3 : wr.cell? ⟨g, 3, none⟩ = some (.slice Yr.aA 1 Yr.ac) := R6.st.b.cell 3
      have har := R6.ar.r.reads
      rw [hx] at har
      obtain ⟨b, off, hA, _, hcell⟩ := har.2 (by show 0 < 1; omega)
      rw [hA] at r3
      have c2 := hcell 2 _ rfl
      have c4 := hcell 4 _ rfl
      replace c2 : wr.cell? ⟨b, off + 2, none⟩ = some (.int .i64 1) := c2
      replace c4 : wr.cell? ⟨b, off + 4, none⟩ = some (.slice lA 1 lc) := c4
      obtain ⟨b2, off2, hA2, _, hcell2⟩ := (R6.am _ (by rw [hx]; exact List.mem_singleton.2 rfl)).2.1.2 (by show 0 < 1; omega)
      simp only at hA2
      rw [hA2] at c4
      have d2 := hcell2 2 _ rfl
      replace d2 : wr.cell? ⟨b2, off2 + 2, none⟩ = some (.int .i64 3) := d2
      clear hcell hcell2 har hx hA hA2 R6 RM
      go_wp2_with fail
      go_ret
      exact ⟨rfl, F1.out.trans (CC.out.fr F1.out.size (fun _ _ h => by unfold XC RC TC at h; omega))⟩
end Go.Proofs.YtgblfflikgnfpaaGreat
namespace Go.Proofs.YtgblfflikgnfpaaGreat
open Go.RowKit Go.Fb
set_option linter.unusedVariables false
def lnR (x : Nat → Int) : Nat → Int := lnS (recI x)
def stC (l : List (Nat → Int)) (j : Nat) : RigS := rgS ((l.take j).length : Int) ((l.take j).length : Int) [] [] ((l.take j).map lnR) false 0 false ((l.drop j).map recI) []
def mdC (l : List (Nat → Int)) (j : Nat) : RigS :=
  match l[j]? with
  | some x => rgS ((l.take j).length : Int) ((l.take j).length + 1 : Int) [putS (recI x).put] [putS (recI x).put] ((l.take j).map lnR) false 0 false ((l.drop (j + 1)).map recI) []
  | none => stC l j
def WkC (l : List (Nat → Int)) (j : Nat) (col : Nat → Nat) (g : Nat) (w : World) (e : Ending) (w' : World) : Prop := ∃ did, SWork col g (stC l (j + 1)) did w e w'
theorem recI_put {x : Nat → Int} (h : recB (x 0) (x 1) (x 2) = true) : (recI x).put.isSome = true := by
  unfold recI Itm.put putI
  rw [if_neg (by simp), if_pos h]
  rfl
section
variable {col : Nat → Nat} {w : World} {g : Nat} {Y : RX} {l : List (Nat → Int)}
theorem stC_send (hl : l.length ≤ 60) (hok : ∀ x ∈ l, recB (x 0) (x 1) (x 2) = true) (j : Nat) (h : RigM col w g (stC l j) Y) : Calls Tryz.prog 12 #[.pointer (some ⟨g, 0, none⟩), .int .i64 0] w (SentOut col g (mdC l j) Y w) := by
  unfold mdC
  have hn : (l.take j).length ≤ 60 := by rw [List.length_take]; omega
  cases hx : l[j]? with
  | none =>
    have hd : l.drop j = [] := List.drop_eq_nil_of_le (by rcases Nat.lt_or_ge j l.length with h | h; · rw [List.getElem?_eq_getElem h] at hx; cases hx
                                                          · exact h)
    have h2 := h
    unfold stC at h2
    rw [hd] at h2
    refine (ssend_nil h2).mono ?_
    rintro e w' ⟨rfl, rfl⟩
    exact ⟨col, rfl, h, Cg.refl _ _ _⟩
  | some x =>
    have hj := (List.getElem?_eq_some_iff.1 hx).1
    have hd : l.drop j = x :: l.drop (j + 1) := by
      rw [List.drop_eq_getElem_cons hj, (List.getElem?_eq_some_iff.1 hx).2]
    unfold stC at h
    rw [hd, List.map_cons] at h
    exact ssend_any h (by omega) (by rw [List.length_map, List.length_drop]; omega) (recI_put (hok x (List.mem_of_getElem? hx)))
theorem mdC_work (hl : l.length ≤ 60) (hok : ∀ x ∈ l, recB (x 0) (x 1) (x 2) = true) (j : Nat) (h : RigM col w g (mdC l j) Y) (vs : Value) : Calls Tryz.prog 13 #[.pointer (some ⟨g, 0, none⟩), vs] w (WkC l j col g w) := by
  unfold mdC at h
  have hn : (l.take j).length ≤ 60 := by rw [List.length_take]; omega
  cases hx : l[j]? with
  | none =>
    have hj : l.length ≤ j := by
      rcases Nat.lt_or_ge j l.length with h | h
      · rw [List.getElem?_eq_getElem h] at hx; cases hx
      · exact h
    rw [hx] at h
    have he : stC l (j + 1) = stC l j := by
      unfold stC
      rw [List.take_of_length_le (by omega), List.take_of_length_le hj, List.drop_eq_nil_of_le (by omega), List.drop_eq_nil_of_le hj]
    have h2 : RigM col w g (stC l j) Y := h
    refine (swork_none (show RigM col w g (rgS _ _ [] [] _ false 0 false _ []) Y from h2) (by omega) (by rw [List.length_map]; omega) (by simp) vs).mono fun e w' h => ⟨false, ?_⟩
    rw [he]
    exact h
  | some x =>
    rw [hx] at h
    have hj := (List.getElem?_eq_some_iff.1 hx).1
    have ht : l.take (j + 1) = l.take j ++ [x] := by rw [List.take_add_one, hx]; rfl
    have he : stC l (j + 1) = rgS ((l.take j).length + 1 : Int) ((l.take j).length + 1 : Int) [] [] ((l.take j).map lnR ++ [lnS (recI x)]) false 0 false ((l.drop (j + 1)).map recI) [] := by
      unfold stC
      rw [ht, List.map_append, List.length_append]
      simp [lnR]
    refine (swork_rec (show RigM col w g (rgS _ _ [putS (recI x).put] [putS (recI x).put] _ false 0 false _ []) Y from h) (by omega) (by rw [List.length_map]; omega) (by simp) (recI_put (hok x (List.mem_of_getElem? hx))) rfl vs).mono fun e w' h => ⟨true, ?_⟩
    rw [he]
    exact h
end
theorem stC_end {l : List (Nat → Int)} (hl : l.length ≤ 60) : stC l 200 = rgS (l.length : Int) (l.length : Int) [] [] (l.map lnR) false 0 false [] [] := by
  unfold stC
  rw [List.take_of_length_le (by omega), List.drop_eq_nil_of_le (by omega)]
  rfl
end Go.Proofs.YtgblfflikgnfpaaGreat
namespace Go.Proofs.YtgblfflikgnfpaaGreat
open Go.RowKit Go.Fb
set_option linter.unusedVariables false
def XC2 (c : Nat) : Prop := RC c ∨ c = 10 ∨ c = 0
theorem recC_len (x : Nat → Int) : (recC x).length = 3 := rfl
theorem itemTy : SliceTy Tryz.prog 34 46 6 48 := SliceTy.mk' (z := .agg #[.bool false, .int .i64 0, .int .i64 0, .int .i64 0, .int .i64 0, .bool false]) Tryz.underlying34 (by kernel_rfl) rfl (by omega)
theorem XC2_no : ¬ XC2 5000 := fun h => by unfold XC2 RC TC at h; omega
theorem cellsR_dr (l : List (Nat → Int)) (k : Nat) : (cellsR l).drop (k * 3) = cellsR (l.drop k) := by
  induction k generalizing l with
  | zero => simp
  | succ k ih =>
    cases l with
    | nil => simp [cellsR]
    | cons a l =>
      have e : cellsR (a :: l) = recC a ++ cellsR l := List.flatMap_cons
      rw [e, List.drop_append, recC_len, List.drop_eq_nil_of_le (by rw [recC_len]; omega), List.nil_append, show (k + 1) * 3 - 3 = k * 3 by omega, ih]
      rfl
def XC3 (c : Nat) : Prop := c ≠ 5000
/-- What holds from commit to commit: what is left. -/
structure TcJ (w2 : World) (g : Nat) (L : Int) (A7 : Option Addr) (N : Nat) (zs : List Int) (col : Nat → Nat) (w : World) (v : Value) (r : List (Nat → Int)) (Yl : RX) : Prop where
  rw_ : CR col 0 w 32 3 v r.length (cellsR r)
  rm : RigM col w g (rgS L L [] [] (r.map lnR) false 0 false [] []) Yl
  zs : CRd col 3002 w 1 A7 N (zs.map (Value.int .i64))
  cc : Cg XC3 (fun _ => 5000) w2 col w
theorem TcJ.cg {w2 w w' : World} {g : Nat} {L : Int} {A7 : Option Addr} {N : Nat} {zs : List Int} {col col' : Nat → Nat} {v : Value} {r : List (Nat → Int)} {Yl : RX} (h : TcJ w2 g L A7 N zs col w v r Yl) {C : Nat → Prop} (k : Cg C col w col' w') (hC : ∀ c, C c → 3003 ≤ c ∧ c < 5000) : TcJ w2 g L A7 N zs col' w' v r Yl :=
  ⟨h.rw_.cg k (fun h => by have := hC _ h; omega), h.rm.cg k (fun c hc h => by have := hC _ h; unfold RC TC at hc; omega), h.zs.cg k (fun h => by have := hC _ h; omega), h.cc.trans (k.mono (fun c hc => by have := hC c hc; unfold XC3; omega))⟩
set_option maxRecDepth 100000 in
set_option maxHeartbeats 8000000 in
theorem walk_TaskCommits (A : Option Addr) (c : Nat) (l : List (Nat → Int)) (A1 : Option Addr) (n1 c1 : Nat) (zs : List Int) (hnc : l.length ≤ c) (hc : c ≤ maxLen) (hn1 : n1 = zs.length) (hnc1 : n1 ≤ c1) (hc1 : c1 ≤ maxLen) (w : World) (hr : Reads w w.heap.size 3 A l.length (cellsR l)) (hr1 : Reads w w.heap.size 1 A1 n1 (zs.map (Value.int .i64))) :
    Calls Tryz.prog 3 #[.slice A l.length c, .slice A1 n1 c1] w fun e w' => e = .returned (.bool true) ∧ Below w.heap.size w w' := by
  have hm := Nat.le_trans hnc hc
  have hm1 := Nat.le_trans hnc1 hc1
  unfold maxLen at hm hm1
  have HR := Lib.hid hr
  have HR1 := Lib.hid hr1
  have HN1 := Lib.hid hn1
  obtain ⟨n, hn⟩ : ∃ n, n = l.length := ⟨_, rfl⟩
  rw [← hn] at hm HR ⊢
  have HN := Lib.hid hn
  clear hr hr1 hc hc1 hn hn1 hnc hnc1
  go_enter Tryz.func3, Tryz.ntmps3
  go_wp2_with fail
  refine (awake20_any w).mono ?_
  rintro e w1 ⟨rfl, f1⟩
  have F1 := Lib.hid f1
  clear f1
  by_cases h60 : n ≤ 60
  case neg =>
    have hd : decide (60 < (n : Int)) = true := decide_eq_true (by omega)
    go_wp2_with fail
    go_ret
    exact ⟨rfl, F1.out.below⟩
  have hd60 : decide (60 < (n : Int)) = false := decide_eq_false (by omega)
  by_cases h40 : n1 ≤ 40
  case neg =>
    have hd : decide (40 < (n1 : Int)) = true := decide_eq_true (by omega)
    go_wp2_with fail
    go_ret
    exact ⟨rfl, F1.out.below⟩
  have hd40 : decide (40 < (n1 : Int)) = false := decide_eq_false (by omega)
  have HP := Lib.hid (pass_any 1 w1)
  go_wp2_with fail
  refine HP.out.mono ?_
  rintro e w2 ⟨Ap, cp, M, rfl, hnm, hf, f2⟩
  have F2 := Lib.hid (F1.out.trans (f2.mono F1.out.size (by simp)))
  have HMD := Lib.hid (madeP_any (w0 := w) (c := cp) (hnm.nds (Fr.refl w2.heap.size [] w2) (by simp)) hf)
  clear HP f2 hnm hf F1
  go_wp2_with fail
  refine HMD.out.mono ?_
  rintro e w3 ⟨g, Y, col3, rfl, hrm, hcg⟩
  have RM := Lib.hid hrm
  have CC := Lib.hid (hcg.mono (C' := XC2) (fun _ h => .inl h))
  clear hrm hcg HMD
  go_upto_region 10 with fail
  obtain ⟨gk, b, off, go, lA0, lc0, hgf, _, _⟩ := RM.out.feed0 rfl
  have HGF := Lib.hid hgf
  clear hgf
  go_loopg [6, 8, 31] n (fun q s6 s8 s31 wr => ∃ k : Nat, k ≤ n ∧ q = n - k ∧ s31 = .int .i64 k ∧ (s8 = undef ∨ ∃ a, s8 = .pointer a) ∧ ∃ Aw cw colr, s6 = .slice Aw k cw ∧ RowKit.Hid (CR colr 0 wr 32 3 (.slice Aw k cw) k (cellsR (l.take k))) ∧ RowKit.Hid (RigM colr wr g (rgS 0 0 [] [] [] false 0 false ((l.take k).map recI) []) Y) ∧ RowKit.Hid (Cg XC2 (fun _ => 5000) w2 colr wr) ∧ RowKit.Hid (∀ x ∈ l.take k, recB (x 0) (x 1) (x 2) = true))
  case atStart => exact ⟨0, Nat.zero_le _, rfl, rfl, .inl rfl, none, 0, col3, rfl, Lib.hid (CR.nil _ _ _ _ _), RM, CC, Lib.hid (by simp)⟩
  case round =>
    clear RM CC
    obtain ⟨k, hk, rfl, rfl, hs8, Aw, cw, colr, rfl, RW, RM, CC, OK⟩ := hrel
    by_cases hkn : k < n
    · have hki : (k : Int) < (n : Int) := by omega
      have FR := Lib.hid (F2.out.trans (CC.out.fr F2.out.size (fun _ _ => XC2_no)))
      obtain ⟨x, hx⟩ : ∃ x, l[k]? = some x := ⟨_, List.getElem?_eq_getElem (by rw [← HN.out]; exact hkn)⟩
      obtain ⟨ba, oa, rfl, hba, _, hcell⟩ := Reads.elem recC_len (HR.out.fr FR.out (Nat.le_refl _) (by simp)) hx (by omega)
      have y0 := hcell 0 _ rfl
      have y1 := hcell 1 _ rfl
      have y2 := hcell 2 _ rfl
      simp only [Nat.add_zero] at y0 y1 y2
      have HX := Lib.hid hx
      have fa := (Fr.refl wr.heap.size [] wr).alloc (Nat.le_refl _) (.cells #[.int .i64 (x 0), .int .i64 (x 1), .int .i64 (x 2)] 32)
      have BX := Lib.hid (⟨Blk.new wr _ _, paint_ge (Nat.le_refl _)⟩ : CB (paint colr wr.heap.size 3000) 3000 (wr.alloc (.cells #[.int .i64 (x 0), .int .i64 (x 1), .int .i64 (x 2)] 32)) wr.heap.size 32 #[.int .i64 (x 0), .int .i64 (x 1), .int .i64 (x 2)])
      have k1 := (cg0 (col := colr) fa).paint 3000
      have RW := Lib.hid (RW.out.cg k1 (fun h => h))
      have RM := Lib.hid (RM.out.cg k1 (fun _ _ h => h))
      have CC := Lib.hid (CC.out.trans (k1.mono (C' := XC2) (fun _ h => h.elim)))
      clear hcell hx fa k1 FR
      generalize paint colr _ _ = col4 at *
      go_upto_region 12 with fail
      obtain ⟨gx, hgx⟩ : ∃ gx, gx = wr.heap.size := ⟨_, rfl⟩
      rw [← hgx] at BX ⊢
      clear hgx
      generalize wr.alloc _ = w4 at *
      have x4 : w4.cell? ⟨gx, 0, none⟩ = some (.int .i64 (x 0)) := BX.out.b.cell 0
      have x41 : w4.cell? ⟨gx, 1, none⟩ = some (.int .i64 (x 1)) := BX.out.b.cell 1
      have x42 : w4.cell? ⟨gx, 2, none⟩ = some (.int .i64 (x 2)) := BX.out.b.cell 2
      have HRC := Lib.hid (rrec_any (x 0) (x 1) (x 2) w4)
      cases hb : recB (x 0) (x 1) (x 2) with
      | false =>
        rw [hb] at HRC
        clear hb y0 y1 y2
        go_wp2_with fail
        refine HRC.out.mono ?_
        rintro e w5 ⟨rfl, f5⟩
        have FE := Lib.hid (F2.out.trans ((CC.out.trans (cgf XC2 f5)).fr F2.out.size (fun _ _ => XC2_no)))
        clear f5
        go_wp2_with fail
        go_ret
        exact ⟨rfl, FE.out.below⟩
      | true =>
        rw [hb] at HRC
        have HB := Lib.hid hb
        clear hb y0 y1 y2
        go_wp2_with fail
        refine HRC.out.mono ?_
        rintro e w5 ⟨rfl, f5⟩
        have fa := f5.alloc f5.size (.cells #[.int .i64 (x 0), .int .i64 (x 1), .int .i64 (x 2)] 32)
        have BS := Lib.hid (Blk.new w5 32 #[.int .i64 (x 0), .int .i64 (x 1), .int .i64 (x 2)])
        have x4 : w5.cell? ⟨gx, 0, none⟩ = some (.int .i64 (x 0)) := (BX.out.cg (cg0 f5) (fun h => h)).b.cell 0
        have x41 : w5.cell? ⟨gx, 1, none⟩ = some (.int .i64 (x 1)) := (BX.out.cg (cg0 f5) (fun h => h)).b.cell 1
        have x42 : w5.cell? ⟨gx, 2, none⟩ = some (.int .i64 (x 2)) := (BX.out.cg (cg0 f5) (fun h => h)).b.cell 2
        have BX := Lib.hid (BX.out.cg (cg0 fa) (fun h => h))
        have RW := Lib.hid (RW.out.cg (cg0 fa) (fun h => h))
        have RM := Lib.hid (RM.out.fr0 fa)
        have CC := Lib.hid (CC.out.trans (cgf XC2 fa))
        clear f5 fa HRC
        go_wp2_with (at_builtin; refine wpList_appC _ rfl (.tmp 38) (.tmp 40) recTy rfl _ k _ rfl RW.out (w5.heap.size + 1) (some ⟨w5.heap.size, 0, none⟩) 1 1 (recC x) rfl (Reads.of_blk (m := 1) (size := 3) BS.out rfl) (by simp [recC, Value.oneCell']) (by omega) (by omega) ?_)
        intro A' c' w6 hrow hap hgr
        have hcr : cellsR (l.take k) ++ recC x = cellsR (l.take (k + 1)) := by
          rw [List.take_add_one, HX.out]
          simp [cellsR]
        rw [hcr] at hrow
        have RW := Lib.hid hrow
        have RM := Lib.hid (RM.out.cg hap (fun c hc h => by subst h; unfold RC TC at hc; omega))
        have BX := Lib.hid (BX.out.cg hap (by omega))
        have CC := Lib.hid (CC.out.trans (hap.mono (C' := XC2) (fun c hc => .inr (.inr hc))))
        clear hrow hap hgr hcr BS x4 x41 x42
        generalize paint col4 _ _ = col6 at *
        go_upto_region 15 with fail
        obtain ⟨gk, b, off, go, lA, lc, hgf, hrow, hS0, hS⟩ := RM.out.feed0 rfl
        replace hrow : CR col6 201 w6 46 6 (.slice lA ((l.take k).map recI).length lc) ((l.take k).map recI).length (itmsC ((l.take k).map recI)) := hrow
        have hnk : ((l.take k).map recI).length = k := by rw [List.length_map, List.length_take, ← HN.out]; omega
        have HGF := Lib.hid hgf
        have SF := Lib.hid (fun W col' (h : Cg (fun q => q = 201 ∨ q = 200) col6 w6 col' W) => (by
          obtain ⟨h1, h2⟩ := hS0 col' W h
          have h5 := BX.out.cg h (by omega)
          exact ⟨h1, h2, h5.b.cell 0, h5.b.cell 1, h5.b.cell 2⟩ : W.cell? ⟨g, 1, none⟩ = some (.slice (some ⟨b, off, none⟩) 1 Y.fc) ∧ W.cell? ⟨b, off, none⟩ = some (.pointer (some ⟨gk, 0, none⟩)) ∧ W.cell? ⟨gx, 0, none⟩ = some (.int .i64 (x 0)) ∧ W.cell? ⟨gx, 1, none⟩ = some (.int .i64 (x 1)) ∧ W.cell? ⟨gx, 2, none⟩ = some (.int .i64 (x 2))))
        have SZ := Lib.hid (fun W col' (h : Cg (· = 201) col6 w6 col' W) => (⟨by have := (hS col' W h).b.cell 2; rw [← hnk]; exact this, (hS col' W h).b.frozen 2, (hS col' W h).b.lt, (hS col' W h).k⟩ : W.cell? ⟨gk, 2, none⟩ = some (.slice lA k lc) ∧ W.frozen? ⟨gk, 2, none⟩ = false ∧ gk < W.heap.size ∧ col' gk = 200))
        have INV := Lib.hid (cgf (col := col6) (· = 201) (Fr.refl w6.heap.size [] w6).drew)
        rw [hnk] at hrow
        have LR := Lib.hid hrow.drew
        have z2 := (SZ.out _ _ INV.out).1
        clear hS hS0 hrow hgf hnk BX
        refine wp_region_held_drew (S := fun W => W.cell? ⟨g, 1, none⟩ = some (.slice (some ⟨b, off, none⟩) 1 Y.fc) ∧ W.cell? ⟨b, off, none⟩ = some (.pointer (some ⟨gk, 0, none⟩)) ∧ W.cell? ⟨gx, 0, none⟩ = some (.int .i64 (x 0)) ∧ W.cell? ⟨gx, 1, none⟩ = some (.int .i64 (x 1)) ∧ W.cell? ⟨gx, 2, none⟩ = some (.int .i64 (x 2))) (by kernel_rfl) (SF.out _ _ (INV.out.mono (fun q h => .inl h))) (fun hHeld => ?_)
        refine wpAnyH_take (i := 0) (oi := { dst := some 42, op := _, type := _, pos := _, after := _, guard := _ }) (v := ?_) rfl (by kernel_rfl) (by kernel_rfl) (by kernel_rfl) (fun _ _ _ h => h) (Or.inl ⟨by rfl, ?_⟩) hHeld ?_
        rotate_left
        · intro w hSw; (try dsimp only at hSw); go_simp; (try with_reducible rfl)
        simp only [Act.put, List.setIfInBounds_toArray, List.set_cons_zero, List.set_cons_succ]
        refine wpAnyH_take (i := 1) (oi := { dst := some 43, op := _, type := _, pos := _, after := _, guard := _ }) (v := ?_) rfl (by kernel_rfl) (by kernel_rfl) (by kernel_rfl) (fun _ _ _ h => h) (Or.inl ⟨by rfl, ?_⟩) hHeld ?_
        rotate_left
        · intro w hSw; (try dsimp only at hSw); go_simp; (try with_reducible rfl)
        simp only [Act.put, List.setIfInBounds_toArray, List.set_cons_zero, List.set_cons_succ]
        refine wpAnyH_take (i := 2) (oi := { dst := some 44, op := _, type := _, pos := _, after := _, guard := _ }) (v := ?_) rfl (by kernel_rfl) (by kernel_rfl) (by kernel_rfl) (fun _ _ _ h => h) (Or.inl ⟨by rfl, ?_⟩) hHeld ?_
        rotate_left
        · intro w hSw; (try dsimp only at hSw); go_simp; (try with_reducible rfl)
        simp only [Act.put, List.setIfInBounds_toArray, List.set_cons_zero, List.set_cons_succ]
        refine wpAnyH_take (i := 3) (oi := { dst := some 45, op := _, type := _, pos := _, after := _, guard := _ }) (v := ?_) rfl (by kernel_rfl) (by kernel_rfl) (by kernel_rfl) (fun _ _ _ h => h) (Or.inl ⟨by rfl, ?_⟩) hHeld ?_
        rotate_left
        · intro w hSw; (try dsimp only at hSw); go_simp; (try with_reducible rfl)
        simp only [Act.put, List.setIfInBounds_toArray, List.set_cons_zero, List.set_cons_succ]
        refine wpAnyH_take (i := 4) (oi := { dst := some 46, op := _, type := _, pos := _, after := _, guard := _ }) (v := ?_) rfl (by kernel_rfl) (by kernel_rfl) (by kernel_rfl) (fun _ _ _ h => h) (Or.inl ⟨by rfl, ?_⟩) hHeld ?_
        rotate_left
        · intro w hSw; (try dsimp only at hSw); go_simp; (try with_reducible rfl)
        simp only [Act.put, List.setIfInBounds_toArray, List.set_cons_zero, List.set_cons_succ]
        refine wpAnyH_take (i := 5) (oi := { dst := some 47, op := _, type := _, pos := _, after := _, guard := _ }) (v := ?_) rfl (by kernel_rfl) (by kernel_rfl) (by kernel_rfl) (fun _ _ _ h => h) (Or.inl ⟨by rfl, ?_⟩) hHeld ?_
        rotate_left
        · intro w hSw; (try dsimp only at hSw); go_simp; (try with_reducible rfl)
        simp only [Act.put, List.setIfInBounds_toArray, List.set_cons_zero, List.set_cons_succ]
        refine wpAnyH_take (i := 6) (oi := { dst := some 48, op := _, type := _, pos := _, after := _, guard := _ }) (v := ?_) rfl (by kernel_rfl) (by kernel_rfl) (by kernel_rfl) (fun _ _ _ h => h) (Or.inl ⟨by rfl, ?_⟩) hHeld ?_
        rotate_left
        · intro w hSw; (try dsimp only at hSw); go_simp; (try with_reducible rfl)
        simp only [Act.put, List.setIfInBounds_toArray, List.set_cons_zero, List.set_cons_succ]
        refine wpAnyH_take (i := 7) (oi := { dst := some 49, op := _, type := _, pos := _, after := _, guard := _ }) (v := ?_) rfl (by kernel_rfl) (by kernel_rfl) (by kernel_rfl) (fun _ _ _ h => h) (Or.inl ⟨by rfl, ?_⟩) hHeld ?_
        rotate_left
        · intro w hSw; (try dsimp only at hSw); go_simp; (try with_reducible rfl)
        simp only [Act.put, List.setIfInBounds_toArray, List.set_cons_zero, List.set_cons_succ]
        refine wpAnyH_take (i := 8) (oi := { dst := some 50, op := _, type := _, pos := _, after := _, guard := _ }) (v := ?_) rfl (by kernel_rfl) (by kernel_rfl) (by kernel_rfl) (fun _ _ _ h => h) (Or.inl ⟨by rfl, ?_⟩) hHeld ?_
        rotate_left
        · intro w hSw; (try dsimp only at hSw); go_simp; (try with_reducible rfl)
        simp only [Act.put, List.setIfInBounds_toArray, List.set_cons_zero, List.set_cons_succ]
        refine wpAnyH_take (i := 9) (oi := { dst := some 51, op := _, type := _, pos := _, after := _, guard := _ }) (v := ?_) rfl (by kernel_rfl) (by kernel_rfl) (by kernel_rfl) (fun _ _ _ h => h) (Or.inl ⟨by rfl, ?_⟩) hHeld ?_
        rotate_left
        · intro w hSw; (try dsimp only at hSw); go_simp; (try with_reducible rfl)
        simp only [Act.put, List.setIfInBounds_toArray, List.set_cons_zero, List.set_cons_succ]
        refine wpAnyH_take (i := 10) (oi := { dst := some 52, op := _, type := _, pos := _, after := _, guard := _ }) (v := ?_) rfl (by kernel_rfl) (by kernel_rfl) (by kernel_rfl) (fun _ _ _ h => h) (Or.inl ⟨by rfl, ?_⟩) hHeld ?_
        rotate_left
        · intro w hSw; (try dsimp only at hSw); go_simp; (try with_reducible rfl)
        simp only [Act.put, List.setIfInBounds_toArray, List.set_cons_zero, List.set_cons_succ]
        refine wpAnyH_take (i := 11) (oi := { dst := some 53, op := _, type := _, pos := _, after := _, guard := _ }) (v := ?_) rfl (by kernel_rfl) (by kernel_rfl) (by kernel_rfl) (fun _ _ _ h => h) (Or.inl ⟨by rfl, ?_⟩) hHeld ?_
        rotate_left
        · intro w hSw; (try dsimp only at hSw); go_simp; (try with_reducible rfl)
        simp only [Act.put, List.setIfInBounds_toArray, List.set_cons_zero, List.set_cons_succ]
        refine wpAnyH_take (i := 12) (oi := { dst := some 54, op := _, type := _, pos := _, after := _, guard := _ }) (v := ?_) rfl (by kernel_rfl) (by kernel_rfl) (by kernel_rfl) (fun _ _ _ h => h) (Or.inl ⟨by rfl, ?_⟩) hHeld ?_
        rotate_left
        · intro w hSw; (try dsimp only at hSw); go_simp; (try with_reducible rfl)
        simp only [Act.put, List.setIfInBounds_toArray, List.set_cons_zero, List.set_cons_succ]
        refine wpAnyH_take (i := 13) (oi := { dst := some 55, op := _, type := _, pos := _, after := _, guard := _ }) (v := ?_) rfl (by kernel_rfl) (by kernel_rfl) (by kernel_rfl) (fun _ _ _ h => h) (Or.inl ⟨by rfl, ?_⟩) hHeld ?_
        rotate_left
        · intro w hSw; (try dsimp only at hSw); go_simp; (try with_reducible rfl)
        simp only [Act.put, List.setIfInBounds_toArray, List.set_cons_zero, List.set_cons_succ]
        refine wpAnyH_take (i := 15) (oi := { dst := some 57, op := _, type := _, pos := _, after := _, guard := _ }) (v := ?_) rfl (by kernel_rfl) (by kernel_rfl) (by kernel_rfl) (fun _ _ _ h => h) (Or.inl ⟨by rfl, ?_⟩) hHeld ?_
        rotate_left
        · intro w hSw; (try dsimp only at hSw); go_simp; (try with_reducible rfl)
        simp only [Act.put, List.setIfInBounds_toArray, List.set_cons_zero, List.set_cons_succ]
        refine wpAnyH_take (i := 16) (oi := { dst := some 58, op := _, type := _, pos := _, after := _, guard := _ }) (v := ?_) rfl (by kernel_rfl) (by kernel_rfl) (by kernel_rfl) (fun _ _ _ h => h) (Or.inl ⟨by rfl, ?_⟩) hHeld ?_
        rotate_left
        · intro w hSw; (try dsimp only at hSw); go_simp; (try with_reducible rfl)
        simp only [Act.put, List.setIfInBounds_toArray, List.set_cons_zero, List.set_cons_succ]
        refine wpAnyH_ready (rs := [14, 17]) (by kernel_rfl) (by simp) ?_
        refine AllReadyH.cons (o := { dst := some 56, op := _, type := _, pos := _, after := _, guard := _ }) rfl (fun K hK => ?_) (AllReadyH.cons (o := { dst := some 59, op := _, type := _, pos := _, after := _, guard := _ }) rfl (fun K hK => ?_) AllReadyH.nil)
        · skip
          rw [if_pos (by rfl)]
          go_simp
          refine hK.out _ _ (SF.out _ _ (INV.out.mono (fun q h => .inl h))) (fun hHeld => ?_)
          clear hK K
          try simp only [Act.put, List.setIfInBounds_toArray, List.set_cons_zero, List.set_cons_succ]
          refine wpAnyH_ready (rs := [17]) (by kernel_rfl) (by simp) ?_
          refine AllReadyH.cons (o := { dst := some 59, op := _, type := _, pos := _, after := _, guard := _ }) rfl (fun K hK => ?_) AllReadyH.nil
          rw [if_pos (by rfl)]
          go_simp
          have BS := Lib.hid (Blk.new w6.drew 46 #[.bool false, .int .i64 (x 0), .int .i64 (x 1), .int .i64 (x 2), .int .i64 0, .bool false])
          have fa := (Fr.refl w6.drew.heap.size [] w6.drew).alloc (Nat.le_refl _) (.cells #[.bool false, .int .i64 (x 0), .int .i64 (x 1), .int .i64 (x 2), .int .i64 0, .bool false] 46)
          have LR := Lib.hid (LR.out.cg (cg0 fa) (fun h => h))
          have INV := Lib.hid (INV.out.trans (cgf _ fa))
          have z2 : (w6.alloc (.cells #[.bool false, .int .i64 (x 0), .int .i64 (x 1), .int .i64 (x 2), .int .i64 0, .bool false] 46)).cell? ⟨gk, 2, none⟩ = some (.slice lA k lc) := (SZ.out _ _ INV.out).1
          clear fa
          refine hK.out _ _ (SF.out _ _ (INV.out.mono (fun q h => .inl h))) (fun hHeld => ?_)
          clear hK K
          try simp only [Act.put, List.setIfInBounds_toArray, List.set_cons_zero, List.set_cons_succ]
          refine wpAnyH_ready (rs := [18]) (by kernel_rfl) (by simp) ?_
          refine AllReadyH.cons (o := { dst := some 60, op := _, type := _, pos := _, after := _, guard := _ }) rfl (fun K hK => ?_) AllReadyH.nil
          refine step_appC _ (by rfl) (.tmp 56) (.tmp 59) itemTy (by rfl) _ k _ (by rfl) LR.out (w6.drew.heap.size + 1) (some ⟨w6.drew.heap.size, 0, none⟩) 1 1 (itF (recI x)) (by rfl) (Reads.of_blk (m := 1) (size := 6) BS.out rfl) (by have := itmsC_one [recI x]; simpa [itmsC] using this) (by omega) (by omega) ?_
          intro A2 c2 w7 hrow hap hgr
          have INV := Lib.hid (INV.out.trans hap)
          have LR := Lib.hid hrow
          obtain ⟨z2, zf, zl, zk⟩ := SZ.out _ _ INV.out
          clear hrow hap hgr BS
          generalize paint col6 _ _ = col7 at *
          refine hK.out _ _ (SF.out _ _ (INV.out.mono (fun q h => .inl h))) (fun hHeld => ?_)
          clear hK K
          try simp only [Act.put, List.setIfInBounds_toArray, List.set_cons_zero, List.set_cons_succ]
          refine wpAnyH_take (i := 19) (oi := { dst := some 61, op := _, type := _, pos := _, after := _, guard := _ }) (v := ?_) rfl (by kernel_rfl) (by kernel_rfl) (by kernel_rfl) (fun _ _ _ h => h) (Or.inl ⟨by rfl, ?_⟩) hHeld ?_
          rotate_left
          · intro w hSw; (try dsimp only at hSw); go_simp; (try with_reducible rfl)
          simp only [Act.put, List.setIfInBounds_toArray, List.set_cons_zero, List.set_cons_succ]
          refine wpAnyH_take (i := 20) (oi := { dst := some 62, op := _, type := _, pos := _, after := _, guard := _ }) (v := ?_) rfl (by kernel_rfl) (by kernel_rfl) (by kernel_rfl) (fun _ _ _ h => h) (Or.inl ⟨by rfl, ?_⟩) hHeld ?_
          rotate_left
          · intro w hSw; (try dsimp only at hSw); go_simp; (try with_reducible rfl)
          simp only [Act.put, List.setIfInBounds_toArray, List.set_cons_zero, List.set_cons_succ]
          refine wpAnyH_ready (rs := [21]) (by kernel_rfl) (by simp) ?_
          refine AllReadyH.cons (o := { dst := none, op := _, type := _, pos := _, after := _, guard := _ }) rfl (fun K hK => ?_) AllReadyH.nil
          rw [if_pos (by rfl)]
          go_simp
          refine hK.out _ _ (SF.out _ _ ((INV.out.mono (fun q h => .inl h)).set (.inr zk) _)) (fun hHeld => ?_)
          clear hK K
          try simp only [Act.put]
          refine wpAnyH_done (by kernel_rfl) ?_ _
          have hcl : itmsC ((l.take k).map recI) ++ itF (recI x) = itmsC ((l.take (k + 1)).map recI) := by
            rw [List.take_add_one, HX.out]
            simp [itmsC]
          have hr9 := LR.out
          rw [hcl] at hr9
          obtain ⟨hm, _, hk9⟩ := RM.out.left (j := 0) (n := k + 1) (l := (l.take (k + 1)).map recI) (by rw [HGF.out]; rfl) rfl (by rw [List.length_map, List.length_take, ← HN.out]; omega) INV.out hr9
          have RM := Lib.hid (hm : RigM _ _ g (rgS 0 0 [] [] [] false 0 false ((l.take (k + 1)).map recI) []) Y)
          have RW := Lib.hid (RW.out.cg hk9 (by omega))
          have CC := Lib.hid (CC.out.trans (hk9.mono (C' := XC2) (fun q hq => .inl (.inr (.inr (.inr (by omega)))))))
          have OK := Lib.hid (show ∀ y ∈ l.take (k + 1), recB (y 0) (y 1) (y 2) = true by
            intro y hy
            rw [List.take_add_one, HX.out] at hy
            rcases List.mem_append.1 hy with hy | hy
            · exact OK.out y hy
            · simp at hy
              subst hy
              exact HB.out)
          clear hcl hr9 hm hk9 INV LR z2 zf zl zk hHeld SF SZ HGF HB HX
          go_wp2_with fail
          go_roundg (n - (k + 1))
          case measure => omega
          case rel => exact ⟨k + 1, hkn, rfl, by go_num, .inr ⟨_, rfl⟩, A', c', col7, rfl, RW, RM, CC, OK⟩
        · skip
          rw [if_pos (by rfl)]
          go_simp
          have BS := Lib.hid (Blk.new w6.drew 46 #[.bool false, .int .i64 (x 0), .int .i64 (x 1), .int .i64 (x 2), .int .i64 0, .bool false])
          have fa := (Fr.refl w6.drew.heap.size [] w6.drew).alloc (Nat.le_refl _) (.cells #[.bool false, .int .i64 (x 0), .int .i64 (x 1), .int .i64 (x 2), .int .i64 0, .bool false] 46)
          have LR := Lib.hid (LR.out.cg (cg0 fa) (fun h => h))
          have INV := Lib.hid (INV.out.trans (cgf _ fa))
          have z2 : (w6.alloc (.cells #[.bool false, .int .i64 (x 0), .int .i64 (x 1), .int .i64 (x 2), .int .i64 0, .bool false] 46)).cell? ⟨gk, 2, none⟩ = some (.slice lA k lc) := (SZ.out _ _ INV.out).1
          clear fa
          refine hK.out _ _ (SF.out _ _ (INV.out.mono (fun q h => .inl h))) (fun hHeld => ?_)
          clear hK K
          try simp only [Act.put, List.setIfInBounds_toArray, List.set_cons_zero, List.set_cons_succ]
          refine wpAnyH_ready (rs := [14]) (by kernel_rfl) (by simp) ?_
          refine AllReadyH.cons (o := { dst := some 56, op := _, type := _, pos := _, after := _, guard := _ }) rfl (fun K hK => ?_) AllReadyH.nil
          rw [if_pos (by rfl)]
          go_simp
          refine hK.out _ _ (SF.out _ _ (INV.out.mono (fun q h => .inl h))) (fun hHeld => ?_)
          clear hK K
          try simp only [Act.put, List.setIfInBounds_toArray, List.set_cons_zero, List.set_cons_succ]
          refine wpAnyH_ready (rs := [18]) (by kernel_rfl) (by simp) ?_
          refine AllReadyH.cons (o := { dst := some 60, op := _, type := _, pos := _, after := _, guard := _ }) rfl (fun K hK => ?_) AllReadyH.nil
          refine step_appC _ (by rfl) (.tmp 56) (.tmp 59) itemTy (by rfl) _ k _ (by rfl) LR.out (w6.drew.heap.size + 1) (some ⟨w6.drew.heap.size, 0, none⟩) 1 1 (itF (recI x)) (by rfl) (Reads.of_blk (m := 1) (size := 6) BS.out rfl) (by have := itmsC_one [recI x]; simpa [itmsC] using this) (by omega) (by omega) ?_
          intro A2 c2 w7 hrow hap hgr
          have INV := Lib.hid (INV.out.trans hap)
          have LR := Lib.hid hrow
          obtain ⟨z2, zf, zl, zk⟩ := SZ.out _ _ INV.out
          clear hrow hap hgr BS
          generalize paint col6 _ _ = col7 at *
          refine hK.out _ _ (SF.out _ _ (INV.out.mono (fun q h => .inl h))) (fun hHeld => ?_)
          clear hK K
          try simp only [Act.put, List.setIfInBounds_toArray, List.set_cons_zero, List.set_cons_succ]
          refine wpAnyH_take (i := 19) (oi := { dst := some 61, op := _, type := _, pos := _, after := _, guard := _ }) (v := ?_) rfl (by kernel_rfl) (by kernel_rfl) (by kernel_rfl) (fun _ _ _ h => h) (Or.inl ⟨by rfl, ?_⟩) hHeld ?_
          rotate_left
          · intro w hSw; (try dsimp only at hSw); go_simp; (try with_reducible rfl)
          simp only [Act.put, List.setIfInBounds_toArray, List.set_cons_zero, List.set_cons_succ]
          refine wpAnyH_take (i := 20) (oi := { dst := some 62, op := _, type := _, pos := _, after := _, guard := _ }) (v := ?_) rfl (by kernel_rfl) (by kernel_rfl) (by kernel_rfl) (fun _ _ _ h => h) (Or.inl ⟨by rfl, ?_⟩) hHeld ?_
          rotate_left
          · intro w hSw; (try dsimp only at hSw); go_simp; (try with_reducible rfl)
          simp only [Act.put, List.setIfInBounds_toArray, List.set_cons_zero, List.set_cons_succ]
          refine wpAnyH_ready (rs := [21]) (by kernel_rfl) (by simp) ?_
          refine AllReadyH.cons (o := { dst := none, op := _, type := _, pos := _, after := _, guard := _ }) rfl (fun K hK => ?_) AllReadyH.nil
          rw [if_pos (by rfl)]
          go_simp
          refine hK.out _ _ (SF.out _ _ ((INV.out.mono (fun q h => .inl h)).set (.inr zk) _)) (fun hHeld => ?_)
          clear hK K
          try simp only [Act.put]
          refine wpAnyH_done (by kernel_rfl) ?_ _
          have hcl : itmsC ((l.take k).map recI) ++ itF (recI x) = itmsC ((l.take (k + 1)).map recI) := by
            rw [List.take_add_one, HX.out]
            simp [itmsC]
          have hr9 := LR.out
          rw [hcl] at hr9
          obtain ⟨hm, _, hk9⟩ := RM.out.left (j := 0) (n := k + 1) (l := (l.take (k + 1)).map recI) (by rw [HGF.out]; rfl) rfl (by rw [List.length_map, List.length_take, ← HN.out]; omega) INV.out hr9
          have RM := Lib.hid (hm : RigM _ _ g (rgS 0 0 [] [] [] false 0 false ((l.take (k + 1)).map recI) []) Y)
          have RW := Lib.hid (RW.out.cg hk9 (by omega))
          have CC := Lib.hid (CC.out.trans (hk9.mono (C' := XC2) (fun q hq => .inl (.inr (.inr (.inr (by omega)))))))
          have OK := Lib.hid (show ∀ y ∈ l.take (k + 1), recB (y 0) (y 1) (y 2) = true by
            intro y hy
            rw [List.take_add_one, HX.out] at hy
            rcases List.mem_append.1 hy with hy | hy
            · exact OK.out y hy
            · simp at hy
              subst hy
              exact HB.out)
          clear hcl hr9 hm hk9 INV LR z2 zf zl zk hHeld SF SZ HGF HB HX
          go_wp2_with fail
          go_roundg (n - (k + 1))
          case measure => omega
          case rel => exact ⟨k + 1, hkn, rfl, by go_num, .inr ⟨_, rfl⟩, A', c', col7, rfl, RW, RM, CC, OK⟩
    · obtain rfl : k = n := by omega
      have htk : l.take k = l := List.take_of_length_le (by rw [← HN.out]; exact Nat.le_refl _)
      have RW := Lib.hid (by have h9 := RW.out; rw [htk] at h9; exact h9 : CR colr 0 wr 32 3 (.slice Aw k cw) k (cellsR l))
      have OK := Lib.hid (by have h9 := OK.out; rw [htk] at h9; exact h9 : ∀ x ∈ l, recB (x 0) (x 1) (x 2) = true)
      have RM := Lib.hid (by have h9 := RM.out; rw [htk] at h9; exact h9 : RigM colr wr g (stC l 0) Y)
      have HL60 := Lib.hid (show l.length ≤ 60 by rw [← HN.out]; exact h60)
      clear htk HGF
      go_upto_region 18 with fail
      go_loopg [9] 200 (fun q s9 wl => ∃ j : Nat, j ≤ 200 ∧ q = 200 - j ∧ s9 = .int .i64 j ∧ ∃ Yl coll, RowKit.Hid (CR coll 0 wl 32 3 (.slice Aw k cw) k (cellsR l)) ∧ RowKit.Hid (RigM coll wl g (stC l j) Yl) ∧ RowKit.Hid (Cg XC2 (fun _ => 5000) w2 coll wl))
      case atStart => exact ⟨0, Nat.zero_le _, rfl, rfl, Y, colr, RW, RM, CC⟩
      case round =>
        clear RW RM CC
        obtain ⟨j, hj, rfl, rfl, Yl, coll, RW, RM, CC⟩ := hrel
        by_cases hj2 : j < 200
        · have hji : (j : Int) < 200 := by omega
          have HSD := Lib.hid (stC_send HL60.out OK.out j RM.out)
          clear RM
          go_wp2_with fail
          refine HSD.out.mono ?_
          rintro e w4 ⟨col4, rfl, hm, hc⟩
          have CC4 := Lib.hid (CC.out.trans (hc.mono (C' := XC2) (fun q hq => by unfold XC2; rcases hq with h | h; exact .inl h; exact .inr (.inl h))))
          have RW4 := Lib.hid (RW.out.cg hc (by unfold RC TC; omega))
          have HWK := Lib.hid (mdC_work HL60.out OK.out j hm (.pointer none))
          clear hm hc HSD RW CC
          go_wp2_with fail
          refine HWK.out.mono ?_
          rintro e w5 ⟨did, Y5, col5, rfl, hm, hc⟩
          have RM5 := Lib.hid hm
          have CC5 := Lib.hid (CC4.out.trans (hc.mono (C' := XC2) (fun _ h => .inl h)))
          have RW5 := Lib.hid (RW4.out.cg hc (by unfold RC TC; omega))
          clear hm hc HWK CC4 RW4
          go_wp2_with fail
          go_roundg (200 - (j + 1))
          case measure => omega
          case rel => exact ⟨j + 1, hj2, rfl, by go_num, Y5, col5, RW5, RM5, CC5⟩
        · obtain rfl : j = 200 := by omega
          have RM := Lib.hid (by have h9 := RM.out; rw [stC_end HL60.out] at h9; exact h9 : RigM coll wr g (rgS (l.length : Int) (l.length : Int) [] [] (l.map lnR) false 0 false [] []) Yl)
          have fa := (Fr.refl wr.heap.size [] wr).alloc (Nat.le_refl _) (.cells #[.int .i64 0] 3)
          have BS := Lib.hid (Blk.new wr 3 #[.int .i64 0])
          have k1 := (cg0 (col := coll) fa).paint 3002
          have KB := Lib.hid (⟨RowO.of_own (owns_blk BS.out rfl (Nat.le_refl _) (by unfold maxLen; omega)), fun g hg => by injection hg with hg; subst hg; exact paint_ge (Nat.le_refl _)⟩ : CR (paint coll wr.heap.size 3002) 3002 (wr.alloc (.cells #[.int .i64 0] 3)) 3 1 (.slice (some ⟨wr.heap.size, 0, none⟩) 1 1) 1 [.int .i64 0])
          have RW := Lib.hid (RW.out.cg k1 (fun h => h))
          have RM := Lib.hid (RM.out.cg k1 (fun _ _ h => h))
          have CC := Lib.hid ((CC.out.trans (k1.mono (C' := XC2) (fun _ h => h.elim))).mono (C' := XC3) (fun c hc h => by subst h; exact XC2_no hc))
          have FR := Lib.hid (HR1.out.fr (F2.out.trans (CC.out.fr F2.out.size (fun _ _ h => h rfl))) (Nat.le_refl _) (by simp))
          have hn1p : 1 + n1 ≤ 1073741824 := by omega
          clear fa k1 BS
          generalize paint coll _ _ = col6 at *
          go_wp2_with (at_builtin; refine wpList_appC _ rfl (.tmp 72) (.tmp 73) intsTy rfl _ 1 _ rfl KB.out w.heap.size A1 n1 c1 (zs.map (Value.int .i64)) rfl FR.out (by simp [Value.oneCell']) (by omega) (by omega) ?_)
          intro A7 c7 w7 hrow hap hgr
          obtain ⟨ys, hys⟩ : ∃ ys : List Int, ys = 0 :: zs := ⟨_, rfl⟩
          obtain ⟨N, hN⟩ : ∃ N, N = 1 + n1 := ⟨_, rfl⟩
          have hYN := Lib.hid (show N = ys.length by rw [hN, hys, HN1.out, List.length_cons]; omega)
          have hN0 : 0 < N := by omega
          rw [show [Value.int .i64 0] ++ zs.map (Value.int .i64) = ys.map (Value.int .i64) by rw [hys]; rfl] at hrow
          rw [← hN] at hrow ⊢
          have J0 := Lib.hid ((⟨by rw [← HN.out]; exact RW.out.cg hap (by omega), RM.out.cg hap (fun c hc h => by subst h; unfold RC TC at hc; omega), hrow.rd, CC.out.trans (hap.mono (fun c hc => by unfold XC3; omega))⟩ : TcJ w2 g (l.length : Int) A7 N ys _ w7 (.slice Aw k cw) l Yl))
          have HLL := Lib.hid (show l.length ≤ 60 from HL60.out)
          have hlk := HN.out
          rw [hlk] at J0
          rw [hlk]
          clear hrow hap hgr hys KB RW RM CC FR hlk HL60
          generalize paint col6 _ _ = col7 at *
          go_upto_region 23 with fail
          obtain ⟨LL, hLL⟩ : ∃ LL : Int, LL = (l.length : Int) := ⟨_, rfl⟩
          rw [← hLL] at J0
          have HN7 := Lib.hid hN
          clear hLL hN hj hj2 hk hkn HN HR RW RM CC OK
          go_loopg [6, 11, 12, 14, 76] N (fun q s6 s11 s12 s14 s76 wl => ∃ i : Nat, i ≤ N ∧ q = N - i ∧ s76 = .int .i64 i ∧ (s11 = undef ∨ ∃ z, s11 = .int .i64 z) ∧ (s12 = undef ∨ ∃ A n c, s12 = .slice A n c) ∧ (s14 = undef ∨ ∃ a, s14 = .pointer a) ∧ ∃ Aw cw r Yl coll, s6 = .slice Aw r.length cw ∧ RowKit.Hid (TcJ w2 g LL A7 N ys coll wl (.slice Aw r.length cw) r Yl) ∧ RowKit.Hid (r.length ≤ 60))
          case atStart => exact ⟨0, Nat.zero_le _, rfl, rfl, .inl rfl, .inl rfl, .inl rfl, Aw, cw, l, Yl, col7, rfl, J0, HLL⟩
          case round =>
            clear J0 HLL
            obtain ⟨i, hi, rfl, rfl, hs11, hs12, hs14, Aw, cw, r, Yl, coll, rfl, J, HL⟩ := hrel
            by_cases hiN : i < N
            · have hii : (i : Int) < 1 + (n1 : Int) := by have := HN7.out; omega
              have hii2 : (i : Int) < (N : Int) := by omega
              obtain ⟨z, hz⟩ : ∃ z, ys[i]? = some z := ⟨_, List.getElem?_eq_getElem (by rw [← hYN.out]; exact hiN)⟩
              obtain ⟨b7, off7, rfl, _, hcell⟩ := J.out.zs.1.2 hN0
              have y0 := hcell i (.int .i64 z) (by rw [List.getElem?_map, hz]; rfl)
              have g0 : wr.cell? ⟨g, 0, none⟩ = some (.pointer (some ⟨Yl.gt, 0, none⟩)) := J.out.rm.st.b.cell 0
              have HCM := Lib.hid (commit_any J.out.rm.t z (by show (r.map lnR).length ≤ _; rw [List.length_map]; have := HL.out; omega))
              clear hz hcell
              go_wp2_with fail
              refine HCM.out.mono ?_
              rintro e w4 ⟨X', rfl, ht, hcg⟩
              obtain ⟨d, hd⟩ : ∃ d, d = (min (max z 0) (r.length : Int)).toNat := ⟨_, rfl⟩
              have hdr : d ≤ r.length := by omega
              have RM4 := Lib.hid (by
                have h9 := J.out.rm.setT hcg (fun c h => .inl (by unfold TC; omega)) ht
                have e9 : (rgS LL LL [] [] (r.map lnR) false 0 false [] []).t.commit z = tkS LL [] ((r.drop d).map lnR) false 0 false := by
                  show ({ tkS LL [] (r.map lnR) false 0 false with lns := (r.map lnR).drop (cut z (r.map lnR).length) } : TaskS) = _
                  rw [List.length_map, List.map_drop, hd]
                  rfl
                rw [e9] at h9
                exact h9 : RigM coll w4 g (rgS LL LL [] [] ((r.drop d).map lnR) false 0 false [] []) { Yl with X := X' })
              have k4 : Cg (fun c => c = 1 ∨ c = 7) coll wr coll w4 := hcg
              have CC4 := Lib.hid (J.out.cc.trans (k4.mono (C' := XC3) (fun c hc => by unfold XC3; omega)))
              have ZS4 := Lib.hid (J.out.zs.cg k4 (by omega))
              have RW4 := J.out.rw_.cg k4 (by omega)
              have hle : r.length ≤ cw := by
                obtain ⟨_, _, e, _, hle, _, _⟩ := RW4.r.shape
                injection e with _ _ e2
                omega
              have RW5 := RW4.from_ hdr
              rw [cellsR_dr] at RW5
              have HL4 := Lib.hid (show (r.drop d).length ≤ 60 by rw [List.length_drop]; have := HL.out; omega)
              have g4 : w4.cell? ⟨g, 0, none⟩ = some (.pointer (some ⟨Yl.gt, 0, none⟩)) := RM4.out.st.b.cell 0
              obtain ⟨nr, hnr⟩ : ∃ nr, nr = r.length := ⟨_, rfl⟩
              rw [← hnr] at RW5 hle hdr hd
              have HR9 := Lib.hid (show nr - d = (r.drop d).length by rw [List.length_drop, ← hnr])
              have HD := Lib.hid hd
              clear ht hcg k4 HCM J RW4 y0 g0 HL
              rw [← hnr]
              clear hnr
              have RW6 := Lib.hid RW5
              subst hd
              clear RW5
              go_upto_region 27 with fail
              rw [HR9.out] at RW6 ⊢
              obtain ⟨r2, hr2⟩ : ∃ r2, r2 = r.drop (min (max z 0) (nr : Int)).toNat := ⟨_, rfl⟩
              rw [← hr2] at RW6 RM4 HL4 ⊢
              clear hr2 HR9 HD hdr hle
              generalize Value.slice (if cw = _ then Aw else _) r2.length _ = v9 at *
              obtain ⟨A9, c9, rfl, _⟩ := RW6.out.r.shape
              have HLN := Lib.hid (by
                have h9 := lines_any RM4.out.t (by show (r2.map lnR).length ≤ _; rw [List.length_map]; have := HL4.out; omega)
                replace h9 : Calls Tryz.prog 15 #[.pointer (some ⟨Yl.gt, 0, none⟩)] w4 fun e w' => ∃ A c, e = .returned (.slice A (r2.map lnR).length c) ∧ w'.ownsRow w4.heap.size 52 5 (.slice A (r2.map lnR).length c) (r2.map lnR).length (cellsLn (r2.map lnR)) ∧ Fr w4.heap.size [] w4 w' := h9
                rw [List.length_map] at h9
                exact h9)
              have J4 := Lib.hid (⟨RW6.out, RM4.out, ZS4.out, CC4.out⟩ : TcJ w2 g LL (some ⟨b7, off7, none⟩) N ys coll w4 (.slice A9 r2.length c9) r2 _)
              clear RW6 RM4 ZS4 CC4
              generalize ({ Yl with X := X' } : RX) = Y4 at *
              go_wp2_with fail
              refine HLN.out.mono ?_
              rintro e w5 ⟨A10, c10, rfl, hown, f5⟩
              have k5 := (cg0 (col := coll) f5).paint 3003
              have LN := Lib.hid (⟨Reads.of_own hown, fun ad ha _ => paint_ge (own_low hown ad ha)⟩ : CRd (paint coll w4.heap.size 3003) 3003 w5 5 A10 r2.length (cellsLn (r2.map lnR)))
              have J5 := Lib.hid (J4.out.cg k5 (fun c h => h.elim))
              obtain ⟨m, hm2⟩ : ∃ m, m = r2.length := ⟨_, rfl⟩
              have HM2 := Lib.hid hm2
              rw [← hm2] at LN
              rw [← hm2]
              have hm60 : m ≤ 60 := by rw [hm2]; exact HL4.out
              clear hown f5 k5 HLN J4 g4 hm2
              generalize paint coll _ _ = col5 at *
              go_upto_region 29 with fail
              go_loopg [12, 14, 99] m (fun q s12 s14 s99 wx => ∃ k2 : Nat, k2 ≤ m ∧ q = m - k2 ∧ s99 = .int .i64 k2 ∧ (s14 = undef ∨ ∃ a, s14 = .pointer a) ∧ ∃ Ag cg colx, s12 = .slice Ag k2 cg ∧ RowKit.Hid (CR colx 3004 wx 32 3 (.slice Ag k2 cg) k2 (cellsR (r2.take k2))) ∧ RowKit.Hid (CRd colx 3003 wx 5 A10 m (cellsLn (r2.map lnR))) ∧ RowKit.Hid (TcJ w2 g LL (some ⟨b7, off7, none⟩) N ys colx wx (.slice A9 r2.length c9) r2 Y4))
              case atStart => exact ⟨0, Nat.zero_le _, rfl, rfl, hs14, none, 0, col5, rfl, Lib.hid (CR.nil _ _ _ _ _), LN, J5⟩
              case round =>
                clear LN J5
                obtain ⟨k2, hk2, rfl, rfl, hs14, Ag, cg, colx, rfl, GT, LN, J⟩ := hrel
                by_cases hkm : k2 < m
                · have hki : (k2 : Int) < (m : Int) := by omega
                  obtain ⟨x, hx⟩ : ∃ x, r2[k2]? = some x := ⟨_, List.getElem?_eq_getElem (by rw [← HM2.out]; exact hkm)⟩
                  obtain ⟨ba, oa, rfl, _, _, hcell⟩ := Reads.elem (f := lnC) (fun _ => rfl) LN.out.1 (by rw [List.getElem?_map, hx]; rfl : (r2.map lnR)[k2]? = some (lnR x)) (by omega)
                  have y0 := hcell 0 _ rfl
                  have y1 := hcell 1 _ rfl
                  have y2 := hcell 2 _ rfl
                  have y3 := hcell 3 _ rfl
                  have y4 := hcell 4 _ rfl
                  simp only [Nat.add_zero] at y0
                  replace y2 : wr.cell? ⟨ba, oa + k2 * 5 + 2, none⟩ = some (.int .i64 (x 0)) := y2
                  replace y3 : wr.cell? ⟨ba, oa + k2 * 5 + 3, none⟩ = some (.int .i64 (x 1)) := y3
                  replace y4 : wr.cell? ⟨ba, oa + k2 * 5 + 4, none⟩ = some (.int .i64 (x 2)) := y4
                  have HX := Lib.hid hx
                  obtain ⟨v0, hv0⟩ : ∃ v0, v0 = lnR x 0 := ⟨_, rfl⟩
                  obtain ⟨v1, hv1⟩ : ∃ v1, v1 = lnR x 1 := ⟨_, rfl⟩
                  rw [← hv0] at y0
                  rw [← hv1] at y1
                  clear hv0 hv1 hcell hx
                  have fa := (Fr.refl wr.heap.size [] wr).alloc (Nat.le_refl _) (.cells #[.int .i64 v0, .int .i64 v1, .int .i64 (x 0), .int .i64 (x 1), .int .i64 (x 2)] 52)
                  have BX := Lib.hid (Blk.new wr 52 #[.int .i64 v0, .int .i64 v1, .int .i64 (x 0), .int .i64 (x 1), .int .i64 (x 2)])
                  have GT := Lib.hid (GT.out.cg (cg0 fa) (fun h => h))
                  have LN := Lib.hid (LN.out.cg (cg0 fa) (fun h => h))
                  have J := Lib.hid (J.out.cg (cg0 fa) (fun c h => h.elim))
                  obtain ⟨gx, hgx⟩ : ∃ gx, gx = wr.heap.size := ⟨_, rfl⟩
                  clear fa
                  go_upto_region 31 with fail
                  rw [← hgx] at BX ⊢
                  clear hgx
                  generalize wr.alloc _ = w6 at *
                  have x42 : w6.cell? ⟨gx, 2, none⟩ = some (.int .i64 (x 0)) := BX.out.cell 2
                  have x43 : w6.cell? ⟨gx, 3, none⟩ = some (.int .i64 (x 1)) := BX.out.cell 3
                  have x44 : w6.cell? ⟨gx, 4, none⟩ = some (.int .i64 (x 2)) := BX.out.cell 4
                  have fa := (Fr.refl w6.heap.size [] w6).alloc (Nat.le_refl _) (.cells #[.int .i64 (x 0), .int .i64 (x 1), .int .i64 (x 2)] 32)
                  have BS := Lib.hid (Blk.new w6 32 #[.int .i64 (x 0), .int .i64 (x 1), .int .i64 (x 2)])
                  have GT := Lib.hid (GT.out.cg (cg0 fa) (fun h => h))
                  have LN := Lib.hid (LN.out.cg (cg0 fa) (fun h => h))
                  have J := Lib.hid (J.out.cg (cg0 fa) (fun c h => h.elim))
                  clear fa BX
                  go_wp2_with (at_builtin; refine wpList_appC _ rfl (.tmp 103) (.tmp 109) recTy rfl _ k2 _ rfl GT.out (w6.heap.size + 1) (some ⟨w6.heap.size, 0, none⟩) 1 1 (recC x) rfl (Reads.of_blk (m := 1) (size := 3) BS.out rfl) (by simp [recC, Value.oneCell']) (by omega) (by omega) ?_)
                  intro A' c' w8 hrow hap hgr
                  have hcr : cellsR (r2.take k2) ++ recC x = cellsR (r2.take (k2 + 1)) := by
                    rw [List.take_add_one, HX.out]
                    simp [cellsR]
                  rw [hcr] at hrow
                  have GT := Lib.hid hrow
                  have LN := Lib.hid (LN.out.cg hap (by omega))
                  have J := Lib.hid (J.out.cg hap (fun c h => by omega))
                  clear hrow hap hgr hcr BS x42 x43 x44 HX
                  generalize paint colx _ _ = col8 at *
                  go_wp2_with fail
                  go_roundg (m - (k2 + 1))
                  case measure => omega
                  case rel => exact ⟨k2 + 1, hkm, rfl, by go_num, .inr ⟨_, rfl⟩, A', c', col8, rfl, GT, LN, J⟩
                · obtain rfl : k2 = m := by omega
                  have GT := Lib.hid (by have h9 := GT.out; rw [List.take_of_length_le (by rw [← HM2.out]; exact Nat.le_refl _)] at h9; exact h9 : CR colx 3004 wr 32 3 (.slice Ag k2 cg) k2 (cellsR r2))
                  have HRS := Lib.hid (recs_yes (c1 := cg) (c2 := c9) HM2.out GT.out.r.reads (by rw [HM2.out]; exact J.out.rw_.r.reads) (by omega) : Calls Tryz.prog 16 #[.slice Ag k2 cg, .slice A9 k2 c9] wr fun e w' => e = .returned (.bool true) ∧ Fr wr.heap.size [] wr w')
                  go_wp2_with fail
                  refine HRS.out.mono ?_
                  rintro e w9 ⟨rfl, f9⟩
                  have J := Lib.hid (J.out.cg (cg0 f9) (fun c h => h.elim))
                  clear f9 HRS GT LN
                  go_wp2_with fail
                  go_roundg (N - (i + 1))
                  case measure => omega
                  case rel => exact ⟨i + 1, hiN, rfl, by go_num, .inr ⟨_, rfl⟩, .inr ⟨_, _, _, rfl⟩, hs14, A9, c9, r2, Y4, colx, by rw [HM2.out], J, HL4⟩
            · obtain rfl : i = N := by omega
              have hii : ¬ ((i : Int) < 1 + (n1 : Int)) := by have := HN7.out; omega
              have FE := Lib.hid (F2.out.trans (J.out.cc.fr F2.out.size (fun _ _ h => h rfl)))
              go_wp2_with fail
              go_ret
              exact ⟨rfl, FE.out.below⟩
end Go.Proofs.YtgblfflikgnfpaaGreat
