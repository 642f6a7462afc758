/- book.Prune's closures: what is dead is told of. book.DropTable, of any book. book.Prune, of any book. book.Prune, of any book: its walk. store.Prune, of any store. The broom's begin, and its first step. The broom's step at a page. The indexes of a job: of. The broom's other steps: the first one, at an index, the release. The broom's Pass, over a store of one table. The laws' own small functions (law 13): num, one. Heaps told by lists of versions: what is seen of them, and what is dead. BroomSteady's plain part: there is always room. store.CreateIndex of a store of one table that has no index. No condition. -/
import Derived.Test.YtobhgnjblniphaaGreatDoorBs5
set_option linter.unusedVariables false
set_option linter.unusedSimpArgs false
set_option maxRecDepth 100000
set_option maxHeartbeats 8000000
namespace Go.Lap
def Z1s (L:List Nat) (hz:Nat) (t:TE):Bool:=Z0h L t.xmin t.xmax hz
def Zv (L:List Nat) (hz:Nat) (T:List TE):List Nat:=(T.filter (Z1s L hz)).map (fun t=>t.id)
def Z1t (L:List Nat) (hz:Nat) (ts:List Nat) (x:IE):Bool:=Z0h L x.xmin x.xmax hz || decide (x.table ∈ ts)
def Z0H (L:List Nat) (hz:Nat) (ts:List Nat) (I:List IE):List Nat:=(I.filter (Z1t L hz ts)).map (fun x=>x.id)
def Z1d {α:Type} (f:α->Bool) (ps:List Nat) (T:List α):List (Nat × α):=(ps.zip T).filter (fun z=>!f z.2)
theorem Z9F {α:Type} (f:α->Bool) {ps:List Nat} {T:List α} {n:Nat} (h:ps.length=n) (h2:T.length=n):Z0e ps (T.map f) n=(Z1d f ps T).map (fun z=>z.1):=by
 unfold Z0e Z1d
 rw [List.zip_map_right,List.take_of_length_le (by simp [h,h2]),List.filter_map,List.map_map]
 rfl
theorem Z4N {α:Type} (f:α->Bool) {ps:List Nat} {T:List α} (h:ps.length=T.length):T.filter (fun t=>!f t)=(Z1d f ps T).map (fun z=>z.2):=by
 unfold Z1d
 have e:T=(ps.zip T).map (fun z=>z.2):=(List.map_snd_zip (by omega)).symm
 conv=>lhs;rw [e]
 rw [List.filter_map]
 rfl
theorem Zb7 {α:Type} {f:α->Bool} {ps:List Nat} {T:List α} {z:Nat × α} (h:z ∈ Z1d f ps T):f z.2=false/\∃ j:Nat,ps[j]?=some z.1/\T[j]?=some z.2:=by
 obtain ⟨h1,h2⟩:=List.mem_filter.1 h
 obtain ⟨j,hj⟩:=List.mem_iff_getElem?.1 h1
 rw [List.getElem?_zip_eq_some] at hj
 exact ⟨by simpa using h2,j,hj⟩
end Go.Lap
namespace Go.Proofs.YtobhgnjblniphaaGreatDoor
open Go.RowKit Go.Lap
structure Z28 (W:World) (oc:Nat) (v:Value) (ids:List Nat):Prop where
 box:W.heap[oc]?=some (.cells #[v] 74 (0,0))
 own:W.ownsRow 0 34 1 v ids.length (ZE ids)
theorem Z28.kept {S:Nat->Prop} {w w':World} {oc:Nat} {v:Value} {ids:List Nat} (h:Z28 w oc v ids) (ho:Z0 S w w') (hn:¬ S oc) (hv:∀ k,v.ownBlock=some k->¬ S k):Z28 w' oc v ids:=⟨ho.get h.box hn,Z5 h.own ho hv⟩
def Z3D (W:World) (oc:Nat) (v:Value) (ids:List Nat) (d:Bool) (id:Nat) (e:Ending) (w':World):Prop :=
 e=.returned (.bool d)/\Z0 (fun k=>k=oc ∨ v.ownBlock=some k) W w'/\∃ v',Z28 w' oc v' (if d then ids ++ [id] else ids)/\∀ k,v'.ownBlock=some k->v.ownBlock=some k ∨ W.heap.size <= k
theorem Z8B {W d0 d1 d2:World} {oc id c c2:Nat} {A A3:Option Addr} {ids:List Nat} (h:Z28 W oc (.slice A ids.length c) ids) (hq:Quiet W d0) (hg:ZT (d0.alloc (.cells [.int .u64 (id:Int)].toArray 34)) d1 34 1 (.slice A ids.length c) (.slice A3 (ids.length+1) c2) (ids.length+1) (ZE ids ++ [.int .u64 (id:Int)])) (hd:d2=d1.setCell ⟨oc,0,none⟩ (.slice A3 (ids.length+1) c2)) :
  Z0 (fun k=>k=oc ∨ (Value.slice A ids.length c).ownBlock=some k) W d2/\Z28 d2 oc (.slice A3 (ids.length+1) c2) (ids ++ [id])/\∀ k,(Value.slice A3 (ids.length+1) c2).ownBlock=some k->(Value.slice A ids.length c).ownBlock=some k ∨ W.heap.size <= k:=by
 subst hd
 have hqa:Quiet W (d0.alloc (.cells [.int .u64 (id:Int)].toArray 34)):=hq.trans ((Z0.refl _ _).alloc _)
 have hz:=hqa.size
 have hne:∀ k,(Value.slice A ids.length c).ownBlock=some k->k ≠ oc:=fun k e e2=>by
  obtain ⟨cc,hh⟩:=Zh h.own e
  exact Zb hh h.box (by decide) e2
 have hb1:=hg.only.get (hqa.get h.box (fun x=>x)) (fun e=>hne _ e rfl)
 have ho2:Z0 (fun k=>k=oc) d1 (d1.setCell ⟨oc,0,none⟩ (.slice A3 (ids.length+1) c2)):=(Z0.refl (fun k=>k=oc) d1).setCell (p:=⟨oc,0,none⟩) (fun _=>rfl) _
 have hloc:∀ k,(Value.slice A3 (ids.length+1) c2).ownBlock=some k->(Value.slice A ids.length c).ownBlock=some k ∨ W.heap.size <= k:=fun k e=>by
  rcases hg.loc with y | y
  ·rw [y] at e;exact Or.inl e
  ·rw [y] at e;injection e with e;exact Or.inr (by omega)
 refine ⟨(((hqa.mono (fun _ _ x=>x.elim)).trans (hg.only.mono (fun k _ e=>Or.inr e))).trans (ho2.mono (fun k _ e=>Or.inl e))),⟨?_,?_⟩,hloc⟩
 ·rw [Zg hb1]
  rfl
 ·have e1:ZE (ids ++ [id])=ZE ids ++ [.int .u64 (id:Int)]:=by simp [ZE]
  rw [e1,List.length_append]
  refine Z5 hg.own ho2 (fun k e e2=>?_)
  rcases hloc k e with y | y
  ·exact hne k y e2
  ·have:=Z2 h.box
   omega
theorem ZfI {w:World} {F:Nat->Prop} {lb lc zc oc tb hz:Nat} {L:List Nat} {x:EB} {v:Value} {ids:List Nat} (hx:Z5o w tb x) (hl:ZJ w F lb L) (h1:U64 x.xmin) (h2:U64 x.xmax) (c1:w.cell? ⟨lc,0,none⟩=some (ptrV lb)) (c2:w.cell? ⟨zc,0,none⟩=some (.int .u64 (hz:Int))) (ho:Z28 w oc v ids) (hn:ids.length <= 100000) (hF:¬ F oc/\∀ k,v.ownBlock=some k->¬ F k) (hd:lc ≠ oc/\zc ≠ oc) (hty:x.ty ≠ 74/\x.ty ≠ 34) (hlc:∀ k,v.ownBlock=some k->k ≠ lc/\k ≠ zc) :
  Calls Tryz.prog 186 #[ptrV tb,ptrV lc,ptrV zc,ptrV oc] w (Z3D w oc v ids (Z0h L x.xmin x.xmax hz) x.id):=by
 have HD:Hid (∀ W,Z0 (fun k=>k=oc ∨ v.ownBlock=some k) w W->Calls Tryz.prog 187 #[.pointer (some ⟨tb,0,none⟩),.pointer (some ⟨lb,0,none⟩),.int .u64 (hz:Int)] W (Z0a W (Z0h L x.xmin x.xmax hz))):=fun W hq =>
  Z9b (hx.kept hq (fun e=>by
    rcases e with e | e
    · exact Zb hx ho.box hty.1 e
    · obtain ⟨cc,hh⟩:=Zh ho.own e
      exact Zb hx hh hty.2 rfl)).ent (hl.kept hq (fun k a e=>by
    rcases e with e | e
    · rw [e] at a;exact hF.1 a
    · exact hF.2 k e a)) h1 h2
 have HS1:Hid (∀ W,Z0 (fun k=>k=oc ∨ v.ownBlock=some k) w W->(fun w'=>w'.cell? ⟨lc,0,none⟩=some (ptrV lb)/\w'.cell? ⟨zc,0,none⟩=some (.int .u64 (hz:Int))) W):=fun W hq=>⟨hq.cell c1 (fun e=>by rcases e with e | e;exact hd.1 e;exact (hlc _ e).1 rfl),hq.cell c2 (fun e=>by rcases e with e | e;exact hd.2 e;exact (hlc _ e).2 rfl)⟩
 have hq0:∀ W,Quiet w W->Z0 (fun k=>k=oc ∨ v.ownBlock=some k) w W:=fun W hq=>hq.mono (fun _ _ x=>x.elim)
 have HQ0:=zh hq0
 obtain ⟨A,c,rfl,hcl,hcm,_⟩:=Za ho.own
 have HX:=zh hx
 have HO:=zh ho
 have HNE:Hid (∀ k,(Value.slice A ids.length c).ownBlock=some k->k ≠ oc/\k ≠ tb):=fun k e=>by
  obtain ⟨cc,hh⟩:=Zh ho.own e
  exact ⟨Zb hh ho.box (by decide),fun e2=>Zb hx hh hty.2 e2.symm⟩
 obtain ⟨Z8,Z6⟩:∃ Z8,Z3D w oc (.slice A ids.length c) ids (Z0h L x.xmin x.xmax hz) x.id=Z8:=⟨_,rfl⟩
 rw [Z6]
 have Ze:=zh Z6
 unfold maxLen at hcm
 generalize Z0h L x.xmin x.xmax hz=d at *
 clear Z6 hx hl h1 h2 ho hF hd hty hlc hq0 c1 c2
 go_enter Tryz.func186,Tryz.ntmps186
 go_wp2_with fail
 refine zH HS1 (HQ0.out _ (Z0.refl _ _).drew) (fun Z3=>?_)
 have q0:Quiet w w.drew:=(Z0.refl _ _).drew
 generalize w.drew=d0 at q0 Z3 ⊢
 refine zT 0 ?_
 refine zT 1 ?_
 refine zT 2 ?_
 refine zT 3 ?_
 refine zT 4 ?_
 refine zR 5 ?_
 intro K hK
 go_simp
 go_at_call 187
 refine (HD.out _ (HQ0.out _ q0)).mono ?_
 rintro e d1 ⟨rfl,hqd⟩
 have q1:=q0.trans hqd
 clear hqd
 dsimp only
 refine hK.out _ _ ?_ (fun Z3=>?_)
 ·exact HS1.out _ (HQ0.out _ q1)
 clear hK K
 (try simp only [Act.put,zPA,zPZ,zPS])
 refine zD ?_
 have HQ1:Hid (Quiet w d1):=q1
 clear Z3 q0
 cases d with
 | false =>
  go_wp2_with fail
  refine zH HS1 (HQ0.out _ q1.drew) (fun Z3=>?_)
  have q2:Quiet d1 d1.drew:=(Z0.refl _ _).drew
  generalize d1.drew=d2 at q2 Z3 ⊢
  refine zT 0 ?_
  refine zT 1 ?_
  refine zT 2 ?_
  refine zT 3 ?_
  refine zT 4 ?_
  refine zR 5 ?_
  intro K hK
  go_simp
  go_at_call 187
  refine (HD.out _ (HQ0.out _ (HQ1.out.trans q2))).mono ?_
  rintro e d3 ⟨rfl,hqd⟩
  have q3:=q2.trans hqd
  clear hqd
  dsimp only
  refine hK.out _ _ ?_ (fun Z3=>?_)
  ·exact HS1.out _ (HQ0.out _ (HQ1.out.trans q3))
  clear hK K
  (try simp only [Act.put,zPA,zPZ,zPS])
  refine zT 6 ?_
  refine zD ?_
  clear q2
  have q2:=q3
  clear q3
  have Zc:Hid (Z8 (.returned (.bool false)) d3):=by
   rw [<- Ze.out]
   have q3:=q1.trans q2
   exact ⟨rfl,HQ0.out _ q3,_,HO.out.kept q3 (fun x=>x) (fun _ _ x=>x),fun k e=>Or.inl e⟩
  clear Z3 q1 q2 HD HS1
  go_wp2
  exact Zc.out
 | true =>
  obtain ⟨n,hn2⟩:∃ n,ids.length=n:=⟨_,rfl⟩
  have HNN:=zh hn2
  have HS2:Hid (∀ W,Quiet d1 W->(fun w'=>w'.cell? ⟨oc,0,none⟩=some (.slice A n c)/\w'.cell? ⟨tb,0,none⟩=some (.int .u64 (x.id:Int))) W):=fun W hq=>by
   have hq2:=HQ1.out.trans hq
   exact ⟨by rw [Z1 (hq2.get HO.out.box (fun x=>x)),<- HNN.out];rfl,(HX.out.kept hq2 (fun x=>x)).ent.c0⟩
  have HOWN:Hid (∀ W,Quiet d1 W->W.ownsRow 0 34 1 (.slice A n c) n (ZE ids)):=fun W hq=>by
   rw [<- HNN.out]
   exact Z5 HO.out.own (HQ1.out.trans hq) (fun _ _ x=>x)
  rw [hn2] at hn hcl
  rw [hn2] at HNE HD HS1 HQ0
  clear hn2 q1
  go_wp2_with fail
  refine Z0M (S:=(fun w'=>w'.cell? ⟨oc,0,none⟩=some (.slice A n c)/\w'.cell? ⟨tb,0,none⟩=some (.int .u64 (x.id:Int)))) (by kernel_rfl) (by kernel_rfl) (by simp) (HS2.out _ ((Z0.refl _ _).drew)) (fun Z3=>?_)
  simp only [List.pop_toArray,List.dropLast,List.size_toArray,List.length_cons,List.length_nil,Nat.reduceAdd,Nat.reduceSub]
  have q0:Quiet d1 d1.drew:=(Z0.refl _ _).drew
  generalize d1.drew=d0 at q0 Z3 ⊢
  refine zT 0 ?_
  refine zT 1 ?_
  refine zT 2 ?_
  refine zT 3 ?_
  refine zT 4 ?_
  refine zT 5 ?_
  refine zR 6 ?_
  intro K hK
  go_simp
  refine hK.out _ _ ?_ (fun Z3=>?_)
  ·exact HS2.out _ (q0.alloc _)
  clear hK K
  (try simp only [Act.put,zPA,zPZ,zPS])
  have qz:Quiet d1 (d0.alloc (.cells #[.int .u64 (x.id:Int)] 34)):=q0.alloc _
  have hrd:=Rd.new d0 1 1 [.int .u64 (x.id:Int)] 34 (fun _=>True) rfl trivial
  obtain ⟨bu,hbu⟩:∃ bu,d0.heap.size=bu:=⟨_,rfl⟩
  rw [hbu] at hrd
  (try rw [hbu])
  clear hbu
  refine zR 7 ?_
  intro K hK
  refine Z0B Z3S rfl (.tmp 12) (.tmp 18) rfl rfl (HOWN.out _ qz) rfl hrd (Z4P [x.id]) (by unfold maxLen;omega) (by omega) ?_
  intro v3 d3 hg3
  obtain ⟨A3,c3,rfl,_,_,_⟩:=Za (show World.ownsRow d3 0 34 1 v3 (n+1) (ZE ids ++ [.int .u64 (x.id:Int)]) from hg3.own)
  have hb3:=hg3.only.get ((HQ1.out.trans qz).get HO.out.box (fun x=>x)) (fun e=>(HNE.out _ e).1 rfl)
  rw [HNN.out] at hb3
  have hx3:=(HX.out.kept (HQ1.out.trans qz) (fun x=>x)).kept hg3.only (fun e=>(HNE.out _ e).2 rfl)
  refine hK.out _ _ ?_ (fun Z3=>?_)
  ·exact ⟨by rw [Z1 hb3];rfl,hx3.ent.c0⟩
  clear hK K
  (try simp only [Act.put,zPA,zPZ,zPS])
  refine zD ?_
  refine Z21 (o:=?_) ?_ ?_
  rotate_left 1
  (focus (simp only [zGA,zGZ,zGS] <;> rfl))
  intro K hK
  have k0:=Z1 hb3 0
  have kf:=fun o=>Z7 hb3 o
  simp only [zGA,zGS,zGZ] at k0
  have hm:=Z8B (d2:=d3.setCell ⟨oc,0,none⟩ (.slice A3 (ids.length+1) c3)) HO.out (HQ1.out.trans q0) (by have h:=hg3;rw [<- HNN.out] at h;exact h) rfl
  rw [HNN.out] at hm
  go_simp
  refine hK.out _ _ ?_
  clear hK K
  (try dsimp only [Act.put])
  have HX4:Hid (Z28 (d3.setCell ⟨oc,0,none⟩ (.slice A3 (n+1) c3)) oc (.slice A3 (n+1) c3) (ids ++ [x.id])):=hm.2.1
  have HO4:=zh hm.1
  have HL4:=zh hm.2.2
  clear Z3 q0 qz hg3 hm HS2 HOWN hrd hb3 hx3 k0 kf
  generalize (d3.setCell ⟨oc,0,none⟩ (.slice A3 (n+1) c3))=w4 at *
  go_wp2_with fail
  refine zH HS1 (HO4.out.trans' ((Z0.refl (fun _=>False) w4).drew) (fun _ _ x=>x.elim)) (fun Z3=>?_)
  have q2:Quiet w4 w4.drew:=(Z0.refl _ _).drew
  generalize w4.drew=d5 at q2 Z3 ⊢
  refine zT 0 ?_
  refine zT 1 ?_
  refine zT 2 ?_
  refine zT 3 ?_
  refine zT 4 ?_
  refine zR 5 ?_
  intro K hK
  go_simp
  go_at_call 187
  refine (HD.out _ (HO4.out.trans' q2 (fun _ _ x=>x.elim))).mono ?_
  rintro e d6 ⟨rfl,hqd⟩
  have q3:=q2.trans hqd
  clear hqd
  dsimp only
  refine hK.out _ _ ?_ (fun Z3=>?_)
  ·exact HS1.out _ (HO4.out.trans' q3 (fun _ _ x=>x.elim))
  clear hK K
  (try simp only [Act.put,zPA,zPZ,zPS])
  refine zT 6 ?_
  refine zD ?_
  clear q2
  have q2:=q3
  clear q3
  have Zc:Hid (Z8 (.returned (.bool true)) d6):=by
   rw [<- Ze.out]
   unfold Z3D
   rw [HNN.out]
   exact ⟨rfl,HO4.out.trans' q2 (fun _ _ x=>x.elim),_,HX4.out.kept q2 (fun x=>x) (fun _ _ x=>x),HL4.out⟩
  clear Z3 q2 HD HS1
  go_wp2
  exact Zc.out
theorem ZfJ {w:World} {F:Nat->Prop} {lb lc zc tc oc tb hz tid nt ct:Nat} {At:Option Addr} {ts:List Nat} {L:List Nat} {x:EB} {v:Value} {ids:List Nat} (hx:Z5o w tb x) (hl:ZJ w F lb L) (h1:U64 x.xmin) (h2:U64 x.xmax) (c1:w.cell? ⟨lc,0,none⟩=some (ptrV lb)) (c2:w.cell? ⟨zc,0,none⟩=some (.int .u64 (hz:Int))) (ho:Z28 w oc v ids) (hn:ids.length <= 100000) (hF:¬ F oc/\∀ k,v.ownBlock=some k->¬ F k) (hd:lc ≠ oc/\zc ≠ oc) (hty:x.ty ≠ 74/\x.ty ≠ 34) (hlc:∀ k,v.ownBlock=some k->k ≠ lc/\k ≠ zc/\k ≠ tc) (c3:w.cell? ⟨tc,0,none⟩=some (.slice At nt ct)) (hts:w.ownsRow 0 34 1 (.slice At nt ct) nt (ZE ts)) (htn:ts.length=nt) (htc:tc ≠ oc) (htr:∀ k,(Value.slice At nt ct).ownBlock=some k->v.ownBlock ≠ some k) (ctb:w.cell? ⟨tb,4,none⟩=some (.int .u64 (tid:Int))) :
  Calls Tryz.prog 189 #[ptrV tb,ptrV lc,ptrV zc,ptrV tc,ptrV oc] w (Z3D w oc v ids (Z0h L x.xmin x.xmax hz || decide (tid ∈ ts)) x.id):=by
 have HD:Hid (∀ W,Z0 (fun k=>k=oc ∨ v.ownBlock=some k) w W->Calls Tryz.prog 187 #[.pointer (some ⟨tb,0,none⟩),.pointer (some ⟨lb,0,none⟩),.int .u64 (hz:Int)] W (Z0a W (Z0h L x.xmin x.xmax hz))):=fun W hq =>
  Z9b (hx.kept hq (fun e=>by
    rcases e with e | e
    · exact Zb hx ho.box hty.1 e
    · obtain ⟨cc,hh⟩:=Zh ho.own e
      exact Zb hx hh hty.2 rfl)).ent (hl.kept hq (fun k a e=>by
    rcases e with e | e
    · rw [e] at a;exact hF.1 a
    · exact hF.2 k e a)) h1 h2
 have HS1:Hid (∀ W,Z0 (fun k=>k=oc ∨ v.ownBlock=some k) w W->(fun w'=>w'.cell? ⟨lc,0,none⟩=some (ptrV lb)/\w'.cell? ⟨zc,0,none⟩=some (.int .u64 (hz:Int))/\w'.cell? ⟨tc,0,none⟩=some (.slice At nt ct)/\w'.cell? ⟨tb,4,none⟩=some (.int .u64 (tid:Int))) W):=fun W hq=>⟨hq.cell c1 (fun e=>by rcases e with e | e;exact hd.1 e;exact (hlc _ e).1 rfl),hq.cell c2 (fun e=>by rcases e with e | e;exact hd.2 e;exact (hlc _ e).2.1 rfl),hq.cell c3 (fun e=>by rcases e with e | e;exact htc e;exact (hlc _ e).2.2 rfl),hq.cell ctb (fun e=>by
   rcases e with e | e
   · exact Zb hx ho.box hty.1 e
   · obtain ⟨cc,hh⟩:=Zh ho.own e
     exact Zb hx hh hty.2 rfl)⟩
 have HCN:Hid (∀ W,Quiet w W->Calls Tryz.prog 156 #[.slice At nt ct,.int .u64 (tid:Int)] W (Z0a W (decide (tid ∈ ts)))):=fun W hq=>by
  obtain ⟨A',c',e',h5,h6,h7⟩:=Za hts
  injection e' with e1 _ e2
  subst e1 e2
  subst htn
  refine (Z6X (x:=tid) (h7.kept hq (fun _ _ x=>x)) h5 h6).mono ?_
  rintro e w' ⟨rfl,rfl⟩
  exact ⟨rfl,Z0.refl _ _⟩
 have hq0:∀ W,Quiet w W->Z0 (fun k=>k=oc ∨ v.ownBlock=some k) w W:=fun W hq=>hq.mono (fun _ _ x=>x.elim)
 have HQ0:=zh hq0
 obtain ⟨A,c,rfl,hcl,hcm,_⟩:=Za ho.own
 have HX:=zh hx
 have HO:=zh ho
 have HNE:Hid (∀ k,(Value.slice A ids.length c).ownBlock=some k->k ≠ oc/\k ≠ tb):=fun k e=>by
  obtain ⟨cc,hh⟩:=Zh ho.own e
  exact ⟨Zb hh ho.box (by decide),fun e2=>Zb hx hh hty.2 e2.symm⟩
 obtain ⟨Z8,Z6⟩:∃ Z8,Z3D w oc (.slice A ids.length c) ids (Z0h L x.xmin x.xmax hz || decide (tid ∈ ts)) x.id=Z8:=⟨_,rfl⟩
 rw [Z6]
 have Ze:=zh Z6
 unfold maxLen at hcm
 obtain ⟨d,hdd⟩:∃ d,Z0h L x.xmin x.xmax hz=d:=⟨_,rfl⟩
 obtain ⟨ct2,hct2⟩:∃ ct2,decide (tid ∈ ts)=ct2:=⟨_,rfl⟩
 rw [hdd] at HD Ze
 rw [hct2] at HCN Ze
 obtain ⟨g,hgone⟩:∃ g,(d || ct2)=g:=⟨_,rfl⟩
 rw [hgone] at Ze
 have HQC:=zh hct2
 have HGO:=zh hgone
 clear Z6 hx hl h1 h2 ho hF hd hty hlc hq0 c1 c2 c3 hts htn htc htr ctb hdd hct2 hgone
 go_enter Tryz.func189,Tryz.ntmps189
 obtain ⟨n,hn2⟩:∃ n,ids.length=n:=⟨_,rfl⟩
 have HNN:=zh hn2
 rw [hn2] at hn hcl HNE HD HS1 HQ0
 clear hn2
 cases d with
 | true =>
  have hg:g=true:=by rw [<- HGO.out];rfl
  subst hg
  go_wp2_with fail
  refine zH HS1 (HQ0.out _ (Z0.refl _ _).drew) (fun Z3=>?_)
  have q0:Quiet w w.drew:=(Z0.refl _ _).drew
  generalize w.drew=d0 at q0 Z3 ⊢
  refine zT 0 ?_
  refine zT 1 ?_
  refine zT 2 ?_
  refine zT 3 ?_
  refine zT 4 ?_
  refine zR 5 ?_
  intro K hK
  go_simp
  go_at_call 187
  refine (HD.out _ (HQ0.out _ q0)).mono ?_
  rintro e d1 ⟨rfl,hqd⟩
  have q1:=q0.trans hqd
  clear hqd
  dsimp only
  refine hK.out _ _ ?_ (fun Z3=>?_)
  ·exact HS1.out _ (HQ0.out _ q1)
  clear hK K
  (try simp only [Act.put,zPA,zPZ,zPS])
  refine zT 6 ?_
  refine zO 7 ?_
  refine zO 8 ?_
  refine zO 9 ?_
  refine zO 10 ?_
  refine zO 11 ?_
  refine zO 12 ?_
  refine zT 13 ?_
  refine zT 14 ?_
  refine zD ?_
  have HQ1:Hid (Quiet w d1):=q1
  clear Z3 q0 q1 HCN HD HS1
  have HS2:Hid (∀ W,Quiet d1 W->(fun w'=>w'.cell? ⟨oc,0,none⟩=some (.slice A n c)/\w'.cell? ⟨tb,0,none⟩=some (.int .u64 (x.id:Int))) W):=fun W hq=>by
   have hq2:=HQ1.out.trans hq
   exact ⟨by rw [Z1 (hq2.get HO.out.box (fun x=>x)),<- HNN.out];rfl,(HX.out.kept hq2 (fun x=>x)).ent.c0⟩
  have HOWN:Hid (∀ W,Quiet d1 W->W.ownsRow 0 34 1 (.slice A n c) n (ZE ids)):=fun W hq=>by
   rw [<- HNN.out]
   exact Z5 HO.out.own (HQ1.out.trans hq) (fun _ _ x=>x)
  go_wp2_with fail
  refine Z0M (S:=(fun w'=>w'.cell? ⟨oc,0,none⟩=some (.slice A n c)/\w'.cell? ⟨tb,0,none⟩=some (.int .u64 (x.id:Int)))) (by kernel_rfl) (by kernel_rfl) (by simp) (HS2.out _ ((Z0.refl _ _).drew)) (fun Z3=>?_)
  simp only [List.pop_toArray,List.dropLast,List.size_toArray,List.length_cons,List.length_nil,Nat.reduceAdd,Nat.reduceSub]
  have q0:Quiet d1 d1.drew:=(Z0.refl _ _).drew
  generalize d1.drew=d0 at q0 Z3 ⊢
  refine zT 0 ?_
  refine zT 1 ?_
  refine zT 2 ?_
  refine zT 3 ?_
  refine zT 4 ?_
  refine zT 5 ?_
  refine zR 6 ?_
  intro K hK
  go_simp
  refine hK.out _ _ ?_ (fun Z3=>?_)
  ·exact HS2.out _ (q0.alloc _)
  clear hK K
  (try simp only [Act.put,zPA,zPZ,zPS])
  have qz:Quiet d1 (d0.alloc (.cells #[.int .u64 (x.id:Int)] 34)):=q0.alloc _
  have hrd:=Rd.new d0 1 1 [.int .u64 (x.id:Int)] 34 (fun _=>True) rfl trivial
  obtain ⟨bu,hbu⟩:∃ bu,d0.heap.size=bu:=⟨_,rfl⟩
  rw [hbu] at hrd
  (try rw [hbu])
  clear hbu
  refine zR 7 ?_
  intro K hK
  refine Z0B Z3S rfl (.tmp 23) (.tmp 29) rfl rfl (HOWN.out _ qz) rfl hrd (Z4P [x.id]) (by unfold maxLen;omega) (by omega) ?_
  intro v3 d3 hg3
  obtain ⟨A3,c3,rfl,_,_,_⟩:=Za (show World.ownsRow d3 0 34 1 v3 (n+1) (ZE ids ++ [.int .u64 (x.id:Int)]) from hg3.own)
  have hb3:=hg3.only.get ((HQ1.out.trans qz).get HO.out.box (fun x=>x)) (fun e=>(HNE.out _ e).1 rfl)
  rw [HNN.out] at hb3
  have hx3:=(HX.out.kept (HQ1.out.trans qz) (fun x=>x)).kept hg3.only (fun e=>(HNE.out _ e).2 rfl)
  refine hK.out _ _ ?_ (fun Z3=>?_)
  ·exact ⟨by rw [Z1 hb3];rfl,hx3.ent.c0⟩
  clear hK K
  (try simp only [Act.put,zPA,zPZ,zPS])
  refine zD ?_
  refine Z21 (o:=?_) ?_ ?_
  rotate_left 1
  (focus (simp only [zGA,zGZ,zGS] <;> rfl))
  intro K hK
  have k0:=Z1 hb3 0
  have kf:=fun o=>Z7 hb3 o
  simp only [zGA,zGS,zGZ] at k0
  have hm:=Z8B (d2:=d3.setCell ⟨oc,0,none⟩ (.slice A3 (ids.length+1) c3)) HO.out (HQ1.out.trans q0) (by have h:=hg3;rw [<- HNN.out] at h;exact h) rfl
  rw [HNN.out] at hm
  go_simp
  refine hK.out _ _ ?_
  clear hK K
  (try dsimp only [Act.put])
  have HX4:Hid (Z28 (d3.setCell ⟨oc,0,none⟩ (.slice A3 (n+1) c3)) oc (.slice A3 (n+1) c3) (ids ++ [x.id])):=hm.2.1
  have HO4:=zh hm.1
  have HL4:=zh hm.2.2
  clear Z3 q0 qz hg3 hm HS2 HOWN hrd hb3 hx3 k0 kf
  generalize (d3.setCell ⟨oc,0,none⟩ (.slice A3 (n+1) c3))=w4 at *
  have Zc:Hid (Z8 (.returned (.bool true)) w4):=by
   rw [<- Ze.out]
   unfold Z3D
   rw [HNN.out]
   exact ⟨rfl,HO4.out,_,HX4.out,HL4.out⟩
  go_wp2
  exact Zc.out
 | false =>
  cases ct2 with
  | true =>
   have hg:g=true:=by rw [<- HGO.out];rfl
   subst hg
   go_wp2_with fail
   refine zH HS1 (HQ0.out _ (Z0.refl _ _).drew) (fun Z3=>?_)
   have q0:Quiet w w.drew:=(Z0.refl _ _).drew
   generalize w.drew=d0 at q0 Z3 ⊢
   refine zT 0 ?_
   refine zT 1 ?_
   refine zT 2 ?_
   refine zT 3 ?_
   refine zT 4 ?_
   refine zR 5 ?_
   intro K hK
   go_simp
   go_at_call 187
   refine (HD.out _ (HQ0.out _ q0)).mono ?_
   rintro e d1 ⟨rfl,hqd⟩
   have q1:=q0.trans hqd
   clear hqd
   dsimp only
   refine hK.out _ _ ?_ (fun Z3=>?_)
   ·exact HS1.out _ (HQ0.out _ q1)
   clear hK K
   (try simp only [Act.put,zPA,zPZ,zPS])
   refine zT 6 ?_
   refine zT 7 ?_
   refine zT 8 ?_
   refine zT 9 ?_
   refine zT 10 ?_
   refine zT 11 ?_
   refine zR 12 ?_
   intro K hK
   go_simp
   go_at_call 156
   refine (HCN.out _ q1).mono ?_
   rintro e d2 ⟨rfl,hqc⟩
   have q2:=q1.trans hqc
   clear hqc
   dsimp only
   refine hK.out _ _ ?_ (fun Z3=>?_)
   ·exact HS1.out _ (HQ0.out _ q2)
   clear hK K
   (try simp only [Act.put,zPA,zPZ,zPS])
   refine zT 13 ?_
   refine zT 14 ?_
   refine zD ?_
   have HQ1:Hid (Quiet w d2):=q2
   clear Z3 q0 q1 q2 HCN HD HS1
   generalize d2=d1 at *
   have HS2:Hid (∀ W,Quiet d1 W->(fun w'=>w'.cell? ⟨oc,0,none⟩=some (.slice A n c)/\w'.cell? ⟨tb,0,none⟩=some (.int .u64 (x.id:Int))) W):=fun W hq=>by
    have hq2:=HQ1.out.trans hq
    exact ⟨by rw [Z1 (hq2.get HO.out.box (fun x=>x)),<- HNN.out];rfl,(HX.out.kept hq2 (fun x=>x)).ent.c0⟩
   have HOWN:Hid (∀ W,Quiet d1 W->W.ownsRow 0 34 1 (.slice A n c) n (ZE ids)):=fun W hq=>by
    rw [<- HNN.out]
    exact Z5 HO.out.own (HQ1.out.trans hq) (fun _ _ x=>x)
   go_wp2_with fail
   refine Z0M (S:=(fun w'=>w'.cell? ⟨oc,0,none⟩=some (.slice A n c)/\w'.cell? ⟨tb,0,none⟩=some (.int .u64 (x.id:Int)))) (by kernel_rfl) (by kernel_rfl) (by simp) (HS2.out _ ((Z0.refl _ _).drew)) (fun Z3=>?_)
   simp only [List.pop_toArray,List.dropLast,List.size_toArray,List.length_cons,List.length_nil,Nat.reduceAdd,Nat.reduceSub]
   have q0:Quiet d1 d1.drew:=(Z0.refl _ _).drew
   generalize d1.drew=d0 at q0 Z3 ⊢
   refine zT 0 ?_
   refine zT 1 ?_
   refine zT 2 ?_
   refine zT 3 ?_
   refine zT 4 ?_
   refine zT 5 ?_
   refine zR 6 ?_
   intro K hK
   go_simp
   refine hK.out _ _ ?_ (fun Z3=>?_)
   ·exact HS2.out _ (q0.alloc _)
   clear hK K
   (try simp only [Act.put,zPA,zPZ,zPS])
   have qz:Quiet d1 (d0.alloc (.cells #[.int .u64 (x.id:Int)] 34)):=q0.alloc _
   have hrd:=Rd.new d0 1 1 [.int .u64 (x.id:Int)] 34 (fun _=>True) rfl trivial
   obtain ⟨bu,hbu⟩:∃ bu,d0.heap.size=bu:=⟨_,rfl⟩
   rw [hbu] at hrd
   (try rw [hbu])
   clear hbu
   refine zR 7 ?_
   intro K hK
   refine Z0B Z3S rfl (.tmp 23) (.tmp 29) rfl rfl (HOWN.out _ qz) rfl hrd (Z4P [x.id]) (by unfold maxLen;omega) (by omega) ?_
   intro v3 d3 hg3
   obtain ⟨A3,c3,rfl,_,_,_⟩:=Za (show World.ownsRow d3 0 34 1 v3 (n+1) (ZE ids ++ [.int .u64 (x.id:Int)]) from hg3.own)
   have hb3:=hg3.only.get ((HQ1.out.trans qz).get HO.out.box (fun x=>x)) (fun e=>(HNE.out _ e).1 rfl)
   rw [HNN.out] at hb3
   have hx3:=(HX.out.kept (HQ1.out.trans qz) (fun x=>x)).kept hg3.only (fun e=>(HNE.out _ e).2 rfl)
   refine hK.out _ _ ?_ (fun Z3=>?_)
   ·exact ⟨by rw [Z1 hb3];rfl,hx3.ent.c0⟩
   clear hK K
   (try simp only [Act.put,zPA,zPZ,zPS])
   refine zD ?_
   refine Z21 (o:=?_) ?_ ?_
   rotate_left 1
   (focus (simp only [zGA,zGZ,zGS] <;> rfl))
   intro K hK
   have k0:=Z1 hb3 0
   have kf:=fun o=>Z7 hb3 o
   simp only [zGA,zGS,zGZ] at k0
   have hm:=Z8B (d2:=d3.setCell ⟨oc,0,none⟩ (.slice A3 (ids.length+1) c3)) HO.out (HQ1.out.trans q0) (by have h:=hg3;rw [<- HNN.out] at h;exact h) rfl
   rw [HNN.out] at hm
   go_simp
   refine hK.out _ _ ?_
   clear hK K
   (try dsimp only [Act.put])
   have HX4:Hid (Z28 (d3.setCell ⟨oc,0,none⟩ (.slice A3 (n+1) c3)) oc (.slice A3 (n+1) c3) (ids ++ [x.id])):=hm.2.1
   have HO4:=zh hm.1
   have HL4:=zh hm.2.2
   clear Z3 q0 qz hg3 hm HS2 HOWN hrd hb3 hx3 k0 kf
   generalize (d3.setCell ⟨oc,0,none⟩ (.slice A3 (n+1) c3))=w4 at *
   have Zc:Hid (Z8 (.returned (.bool true)) w4):=by
    rw [<- Ze.out]
    unfold Z3D
    rw [HNN.out]
    exact ⟨rfl,HO4.out,_,HX4.out,HL4.out⟩
   go_wp2
   exact Zc.out
  | false =>
   have hg:g=false:=by rw [<- HGO.out];rfl
   subst hg
   go_wp2_with fail
   refine zH HS1 (HQ0.out _ (Z0.refl _ _).drew) (fun Z3=>?_)
   have q0:Quiet w w.drew:=(Z0.refl _ _).drew
   generalize w.drew=d0 at q0 Z3 ⊢
   refine zT 0 ?_
   refine zT 1 ?_
   refine zT 2 ?_
   refine zT 3 ?_
   refine zT 4 ?_
   refine zR 5 ?_
   intro K hK
   go_simp
   go_at_call 187
   refine (HD.out _ (HQ0.out _ q0)).mono ?_
   rintro e d1 ⟨rfl,hqd⟩
   have q1:=q0.trans hqd
   clear hqd
   dsimp only
   refine hK.out _ _ ?_ (fun Z3=>?_)
   ·exact HS1.out _ (HQ0.out _ q1)
   clear hK K
   (try simp only [Act.put,zPA,zPZ,zPS])
   refine zT 6 ?_
   refine zT 7 ?_
   refine zT 8 ?_
   refine zT 9 ?_
   refine zT 10 ?_
   refine zT 11 ?_
   refine zR 12 ?_
   intro K hK
   go_simp
   go_at_call 156
   refine (HCN.out _ q1).mono ?_
   rintro e d2 ⟨rfl,hqc⟩
   have q2:=q1.trans hqc
   clear hqc
   dsimp only
   refine hK.out _ _ ?_ (fun Z3=>?_)
   ·exact HS1.out _ (HQ0.out _ q2)
   clear hK K
   (try simp only [Act.put,zPA,zPZ,zPS])
   refine zT 13 ?_
   refine zT 14 ?_
   refine zD ?_
   have Zc:Hid (Z8 (.returned (.bool false)) d2):=by
    rw [<- Ze.out]
    exact ⟨rfl,q2.mono (fun _ _ x=>x.elim),_,HO.out.kept q2 (fun x=>x) (fun _ _ x=>x),fun k e=>Or.inl e⟩
   clear Z3 q0 q1 q2 HD HS1 HCN
   go_wp2
   exact Zc.out
def ebT (t:TE) (A:Option Addr) (c:Nat):EB:=⟨t.id,t.name,t.xmin,t.xmax,[.slice A t.cols.length c],144⟩
def ebI (x:IE):EB:=⟨x.id,x.name,x.xmin,x.xmax,[.int .u64 (x.table:Int),.int .i64 (x.column:Int)],155⟩
section
variable {w w':World} {F:Nat->Prop} {bb last:Nat} {T:List TE} {I:List IE} {vT vI:Value} {tps ips:List Nat}
theorem Z1k.eb {tb:Nat} {t:TE} (h:Z1k w F tb t):∃ A c,Z5o w tb (ebT t A c)/\Rd w (fun k=>F k/\∃ cur,w.heap[k]?=some (.cells cur 39 (0,0))) 2 A t.cols.length (ZZ t.cols)/\t.cols.length <= c/\c <= maxLen/\∀ g,(Value.slice A t.cols.length c).ownBlock=some g->F g/\∃ cur,w.heap[g]?=some (.cells cur 39 (0,0)):=by
 obtain ⟨A,c,h1,h2,h3,h4⟩:=h.ex
 obtain ⟨A',c',t1,t2⟩:=h.typ
 have e:=h1.symm.trans t1
 injection e with e
 injection e with e
 have e2:=congrArg (fun a:Array Value=>a[4]?) e
 simp at e2
 obtain ⟨eA,ec⟩:=e2
 subst eA ec
 refine ⟨A,c,h1,⟨h2.len,fun h0=>?_⟩,h3,h4,t2⟩
 obtain ⟨b,off,rfl,hb,hc⟩:=h2.cells h0
 exact ⟨b,off,rfl,t2 b rfl,hc⟩
theorem Z1k.of_eb {tb:Nat} {t:TE} {A:Option Addr} {c:Nat} (he:Z5o w tb (ebT t A c)) (hr:Rd w F 2 A t.cols.length (ZZ t.cols)) (h3:t.cols.length <= c) (h4:c <= maxLen) (ht:∀ g,(Value.slice A t.cols.length c).ownBlock=some g->F g/\∃ cur,w.heap[g]?=some (.cells cur 39 (0,0))) (ho:F tb) (hp:0 < t.cols.length/\t.cols.length <= 8) (hn:U64 t.id/\U64 t.xmin/\U64 t.xmax):Z1k w F tb t :=
 ⟨⟨A,c,he,hr,h3,h4⟩,ho,hp,hn,A,c,he,ht⟩
end
structure Z7v (w0 W:World) (oc g:Nat) (ids:List Nat):Prop where
 only:Z0 (fun x=>x=oc ∨ x=g) w0 W
 out:∃ v,Z28 W oc v ids/\∀ j,v.ownBlock=some j->w0.heap.size <= j
theorem Z7v.row {w0 W W':World} {oc g:Nat} {ids:List Nat} (h:Z7v w0 W oc g ids) (ho:Z0 (·=g) W W') (h1:oc ≠ g) (h2:g < w0.heap.size):Z7v w0 W' oc g ids:=by
 obtain ⟨v,h3,h4⟩:=h.out
 exact ⟨h.only.trans (ho.mono (fun _ _ e=>Or.inr e)),v,h3.kept ho h1 (fun k e e2=>by have:=h4 k e;have e3:k=g:=e2;omega),h4⟩
theorem Z7v.step {w0 W w':World} {oc g id:Nat} {ids:List Nat} {v:Value} {d:Bool} {e:Ending} (h:Z7v w0 W oc g ids) (hv:∀ j,v.ownBlock=some j->w0.heap.size <= j) (hp:Z3D W oc v ids d id e w') (h1:oc ≠ g) (h2:g < w0.heap.size) :
  e=.returned (.bool d)/\Z7v w0 w' oc g (if d then ids ++ [id] else ids)/\∀ o,W.heap[g]?=some o->w'.heap[g]?=some o:=by
 obtain ⟨he,ho,v',h3,h4⟩:=hp
 have hz:=h.only.size
 refine ⟨he,⟨h.only.trans' ho (fun k hk e=>?_),v',h3,fun j e=>?_⟩,fun o hg=>ho.get hg (fun e=>?_)⟩
 ·rcases e with e | e
  ·exact Or.inl e
  ·have:=hv k e;omega
 ·rcases h4 j e with y | y
  ·exact hv j y
  ·omega
 ·rcases e with e | e
  ·exact h1 e.symm
  ·have:=hv _ e;omega
theorem ZcX {L:List Nat} {hz k:Nat} {T:List TE} {t:TE} (h:T[k]?=some t):Zv L hz (T.take (k+1))=if Z1s L hz t then Zv L hz (T.take k) ++ [t.id] else Zv L hz (T.take k):=by
 unfold Zv
 rw [List.take_add_one,h,List.filter_append,List.map_append]
 cases hd:Z1s L hz t <;> simp [hd]
theorem ZcY {L:List Nat} {hz k:Nat} {ts:List Nat} {I:List IE} {x:IE} (h:I[k]?=some x):Z0H L hz ts (I.take (k+1))=if Z1t L hz ts x then Z0H L hz ts (I.take k) ++ [x.id] else Z0H L hz ts (I.take k):=by
 unfold Z0H
 rw [List.take_add_one,h,List.filter_append,List.map_append]
 cases hd:Z1t L hz ts x <;> simp [hd]
def ZkP (w0:World) (v:Value) (n c oc:Nat) (L:List Nat) (hz:Nat) (T:List TE) (tps:List Nat) (A:Option Addr) (e:Ending) (w':World):Prop :=
 ∃ v2:Value,e=.returned v2/\v2.ownBlock=v.ownBlock/\Z0 (fun x=>x=oc ∨ v.ownBlock=some x) w0 w'/\(∃ vo,Z28 w' oc vo (Zv L hz T)/\∀ j,vo.ownBlock=some j->w0.heap.size <= j)/\w'.ownsRow 0 138 1 v2 (Z1d (Z1s L hz) tps T).length ((Z1d (Z1s L hz) tps T).map (fun z=>ptrV z.1))
theorem ZbD {w0:World} {F Fl:Nat->Prop} {lb lc zc oc hz n:Nat} {L:List Nat} {T:List TE} {tps:List Nat} {v:Value} (hrow:w0.ownsRow 0 138 1 v n (tps.map ptrV)) (hT:T.length=n) (htp:tps.length=n) (hn:n <= 90000) (htb:∀ (i:Nat) e,T[i]?=some e->∃ p,tps[i]?=some p/\Z1k w0 F p e) (hl:ZJ w0 Fl lb L)
  (c4:w0.heap[lc]?=some (.cells #[ptrV lb] 61 (0,0))) (c5:w0.heap[zc]?=some (.cells #[.int .u64 (hz:Int)] 34 (0,0))) (c8:w0.heap[oc]?=some (.cells #[.slice none 0 0] 74 (0,0))) (hFl:¬ Fl oc/\(∀ k,v.ownBlock=some k->¬ Fl k)/\∀ k,Fl k->k < w0.heap.size) (hzc:zc < w0.heap.size) :
  ∃ A c,v=.slice A n c/\Calls Tryz.prog 185 #[.slice A n c,.func (.func 186) #[] #[ptrV lc,ptrV zc,ptrV oc]] w0 (ZkP w0 v n c oc L hz T tps A):=by
 rcases hrow.2 with ⟨rfl,hn0⟩ | ⟨g,c,cur,rfl,_,hg,hnc,hcm,hsz,htk⟩
 ·refine ⟨none,0,by rw [hn0],?_⟩
  rw [hn0]
  refine deleteT_nil.mono ?_
  rintro e w' ⟨rfl,rfl⟩
  have hT0:T=[]:=List.eq_nil_of_length_eq_zero (by omega)
  subst hT0
  refine ⟨_,rfl,rfl,Z0.refl _ _,⟨.slice none 0 0,⟨c8,World.ownsRow_nil _ _ _ _⟩,fun j e=>by cases e⟩,?_⟩
  have:Z1d (Z1s L hz) tps []=[]:=by unfold Z1d;simp
  rw [this]
  exact World.ownsRow_nil _ _ _ _
 ·refine ⟨some ⟨g,0,none⟩,c,rfl,?_⟩
  have hgo:oc ≠ g:=fun e=>Zb c8 hg (by decide) e
  have hgl:=Z2 hg
  have hcur:∀ (i p:Nat),tps[i]?=some p->cur[i]?=some (ptrV p):=fun i p hp=>by
   have h1:(tps.map ptrV)[i]?=some (ptrV p):=by rw [List.getElem?_map,hp];rfl
   rw [<- htk,List.getElem?_take] at h1
   split at h1
   ·rw [<- Array.getElem?_toList];exact h1
   ·cases h1
  have key:=ZdP (w:=w0) (g:=g) (c:=c) (n:=n) (lc:=lc) (zc:=zc) (oc:=oc) (ps:=tps) (ds:=T.map (Z1s L hz)) (cur:=cur) (R:=fun k W=>Z7v w0 W oc g (Zv L hz (T.take k))) htp (by rw [List.length_map];exact hT) hnc hcm (by omega) hg (by rw [hsz,Nat.mul_one]) hcur (fun k p d W hR hp hd=>?_) (fun k W W' hR ho=>hR.row ho hgo hgl) ⟨Z0.refl _ _,.slice none 0 0,⟨c8,World.ownsRow_nil _ _ _ _⟩,fun j e=>by cases e⟩
  ·refine key.mono ?_
   rintro e w' ⟨rfl,hR,cur',hg',hs',hc'⟩
   rw [List.take_of_length_le (by omega)] at hR
   have e1:=Z9F (Z1s L hz) htp hT
   rw [e1] at hc'
   have hkl:(Z1d (Z1s L hz) tps T).length <= n:=by
    unfold Z1d
    refine Nat.le_trans (List.length_filter_le _ _) ?_
    rw [List.length_zip]
    omega
   refine ⟨_,rfl,rfl,hR.only.mono (fun k _ e=>by rcases e with e | e;exact Or.inl e;exact Or.inr (by rw [e];rfl)),hR.out,?_⟩
   rw [e1,List.length_map]
   refine ⟨by simp,Or.inr ⟨g,c,cur',rfl,Nat.zero_le _,hg',by omega,hcm,by rw [hs',Nat.mul_one],?_⟩⟩
   apply List.ext_getElem?
   intro i
   rw [Nat.mul_one,List.getElem?_take]
   split
   ·rename_i hi
    obtain ⟨z,hz⟩:∃ z,(Z1d (Z1s L hz) tps T)[i]?=some z:=⟨_,zg hi⟩
    rw [Array.getElem?_toList,hc' i z.1 (by rw [List.getElem?_map,hz];rfl),List.getElem?_map,hz]
    rfl
   ·rename_i hi
    rw [List.getElem?_eq_none (by rw [List.length_map];omega)]
  ·obtain ⟨t,ht,rfl⟩:∃ t,T[k]?=some t/\Z1s L hz t=d:=by
    rw [List.getElem?_map] at hd
    exact Option.map_eq_some_iff.1 hd
   obtain ⟨p',e1,htbl⟩:=htb k t ht
   rw [hp] at e1
   injection e1 with e1
   subst e1
   obtain ⟨A2,c2,heb,_⟩:=htbl.eb
   obtain ⟨vo,hvo,hvn⟩:=hR.out
   have hz0:=hR.only.size
   have hlz:=hvo.own.lt
   have hne:∀ {k:Nat} {cs:Array Value} {ty:TypeId},w0.heap[k]?=some (.cells cs ty (0,0))->ty ≠ 74->ty ≠ 138->¬ (k=oc ∨ k=g):=fun hk h1 h2 e=>by
    rcases e with e | e
    ·exact Zb hk c8 h1 e
    ·exact Zb hk hg h2 e
   have hcall:=ZfI (w:=W) (F:=Fl) (lb:=lb) (lc:=lc) (zc:=zc) (oc:=oc) (hz:=hz) (heb.kept hR.only (hne heb (by show 144 ≠ _;decide) (by show 144 ≠ _;decide))) (hl.kept hR.only (fun k a e=>by
       rcases e with e | e
       · rw [e] at a;exact hFl.1 a
       · rw [e] at a;exact hFl.2.1 g rfl a)) htbl.num.2.1 htbl.num.2.2 (by rw [Z1 (hR.only.get c4 (hne c4 (by decide) (by decide)))];rfl) (by rw [Z1 (hR.only.get c5 (hne c5 (by decide) (by decide)))];rfl) hvo (by
       have h1:(Zv L hz (T.take k)).length <= (T.take k).length:=by unfold Zv;rw [List.length_map];exact List.length_filter_le _ _
       rw [List.length_take] at h1
       omega) ⟨hFl.1,fun j e a=>by have:=hvn j e;have:=hFl.2.2 j a;omega⟩ ⟨Zb c4 c8 (by decide),Zb c5 c8 (by decide)⟩ ⟨by show 144 ≠ _;decide,by show 144 ≠ _;decide⟩ (fun j e=>by have:=hvn j e;have:=Z2 c4;constructor <;> omega)
   refine hcall.mono ?_
   intro e w' hp2
   have:=hR.step hvn hp2 hgo hgl
   rw [ZcX ht]
   exact this
def ZkQ (w0:World) (v:Value) (n c oc:Nat) (L:List Nat) (hz:Nat) (ts:List Nat) (T:List IE) (tps:List Nat) (A:Option Addr) (e:Ending) (w':World):Prop :=
 ∃ v2:Value,e=.returned v2/\v2.ownBlock=v.ownBlock/\Z0 (fun x=>x=oc ∨ v.ownBlock=some x) w0 w'/\(∃ vo,Z28 w' oc vo (Z0H L hz ts T)/\∀ j,vo.ownBlock=some j->w0.heap.size <= j)/\w'.ownsRow 0 153 1 v2 (Z1d (Z1t L hz ts) tps T).length ((Z1d (Z1t L hz ts) tps T).map (fun z=>ptrV z.1))
theorem Zac {w0:World} {F Fl:Nat->Prop} {lb lc zc oc hz n:Nat} {L:List Nat} {T:List IE} {ts:List Nat} {tc nt ct:Nat} {At:Option Addr} {tps:List Nat} {v:Value} (hrow:w0.ownsRow 0 153 1 v n (tps.map ptrV)) (hT:T.length=n) (htp:tps.length=n) (hn:n <= 90000) (htb:∀ (i:Nat) e,T[i]?=some e->∃ p,tps[i]?=some p/\Z2f w0 F p e) (hl:ZJ w0 Fl lb L)
  (c4:w0.heap[lc]?=some (.cells #[ptrV lb] 61 (0,0))) (c5:w0.heap[zc]?=some (.cells #[.int .u64 (hz:Int)] 34 (0,0))) (ctc:w0.heap[tc]?=some (.cells #[.slice At nt ct] 74 (0,0))) (hts:w0.ownsRow 0 34 1 (.slice At nt ct) nt (ZE ts)) (htn:ts.length=nt) (hto:tc ≠ oc) (c8:w0.heap[oc]?=some (.cells #[.slice none 0 0] 74 (0,0))) (hFl:¬ Fl oc/\(∀ k,v.ownBlock=some k->¬ Fl k)/\∀ k,Fl k->k < w0.heap.size) (hzc:zc < w0.heap.size) :
  ∃ A c,v=.slice A n c/\Calls Tryz.prog 188 #[.slice A n c,.func (.func 189) #[] #[ptrV lc,ptrV zc,ptrV tc,ptrV oc]] w0 (ZkQ w0 v n c oc L hz ts T tps A):=by
 rcases hrow.2 with ⟨rfl,hn0⟩ | ⟨g,c,cur,rfl,_,hg,hnc,hcm,hsz,htk⟩
 ·refine ⟨none,0,by rw [hn0],?_⟩
  rw [hn0]
  refine deleteX_nil.mono ?_
  rintro e w' ⟨rfl,rfl⟩
  have hT0:T=[]:=List.eq_nil_of_length_eq_zero (by omega)
  subst hT0
  refine ⟨_,rfl,rfl,Z0.refl _ _,⟨.slice none 0 0,⟨c8,World.ownsRow_nil _ _ _ _⟩,fun j e=>by cases e⟩,?_⟩
  have:Z1d (Z1t L hz ts) tps []=[]:=by unfold Z1d;simp
  rw [this]
  exact World.ownsRow_nil _ _ _ _
 ·refine ⟨some ⟨g,0,none⟩,c,rfl,?_⟩
  have hgo:oc ≠ g:=fun e=>Zb c8 hg (by decide) e
  have hgl:=Z2 hg
  have hcur:∀ (i p:Nat),tps[i]?=some p->cur[i]?=some (ptrV p):=fun i p hp=>by
   have h1:(tps.map ptrV)[i]?=some (ptrV p):=by rw [List.getElem?_map,hp];rfl
   rw [<- htk,List.getElem?_take] at h1
   split at h1
   ·rw [<- Array.getElem?_toList];exact h1
   ·cases h1
  have key:=ZdQ (w:=w0) (g:=g) (c:=c) (n:=n) (lc:=lc) (zc:=zc) (oc:=tc) (oc2:=oc) (ps:=tps) (ds:=T.map (Z1t L hz ts)) (cur:=cur) (R:=fun k W=>Z7v w0 W oc g (Z0H L hz ts (T.take k))) htp (by rw [List.length_map];exact hT) hnc hcm (by omega) hg (by rw [hsz,Nat.mul_one]) hcur (fun k p d W hR hp hd=>?_) (fun k W W' hR ho=>hR.row ho hgo hgl) ⟨Z0.refl _ _,.slice none 0 0,⟨c8,World.ownsRow_nil _ _ _ _⟩,fun j e=>by cases e⟩
  ·refine key.mono ?_
   rintro e w' ⟨rfl,hR,cur',hg',hs',hc'⟩
   rw [List.take_of_length_le (by omega)] at hR
   have e1:=Z9F (Z1t L hz ts) htp hT
   rw [e1] at hc'
   have hkl:(Z1d (Z1t L hz ts) tps T).length <= n:=by
    unfold Z1d
    refine Nat.le_trans (List.length_filter_le _ _) ?_
    rw [List.length_zip]
    omega
   refine ⟨_,rfl,rfl,hR.only.mono (fun k _ e=>by rcases e with e | e;exact Or.inl e;exact Or.inr (by rw [e];rfl)),hR.out,?_⟩
   rw [e1,List.length_map]
   refine ⟨by simp,Or.inr ⟨g,c,cur',rfl,Nat.zero_le _,hg',by omega,hcm,by rw [hs',Nat.mul_one],?_⟩⟩
   apply List.ext_getElem?
   intro i
   rw [Nat.mul_one,List.getElem?_take]
   split
   ·rename_i hi
    obtain ⟨z,hz⟩:∃ z,(Z1d (Z1t L hz ts) tps T)[i]?=some z:=⟨_,zg hi⟩
    rw [Array.getElem?_toList,hc' i z.1 (by rw [List.getElem?_map,hz];rfl),List.getElem?_map,hz]
    rfl
   ·rename_i hi
    rw [List.getElem?_eq_none (by rw [List.length_map];omega)]
  ·obtain ⟨t,ht,rfl⟩:∃ t,T[k]?=some t/\Z1t L hz ts t=d:=by
    rw [List.getElem?_map] at hd
    exact Option.map_eq_some_iff.1 hd
   obtain ⟨p',e1,htbl⟩:=htb k t ht
   rw [hp] at e1
   injection e1 with e1
   subst e1
   have heb:Z5o w0 p (ebI t):=htbl.box
   obtain ⟨vo,hvo,hvn⟩:=hR.out
   have hz0:=hR.only.size
   have hlz:=hvo.own.lt
   have hne:∀ {k:Nat} {cs:Array Value} {ty:TypeId},w0.heap[k]?=some (.cells cs ty (0,0))->ty ≠ 74->ty ≠ 153->¬ (k=oc ∨ k=g):=fun hk h1 h2 e=>by
    rcases e with e | e
    ·exact Zb hk c8 h1 e
    ·exact Zb hk hg h2 e
   have htcW:W.cell? ⟨tc,0,none⟩=some (.slice At nt ct):=by
    rw [Z1 (hR.only.get ctc (fun e=>e.elim hto (fun e=>Zb ctc hg (by decide) e)))]
    rfl
   have htsW:W.ownsRow 0 34 1 (.slice At nt ct) nt (ZE ts):=Z5 hts hR.only (fun j e e2=>by
     obtain ⟨cc,hh⟩:=Zh hts e
     rcases e2 with e2 | e2
     · exact Zb hh c8 (by decide) e2
     · exact Zb hh hg (by decide) e2)
   have hcall:=ZfJ (w:=W) (F:=Fl) (lb:=lb) (lc:=lc) (zc:=zc) (tc:=tc) (oc:=oc) (hz:=hz) (tid:=t.table) (nt:=nt) (ct:=ct) (At:=At) (ts:=ts) (heb.kept hR.only (hne heb (by show 155 ≠ _;decide) (by show 155 ≠ _;decide))) (hl.kept hR.only (fun k a e=>by
       rcases e with e | e
       · rw [e] at a;exact hFl.1 a
       · rw [e] at a;exact hFl.2.1 g rfl a)) htbl.num.2.1 htbl.num.2.2.1 (by rw [Z1 (hR.only.get c4 (hne c4 (by decide) (by decide)))];rfl) (by rw [Z1 (hR.only.get c5 (hne c5 (by decide) (by decide)))];rfl) hvo (by
       have h1:(Z0H L hz ts (T.take k)).length <= (T.take k).length:=by unfold Z0H;rw [List.length_map];exact List.length_filter_le _ _
       rw [List.length_take] at h1
       omega) ⟨hFl.1,fun j e a=>by have:=hvn j e;have:=hFl.2.2 j a;omega⟩ ⟨Zb c4 c8 (by decide),Zb c5 c8 (by decide)⟩ ⟨by show 155 ≠ _;decide,by show 155 ≠ _;decide⟩ (fun j e=>by have:=hvn j e;have:=Z2 c4;have:=Z2 ctc;refine ⟨?_,?_,?_⟩ <;> omega) htcW htsW htn hto (fun j e e2=>by have:=hvn j e2;have:=(hts.lt j e).2;omega) (by rw [Z1 ((show Z5o W p (ebI t) from heb.kept hR.only (hne heb (by show 155 ≠ _;decide) (by show 155 ≠ _;decide))))];rfl)
   refine hcall.mono ?_
   intro e w' hp2
   have:=hR.step hvn hp2 hgo hgl
   rw [ZcY ht]
   exact this
theorem Z1k.byType {S F:Nat->Prop} {w w':World} {tb:Nat} {e:TE} (h:Z1k w F tb e) (ho:Z0 S w w') (hS:∀ {k:Nat} {cs:Array Value} {ty:TypeId},w.heap[k]?=some (.cells cs ty (0,0))->(ty=144 ∨ ty=39)->¬ S k):Z1k w' F tb e:=by
 obtain ⟨A,c,h1,h2,h3,h4,h5⟩:=h.eb
 refine Z1k.of_eb (ho.get h1 (hS h1 (Or.inl rfl))) ((h2.kept ho (fun k e=>?_)).mono (fun k e=>e.1)) h3 h4 (fun g e=>?_) h.own h.pos h.num
 ·obtain ⟨_,cur,hh⟩:=e
  exact hS hh (Or.inr rfl)
 ·obtain ⟨a,cur,hh⟩:=h5 g e
  exact ⟨a,cur,ho.get hh (hS hh (Or.inr rfl))⟩
def Z68 (w:World) (F:Nat->Prop) (bb last:Nat) (T:List TE) (I:List IE) (L:List Nat) (hz:Nat) (e:Ending) (w':World):Prop :=
 ∃ vt vi,e=.returned (.tuple #[vt,vi])/\Z0 F w w'/\ZV w' F bb (T.filter (fun t=>!Z1s L hz t)) (I.filter (fun x=>!Z1t L hz (Zv L hz T) x)) last
  /\ w'.ownsRow 0 34 1 vt (Zv L hz T).length (ZE (Zv L hz T))/\w'.ownsRow 0 34 1 vi (Z0H L hz (Zv L hz T) I).length (ZE (Z0H L hz (Zv L hz T) I))/\(∀ k,vt.ownBlock=some k->w.heap.size <= k)/\∀ k,vi.ownBlock=some k->w.heap.size <= k
theorem Z68.drew {w w':World} {F:Nat->Prop} {bb last:Nat} {T:List TE} {I:List IE} {L:List Nat} {hz:Nat} {e:Ending} (h:Z68 w F bb last T I L hz e w'):Z68 w F bb last T I L hz e w'.drew:=by
 obtain ⟨vt,vi,h1,h2,h3,h4,h5,h6,h7⟩:=h
 have hq:Quiet w' w'.drew:=(Z0.refl _ _).drew
 exact ⟨vt,vi,h1,h2.drew,h3.kept hq (fun _ _ x=>x),Z5 h4 hq (fun _ _ x=>x),Z5 h5 hq (fun _ _ x=>x),h6,h7⟩
theorem ZfK {w:World} {F Fl:Nat->Prop} {bb lb last hz:Nat} {T:List TE} {I:List IE} {L:List Nat} (h:ZV w F bb T I last) (hl:ZJ w Fl lb L) (hFl:∀ k,Fl k->¬ F k) (hTl:T.length <= 1000) (hIl:I.length <= 1000) :
  Calls Tryz.prog 167 #[ptrV bb,ptrV lb,.int .u64 (hz:Int)] w (Z68 w F bb last T I L hz):=by
 obtain ⟨vT,tps,vI,ips,h,h2,h3⟩:=h
 obtain ⟨hq0,a4,a5,a8,a9⟩:=ZfC w (.cells #[ptrV lb] 61) (.cells #[.int .u64 (hz:Int)] 34) (.cells #[.slice none 0 0] 74) (.cells #[.slice none 0 0] 74)
 obtain ⟨r4,hr4⟩:∃ r4,w.heap.size=r4:=⟨_,rfl⟩
 obtain ⟨r5,hr5⟩:∃ r5,r4+1=r5:=⟨_,rfl⟩
 obtain ⟨r8,hr8⟩:∃ r8,r5+1=r8:=⟨_,rfl⟩
 obtain ⟨r9,hr9⟩:∃ r9,r8+1=r9:=⟨_,rfl⟩
 rw [hr4] at a4 a5 a8 a9
 rw [hr5] at a5 a8 a9
 rw [hr8] at a8 a9
 rw [hr9] at a9
 have HR:=zh (And.intro hr4 (And.intro hr5 (And.intro hr8 hr9)))
 have HH:=zh h
 have HL:Hid (ZJ w (fun k=>Fl k/\k < w.heap.size) lb L):=hl.lim
 have HX:=zh (And.intro h2 h3)
 have HFL:=zh hFl
 have htl:=h.tlen
 obtain ⟨nT,hnT⟩:∃ nT,T.length=nT:=⟨_,rfl⟩
 obtain ⟨nI,hnI⟩:∃ nI,I.length=nI:=⟨_,rfl⟩
 have HNN:Hid (T.length=nT/\tps.length=nT/\I.length=nI/\ips.length=nI):=⟨hnT,by omega,hnI,by omega⟩
 have HB0:=zh (hq0.get h.box (fun x=>x))
 have HQ0:=zh hq0
 have HA:=zh (And.intro a4 (And.intro a5 (And.intro a8 a9)))
 have HLEN:Hid (nT <= 1000/\nI <= 1000):=⟨by omega,by omega⟩
 obtain ⟨Z8,Z6⟩:∃ Z8,Z68 w F bb last T I L hz=Z8:=⟨_,rfl⟩
 rw [Z6]
 have Ze:=zh Z6
 clear h hl hFl h2 h3 Z6 htl hnT hnI hTl hIl
 go_enter Tryz.func167,Tryz.ntmps167
 go_upto_region 4 with fail
 (try simp only [World.size_alloc] at *)
 (try rw [hr4]);(try rw [hr5]);(try rw [hr8]);(try rw [hr9])
 generalize (((w.alloc (.cells #[ptrV lb] 61)).alloc (.cells #[.int .u64 (hz:Int)] 34)).alloc (.cells #[.slice none 0 0] 74)).alloc (.cells #[.slice none 0 0] 74)=w0 at *
 have hll:=HR.out
 have hs8:=Z2 HA.out.2.2.1
 have hs5:=Z2 HA.out.2.1
 have hzq:=HQ0.out.size
 have hrowT:w0.ownsRow 0 138 1 vT nT (tps.map ptrV):=by
  rw [<- HNN.out.1]
  exact Z5 HH.out.rowT HQ0.out (fun _ _ x=>x)
 obtain ⟨AT,cT,hvT,hDT⟩:=ZbD (F:=F) (Fl:=fun k=>Fl k/\k < w.heap.size) (lb:=lb) (lc:=r4) (zc:=r5) (oc:=r8) (hz:=hz) (L:=L) (T:=T) (tps:=tps) hrowT HNN.out.1 HNN.out.2.1 (by have:=HLEN.out;omega) (fun i e hi=>by obtain ⟨p,x,y⟩:=HH.out.tbl i e hi;exact ⟨p,x,y.kept HQ0.out (fun _ _ z=>z)⟩) (HL.out.kept HQ0.out (fun _ _ x=>x)) HA.out.1 HA.out.2.1 HA.out.2.2.1 ⟨fun e=>by have:=e.2;omega,fun k e a=>HFL.out k a.1 (HH.out.foot.2.1 k e),fun k e=>by have:=e.2;omega⟩ hs5
 subst hvT
 have HDT:=zh hDT
 have k0:=Z1 HB0.out 0
 have kf:=fun o=>Z7 HB0.out o
 have lbb:=Z2 HB0.out
 simp only [zGA,zGS,zGZ] at k0
 clear hq0 a4 a5 a8 a9 hr4 hr5 hr8 hr9 hrowT hDT hs8 hs5 hll hzq
 go_wp2_with fail
 refine HDT.out.mono ?_
 rintro e w1 ⟨v2,rfl,hv2b,hon1,⟨vo,hvo,hvon⟩,hrow2⟩
 obtain ⟨A2,c2,rfl,hc2,hm2,_⟩:=Za hrow2
 have HON1:=zh hon1
 have HVO:=zh (And.intro hvo hvon)
 have HROW2:=zh hrow2
 have HV2:=zh hv2b
 have hbbn:¬ (bb=r8 ∨ (Value.slice AT nT cT).ownBlock=some bb):=fun e=>by
  rcases e with e | e
  ·have:=Z2 HH.out.box;have:=HR.out;omega
  ·obtain ⟨cc,hh⟩:=Zh HH.out.rowT e
   exact Zb HH.out.box hh (by decide) rfl
 have b1:=hon1.get HB0.out hbbn
 have k1:=Z1 b1 0
 have kf1:=fun o=>Z7 b1 o
 have lb1:=Z2 b1
 simp only [zGA,zGS,zGZ] at k1
 obtain ⟨m2,hm2'⟩:∃ m2,(Z1d (Z1s L hz) tps T).length=m2:=⟨_,rfl⟩
 rw [hm2'] at HROW2 HV2 ⊢
 have HM2:=zh hm2'
 have ho2:Z0 (fun k=>k=bb) w1 (w1.setCell ⟨bb,0,none⟩ (.slice A2 m2 c2)):=(Z0.refl (fun k=>k=bb) w1).setCell (p:=⟨bb,0,none⟩) (fun _=>rfl) _
 have HO2:=zh ho2
 have HB2:Hid ((w1.setCell ⟨bb,0,none⟩ (.slice A2 m2 c2)).heap[bb]?=some (.cells #[.slice A2 m2 c2,vI,.int .u64 (last:Int)] 132 (0,0))):=by
  show _=_
  rw [Zg b1]
  rfl
 clear hon1 hvo hvon hrow2 hv2b hbbn b1 ho2 HDT k0 kf hc2 hm2 hm2' lbb
 go_upto_region 5 with fail
 generalize w1.setCell ⟨bb,0,none⟩ (.slice A2 m2 c2)=w2 at *
 have HO12:Hid (Z0 (fun k=>k=r8 ∨ (Value.slice AT nT cT).ownBlock=some k ∨ k=bb) w0 w2):=(HON1.out.mono (fun k _ e=>by rcases e with e | e;exact Or.inl e;exact Or.inr (Or.inl e))).trans (HO2.out.mono (fun k _ e=>Or.inr (Or.inr e)))
 have HTG:Hid (∀ k,(Value.slice AT nT cT).ownBlock=some k->∃ cc,w.heap[k]?=some (.cells cc 138 (0,0))):=fun k e=>Zh HH.out.rowT e
 have HIG:Hid (∀ k,vI.ownBlock=some k->∃ cc,w.heap[k]?=some (.cells cc 153 (0,0))):=fun k e=>Zh HH.out.rowI e
 have HNB:Hid (∀ {k:Nat} {cs:Array Value} {ty:TypeId},w.heap[k]?=some (.cells cs ty (0,0))->ty ≠ 138->k ≠ bb->¬ (k=r8 ∨ (Value.slice AT nT cT).ownBlock=some k ∨ k=bb)):=by
  show ∀ {k:Nat} {cs:Array Value} {ty:TypeId},_
  intro k cs ty hk h1 h2 e
  rcases e with e | e | e
  ·have:=Z2 hk;have:=HR.out;omega
  ·obtain ⟨cc,hh⟩:=HTG.out k e
   exact Zb hk hh h1 rfl
  ·exact h2 e
 have HNN2:Hid (∀ {k:Nat},w.heap.size <= k->k ≠ r8->¬ (k=r8 ∨ (Value.slice AT nT cT).ownBlock=some k ∨ k=bb)):=by
  show ∀ {k:Nat},_
  intro k hk h1 e
  rcases e with e | e | e
  ·exact h1 e
  ·obtain ⟨cc,hh⟩:=HTG.out k e
   have:=Z2 hh
   omega
  ·have:=Z2 HH.out.box;omega
 have HRI2:Hid (w2.ownsRow 0 153 1 vI nI (ips.map ptrV)):=by
  show World.ownsRow _ _ _ _ _ _ _
  have e1:ips.length=nI:=HNN.out.2.2.2
  rw [<- e1]
  refine Z5 (Z5 HH.out.rowI HQ0.out (fun _ _ x=>x)) HO12.out (fun k e=>?_)
  obtain ⟨cc,hh⟩:=HIG.out k e
  exact HNB.out hh (by decide) (fun e2=>Zb hh HH.out.box (by decide) e2)
 have HA2:Hid (w2.heap[r4]?=some (.cells #[ptrV lb] 61 (0,0))/\w2.heap[r5]?=some (.cells #[.int .u64 (hz:Int)] 34 (0,0))/\w2.heap[r9]?=some (.cells #[.slice none 0 0] 74 (0,0))):=by
  have hr:=HR.out
  exact ⟨HO12.out.get HA.out.1 (HNN2.out (by omega) (by omega)),HO12.out.get HA.out.2.1 (HNN2.out (by omega) (by omega)),HO12.out.get HA.out.2.2.2 (HNN2.out (by omega) (by omega))⟩
 obtain ⟨AO,cO,hvo,hcO,hmO,_⟩:=Za HVO.out.1.own
 obtain ⟨nO,hnO⟩:∃ nO,(Zv L hz T).length=nO:=⟨_,rfl⟩
 rw [hnO] at hvo
 subst hvo
 have HNO:=zh hnO
 have HV12:Hid (Z28 w2 r8 (.slice AO nO cO) (Zv L hz T)):=HVO.out.1.kept HO2.out (fun e=>by have h1:r8=bb:=e;have:=Z2 HH.out.box;have:=HR.out;omega) (fun k e e2=>by have h1:k=bb:=e2;have h2:=HVO.out.2 k e;have:=Z2 HH.out.box;have:=HQ0.out.size;omega)
 have HLG2:Hid (ZJ w2 (fun k=>Fl k/\k < w.heap.size) lb L):=(HL.out.kept HQ0.out (fun _ _ x=>x)).kept HO12.out (fun k a e=>by
   rcases e with e | e | e
   · have:=a.2;have:=HR.out;omega
   · obtain ⟨cc,hh⟩:=HTG.out k e
     exact HFL.out k a.1 (HH.out.foot.2.1 k e)
   · exact HFL.out k a.1 (by rw [e];exact HH.out.foot.1))
 have hz02:=HO12.out.size
 have hz00:=HQ0.out.size
 have hr:=HR.out
 obtain ⟨AI,cI,hvI,hDX⟩:=Zac (F:=F) (Fl:=fun k=>Fl k/\k < w.heap.size) (lb:=lb) (lc:=r4) (zc:=r5) (tc:=r8) (oc:=r9) (hz:=hz) (L:=L) (ts:=Zv L hz T) (T:=I) (tps:=ips) HRI2.out HNN.out.2.2.1 HNN.out.2.2.2 (by have:=HLEN.out;omega) (fun i e hi=>by
   obtain ⟨p,x,y⟩:=HX.out.2 i e hi
   exact ⟨p,x,⟨HO12.out.get (HQ0.out.get y.box (fun z=>z)) (HNB.out y.box (by decide) (fun e2=>Zb y.box HH.out.box (by decide) e2)),y.own,y.num⟩⟩) HLG2.out HA2.out.1 HA2.out.2.1 HV12.out.box (by have:=HV12.out.own;rw [HNO.out] at this;exact this) HNO.out (by omega) HA2.out.2.2 ⟨fun e=>by have:=e.2;omega,fun k e a=>HFL.out k a.1 (HH.out.foot.2.2 k e),fun k e=>by have:=e.2;omega⟩ (Z2 HA2.out.2.1)
 have HVI:=zh hvI
 have HDX:=zh hDX
 clear hDX hvI hcO hmO hnO hz02 hz00 hr k1 kf1 lb1
 have hb2:=HB2.out
 rw [HVI.out] at hb2
 have k2:=Z1 hb2 1
 have kf2:=fun o=>Z7 hb2 o
 simp only [zGA,zGS,zGZ] at k2
 have lb2:=Z2 hb2
 clear hb2
 go_wp2_with fail
 refine HDX.out.mono ?_
 rintro e w3 ⟨v3,rfl,hv3b,hon3,⟨vo2,hvo2,hvon2⟩,hrow3⟩
 obtain ⟨A3,c3,rfl,_,_,_⟩:=Za hrow3
 have HON3:=zh hon3
 have HVO2:=zh (And.intro hvo2 hvon2)
 have HROW3:=zh hrow3
 have HV3:=zh hv3b
 have HN3:Hid (∀ {k:Nat} {cs:Array Value} {ty:TypeId},k ≠ r9->w.heap[k]?=some (.cells cs ty (0,0))->ty ≠ 153->¬ (k=r9 ∨ vI.ownBlock=some k)):=by
  show ∀ {k:Nat} {cs:Array Value} {ty:TypeId},_
  intro k cs ty h0 hk h1 e
  rcases e with e | e
  ·exact h0 e
  ·obtain ⟨cc,hh⟩:=HIG.out k e
   exact Zb hk hh h1 rfl
 have hbr:bb ≠ r9:=fun e=>by have:=Z2 HH.out.box;have:=HR.out;omega
 have b3:=hon3.get HB2.out (HN3.out hbr HH.out.box (by decide))
 have k3:=Z1 b3 1
 have kf3:=fun o=>Z7 b3 o
 have lb3:=Z2 b3
 simp only [zGA,zGS,zGZ] at k3
 obtain ⟨m3,hm3⟩:∃ m3,(Z1d (Z1t L hz (Zv L hz T)) ips I).length=m3:=⟨_,rfl⟩
 rw [hm3] at HROW3 HV3 ⊢
 have HM3:=zh hm3
 have HO4:Hid (Z0 (fun k=>k=bb) w3 (w3.setCell ⟨bb,1,none⟩ (.slice A3 m3 c3))):=(Z0.refl (fun k=>k=bb) w3).setCell (p:=⟨bb,1,none⟩) (fun _=>rfl) _
 have HB4:Hid ((w3.setCell ⟨bb,1,none⟩ (.slice A3 m3 c3)).heap[bb]?=some (.cells #[.slice A2 m2 c2,.slice A3 m3 c3,.int .u64 (last:Int)] 132 (0,0))):=by
  show _=_
  rw [Zg b3]
  rfl
 clear hv3b hon3 hvo2 hvon2 hrow3 hbr b3 hm3 HDX k2 kf2 lb2
 go_upto_region 6 with fail
 generalize w3.setCell ⟨bb,1,none⟩ (.slice A3 m3 c3)=w4 at *
 have hr:=HR.out
 have hbl:=Z2 HH.out.box
 have hz00:=HQ0.out.size
 have hz02:=HO12.out.size
 obtain ⟨AP,cP,hvp,_,_,_⟩:=Za HVO2.out.1.own
 obtain ⟨nP,hnP⟩:∃ nP,(Z0H L hz (Zv L hz T) I).length=nP:=⟨_,rfl⟩
 rw [hnP] at hvp
 subst hvp
 have hiu:∀ k,vI.ownBlock=some k->k < w.heap.size:=fun k e=>by obtain ⟨cc,hh⟩:=HIG.out k e;exact Z2 hh
 have hv84:Z28 w4 r8 (.slice AO nO cO) (Zv L hz T):=by
  refine (HV12.out.kept HON3.out (fun e=>?_) (fun k e e2=>?_)).kept HO4.out (fun e=>?_) (fun k e e2=>?_)
  ·rcases e with e | e
   ·omega
   ·have:=hiu _ e;omega
  ·have h1:=HVO.out.2 k e
   rcases e2 with e2 | e2
   ·obtain ⟨cc,hh⟩:=Zh HV12.out.own e
    exact Zb hh HA2.out.2.2 (by decide) e2
   ·have:=hiu _ e2;omega
  ·have h1:r8=bb:=e;omega
  ·have h1:=HVO.out.2 k e
   have h2:k=bb:=e2
   omega
 have hv94:Z28 w4 r9 (.slice AP nP cP) (Z0H L hz (Zv L hz T) I):=by
  refine HVO2.out.1.kept HO4.out (fun e=>?_) (fun k e e2=>?_)
  ·have h1:r9=bb:=e;omega
  ·have h1:=HVO2.out.2 k e
   have h2:k=bb:=e2
   omega
 have hOA:Z0 (fun k=>(k=r8 ∨ (Value.slice AT nT cT).ownBlock=some k ∨ k=bb) ∨ (k=r9 ∨ vI.ownBlock=some k) ∨ k=bb) w w4:=(((HQ0.out.mono (fun _ _ x=>x.elim)).trans (HO12.out.mono (fun _ _ e=>Or.inl e))).trans (HON3.out.mono (fun _ _ e=>Or.inr (Or.inl e)))).trans (HO4.out.mono (fun _ _ e=>Or.inr (Or.inr e)))
 have hlT:(T.filter (fun t=>!Z1s L hz t)).length=m2:=by rw [Z4N (Z1s L hz) (by rw [HNN.out.2.1,HNN.out.1]),List.length_map];exact HM2.out
 have hlI:(I.filter (fun x=>!Z1t L hz (Zv L hz T) x)).length=m3:=by rw [Z4N (Z1t L hz (Zv L hz T)) (by rw [HNN.out.2.2.2,HNN.out.2.2.1]),List.length_map];exact HM3.out
 have hbk:ZV w4 F bb (T.filter (fun t=>!Z1s L hz t)) (I.filter (fun x=>!Z1t L hz (Zv L hz T) x)) last:=by
  refine ⟨.slice A2 m2 c2,(Z1d (Z1s L hz) tps T).map (fun z=>z.1),.slice A3 m3 c3,(Z1d (Z1t L hz (Zv L hz T)) ips I).map (fun z=>z.1),⟨HB4.out,?_,?_,fun i e hi=>?_,⟨HH.out.foot.1,fun k e=>?_,fun k e=>?_⟩,HH.out.num⟩,?_,fun i e hi=>?_⟩
  ·rw [hlT,List.map_map]
   refine Z5 (Z5 (Z5 HROW2.out HO2.out (fun k e e2=>?_)) HON3.out (fun k e e2=>?_)) HO4.out (fun k e e2=>?_)
   ·rw [HV2.out] at e
    obtain ⟨cc,hh⟩:=HTG.out k e
    exact Zb hh HH.out.box (by decide) e2
   ·rw [HV2.out] at e
    obtain ⟨cc,hh⟩:=HTG.out k e
    exact HN3.out (by have:=Z2 hh;omega) hh (by decide) e2
   ·rw [HV2.out] at e
    obtain ⟨cc,hh⟩:=HTG.out k e
    exact Zb hh HH.out.box (by decide) e2
  ·rw [List.length_map,HM3.out,List.map_map]
   refine Z5 HROW3.out HO4.out (fun k e e2=>?_)
   rw [HV3.out] at e
   obtain ⟨cc,hh⟩:=HIG.out k e
   exact Zb hh HH.out.box (by decide) e2
  ·rw [Z4N (Z1s L hz) (by rw [HNN.out.2.1,HNN.out.1]),List.getElem?_map] at hi
   obtain ⟨z,hz1,rfl⟩:=Option.map_eq_some_iff.1 hi
   obtain ⟨_,j,h1,h2⟩:=Zb7 (List.mem_of_getElem? hz1)
   obtain ⟨p,h3,h4⟩:=HH.out.tbl j _ h2
   rw [h1] at h3
   injection h3 with h3
   subst h3
   refine ⟨z.1,by rw [List.getElem?_map,hz1];rfl,h4.byType hOA (fun {k cs ty} hk ht e=>?_)⟩
   rcases e with e | e | e
   ·exact HNB.out hk (by rcases ht with rfl | rfl <;> decide) (fun e2=>Zb hk HH.out.box (by rcases ht with rfl | rfl <;> decide) e2) e
   ·exact HN3.out (by have:=Z2 hk;omega) hk (by rcases ht with rfl | rfl <;> decide) e
   ·exact Zb hk HH.out.box (by rcases ht with rfl | rfl <;> decide) e
  ·rw [HV2.out] at e
   exact HH.out.foot.2.1 k e
  ·rw [HV3.out] at e
   exact HH.out.foot.2.2 k e
  ·rw [List.length_map,hlI];exact HM3.out
  ·rw [Z4N (Z1t L hz (Zv L hz T)) (by rw [HNN.out.2.2.2,HNN.out.2.2.1]),List.getElem?_map] at hi
   obtain ⟨z,hz1,rfl⟩:=Option.map_eq_some_iff.1 hi
   obtain ⟨_,j,h1,h2⟩:=Zb7 (List.mem_of_getElem? hz1)
   obtain ⟨p,h3,h4⟩:=HX.out.2 j _ h2
   rw [h1] at h3
   injection h3 with h3
   subst h3
   refine ⟨z.1,by rw [List.getElem?_map,hz1];rfl,⟨hOA.get h4.box (fun e=>?_),h4.own,h4.num⟩⟩
   rcases e with e | e | e
   ·exact HNB.out h4.box (by decide) (fun e2=>Zb h4.box HH.out.box (by decide) e2) e
   ·exact HN3.out (by have:=Z2 h4.box;omega) h4.box (by decide) e
   ·exact Zb h4.box HH.out.box (by decide) e
 have Zc:Hid (Z8 (.returned (.tuple #[.slice AO nO cO,.slice AP nP cP])) w4.drew):=by
  rw [<- Ze.out]
  refine Z68.drew ⟨_,_,rfl,hOA.mono (fun k hk e=>?_),hbk,hv84.own,hv94.own,fun k e=>by have:=HVO.out.2 k e;omega,fun k e=>by have:=HVO2.out.2 k e;omega⟩
  rcases e with (e | e | e) | (e | e) | e
  ·omega
  ·exact HH.out.foot.2.1 k e
  ·rw [e];exact HH.out.foot.1
  ·omega
  ·exact HH.out.foot.2.2 k e
  ·rw [e];exact HH.out.foot.1
 have k8:=Z1 hv84.box 0
 have k9:=Z1 hv94.box 0
 simp only [zGA,zGS,zGZ] at k8 k9
 clear hr hbl hz00 hz02 hnP hiu hv84 hv94 hOA hlT hlI hbk k3 kf3 lb3
 go_region
 go_wp2
 exact Zc.out
def Z1A (s:St) (id:Nat):St:={ s with hs:=upd s.hs id none,left:=s.left+((s.hs id).getD []).length }
def Z3u (s:St) (id:Nat):St:={ s with ts:=upd s.ts id none }
def Z18 (s:St) (hz:Nat):St:={ s with T:=s.T.filter (fun t=>!Z1s s.L hz t),I:=s.I.filter (fun x=>!Z1t s.L hz (Zv s.L hz s.T) x) }
def Z4X (s:St) (hz:Nat):St:=(Z0H s.L hz (Zv s.L hz s.T) s.I).foldl Z3u ((Zv s.L hz s.T).foldl Z1A (Z18 s hz))
theorem Z7k (i:Nat):∀ (l:List Nat) (s:St),(l.foldl Z1A s).hs i=if i ∈ l then none else s.hs i
 | [],s=>by simp
 | a :: l,s=>by
  rw [List.foldl_cons,Z7k i l]
  by_cases h:i ∈ l
  ·simp [h]
  ·by_cases e:i=a
   ·subst e;simp [Z1A,upd]
   ·simp [Z1A,upd,h,e]
section
variable {w w':World} {sb lb bb pb mh mt ms:Nat} {o:Nat->Nat} {s:St} {fh ft fs:Nat->Option Value}
theorem Zj.delHeap {id:Nat} (h:Zj w sb o s lb bb pb mh mt ms fh ft fs) (ho:Z0 (fun k=>k=mh) w w') (hm:Z0f w' mh (upd fh id none)) :
  Zj w' sb o { s with hs:=upd s.hs id none } lb bb pb mh mt ms (upd fh id none) ft fs:=by
 obtain ⟨t1,t2,t3,t4,t5⟩:=h.tags
 have hn:∀ k,k=mh->o k=6:=fun k x=>by rw [x];exact t3
 refine ⟨ho.get h.box (fun x=>by have:=hn _ x;omega),Z4B h.log ho .refl (by omega) (fun k x=>by have:=hn _ x;omega),Z3f h.book ho .refl (by omega) (fun k x=>by have:=hn _ x;omega),h.pool.kept ho (fun x=>by have:=hn _ x;omega),
   hm,h.mT.kept ho (fun x=>by have:=hn _ x;omega),h.mS.kept ho (fun x=>by have:=hn _ x;omega),h.tags,fun k hk=>h.big k (Nat.le_trans ho.size hk),
   ⟨fun i hi=>?_,fun i y hi=>?_⟩,Z3J h.trees ho .refl (fun k x i es _=>by have:=hn _ x;omega),Z35 h.snaps ho .refl (fun k x=>by have:=hn _ x;omega),h.num⟩
 ·by_cases e:i=id
  ·subst e;simp [upd]
  ·have:=h.heaps.1 i (by simpa [upd,e] using hi)
   simpa [upd,e] using this
 ·by_cases e:i=id
  ·subst e;simp [upd] at hi
  ·obtain ⟨hb,e2,h2⟩:=h.heaps.2 i y (by simpa [upd,e] using hi)
   exact ⟨hb,by simpa [upd,e] using e2,ZbH h2 ho .refl (by omega) (fun k x=>by have:=hn _ x;omega)⟩
theorem Zj.delTree {id:Nat} (h:Zj w sb o s lb bb pb mh mt ms fh ft fs) (ho:Z0 (fun k=>k=mt) w w') (hm:Z0f w' mt (upd ft id none)) :
  Zj w' sb o { s with ts:=upd s.ts id none } lb bb pb mh mt ms fh (upd ft id none) fs:=by
 obtain ⟨t1,t2,t3,t4,t5⟩:=h.tags
 have hn:∀ k,k=mt->o k=7:=fun k x=>by rw [x];exact t4
 refine ⟨ho.get h.box (fun x=>by have:=hn _ x;omega),Z4B h.log ho .refl (by omega) (fun k x=>by have:=hn _ x;omega),Z3f h.book ho .refl (by omega) (fun k x=>by have:=hn _ x;omega),h.pool.kept ho (fun x=>by have:=hn _ x;omega),
   h.mH.kept ho (fun x=>by have:=hn _ x;omega),hm,h.mS.kept ho (fun x=>by have:=hn _ x;omega),h.tags,fun k hk=>h.big k (Nat.le_trans ho.size hk),
   Z3I h.heaps ho .refl (fun k x i H _=>by have:=hn _ x;omega),⟨fun i hi=>?_,fun i y hi=>?_⟩,Z35 h.snaps ho .refl (fun k x=>by have:=hn _ x;omega),h.num⟩
 ·by_cases e:i=id
  ·subst e;simp [upd]
  ·have:=h.trees.1 i (by simpa [upd,e] using hi)
   simpa [upd,e] using this
 ·by_cases e:i=id
  ·subst e;simp [upd] at hi
  ·obtain ⟨hb,e2,h2⟩:=h.trees.2 i y (by simpa [upd,e] using hi)
   exact ⟨hb,by simpa [upd,e] using e2,ZbI h2 ho .refl (by omega) (fun k x=>by have:=hn _ x;omega)⟩
end
structure Z7w (w d2 wr:World) (o:Nat->Nat) (sb:Nat) (S:St) (lb bb pb mh mt ms:Nat) (fs:Nat->Option Value):Prop where
 row:∃ o' fh ft,Zj wr sb o' S lb bb pb mh mt ms fh ft fs/\(∀ j,j < w.heap.size->o' j=o j)/\∀ j,w.heap.size <= j->j < d2.heap.size->o' j=3 ∨ o' j=0
 only:Z0 (fun j=>o j ≠ 0/\o j ≠ 3) d2 wr
theorem Zel {l:List Nat} {k:Nat} {u:Value} (h:(ZE l)[k]?=some u):∃ y:Nat,l[k]?=some y/\u=.int .u64 (y:Int):=by
 unfold ZE at h
 rw [List.getElem?_map] at h
 rcases e:l[k]? with _ | y
 ·rw [e] at h;cases h
 ·rw [e] at h;injection h with h;exact ⟨y,rfl,h.symm⟩
theorem ZdR {w:World} {sb hz N:Nat} {o:Nat->Nat} {s:St} (h:Zn w sb o s) (hh:Z1u s hz) (hL:s.L.length < 1000000000) (hN:∀ x y,s.sn x=some y->x <= N) (hN2:N <= 2000000) (hTl:s.T.length <= 1000) (hIl:s.I.length <= 1000)
  (hnd:(Zv s.L hz s.T).Nodup) (hhp:∀ id ∈ Zv s.L hz s.T,∃ H,s.hs id=some H) (hleft:∀ k,k < (Zv s.L hz s.T).length->(((Zv s.L hz s.T).take k).foldl Z1A (Z18 s hz)).left <= 256) :
  Calls Tryz.prog 129 #[ptrV sb] w (fun e w'=>e=.returned (.int .i64 (((Zv s.L hz s.T).length+(Z0H s.L hz (Zv s.L hz s.T) s.I).length:Nat):Int))/\Z0Z w sb o (Z4X s hz) w'):=by
 have HST:=zh h
 obtain ⟨lb,bb,pb,mh,mt,ms,fh,ft,fs,h⟩:=h
 have HH:=zh h
 have HHZ:=zh hh
 have HNN:=zh (And.intro hL (And.intro hN hN2))
 have HLEN:=zh (And.intro hTl hIl)
 obtain ⟨tids,htids⟩:∃ l,Zv s.L hz s.T=l:=⟨_,rfl⟩
 obtain ⟨xids,hxids⟩:∃ l,Z0H s.L hz tids s.I=l:=⟨_,rfl⟩
 rw [htids] at hnd hhp hleft
 have hut:∀ id ∈ tids,U64 id:=fun id hid=>by
  rw [<- htids] at hid
  obtain ⟨t,ht,rfl⟩:=List.mem_map.1 hid
  obtain ⟨i,hi⟩:=List.mem_iff_getElem?.1 (List.mem_filter.1 ht).1
  obtain ⟨vT,tps,vI,ips,h1,h2,h3⟩:=h.book
  obtain ⟨p,_,h4⟩:=h1.tbl i t hi
  exact h4.num.1
 have hux:∀ id ∈ xids,U64 id:=fun id hid=>by
  rw [<- hxids] at hid
  obtain ⟨t,ht,rfl⟩:=List.mem_map.1 hid
  obtain ⟨i,hi⟩:=List.mem_iff_getElem?.1 (List.mem_filter.1 ht).1
  obtain ⟨vT,tps,vI,ips,h1,h2,h3⟩:=h.book
  obtain ⟨p,_,h4⟩:=h3 i t hi
  exact h4.num.1
 have hps:Z4X s hz=xids.foldl Z3u (tids.foldl Z1A (Z18 s hz)):=by
  unfold Z4X
  rw [htids,hxids]
 obtain ⟨nT,hnT⟩:∃ n,tids.length=n:=⟨_,rfl⟩
 obtain ⟨nI,hnI⟩:∃ n,xids.length=n:=⟨_,rfl⟩
 have hln:nT <= 1000/\nI <= 1000:=by
  constructor
  ·rw [<- hnT,<- htids]
   unfold Zv
   rw [List.length_map]
   exact Nat.le_trans (List.length_filter_le _ _) hTl
  ·rw [<- hnI,<- hxids]
   unfold Z0H
   rw [List.length_map]
   exact Nat.le_trans (List.length_filter_le _ _) hIl
 obtain ⟨hln1,hln2⟩:=hln
 have HNT:=zh (And.intro hnT hnI)
 have HID:=zh (And.intro htids hxids)
 have HU:=zh (And.intro hut hux)
 have HPS:=zh hps
 have HD:=zh (And.intro hnd (And.intro hhp hleft))
 obtain ⟨Z8,Z6⟩:∃ Z8:Ending->World->Prop,(fun e w'=>e=.returned (.int .i64 (((Zv s.L hz s.T).length+(Z0H s.L hz (Zv s.L hz s.T) s.I).length:Nat):Int))/\Z0Z w sb o (Z4X s hz) w')=Z8:=⟨_,rfl⟩
 rw [Z6]
 have Ze:=zh Z6
 have HHO:Hid (∀ W,Quiet w W->Calls Tryz.prog 30 #[ptrV sb] W (fun e w'=>e=.returned (.int .u64 (hz:Int))/\Quiet W w')):=fun W hq=>by
  refine (Z3g (HST.out.quietly hq) HNN.out.1 HNN.out.2.1 HNN.out.2.2).mono ?_
  rintro e w' ⟨z,rfl,hh,hq'⟩
  rw [hh.same HHZ.out]
  exact ⟨rfl,hq'⟩
 have HPR:Hid (∀ W,Quiet w W->Calls Tryz.prog 167 #[ptrV bb,ptrV lb,.int .u64 (hz:Int)] W (fun e w'=>∃ A1 c1 A2 c2,e=.returned (.tuple #[.slice A1 nT c1,.slice A2 nI c2])/\Z0 (fun k=>o k=3) W w'/\ZV w' (fun k=>o k=3) bb (Z18 s hz).T (Z18 s hz).I s.blast
     /\ Rd w' (fun j=>W.heap.size <= j) 1 A1 nT (ZE tids)/\Rd w' (fun j=>W.heap.size <= j) 1 A2 nI (ZE xids))):=fun W hq=>by
  refine (ZfK (HH.out.quietly hq).book (HH.out.quietly hq).log (fun k e x=>by omega) HLEN.out.1 HLEN.out.2).mono ?_
  rintro e w' ⟨vt,vi,rfl,ho,hb,ht,hi,hn1,hn2⟩
  rw [HID.out.1] at ht hi
  rw [HID.out.2] at hi
  obtain ⟨A1,c1,rfl,_,_,hr1⟩:=Za ht
  obtain ⟨A2,c2,rfl,_,_,hr2⟩:=Za hi
  rw [HNT.out.1] at hr1 hn1 ⊢
  rw [HNT.out.2] at hr2 hn2 ⊢
  exact ⟨A1,c1,A2,c2,rfl,ho,hb,hr1.mono (fun j e=>hn1 j e),hr2.mono (fun j e=>hn2 j e)⟩
 have HS:Hid (∀ W,Z0 (fun k=>o k=3) w W->(fun w'=>w'.cell? ⟨sb,1,none⟩=some (ptrV bb)/\w'.cell? ⟨sb,0,none⟩=some (ptrV lb)) W):=fun W ho=>by
  have tg:=HH.out.tags
  exact ⟨ho.cell HH.out.cells.2.1 (fun e=>by dsimp only at e;omega),ho.cell HH.out.cells.1 (fun e=>by dsimp only at e;omega)⟩
 clear h hh hL hN hN2 Z6 hTl hIl hnd hhp hleft hut hux hps htids hxids hnT hnI
 go_enter Tryz.func129,Tryz.ntmps129
 go_wp2_with fail
 refine zH HS (((Z0.refl (fun k=>o k=3) _)).drew) (fun Z3=>?_)
 have q0:Quiet w w.drew:=(Z0.refl _ _).drew
 generalize w.drew=d0 at q0 Z3 ⊢
 refine zT 0 ?_
 refine zT 1 ?_
 refine zT 2 ?_
 refine zT 3 ?_
 refine zT 4 ?_
 refine zT 5 ?_
 refine zT 6 ?_
 refine zT 7 ?_
 refine zT 8 ?_
 refine zR 9 ?_
 intro K hK
 go_simp
 go_at_call 30
 refine (HHO.out _ q0).mono ?_
 rintro e d1 ⟨rfl,hq1⟩
 have q1:=q0.trans hq1
 clear hq1
 dsimp only
 refine hK.out _ _ ?_ (fun Z3=>?_)
 ·exact HS.out _ (q1.mono (fun _ _ x=>x.elim))
 clear hK K
 (try simp only [Act.put,zPA,zPZ,zPS])
 refine zR 10 ?_
 intro K hK
 go_simp
 go_at_call 167
 refine (HPR.out _ q1).mono ?_
 rintro e d2 ⟨A1,c1,A2,c2,rfl,ho2,hb2,hr1,hr2⟩
 dsimp only
 refine hK.out _ _ ?_ (fun Z3=>?_)
 ·exact HS.out _ ((q1.mono (T:=fun k=>o k=3) (fun _ _ x=>x.elim)).trans ho2)
 clear hK K
 (try simp only [Act.put,zPA,zPZ,zPS])
 refine zT 11 ?_
 refine zT 12 ?_
 refine zT 13 ?_
 refine zT 14 ?_
 refine zT 15 ?_
 refine zD ?_
 have HZ:Hid (w.heap.size <= d1.heap.size/\d1.heap.size <= d2.heap.size):=⟨q1.size,ho2.size⟩
 have HOW:Hid (Z0 (fun k=>o k=3) w d2):=(q1.mono (fun _ _ x=>x.elim)).trans ho2
 have HR1:Hid (Rd d2 (fun j=>w.heap.size <= j) 1 A1 nT (ZE tids)):=hr1.mono (fun j e=>Nat.le_trans HZ.out.1 e)
 have HR2:Hid (Rd d2 (fun j=>w.heap.size <= j) 1 A2 nI (ZE xids)):=hr2.mono (fun j e=>Nat.le_trans HZ.out.1 e)
 have HW0:Hid (Z7w w d2 d2 o sb (Z18 s hz) lb bb pb mh mt ms fs):=by
  have hst:=(HH.out.quietly q1).setBook ho2 (hb2.mono (fun k hk=>Or.inl hk))
  have hb:=HH.out.big
  exact ⟨⟨_,_,_,hst,fun j hj=>Z0K (Nat.lt_of_lt_of_le hj HZ.out.1),fun j a b=>by
    rcases Nat.lt_or_ge j d1.heap.size with x | x
    · right
      rw [Z0K x]
      exact hb j a
    · exact Or.inl (Z2w x b)⟩,Z0.refl _ _⟩
 clear Z3 q0 q1 ho2 hb2 hr1 hr2 HS HHO HPR
 go_wp2
 go_loopw [27,6] (fun i _ wr=>∃ k:Nat,k <= nT/\i=.int .i64 (k:Int)/\Z7w w d2 wr o sb ((tids.take k).foldl Z1A (Z18 s hz)) lb bb pb mh mt ms fs) (fun i _ _=>nT - (intOf i).toNat)
 case atStart=>exact ⟨0,Nat.zero_le _,rfl,HW0.out⟩
 case round =>
  obtain ⟨k,hk,rfl,hW⟩:=hrel
  have HW:=zh hW
  clear hW
  by_cases hlt:k < nT
  ·obtain ⟨b,off,u,rfl,_,hu,hcell⟩:=(HR1.out.kept HW.out.only (fun j a e=>e.1 (HH.out.big j a))).get hlt
   obtain ⟨id,hid,rfl⟩:=Zel hu
   obtain ⟨H,hH0⟩:=HD.out.2.1 id (List.mem_of_getElem? hid)
   obtain ⟨o',fh',ft',hR,hO1,hO2⟩:=HW.out.row
   have hnk:id ∉ tids.take k:=fun x=>by
    obtain ⟨j,hj⟩:=List.mem_iff_getElem?.1 x
    have hjk:j < k:=by
     have:=(zi.1 hj).1
     rw [List.length_take] at this
     omega
    rw [List.getElem?_take_of_lt hjk] at hj
    have:=(List.getElem?_inj (zi.1 hj).1 HD.out.1).1 (hj.trans hid.symm)
    omega
   obtain ⟨SK,hSK⟩:∃ SK,(tids.take k).foldl Z1A (Z18 s hz)=SK:=⟨_,rfl⟩
   have hH:SK.hs id=some H:=by
    rw [<- hSK,Z7k,if_neg hnk]
    exact hH0
   have HSN:Hid ((tids.take (k+1)).foldl Z1A (Z18 s hz)={ SK with hs:=upd SK.hs id none,left:=SK.left+H.length }):=by
    show _=_
    rw [List.take_add_one,hid,Option.toList_some,List.foldl_append,hSK]
    simp [Z1A,hH]
   have hlf:SK.left <= 256:=by rw [<- hSK];exact HD.out.2.2 k (by rw [HNT.out.1];exact hlt)
   rw [hSK] at hR
   have HR:=zh hR
   have HO12:=zh (And.intro hO1 hO2)
   have HONL:=zh HW.out.only
   obtain ⟨hb,hfh,hhp⟩:=hR.heaps.2 id H hH
   have HF:=zh hfh
   have hidU:=HU.out.1 id (List.mem_of_getElem? hid)
   have HIU:=zh hidU
   have hlk:=Z1P hR.mH hfh hidU
   have HDR:=zh (Zgz SK.left hhp hR.pool hlf)
   have k3:=hR.cells.2.2.2.1
   have lsb:=Zf k3
   dsimp only at lsb
   clear HW hu hid hH0 hR hO1 hO2 hnk hSK hH hlf hfh hhp hidU
   go_wp2_with fail
   refine HDR.out.mono ?_
   rintro e w2 ⟨rfl,ho2,hp2,hh2⟩
   have hst:=HR.out.setHeap HF.out ho2 hp2 hh2
   obtain ⟨w3,hrun,hm3,ho3⟩:=hst.mH.delete Tryz.underlying66 Tryz.underlying34 0 HIU.out
   have hst3:=hst.delHeap ho3 hm3
   have k3':=hst.cells.2.2.2.1
   have lsb':=Zf k3'
   dsimp only at lsb'
   have Zc:Hid (Z7w w d2 w3 o sb ((tids.take (k+1)).foldl Z1A (Z18 s hz)) lb bb pb mh mt ms fs):=by
    rw [HSN.out]
    have tg:=HH.out.tags
    have z1:=HONL.out.size
    have z2:=HZ.out
    simp only [Z44] at hst3
    refine ⟨⟨_,_,_,hst3,fun j hj=>by rw [Z0K (by omega)];exact HO12.out.1 j hj,fun j a b=>by rw [Z0K (by omega)];exact HO12.out.2 j a b⟩,(HONL.out.trans' ho2 (fun j hj e=>?_)).trans' ho3 (fun j hj e=>?_)⟩
    ·rcases e with e | e
     ·rcases Nat.lt_or_ge j w.heap.size with x | x
      ·have:=HO12.out.1 j x;omega
      ·have:=HO12.out.2 j x hj;omega
     ·rw [e];omega
    ·have e':j=mh:=e
     rw [e'];omega
   clear ho2 hp2 hh2 hst hm3 ho3 hst3 HDR hlk k3 lsb HSN HONL HO12 HR HF HIU hcell
   go_wp2
   go_roundw
   case rel=>exact ⟨k+1,by omega,by go_num,Zc.out⟩
   case measure=>simp [intOf];omega
  ·obtain rfl:k=nT:=by omega
   obtain ⟨S2,hS2⟩:∃ S2,tids.foldl Z1A (Z18 s hz)=S2:=⟨_,rfl⟩
   rw [List.take_of_length_le (by rw [HNT.out.1];exact Nat.le_refl _),hS2] at HW
   have HS2:=zh hS2
   clear hS2 hlt
   go_wp2
   go_loopw [46,8] (fun i _ wx=>∃ m:Nat,m <= nI/\i=.int .i64 (m:Int)/\Z7w w d2 wx o sb ((xids.take m).foldl Z3u S2) lb bb pb mh mt ms fs) (fun i _ _=>nI - (intOf i).toNat)
   case atStart=>exact ⟨0,Nat.zero_le _,rfl,HW.out⟩
   case round =>
    obtain ⟨m,hm,rfl,hX⟩:=hrel
    have HX:=zh hX
    clear hX
    by_cases hlt:m < nI
    ·obtain ⟨b,off,u,rfl,_,hu,hcell⟩:=(HR2.out.kept HX.out.only (fun j a e=>e.1 (HH.out.big j a))).get hlt
     obtain ⟨id,hid,rfl⟩:=Zel hu
     obtain ⟨o',fh',ft',hR,hO1,hO2⟩:=HX.out.row
     have hidU:=HU.out.2 id (List.mem_of_getElem? hid)
     obtain ⟨w3,hrun,hm3,ho3⟩:=hR.mT.delete Tryz.underlying67 Tryz.underlying34 0 hidU
     have hst3:=hR.delTree ho3 hm3
     have k4:=hR.cells.2.2.2.2.1
     have lsb:=Zf k4
     dsimp only at lsb
     have Zc:Hid (Z7w w d2 w3 o sb ((xids.take (m+1)).foldl Z3u S2) lb bb pb mh mt ms fs):=by
      have e1:(xids.take (m+1)).foldl Z3u S2=Z3u ((xids.take m).foldl Z3u S2) id:=by
       rw [List.take_add_one,hid,Option.toList_some,List.foldl_append]
       rfl
      rw [e1]
      have tg:=HH.out.tags
      refine ⟨⟨_,_,_,hst3,hO1,hO2⟩,HX.out.only.trans' ho3 (fun j hj e=>?_)⟩
      have e':j=mt:=e
      rw [e'];omega
     clear hu hid hR hO1 hO2 hidU hm3 ho3 hst3 HX
     go_wp2
     go_roundw
     case rel=>exact ⟨m+1,by omega,by go_num,Zc.out⟩
     case measure=>simp [intOf];omega
    ·obtain rfl:m=nI:=by omega
     have hsum:IntKind.i64.wrap ((k:Int)+(m:Int))=((k+m:Nat):Int):=by rw [Zp _ (by omega) (by omega)];rfl
     have Zc:Hid (Z8 (.returned (.int .i64 ((k+m:Nat):Int))) wr):=by
      rw [<- Ze.out]
      rw [List.take_of_length_le (by rw [HNT.out.2];exact Nat.le_refl _),<- HS2.out,<- HPS.out] at HX
      obtain ⟨o',fh',ft',hR,hO1,hO2⟩:=HX.out.row
      exact ⟨by rw [HID.out.1,HID.out.2,HNT.out.1,HNT.out.2],o',hO1,(HOW.out.mono (T:=fun k=>o k ≠ 0) (fun _ _ e=>by omega)).trans' HX.out.only (fun _ _ e=>e.1),_,_,_,_,_,_,_,_,_,hR⟩
     clear hlt
     go_wp2
     exact Zc.out
theorem ZdS {s:St} {hz:Nat} (h:Z2U s hz):Zv s.L hz s.T=[]/\Z0H s.L hz [] s.I=[]/\Z4X s hz=s:=by
 have h1:Zv s.L hz s.T=[]:=by
  unfold Zv
  rw [List.filter_eq_nil_iff.2 (fun t ht=>by unfold Z1s;rw [h.1 t ht];decide)]
  rfl
 have hg:∀ x ∈ s.I,Z1t s.L hz [] x=false:=fun x hx=>by
  unfold Z1t
  rw [h.2 x hx]
  simp
 have h2:Z0H s.L hz [] s.I=[]:=by
  unfold Z0H
  rw [List.filter_eq_nil_iff.2 (fun x hx=>by rw [hg x hx];decide)]
  rfl
 refine ⟨h1,h2,?_⟩
 unfold Z4X
 rw [h1,h2]
 show Z18 s hz=s
 unfold Z18
 rw [h1,List.filter_eq_self.2 (fun t ht=>by unfold Z1s;rw [h.1 t ht];rfl),List.filter_eq_self.2 (fun x hx=>by rw [hg x hx];rfl)]
theorem Z7O {w:World} {sb hz N:Nat} {o:Nat->Nat} {s:St} (h:Zn w sb o s) (hh:Z1u s hz) (hlv:Z2U s hz) (hL:s.L.length < 1000000000) (hN:∀ x y,s.sn x=some y->x <= N) (hN2:N <= 2000000) (hTl:s.T.length <= 1000) (hIl:s.I.length <= 1000) :
  Calls Tryz.prog 129 #[ptrV sb] w (fun e w'=>e=.returned (.int .i64 0)/\Z0Z w sb o s w'):=by
 obtain ⟨h1,h2,h3⟩:=ZdS hlv
 have:=ZdR h hh hL hN hN2 hTl hIl (by rw [h1];exact List.nodup_nil) (by rw [h1];intro id x;cases x) (fun k x=>by rw [h1] at x;exact absurd x (Nat.not_lt_zero _))
 rw [h3,h1,h2] at this
 exact this
theorem Zad {w0:Z0b} {w:World} {sb hz N:Nat} {K:Nat->Prop} {s:St} (h:ZF w0 w sb K s) (hh:Z1u s hz) (hlv:Z2U s hz) (hL:s.L.length < 1000000000) (hN:∀ x y,s.sn x=some y->x <= N) (hN2:N <= 2000000) (hTl:s.T.length <= 1000) (hIl:s.I.length <= 1000) :
  Calls Tryz.prog 129 #[ptrV sb] w (fun e w'=>e=.returned (.int .i64 0)/\ToB w0 w sb K s w'):=by
 have hB:=h
 obtain ⟨⟨o,h1,h2,h3,h4⟩,_⟩:=h
 refine (Z7O h1 hh hlv hL hN hN2 hTl hIl).mono ?_
 rintro e w' ⟨rfl,hst⟩
 exact ⟨rfl,hB.call (Z2c h1 h2 h3 h4 hst)⟩
theorem Z8C {w0:Z0b} {w:World} {sb:Nat} {K:Nat->Prop} {s:St} {t:TE} (h:ZF w0 w sb K s) (hT:s.T=[t]) (hI:s.I.length <= 1000) :
  Calls Tryz.prog 46 #[ptrV sb] w (Z3t w t (ZQ s.L t.id s.I)):=by
 obtain ⟨⟨o,h1,_⟩,_⟩:=h
 exact Z6q h1 hT hI
theorem Zjd:Z0c Tryz.prog 71 196 1 8:=Z0c.mk' (.pointer none) Tryz.underlying71 (by kernel_rfl) rfl (by decide)
def ZcZ (w0:Z0b) (w:World) (sb rb ps:Nat) (s:St) (tid n k i:Nat) (known:Bool) (ids:List Nat) (D:List (Int × Int)) (q:Nat):Prop:=∃ jr jb cj vi vd,Z0l w0 w sb rb ps s tid n k i known ids D jr jb cj vi vd/\ZF w0 w sb (fun k=>BrK rb jr jb vi vd k ∨ k=q) s
theorem ZdT {w0:Z0b} {w2 w4 d1 d2 d3 w9:World} {sb rb r2 q ps tid jb:Nat} {s:St} {v:Value} (hl:ZF w0 w2 sb (fun k=>k=rb ∨ k=q ∨ k=r2) s) (hr:w0.w.heap.size <= rb/\w0.w.heap.size <= r2/\rb ≠ r2) (hqn:w0.w.heap.size <= q) (ho4:Z0 (fun k=>k=rb) w2 w4) (hb4:w4.heap[rb]?=some (.cells #[ptrV sb,.bool true,.slice none 0 0,.int .i64 (ps:Int)] 73 (0,0)))
  (hq1:Quiet w4 d1) (hj:d1.heap[jb]?=some (.cells #[.int .u64 (tid:Int),.int .i64 0,.slice none 0 0,.bool false,.int .i64 0,.int .i64 0,.slice none 0 0] 198 (0,0))) (hjn:w4.heap.size <= jb) (hq2:Quiet d1 d2) (hg:ZT d2 d3 196 1 (.slice none 0 0) v (0+1) ([] ++ [ptrV jb]))
  (ho9:Z0 (fun k=>k=rb ∨ k=r2) d3 w9) (hb9:w9.heap[rb]?=some (.cells #[ptrV sb,.bool true,v,.int .i64 (ps:Int)] 73 (0,0))):ZcZ w0 w9 sb rb ps s tid 0 0 0 false [] [] q:=by
 have hown:=hg.own
 rcases ZB hown with ⟨_,e⟩ | ⟨jr,cj,rfl,hc1,hc2⟩
 ·omega
 obtain ⟨cs,hcs⟩:=Zh hown (k:=jr) rfl
 have q3:Quiet d2 d3:=hg.only.mono (fun k _ e=>by cases e)
 have z4:=ho4.size
 have z1:=hq1.size
 have z2:=hq2.size
 have z3:=q3.size
 have hjr:d2.heap.size <= jr:=by
  rcases hg.loc with y | y
  ·cases y
  ·have e:(Value.slice (some ⟨jr,0,none⟩) (0+1) cj).ownBlock=some jr:=rfl
   rw [y] at e
   injection e with e
   omega
 have hlb:=Z2 hb4
 have hlr2:=hl.lt (Or.inr (Or.inr rfl):r2=rb ∨ r2=q ∨ r2=r2)
 have hj3:=q3.get (hq2.get hj (fun x=>x)) (fun x=>x)
 have hjl:=Z2 hj
 have hj9:=ho9.get hj3 (fun e=>by rcases e with e | e <;> omega)
 have hjr9:=ho9.get hcs (fun e=>by rcases e with e | e <;> omega)
 have hc0:=hown.cells (by rfl) 0 (ptrV jb) rfl
 rw [Zl,Nat.zero_add,Z1 hcs] at hc0
 have hwhole:Z0 (fun k=>k=rb ∨ k=r2) w2 w9:=((((ho4.mono (fun k _ e=>Or.inl e)).trans' hq1 (fun _ _ x=>x.elim)).trans' hq2 (fun _ _ x=>x.elim)).trans' q3 (fun _ _ x=>x.elim)).trans ho9
 have hs9:=ho9.size
 have hQ:ZF w0 w9 sb (fun k=>BrK rb jr jb (.slice none 0 0) (.slice none 0 0) k ∨ k=q) s:=by
  refine hl.turnTo (hwhole.mono (fun k _ e=>by rcases e with e | e;exact Or.inl e;exact Or.inr (Or.inr e))) (fun k e=>by rcases e with e | e | e <;> omega) (fun k e=>?_)
  rcases e with (e | e | e | e | e) | e
  ·exact Or.inl (Or.inl e)
  ·have:=Z2 hjr9;exact Or.inr ⟨by omega,by omega⟩
  ·have:=Z2 hj9;exact Or.inr ⟨by omega,by omega⟩
  ·cases e
  ·cases e
  ·exact Or.inl (Or.inr (Or.inl e))
 refine ⟨jr,jb,cj,.slice none 0 0,.slice none 0 0,⟨hQ.mono (fun k e=>Or.inl e),⟨hb9⟩,?_,⟨hj9⟩,World.ownsRow_nil _ _ _ _,World.ownsRow_nil _ _ _ _,fun k e=>?_,by omega⟩,hQ⟩
 ·obtain ⟨l⟩:=cs
  rcases l with _ | ⟨x,l⟩
  ·simp at hc0
  ·simp at hc0
   subst hc0
   exact ⟨l,hjr9⟩
 ·rcases e with e | e | e | e | e
  ·omega
  ·have:=hl.quiet.size;omega
  ·have:=hl.quiet.size;omega
  ·cases e
  ·cases e
theorem ZdU {w0:Z0b} {w:World} {sb rb q ps hz N:Nat} {s:St} {t:TE} {vj:Value} {obj:Obj} (hl:ZF w0 w sb (fun k=>k=rb ∨ k=q) s) (hb:Z7u w rb sb false vj ps) (hr:w0.w.heap.size <= rb/\w0.w.heap.size <= q/\rb ≠ q) (hqo:w.heap[q]?=some obj) (hT:s.T=[t]) (hI:s.I.length <= 1000) (hh:Z1u s hz) (hlv:Z2U s hz) (hL:s.L.length < 1000000000) (hN:∀ x y,s.sn x=some y->x <= N) (hN2:N <= 2000000) :
  Calls Tryz.prog 89 #[ptrV rb] w (fun e w'=>e=.returned (.agg #[.int .i64 0,.int .u64 0,.int .u64 0,.int .i64 0])/\ZcZ w0 w' sb rb ps s t.id 0 0 0 false [] [] q/\w'.heap[q]?=some obj):=by
 obtain ⟨Z8,Z6⟩:∃ Z8:Ending->World->Prop,(fun e w'=>e=.returned (.agg #[.int .i64 0,.int .u64 0,.int .u64 0,.int .i64 0])/\ZcZ w0 w' sb rb ps s t.id 0 0 0 false [] [] q/\w'.heap[q]?=some obj)=Z8:=⟨_,rfl⟩
 rw [Z6]
 have Ze:=zh Z6
 have hq:Quiet w (w.alloc (.cells #[.int .i64 0,.int .u64 0,.int .u64 0,.int .i64 0] 118)):=(Z0.refl _ _).alloc _
 have h2:=Z4 w (.cells #[.int .i64 0,.int .u64 0,.int .u64 0,.int .i64 0] 118)
 obtain ⟨r2,hr2⟩:∃ r2,w.heap.size=r2:=⟨_,rfl⟩
 rw [hr2] at h2
 have HR2:=zh hr2
 have hbl:=Z2 hb.box
 have hzl:=hl.quiet.size
 have hlq:=Z2 hqo
 have HRR:Hid (w0.w.heap.size <= rb/\w0.w.heap.size <= r2/\rb ≠ r2/\w0.w.heap.size <= q/\rb ≠ q/\q ≠ r2):=⟨hr.1,by omega,by omega,hr.2.1,hr.2.2,by omega⟩
 have HL1:Hid (ZF w0 (w.alloc (.cells #[.int .i64 0,.int .u64 0,.int .u64 0,.int .i64 0] 118)) sb (fun k=>k=rb ∨ k=q ∨ k=r2) s):=(hl.quietly hq).mono (fun k e=>by
   rcases e with e | e | e
   · exact Or.inl (Or.inl e)
   · exact Or.inl (Or.inr e)
   · exact Or.inr ⟨by omega,by have:=Z2 h2;omega⟩)
 have hb1:=hq.get hb.box (fun x=>x)
 have HB1:=zh hb1
 have H21:=zh h2
 have HQ1:=zh (hq.get hqo (fun x=>x))
 have HQ:=zh hq
 have HTI:=zh (And.intro hT hI)
 have HPR:=zh (Zad HL1.out hh hlv hL hN hN2 (by rw [hT];show 1 <= 1000;omega) hI)
 have b0:=Z1 hb1 0
 simp only [zGA,zGS,zGZ] at b0
 have lb1:=Z2 hb1
 clear Z6 hl hb hr hqo hT hI hh hlv hL hN hN2 hzl hlq
 go_enter Tryz.func89,Tryz.ntmps89
 go_upto_region 1 with fail
 (try rw [hr2])
 generalize w.alloc (.cells #[.int .i64 0,.int .u64 0,.int .u64 0,.int .i64 0] 118)=w1 at *
 clear hq h2 hr2 hb1
 go_wp2_with fail
 refine HPR.out.mono ?_
 rintro e w2 ⟨rfl,hl2⟩
 have HL2:=zh hl2.st
 have HO2:=zh hl2.2
 have hb2:=hl2.2.get HB1.out (fun x=>x.2 (Or.inl rfl))
 have HB2:=zh hb2
 have H22:=zh (hl2.2.get H21.out (fun x=>x.2 (Or.inr (Or.inr rfl))))
 have HQ2:=zh (hl2.2.get HQ1.out (fun x=>x.2 (Or.inr (Or.inl rfl))))
 have HBK:=zh (Z8C HL2.out HTI.out.1 HTI.out.2)
 have b0:=Z1 hb2 0
 simp only [zGA,zGS,zGZ] at b0
 have lb2:=Z2 hb2
 clear hl2 hb2 HPR lb1
 go_wp2_with fail
 refine HBK.out.mono ?_
 rintro e w3 ⟨b,cap,A,c,v,rfl,hO,_⟩
 have HO3:=zh hO
 have hb3:=hO.quiet.get HB2.out (fun x=>x)
 have c1:=Z1 hb3 1
 have c2:=Z1 hb3 2
 have cf:=fun o=>Z7 hb3 o
 simp only [zGA,zGS,zGZ] at c1 c2
 have lb3:=Z2 hb3
 have HB4:Hid (((w3.setCell ⟨rb,1,none⟩ (.bool true)).setCell ⟨rb,2,none⟩ (.slice none 0 0)).heap[rb]?=some (.cells #[ptrV sb,.bool true,.slice none 0 0,.int .i64 (ps:Int)] 73 (0,0))):=by
  show _=_
  rw [Zg (Zg hb3 _ _) _ _]
  rfl
 have HO4:Hid (Z0 (fun k=>k=rb) w3 ((w3.setCell ⟨rb,1,none⟩ (.bool true)).setCell ⟨rb,2,none⟩ (.slice none 0 0))):=((Z0.refl (fun k=>k=rb) w3).setCell (p:=⟨rb,1,none⟩) (fun _=>rfl) _).setCell (p:=⟨rb,2,none⟩) (fun _=>rfl) _
 clear hO hb3 HBK lb2 b0
 go_upto_region 4 with fail
 generalize (w3.setCell ⟨rb,1,none⟩ (.bool true)).setCell ⟨rb,2,none⟩ (.slice none 0 0)=w4 at *
 clear c1 c2 cf lb3
 have HW24:Hid (Z0 (fun k=>k=rb) w2 w4):=(HO3.out.quiet.mono (fun _ _ x=>x.elim)).trans HO4.out
 have hnb:b ≠ rb:=fun e=>by have:=HO3.out.new;have:=Z2 HB2.out;omega
 obtain ⟨t0,t1,t2,t3,t4⟩:=HO3.out.cells
 have t0:=HO4.out.cell t0 hnb
 have t1:=HO4.out.cell t1 hnb
 have t2:=HO4.out.cell t2 hnb
 have t3:=HO4.out.cell t3 hnb
 have t4:=HO4.out.cell t4 hnb
 have lb4:=Zf t0
 dsimp only at lb4
 have hqa:Quiet w4 (w4.alloc (.cells #[.int .u64 (t.id:Int),.string t.name,.slice A t.cols.length c,.int .u64 (t.xmin:Int),.int .u64 (t.xmax:Int)] 90)):=(Z0.refl _ _).alloc _
 have hba:=Z4 w4 (.cells #[.int .u64 (t.id:Int),.string t.name,.slice A t.cols.length c,.int .u64 (t.xmin:Int),.int .u64 (t.xmax:Int)] 90)
 obtain ⟨r7,hr7⟩:∃ r7,w4.heap.size=r7:=⟨_,rfl⟩
 rw [hr7] at hba
 have HQA:=zh hqa
 have HBA:=zh hba
 have HR7:=zh hr7
 clear hba
 go_wp2
 refine wp_loop_rounds 2 ?_
 rw [rounds_succ]
 go_wp2_with fail
 (try rw [hr7])
 generalize w4.alloc (.cells #[.int .u64 (t.id:Int),.string t.name,.slice A t.cols.length c,.int .u64 (t.xmin:Int),.int .u64 (t.xmax:Int)] 90)=w5 at *
 clear hqa hr7 t0 t1 t2 t3 t4 lb4
 have HS7:Hid (∀ W,Quiet w5 W->(fun w'=>w'.cell? ⟨rb,2,none⟩=some (.slice none 0 0)/\w'.cell? ⟨r7,0,none⟩=some (.int .u64 (t.id:Int))) W):=fun W hq=>⟨by rw [Z1 (hq.get (HQA.out.get HB4.out (fun x=>x)) (fun x=>x))];rfl,by rw [Z1 (hq.get HBA.out (fun x=>x))];rfl⟩
 refine Z0M (S:=(fun w'=>w'.cell? ⟨rb,2,none⟩=some (.slice none 0 0)/\w'.cell? ⟨r7,0,none⟩=some (.int .u64 (t.id:Int)))) (by kernel_rfl) (by kernel_rfl) (by simp) (HS7.out _ ((Z0.refl _ _).drew)) (fun Z3=>?_)
 simp only [List.pop_toArray,List.dropLast,List.size_toArray,List.length_cons,List.length_nil,Nat.reduceAdd,Nat.reduceSub]
 have q0:Quiet w5 w5.drew:=(Z0.refl _ _).drew
 generalize w5.drew=d0 at q0 Z3 ⊢
 refine zT 0 ?_
 refine zT 1 ?_
 refine zT 2 ?_
 refine zT 3 ?_
 refine zT 4 ?_
 refine zT 5 ?_
 refine zT 6 ?_
 refine zT 7 ?_
 refine zR 8 ?_
 intro K hK
 go_simp
 refine hK.out _ _ ?_ (fun Z3=>?_)
 ·exact HS7.out _ (q0.alloc _)
 clear hK K
 (try simp only [Act.put,zPA,zPZ,zPS])
 have q1:Quiet w5 (d0.alloc (.cells #[.int .u64 (t.id:Int),.int .i64 0,.slice none 0 0,.bool false,.int .i64 0,.int .i64 0,.slice none 0 0] 198)):=q0.alloc _
 have hj1:=Z4 d0 (.cells #[.int .u64 (t.id:Int),.int .i64 0,.slice none 0 0,.bool false,.int .i64 0,.int .i64 0,.slice none 0 0] 198)
 have hjn:=q0.size
 obtain ⟨jb,hjb⟩:∃ jb,d0.heap.size=jb:=⟨_,rfl⟩
 rw [hjb] at hj1 hjn ⊢
 generalize d0.alloc (.cells #[.int .u64 (t.id:Int),.int .i64 0,.slice none 0 0,.bool false,.int .i64 0,.int .i64 0,.slice none 0 0] 198)=d1 at *
 clear hjb
 refine zR 9 ?_
 intro K hK
 go_simp
 refine hK.out _ _ ?_ (fun Z3=>?_)
 ·exact HS7.out _ (q1.alloc _)
 clear hK K
 (try simp only [Act.put,zPA,zPZ,zPS])
 have q12:Quiet d1 (d1.alloc (.cells #[ptrV jb] 196)):=(Z0.refl _ _).alloc _
 have hrd:=Rd.one d1 (ptrV jb) 196 (0,0) (S:=fun _=>True) trivial
 obtain ⟨bu,hbu⟩:∃ bu,d1.heap.size=bu:=⟨_,rfl⟩
 rw [hbu] at hrd
 (try rw [hbu])
 generalize d1.alloc (.cells #[ptrV jb] 196)=d2 at *
 clear hbu
 have q2:=q1.trans q12
 refine zR 10 ?_
 intro K hK
 refine Z0B Zjd rfl (.tmp 37) (.tmp 42) rfl rfl (World.ownsRow_nil _ _ _ _) rfl hrd (Z3v [jb]) (by unfold maxLen;omega) (by omega) ?_
 intro v3 d3 hg3
 obtain ⟨A3,c3,rfl,_,_,_⟩:=Za (show World.ownsRow d3 0 196 1 v3 1 [ptrV jb] from hg3.own)
 have q3:Quiet w5 d3:=q2.trans (hg3.only.mono (fun k _ e=>by cases e))
 refine hK.out _ _ ?_ (fun Z3=>?_)
 ·exact HS7.out _ q3
 clear hK K
 (try simp only [Act.put,zPA,zPZ,zPS])
 refine zT 11 ?_
 refine zT 12 ?_
 refine zD ?_
 refine Z21 (o:=?_) ?_ ?_
 rotate_left 1
 (focus (simp only [zGA,zGZ,zGS] <;> rfl))
 intro K hK
 have hb3:=q3.get (HQA.out.get HB4.out (fun x=>x)) (fun x=>x)
 have k2:=Z1 hb3 2
 have kf:=fun o=>Z7 hb3 o
 simp only [zGA,zGS,zGZ] at k2
 go_simp
 refine hK.out _ _ ?_
 clear hK K
 (try dsimp only [Act.put])
 have HG:=zh (And.intro q1 (And.intro hj1 (And.intro hjn (And.intro q12 hg3))))
 have HB9:Hid ((d3.setCell ⟨rb,2,none⟩ (.slice A3 1 c3)).heap[rb]?=some (.cells #[ptrV sb,.bool true,.slice A3 1 c3,.int .i64 (ps:Int)] 73 (0,0))):=by
  show _=_
  rw [Zg hb3]
  rfl
 have HO9:Hid (Z0 (fun k=>k=rb) d3 (d3.setCell ⟨rb,2,none⟩ (.slice A3 1 c3))):=(Z0.refl (fun k=>k=rb) d3).setCell (p:=⟨rb,2,none⟩) (fun _=>rfl) _
 have HQ3:=zh q3
 clear Z3 q0 q1 q2 q3 q12 hg3 hrd hj1 hjn hb3 k2 kf HS7
 generalize d3.setCell ⟨rb,2,none⟩ (.slice A3 1 c3)=w8 at *
 have HD38:Hid (Z0 (fun k=>k=rb) w2 w8):=((HW24.out.trans' HQA.out (fun _ _ x=>x.elim)).trans' HQ3.out (fun _ _ x=>x.elim)).trans HO9.out
 have h28:=HD38.out.get H22.out (fun e=>HRR.out.2.2.1 e.symm)
 obtain ⟨e0,e1,e2,e3⟩:=zC4 h28
 have ef:=fun o=>Z7 h28 o
 have hl8:=Z2 h28
 have HX:=zh (Z00 h28 (.int .i64 0) (.int .u64 0) (.int .u64 0) (.int .i64 0))
 have ho4:=Zy w8 r2 (.int .i64 0) (.int .u64 0) (.int .u64 0) (.int .i64 0)
 have Zc:Hid (Z8 (.returned (.agg #[.int .i64 0,.int .u64 0,.int .u64 0,.int .i64 0])) (fourSet w8 r2 (.int .i64 0) (.int .u64 0) (.int .u64 0) (.int .i64 0))):=by
  rw [<- Ze.out]
  have hrr:=HRR.out
  refine ⟨rfl,ZdT HL2.out ⟨hrr.1,hrr.2.1,hrr.2.2.1⟩ hrr.2.2.2.1 HW24.out HB4.out (HQA.out.trans HG.out.1) HG.out.2.1 (Nat.le_trans HQA.out.size HG.out.2.2.1) HG.out.2.2.2.1 HG.out.2.2.2.2 ((HO9.out.mono (fun k _ e=>Or.inl e)).trans (ho4.mono (fun k _ e=>Or.inr e))) (ho4.get HB9.out (fun e=>hrr.2.2.1 e)),?_⟩
  exact ho4.get (HD38.out.get HQ2.out (fun e=>hrr.2.2.2.2.1 e.symm)) (fun e=>hrr.2.2.2.2.2 e)
 unfold fourSet at HX Zc
 clear ho4 h28
 go_wp2
 rw [rounds_succ]
 go_wp2
 exact bodyPost_ret (Z0j Tryz.results89 _ _ r2 _ _ (0,0) _ (by rfl) HX.out Tryz.underlying118 rfl Z26) (by rfl) Zc.out
section
variable {w0:Z0b} {w w':World} {sb rb ps tid n k i n' k' i':Nat} {s:St} {known known':Bool} {ids:List Nat} {D D':List (Int × Int)} {jr jb cj:Nat} {vi vd vd':Value}
theorem Z0l.apart (h:Z0l w0 w sb rb ps s tid n k i known ids D jr jb cj vi vd):rb ≠ jr/\rb ≠ jb/\jr ≠ jb/\(∀ k,vd.ownBlock=some k->k ≠ rb/\k ≠ jr/\k ≠ jb/\vi.ownBlock ≠ some k)/\(∀ k,vi.ownBlock=some k->k ≠ rb/\k ≠ jr/\k ≠ jb):=by
 obtain ⟨cs,hr⟩:=h.row
 refine ⟨Zb h.br.box hr (by decide),Zb h.br.box h.job.box (by decide),Zb hr h.job.box (by decide),fun k e=>?_,fun k e=>?_⟩
 ·obtain ⟨c,hh⟩:=Zh h.dead e
  refine ⟨Zb hh h.br.box (by decide),Zb hh hr (by decide),Zb hh h.job.box (by decide),fun e2=>?_⟩
  obtain ⟨c2,hh2⟩:=Zh h.idx e2
  exact Zb hh hh2 (by decide) rfl
 ·obtain ⟨c,hh⟩:=Zh h.idx e
  exact ⟨Zb hh h.br.box (by decide),Zb hh hr (by decide),Zb hh h.job.box (by decide)⟩
theorem Z0l.turned (h:Z0l w0 w sb rb ps s tid n k i known ids D jr jb cj vi vd) (ho:Z0 (fun k=>k=jb ∨ vd.ownBlock=some k) w w') (hj:Zg3 w' jb tid n' k' i' known' vi vd') (hd:w'.ownsRow 0 48 2 vd' D'.length (ZU D')) (hloc:∀ k,vd'.ownBlock=some k->vd.ownBlock=some k ∨ w.heap.size <= k) :
  Z0l w0 w' sb rb ps s tid n' k' i' known' ids D' jr jb cj vi vd':=by
 obtain ⟨a1,a2,a3,a4,a5⟩:=h.apart
 obtain ⟨cs,hr⟩:=h.row
 have hq:=h.law.quiet.size
 refine ⟨h.law.turnTo (ho.mono (fun k _ e=>by rcases e with e | e;exact Or.inr (Or.inr (Or.inl e));exact Or.inr (Or.inr (Or.inr (Or.inr e))))) h.new (fun k e=>?_),⟨ho.get h.br.box (fun e=>by rcases e with e | e;exact a2 e;exact (a4 _ e).1 rfl)⟩,⟨cs,ho.get hr (fun e=>by rcases e with e | e;exact a3 e;exact (a4 _ e).2.1 rfl)⟩,hj,Z5 h.idx ho (fun k e x=>by rcases x with x | x;exact (a5 k e).2.2 x;exact (a4 k x).2.2.2 e),hd,fun k e=>?_,h.cap⟩
 ·rcases e with e | e | e | e | e
  ·exact Or.inl (Or.inl e)
  ·exact Or.inl (Or.inr (Or.inl e))
  ·exact Or.inl (Or.inr (Or.inr (Or.inl e)))
  ·exact Or.inl (Or.inr (Or.inr (Or.inr (Or.inl e))))
  ·rcases hloc k e with x | x
   ·exact Or.inl (Or.inr (Or.inr (Or.inr (Or.inr x))))
   ·obtain ⟨c,hh⟩:=Zh hd e
    exact Or.inr ⟨x,Z2 hh⟩
 ·rcases e with e | e | e | e | e
  ·exact h.new k (Or.inl e)
  ·exact h.new k (Or.inr (Or.inl e))
  ·exact h.new k (Or.inr (Or.inr (Or.inl e)))
  ·exact h.new k (Or.inr (Or.inr (Or.inr (Or.inl e))))
  ·rcases hloc k e with x | x
   ·exact h.new k (Or.inr (Or.inr (Or.inr (Or.inr x))))
   ·omega
theorem Z0l.quietly (h:Z0l w0 w sb rb ps s tid n k i known ids D jr jb cj vi vd) (hq:Quiet w w'):Z0l w0 w' sb rb ps s tid n k i known ids D jr jb cj vi vd :=
 h.turned (hq.mono (fun _ _ x=>x.elim)) ⟨hq.get h.job.box (fun x=>x)⟩ (Z5 h.dead hq (fun _ _ x=>x)) (fun k e=>Or.inl e)
end
theorem Z1Q {w:World} {b:Nat} {c0 c1 c2 c3 c4 c5 c6:Value} {t:TypeId} (h:w.heap[b]?=some (.cells #[c0,c1,c2,c3,c4,c5,c6] t (0,0))) (v:Value):(w.setCell ⟨b,4,none⟩ v).heap[b]?=some (.cells #[c0,c1,c2,c3,v,c5,c6] t (0,0))/\(w.setCell ⟨b,6,none⟩ v).heap[b]?=some (.cells #[c0,c1,c2,c3,c4,c5,v] t (0,0))/\(w.setCell ⟨b,3,none⟩ v).heap[b]?=some (.cells #[c0,c1,c2,v,c4,c5,c6] t (0,0))/\(w.setCell ⟨b,1,none⟩ v).heap[b]?=some (.cells #[c0,v,c2,c3,c4,c5,c6] t (0,0))/\(w.setCell ⟨b,2,none⟩ v).heap[b]?=some (.cells #[c0,c1,v,c3,c4,c5,c6] t (0,0))/\(w.setCell ⟨b,5,none⟩ v).heap[b]?=some (.cells #[c0,c1,c2,c3,c4,v,c6] t (0,0)):=by
 refine ⟨?_,?_,?_,?_,?_,?_⟩ <;> (rw [Zg h];rfl)
theorem ZhH {w0:Z0b} {w:World} {sb id:Nat} {K:Nat->Prop} {s:St} {H:List (List (Option Tup))} (h:ZF w0 w sb K s) (hid:U64 id) (hH:s.hs id=some H) :
  Calls Tryz.prog 90 #[ptrV sb,.int .u64 (id:Int)] w (fun e w'=>e=.returned (.int .i64 (H.length:Int))/\Quiet w w'):=by
 obtain ⟨⟨o,h1,_⟩,_⟩:=h
 exact ZdK h1 hid hH
theorem Z9G {w0:Z0b} {w:World} {sb id hz k N:Nat} {K:Nat->Prop} {s:St} {H:List (List (Option Tup))} {T:List (Option Tup)} (h:ZF w0 w sb K s) (hid:U64 id) (hH:s.hs id=some H) (hT:H[k]?=some T) (hnum:Z2k H) (hh:Z1u s hz) (hL:s.L.length < 1000000000) (hN:∀ x y,s.sn x=some y->x <= N) (hN2:N <= 2000000) (hlen:(Zk (k:Int) T T.length).length <= 1000000) :
  Calls Tryz.prog 91 #[ptrV sb,.int .u64 (id:Int),.int .i64 (k:Int)] w (Z1h w ((Zk (k:Int) T T.length).filter (ZN s.L H hz))):=by
 obtain ⟨⟨o,h1,_⟩,_⟩:=h
 exact ZcO h1 hid hH hT hnum hh hL hN hN2 hlen
theorem Z62 {w0:Z0b} {w w1 d2 w4 w5 w6 w9:World} {sb rb ps tid n n1 k k1 r2:Nat} {s:St} {kn:Bool} {ids:List Nat} {D fl:List (Int × Int)} {jr jb cj:Nat} {vi vd v5:Value} (hj:Z0l w0 w sb rb ps s tid n1 k1 0 kn ids D jr jb cj vi vd) (hr2n:w.heap.size <= r2) (h1:Z0 (fun x=>x=jb) w w1) (hq:Quiet w1 d2) (hr2l:r2 < d2.heap.size) (ho4:Z0 (fun x=>x=jb) d2 w4) (hg:ZT w4 w5 48 2 vd v5 (D.length+fl.length) (ZU D ++ ZU fl)) (ho6:Z0 (fun x=>x=jb) w5 w6) (ho9:Z0 (fun x=>x=r2) w6 w9)
  (hb6:w6.heap[jb]?=some (.cells #[.int .u64 (tid:Int),.int .i64 (n:Int),vi,.bool true,.int .i64 (k:Int),.int .i64 ((0:Nat):Int),v5] 198 (0,0))):Z1K w0 w9 sb rb ps s tid n k 0 true ids (D ++ fl):=by
 have ap:=hj.apart
 have ljb:=Z2 hj.job.box
 have hown:∀ k,v5.ownBlock=some k->vd.ownBlock=some k ∨ w4.heap.size <= k:=fun k e=>by
  rcases hg.loc with y | y
  ·rw [y] at e;exact Or.inl e
  ·rw [y] at e;injection e with e;exact Or.inr (by omega)
 have z1:=h1.size
 have z2:=hq.size
 have z4:=ho4.size
 have z5:=hg.only.size
 have z6:=ho6.size
 have hvd:∀ k,vd.ownBlock=some k->k < w.heap.size:=fun k e=>by
  obtain ⟨c,hh⟩:=Zh hj.dead e
  exact Z2 hh
 have hd9:w9.ownsRow 0 48 2 v5 (D ++ fl).length (ZU (D ++ fl)):=by
  rw [List.length_append,Z54]
  refine Z5 (Z5 hg.own ho6 (fun k e x=>?_)) ho9 (fun k e x=>?_)
  ·rcases hown k e with y | y
   ·exact (ap.2.2.2.1 k y).2.2.1 x
   ·omega
  ·rcases hown k e with y | y
   ·have:=hvd k y;omega
   ·omega
 have hwhole:Z0 (fun k=>k=jb ∨ vd.ownBlock=some k) w w9:=(((((h1.mono (fun _ _ e=>Or.inl e)).trans (hq.mono (fun _ _ x=>x.elim))).trans (ho4.mono (fun _ _ e=>Or.inl e))).trans (hg.only.mono (fun _ _ e=>Or.inr e))).trans (ho6.mono (fun _ _ e=>Or.inl e))).trans' ho9 (fun k hk e=>by omega)
 exact ⟨jr,jb,cj,vi,v5,hj.turned hwhole ⟨ho9.get hb6 (fun e=>by omega)⟩ hd9 (fun k e=>(hown k e).imp (fun x=>x) (fun x=>by omega))⟩
theorem ZdV {w0:Z0b} {w:World} {sb rb ps tid n k hz N:Nat} {s:St} {H:List (List (Option Tup))} {T:List (Option Tup)} {ids:List Nat} {D:List (Int × Int)} (h:Z1K w0 w sb rb ps s tid n k 0 true ids D) (hn:H.length=n) (hk:k < n) (hk2:n <= 256) (hid:U64 tid) (hH:s.hs tid=some H) (hT:H[k]?=some T) (hnum:Z2k H) (hh:Z1u s hz) (hL:s.L.length < 1000000000) (hN:∀ x y,s.sn x=some y->x <= N) (hN2:N <= 2000000) (hlen:(Zk (k:Int) T T.length).length <= 1000) (hD:D.length <= 1000000) :
  Calls Tryz.prog 45 #[ptrV rb] w (fun e w'=>Z1B 1 e/\Z1K w0 w' sb rb ps s tid n (k+1) 0 true ids (D ++ (Zk (k:Int) T T.length).filter (ZN s.L H hz))):=by
 obtain ⟨jr,jb,cj,vi,vd,h⟩:=h
 obtain ⟨fl,hfl⟩:∃ fl,(Zk (k:Int) T T.length).filter (ZN s.L H hz)=fl:=⟨_,rfl⟩
 have hfl2:fl.length <= 1000:=by rw [<- hfl];exact Nat.le_trans (List.length_filter_le _ _) hlen
 obtain ⟨Z8,Z6⟩:∃ Z8:Ending->World->Prop,(fun e w'=>Z1B 1 e/\Z1K w0 w' sb rb ps s tid n (k+1) 0 true ids (D ++ (Zk (k:Int) T T.length).filter (ZN s.L H hz)))=Z8:=⟨_,rfl⟩
 rw [Z6]
 rw [hfl] at Z6
 have Ze:=zh Z6
 have HLW:Hid (∀ W,Z0 (fun x=>x=jb) w W->ZF w0 W sb (BrK rb jr jb vi vd) s):=fun W ho=>h.law.turnTo (ho.mono (fun x _ e=>Or.inr (Or.inr (Or.inl e)))) h.new (fun x e=>Or.inl e)
 have HGA:Hid (∀ W,Z0 (fun x=>x=jb) w W->Calls Tryz.prog 91 #[ptrV sb,.int .u64 (tid:Int),.int .i64 (k:Int)] W (Z1h W fl)):=fun W ho=>by
  rw [<- hfl]
  exact Z9G (HLW.out W ho) hid hH hT hnum hh hL hN hN2 (by omega)
 have hq:Quiet w (w.alloc (.cells #[.int .i64 0,.int .u64 0,.int .u64 0,.int .i64 0] 118)):=(Z0.refl _ _).alloc _
 have h2:=Z4 w (.cells #[.int .i64 0,.int .u64 0,.int .u64 0,.int .i64 0] 118)
 obtain ⟨r2,hr2⟩:∃ r2,w.heap.size=r2:=⟨_,rfl⟩
 rw [hr2] at h2
 have HR2:=zh hr2
 have HJ:=zh h
 have hcj:=h.cap
 unfold maxLen at hcj
 clear h Z6 hfl hlen hH hT hnum hh hL hN hN2 hid
 go_enter Tryz.func45,Tryz.ntmps45
 go_upto_block 0 with (fail)
 (try rw [hr2])
 generalize w.alloc (.cells #[.int .i64 0,.int .u64 0,.int .u64 0,.int .i64 0] 118)=w1 at *
 have HQ1:=zh hq
 have H21:=zh h2
 have h1:=HJ.out.quietly hq
 obtain ⟨b0,b1,b2⟩:=zC3 h1.br.box
 obtain ⟨cs,hrow⟩:=h1.row
 have j0:w1.cell? ⟨jr,0,none⟩=some (ptrV jb):=by rw [Z1 hrow];rfl
 have k0:=Z1 h1.job.box 0
 have k3:=Z1 h1.job.box 3
 simp only [zGA,zGS,zGZ] at k0 k3
 have lb:=Z2 h1.br.box
 have lr:=Z2 hrow
 have ljb:=Z2 h1.job.box
 clear hq h2 hr2 hrow
 have HO1:Hid (Z0 (fun x=>x=jb) w w1):=HQ1.out.mono (fun _ _ x=>x.elim)
 have HJ1:=zh h1
 clear h1
 go_upto_region 12 with fail
 have HS12:Hid (∀ W,Quiet w1 W->(fun w'=>w'.cell? ⟨jb,4,none⟩=some (.int .i64 (k:Int))/\w'.cell? ⟨jb,1,none⟩=some (.int .i64 (n:Int))) W):=fun W hq=>by
  have b:=(HJ1.out.quietly hq).job.box
  exact ⟨by rw [Z1 b];rfl,by rw [Z1 b];rfl⟩
 refine zH HS12 ((Z0.refl _ _).drew) (fun Z3=>?_)
 have q0:Quiet w1 w1.drew:=(Z0.refl _ _).drew
 generalize w1.drew=d0 at q0 Z3 ⊢
 refine zT 0 ?_
 refine zT 1 ?_
 refine zT 2 ?_
 refine zT 3 ?_
 refine zT 4 ?_
 refine zT 5 ?_
 refine zT 6 ?_
 refine zT 7 ?_
 refine zT 8 ?_
 refine zD ?_
 clear Z3
 have HQ12:Hid (Quiet w1 d0):=q0
 have HS13:Hid (∀ W,Quiet d0 W->(fun w'=>w'.cell? ⟨rb,0,none⟩=some (ptrV sb)/\w'.cell? ⟨jb,0,none⟩=some (.int .u64 (tid:Int))/\w'.cell? ⟨jb,4,none⟩=some (.int .i64 (k:Int))) W):=fun W hq=>by
  have hj:=HJ1.out.quietly (HQ12.out.trans hq)
  have b:=hj.job.box
  exact ⟨by rw [Z1 hj.br.box];rfl,by rw [Z1 b];rfl,by rw [Z1 b];rfl⟩
 clear j0 lb lr ljb HS12
 go_wp2_with fail
 refine zH HS13 ((Z0.refl _ _).drew) (fun Z3=>?_)
 have q1:Quiet d0 d0.drew:=(Z0.refl _ _).drew
 generalize d0.drew=d1 at q1 Z3 ⊢
 refine zT 0 ?_
 refine zT 1 ?_
 refine zT 2 ?_
 refine zT 3 ?_
 refine zT 4 ?_
 refine zT 5 ?_
 refine zT 6 ?_
 refine zT 7 ?_
 refine zT 8 ?_
 refine zT 9 ?_
 refine zT 10 ?_
 refine zT 11 ?_
 refine zR 12 ?_
 intro K hK
 go_simp
 go_at_call 91
 refine (HGA.out _ (HO1.out.trans' (HQ12.out.trans q1) (fun _ _ x=>x.elim))).mono ?_
 rintro e d2 ⟨v2,rfl,hq2,hn2,ht2⟩
 obtain ⟨A2,c2,rfl,_,_,_⟩:=Za ht2
 have q2:=q1.trans hq2
 dsimp only
 refine hK.out _ _ ?_ (fun Z3=>?_)
 ·exact HS13.out _ q2
 clear hK K
 (try simp only [Act.put,zPA,zPZ,zPS])
 refine zT 13 ?_
 refine zD ?_
 clear Z3
 have HQ3:Hid (Quiet w1 d2):=HQ12.out.trans q2
 have HTD:=zh ht2
 have HNN:Hid (∀ k,(Value.slice A2 fl.length c2).ownBlock=some k->w1.heap.size <= k):=fun k e=>Nat.le_trans (HQ12.out.trans q1).size (hn2 k e)
 have hj:=HJ1.out.quietly HQ3.out
 have HJ3:=zh hj
 have c0:=Z1 hj.job.box 0
 have c4:=Z1 hj.job.box 4
 have c6:=Z1 hj.job.box 6
 have cf:=fun o=>Z7 hj.job.box o
 simp only [zGA,zGS,zGZ] at c0 c4 c6
 have lj:=Z2 hj.job.box
 have hw1:IntKind.i64.wrap ((k:Int)+1)=(k:Int)+1:=Zp _ (by omega) (by omega)
 have ho4:Z0 (fun x=>x=jb) d2 (d2.setCell ⟨jb,4,none⟩ (.int .i64 ((k:Int)+1))):=(Z0.refl (fun x=>x=jb) d2).setCell (p:=⟨jb,4,none⟩) (fun _=>rfl) _
 have HB4:=zh (Z1Q hj.job.box (.int .i64 ((k:Int)+1))).1
 have HO4:=zh ho4
 clear q0 q1 q2 hq2 hn2 ht2 HS13 HGA ho4 hj
 go_upto_region 15 with fail
 generalize d2.setCell ⟨jb,4,none⟩ (.int .i64 ((k:Int)+1))=w4 at *
 clear c0 c4 c6 cf lj
 have ap:=HJ3.out.apart
 have hd4:w4.ownsRow 0 48 2 vd D.length (ZU D):=Z5 HJ3.out.dead HO4.out (fun k e x=>(ap.2.2.2.1 k e).2.2.1 x)
 have hfl4:Rd w4 (fun _=>True) 2 A2 fl.length (ZU fl):=by
  obtain ⟨A',c',e',_,_,hr⟩:=Za HTD.out
  injection e' with e1 _ e2
  subst e1 e2
  exact (hr.kept HO4.out (fun k e x=>by have:=HNN.out k e;have:=Z2 HJ1.out.job.box;omega)).mono (fun _ _=>trivial)
 have c0:=Z1 HB4.out 0
 have c6:=Z1 HB4.out 6
 simp only [zGA,zGS,zGZ] at c0 c6
 have lj:=Z2 HB4.out
 have HAP:=zh ap
 clear ap
 go_wp2_with (at_builtin;refine app Z56 rfl (.tmp 104) (.tmp 105) rfl rfl hd4 rfl hfl4 (Z55 fl) (by unfold maxLen;omega) (by omega) ?_)
 intro v5 w5 hg5
 obtain ⟨A5,c5,rfl,_,_,_⟩:=Za hg5.own
 have HG5:=zh hg5
 have hb5:=hg5.only.get HB4.out (fun e=>(HAP.out.2.2.2.1 _ e).2.2.1 rfl)
 have cf:=fun o=>Z7 hb5 o
 have c6:=Z1 hb5 6
 simp only [zGA,zGS,zGZ] at c6
 have lj:=Z2 hb5
 have HB6:=zh (Z1Q hb5 (.slice A5 (D.length+fl.length) c5)).2.1
 have HO6:Hid (Z0 (fun x=>x=jb) w5 (w5.setCell ⟨jb,6,none⟩ (.slice A5 (D.length+fl.length) c5))):=(Z0.refl (fun x=>x=jb) w5).setCell (p:=⟨jb,6,none⟩) (fun _=>rfl) _
 clear hd4 hfl4 hg5 hb5
 go_upto_region 16 with fail
 generalize w5.setCell ⟨jb,6,none⟩ (.slice A5 (D.length+fl.length) c5)=w6 at *
 clear c0 c6 cf lj
 have hr2':=HR2.out
 have hjl:=Z2 HJ.out.job.box
 have hn2:¬ r2=jb:=by omega
 have h26:=HO6.out.get (HG5.out.only.get (HO4.out.get (HQ3.out.get H21.out (fun x=>x)) hn2) (fun e=>by obtain ⟨c,hh⟩:=Zh HJ.out.dead e;have:=Z2 hh;omega)) hn2
 obtain ⟨e0,e1,e2,e3⟩:=zC4 h26
 have ef:=fun o=>Z7 h26 o
 have c0:=Z1 HB6.out 0
 simp only [zGA,zGS,zGZ] at c0
 have l2:=Z2 h26
 have lj:=Z2 HB6.out
 have HX:=zh (Z00 h26 (.int .i64 1) (.int .u64 (tid:Int)) (.int .u64 0) (.int .i64 (fl.length:Int)))
 have ho9:=Zy w6 r2 (.int .i64 1) (.int .u64 (tid:Int)) (.int .u64 0) (.int .i64 (fl.length:Int))
 have Zc:Hid (Z8 (.returned (.agg #[.int .i64 1,.int .u64 (tid:Int),.int .u64 0,.int .i64 (fl.length:Int)])) (fourSet w6 r2 (.int .i64 1) (.int .u64 (tid:Int)) (.int .u64 0) (.int .i64 (fl.length:Int)))):=by
  rw [<- Ze.out]
  exact ⟨⟨_,_,_,rfl⟩,Z62 HJ.out (Nat.le_of_eq hr2') HO1.out HQ3.out (Nat.lt_of_lt_of_le (Z2 H21.out) HQ3.out.size) HO4.out HG5.out HO6.out ho9 HB6.out⟩
 unfold fourSet at HX Zc
 clear ho9 h26 hr2' hjl
 go_wp2
 exact bodyPost_ret (Z0j Tryz.results45 _ _ r2 _ _ (0,0) _ (by rfl) HX.out Tryz.underlying118 rfl Z26) (by rfl) Zc.out
theorem Zd0 {w0:Z0b} {w:World} {sb rb ps tid n k hz N:Nat} {s:St} {H:List (List (Option Tup))} {T:List (Option Tup)} {ids:List Nat} {D:List (Int × Int)} (h:Z1K w0 w sb rb ps s tid 0 k 0 false ids D) (hn:H.length=n) (hk:k < n) (hk2:n <= 256) (hid:U64 tid) (hH:s.hs tid=some H) (hT:H[k]?=some T) (hnum:Z2k H) (hh:Z1u s hz) (hL:s.L.length < 1000000000) (hN:∀ x y,s.sn x=some y->x <= N) (hN2:N <= 2000000) (hlen:(Zk (k:Int) T T.length).length <= 1000) (hD:D.length <= 1000000) :
  Calls Tryz.prog 45 #[ptrV rb] w (fun e w'=>Z1B 1 e/\Z1K w0 w' sb rb ps s tid n (k+1) 0 true ids (D ++ (Zk (k:Int) T T.length).filter (ZN s.L H hz))):=by
 obtain ⟨jr,jb,cj,vi,vd,h⟩:=h
 obtain ⟨fl,hfl⟩:∃ fl,(Zk (k:Int) T T.length).filter (ZN s.L H hz)=fl:=⟨_,rfl⟩
 have hfl2:fl.length <= 1000:=by rw [<- hfl];exact Nat.le_trans (List.length_filter_le _ _) hlen
 obtain ⟨Z8,Z6⟩:∃ Z8:Ending->World->Prop,(fun e w'=>Z1B 1 e/\Z1K w0 w' sb rb ps s tid n (k+1) 0 true ids (D ++ (Zk (k:Int) T T.length).filter (ZN s.L H hz)))=Z8:=⟨_,rfl⟩
 rw [Z6]
 rw [hfl] at Z6
 have Ze:=zh Z6
 have HLW:Hid (∀ W,Z0 (fun x=>x=jb) w W->ZF w0 W sb (BrK rb jr jb vi vd) s):=fun W ho=>h.law.turnTo (ho.mono (fun x _ e=>Or.inr (Or.inr (Or.inl e)))) h.new (fun x e=>Or.inl e)
 have HGA:Hid (∀ W,Z0 (fun x=>x=jb) w W->Calls Tryz.prog 91 #[ptrV sb,.int .u64 (tid:Int),.int .i64 (k:Int)] W (Z1h W fl)):=fun W ho=>by
  rw [<- hfl]
  exact Z9G (HLW.out W ho) hid hH hT hnum hh hL hN hN2 (by omega)
 have hq:Quiet w (w.alloc (.cells #[.int .i64 0,.int .u64 0,.int .u64 0,.int .i64 0] 118)):=(Z0.refl _ _).alloc _
 have h2:=Z4 w (.cells #[.int .i64 0,.int .u64 0,.int .u64 0,.int .i64 0] 118)
 obtain ⟨r2,hr2⟩:∃ r2,w.heap.size=r2:=⟨_,rfl⟩
 rw [hr2] at h2
 have HR2:=zh hr2
 have HJ:=zh h
 have hcj:=h.cap
 unfold maxLen at hcj
 have HPG:Hid (∀ W,Quiet w W->Calls Tryz.prog 90 #[ptrV sb,.int .u64 (tid:Int)] W (fun e w'=>e=.returned (.int .i64 (n:Int))/\Quiet W w')):=fun W ho=>by
  rw [<- hn]
  exact ZhH (h.law.same ho) hid hH
 clear h Z6 hfl hlen hH hT hnum hh hL hN hN2 hid
 go_enter Tryz.func45,Tryz.ntmps45
 go_upto_block 0 with (fail)
 (try rw [hr2])
 generalize w.alloc (.cells #[.int .i64 0,.int .u64 0,.int .u64 0,.int .i64 0] 118)=w1 at *
 have HQ1:=zh hq
 have H21:=zh h2
 have h1:=HJ.out.quietly hq
 obtain ⟨b0,b1,b2⟩:=zC3 h1.br.box
 obtain ⟨cs,hrow⟩:=h1.row
 have j0:w1.cell? ⟨jr,0,none⟩=some (ptrV jb):=by rw [Z1 hrow];rfl
 have k0:=Z1 h1.job.box 0
 have k3:=Z1 h1.job.box 3
 simp only [zGA,zGS,zGZ] at k0 k3
 have lb:=Z2 h1.br.box
 have lr:=Z2 hrow
 have ljb:=Z2 h1.job.box
 clear hq h2 hr2 hrow
 go_upto_region 11 with fail
 have HS11:Hid (∀ W,Quiet w1 W->(fun w'=>w'.cell? ⟨rb,0,none⟩=some (ptrV sb)/\w'.cell? ⟨jb,0,none⟩=some (.int .u64 (tid:Int))) W):=fun W hq=>by
  have hj:=HJ.out.quietly (HQ1.out.trans hq)
  exact ⟨by rw [Z1 hj.br.box];rfl,by rw [Z1 hj.job.box];rfl⟩
 clear b1 b2
 refine zH HS11 ((Z0.refl _ _).drew) (fun Z3=>?_)
 have q0:Quiet w1 w1.drew:=(Z0.refl _ _).drew
 generalize w1.drew=d0 at q0 Z3 ⊢
 refine zT 0 ?_
 refine zT 1 ?_
 refine zT 2 ?_
 refine zT 3 ?_
 refine zT 4 ?_
 refine zT 5 ?_
 refine zT 6 ?_
 refine zT 7 ?_
 refine zT 8 ?_
 refine zT 9 ?_
 refine zR 10 ?_
 intro K hK
 go_simp
 go_at_call 90
 refine (HPG.out _ (HQ1.out.trans q0)).mono ?_
 rintro e d2 ⟨rfl,hq2⟩
 have q2:=q0.trans hq2
 dsimp only
 refine hK.out _ _ ?_ (fun Z3=>?_)
 ·exact HS11.out _ q2
 clear hK K
 (try simp only [Act.put,zPA,zPZ,zPS])
 refine zT 11 ?_
 refine zT 12 ?_
 refine zR 13 ?_
 intro K hK
 have hj2:=HJ.out.quietly (HQ1.out.trans q2)
 have HJ2:=zh hj2
 have k3:=Z1 hj2.job.box 3
 have kf:=fun o=>Z7 hj2.job.box o
 have lj2:=Z2 hj2.job.box
 have hb3:=(Z1Q hj2.job.box (.bool true)).2.2.1
 have ho3:Z0 (fun x=>x=jb) d2 (d2.setCell ⟨jb,3,none⟩ (.bool true)):=(Z0.refl (fun x=>x=jb) d2).setCell (p:=⟨jb,3,none⟩) (fun _=>rfl) _
 clear hj2
 simp only [zGA,zGS,zGZ] at k3
 go_simp
 refine hK.out _ _ ?_ (fun Z3=>?_)
 ·exact ⟨by rw [Z1 (ho3.get HJ2.out.br.box HJ2.out.apart.2.1)];rfl,by rw [Z1 hb3];rfl⟩
 clear hK K
 (try simp only [Act.put,zPA,zPZ,zPS])
 clear k3 kf lj2
 generalize (d2.setCell ⟨jb,3,none⟩ (.bool true))=d3 at *
 refine zT 14 ?_
 refine zT 15 ?_
 refine zR 16 ?_
 intro K hK
 have k1:=Z1 hb3 1
 have kf:=fun o=>Z7 hb3 o
 have lj3:=Z2 hb3
 have hbr3:=ho3.get HJ2.out.br.box HJ2.out.apart.2.1
 simp only [zGA,zGS,zGZ] at k1
 go_simp
 refine hK.out _ _ ?_ (fun Z3=>?_)
 ·exact ⟨by rw [Z1 (((Z0.refl (fun x=>x=jb) d3).setCell (p:=⟨jb,1,none⟩) (fun _=>rfl) (.int .i64 (n:Int))).get hbr3 HJ2.out.apart.2.1)];rfl,by rw [Z1 (Z1Q hb3 (.int .i64 (n:Int))).2.2.2.1];rfl⟩
 clear hK K
 (try simp only [Act.put,zPA,zPZ,zPS])
 clear k1 kf lj3 hbr3
 refine zD ?_
 have HO1:Hid (Z0 (fun x=>x=jb) w (d3.setCell ⟨jb,1,none⟩ (.int .i64 (n:Int)))):=((((HQ1.out.trans q2).mono (fun _ _ x=>x.elim)).trans ho3).setCell (p:=⟨jb,1,none⟩) (fun _=>rfl) _)
 have hb4:=(Z1Q hb3 (.int .i64 (n:Int))).2.2.2.1
 have HJ1:Hid (Z0l w0 (d3.setCell ⟨jb,1,none⟩ (.int .i64 (n:Int))) sb rb ps s tid n k 0 true ids D jr jb cj vi vd):=HJ.out.turned (HO1.out.mono (fun _ _ e=>Or.inl e)) ⟨hb4⟩ (Z5 HJ.out.dead HO1.out (fun k e x=>(HJ.out.apart.2.2.2.1 k e).2.2.1 x)) (fun k e=>Or.inl e)
 have hrj:¬ r2=jb:=by have:=HR2.out;have:=Z2 HJ.out.job.box;omega
 have H22:=zh (((ho3.trans ((Z0.refl (fun x=>x=jb) d3).setCell (p:=⟨jb,1,none⟩) (fun _=>rfl) (.int .i64 (n:Int)))).get (q2.get H21.out (fun x=>x)) hrj))
 have q12:jb < w.heap.size:=Z2 HJ.out.job.box
 clear Z3 q0 hq2 q2 ho3 hb3 hb4 HJ2 HS11 b0 k0 k3 H21 HPG
 generalize d3.setCell ⟨jb,1,none⟩ (.int .i64 (n:Int))=w2 at *
 have h1:=HJ1.out
 obtain ⟨cs,hrow⟩:=h1.row
 have b0:=Z1 h1.br.box 0
 have j0:w2.cell? ⟨jr,0,none⟩=some (ptrV jb):=by rw [Z1 hrow];rfl
 have lb:=Z2 h1.br.box
 have lr:=Z2 hrow
 have ljb:=Z2 h1.job.box
 clear h1
 go_upto_region 12 with fail
 have HS12:Hid (∀ W,Quiet w2 W->(fun w'=>w'.cell? ⟨jb,4,none⟩=some (.int .i64 (k:Int))/\w'.cell? ⟨jb,1,none⟩=some (.int .i64 (n:Int))) W):=fun W hq=>by
  have b:=(HJ1.out.quietly hq).job.box
  exact ⟨by rw [Z1 b];rfl,by rw [Z1 b];rfl⟩
 refine zH HS12 ((Z0.refl _ _).drew) (fun Z3=>?_)
 have q0:Quiet w2 w2.drew:=(Z0.refl _ _).drew
 generalize w2.drew=d0 at q0 Z3 ⊢
 refine zT 0 ?_
 refine zT 1 ?_
 refine zT 2 ?_
 refine zT 3 ?_
 refine zT 4 ?_
 refine zT 5 ?_
 refine zT 6 ?_
 refine zT 7 ?_
 refine zT 8 ?_
 refine zD ?_
 clear Z3
 have HQ12:Hid (Quiet w2 d0):=q0
 have HS13:Hid (∀ W,Quiet d0 W->(fun w'=>w'.cell? ⟨rb,0,none⟩=some (ptrV sb)/\w'.cell? ⟨jb,0,none⟩=some (.int .u64 (tid:Int))/\w'.cell? ⟨jb,4,none⟩=some (.int .i64 (k:Int))) W):=fun W hq=>by
  have hj:=HJ1.out.quietly (HQ12.out.trans hq)
  have b:=hj.job.box
  exact ⟨by rw [Z1 hj.br.box];rfl,by rw [Z1 b];rfl,by rw [Z1 b];rfl⟩
 clear j0 lb lr ljb HS12
 go_wp2_with fail
 refine zH HS13 ((Z0.refl _ _).drew) (fun Z3=>?_)
 have q1:Quiet d0 d0.drew:=(Z0.refl _ _).drew
 generalize d0.drew=d1 at q1 Z3 ⊢
 refine zT 0 ?_
 refine zT 1 ?_
 refine zT 2 ?_
 refine zT 3 ?_
 refine zT 4 ?_
 refine zT 5 ?_
 refine zT 6 ?_
 refine zT 7 ?_
 refine zT 8 ?_
 refine zT 9 ?_
 refine zT 10 ?_
 refine zT 11 ?_
 refine zR 12 ?_
 intro K hK
 go_simp
 go_at_call 91
 refine (HGA.out _ (HO1.out.trans' (HQ12.out.trans q1) (fun _ _ x=>x.elim))).mono ?_
 rintro e d2 ⟨v2,rfl,hq2,hn2,ht2⟩
 obtain ⟨A2,c2,rfl,_,_,_⟩:=Za ht2
 have q2:=q1.trans hq2
 dsimp only
 refine hK.out _ _ ?_ (fun Z3=>?_)
 ·exact HS13.out _ q2
 clear hK K
 (try simp only [Act.put,zPA,zPZ,zPS])
 refine zT 13 ?_
 refine zD ?_
 clear Z3
 have HQ3:Hid (Quiet w2 d2):=HQ12.out.trans q2
 have HTD:=zh ht2
 have HNN:Hid (∀ k,(Value.slice A2 fl.length c2).ownBlock=some k->w2.heap.size <= k):=fun k e=>Nat.le_trans (HQ12.out.trans q1).size (hn2 k e)
 have hj:=HJ1.out.quietly HQ3.out
 have HJ3:=zh hj
 have c0:=Z1 hj.job.box 0
 have c4:=Z1 hj.job.box 4
 have c6:=Z1 hj.job.box 6
 have cf:=fun o=>Z7 hj.job.box o
 simp only [zGA,zGS,zGZ] at c0 c4 c6
 have lj:=Z2 hj.job.box
 have hw1:IntKind.i64.wrap ((k:Int)+1)=(k:Int)+1:=Zp _ (by omega) (by omega)
 have ho4:Z0 (fun x=>x=jb) d2 (d2.setCell ⟨jb,4,none⟩ (.int .i64 ((k:Int)+1))):=(Z0.refl (fun x=>x=jb) d2).setCell (p:=⟨jb,4,none⟩) (fun _=>rfl) _
 have HB4:=zh (Z1Q hj.job.box (.int .i64 ((k:Int)+1))).1
 have HO4:=zh ho4
 clear q0 q1 q2 hq2 hn2 ht2 HS13 HGA ho4 hj
 go_upto_region 15 with fail
 generalize d2.setCell ⟨jb,4,none⟩ (.int .i64 ((k:Int)+1))=w4 at *
 clear c0 c4 c6 cf lj
 have ap:=HJ3.out.apart
 have hd4:w4.ownsRow 0 48 2 vd D.length (ZU D):=Z5 HJ3.out.dead HO4.out (fun k e x=>(ap.2.2.2.1 k e).2.2.1 x)
 have hfl4:Rd w4 (fun _=>True) 2 A2 fl.length (ZU fl):=by
  obtain ⟨A',c',e',_,_,hr⟩:=Za HTD.out
  injection e' with e1 _ e2
  subst e1 e2
  exact (hr.kept HO4.out (fun k e x=>by have:=HNN.out k e;have:=Z2 HJ1.out.job.box;omega)).mono (fun _ _=>trivial)
 have c0:=Z1 HB4.out 0
 have c6:=Z1 HB4.out 6
 simp only [zGA,zGS,zGZ] at c0 c6
 have lj:=Z2 HB4.out
 have HAP:=zh ap
 clear ap
 go_wp2_with (at_builtin;refine app Z56 rfl (.tmp 104) (.tmp 105) rfl rfl hd4 rfl hfl4 (Z55 fl) (by unfold maxLen;omega) (by omega) ?_)
 intro v5 w5 hg5
 obtain ⟨A5,c5,rfl,_,_,_⟩:=Za hg5.own
 have HG5:=zh hg5
 have hb5:=hg5.only.get HB4.out (fun e=>(HAP.out.2.2.2.1 _ e).2.2.1 rfl)
 have cf:=fun o=>Z7 hb5 o
 have c6:=Z1 hb5 6
 simp only [zGA,zGS,zGZ] at c6
 have lj:=Z2 hb5
 have HB6:=zh (Z1Q hb5 (.slice A5 (D.length+fl.length) c5)).2.1
 have HO6:Hid (Z0 (fun x=>x=jb) w5 (w5.setCell ⟨jb,6,none⟩ (.slice A5 (D.length+fl.length) c5))):=(Z0.refl (fun x=>x=jb) w5).setCell (p:=⟨jb,6,none⟩) (fun _=>rfl) _
 clear hd4 hfl4 hg5 hb5
 go_upto_region 16 with fail
 generalize w5.setCell ⟨jb,6,none⟩ (.slice A5 (D.length+fl.length) c5)=w6 at *
 clear c0 c6 cf lj
 have hr2':=HR2.out
 have hjl:=Z2 HJ.out.job.box
 have hn2:¬ r2=jb:=by omega
 have h26:=HO6.out.get (HG5.out.only.get (HO4.out.get (HQ3.out.get H22.out (fun x=>x)) hn2) (fun e=>by obtain ⟨c,hh⟩:=Zh HJ.out.dead e;have:=Z2 hh;omega)) hn2
 obtain ⟨e0,e1,e2,e3⟩:=zC4 h26
 have ef:=fun o=>Z7 h26 o
 have c0:=Z1 HB6.out 0
 simp only [zGA,zGS,zGZ] at c0
 have l2:=Z2 h26
 have lj:=Z2 HB6.out
 have HX:=zh (Z00 h26 (.int .i64 1) (.int .u64 (tid:Int)) (.int .u64 0) (.int .i64 (fl.length:Int)))
 have ho9:=Zy w6 r2 (.int .i64 1) (.int .u64 (tid:Int)) (.int .u64 0) (.int .i64 (fl.length:Int))
 have Zc:Hid (Z8 (.returned (.agg #[.int .i64 1,.int .u64 (tid:Int),.int .u64 0,.int .i64 (fl.length:Int)])) (fourSet w6 r2 (.int .i64 1) (.int .u64 (tid:Int)) (.int .u64 0) (.int .i64 (fl.length:Int)))):=by
  rw [<- Ze.out]
  exact ⟨⟨_,_,_,rfl⟩,Z62 HJ.out (Nat.le_of_eq hr2') HO1.out HQ3.out (Nat.lt_of_lt_of_le (Z2 H22.out) HQ3.out.size) HO4.out HG5.out HO6.out ho9 HB6.out⟩
 unfold fourSet at HX Zc
 clear ho9 h26 hr2' hjl
 go_wp2
 exact bodyPost_ret (Z0j Tryz.results45 _ _ r2 _ _ (0,0) _ (by rfl) HX.out Tryz.underlying118 rfl Z26) (by rfl) Zc.out
theorem Z0l.other {w0:Z0b} {w w':World} {sb rb ps tid n k i q:Nat} {s:St} {known:Bool} {ids:List Nat} {D:List (Int × Int)} {jr jb cj:Nat} {vi vd v0 v1 v2 v3:Value} (h:Z0l w0 w sb rb ps s tid n k i known ids D jr jb cj vi vd) (hl:ZF w0 w sb (fun k=>BrK rb jr jb vi vd k ∨ k=q) s) (hq:w.heap[q]?=some (.cells #[v0,v1,v2,v3] 118 (0,0))) (ho:Z0 (·=q) w w') (hn:w0.w.heap.size <= q):Z0l w0 w' sb rb ps s tid n k i known ids D jr jb cj vi vd:=by
 obtain ⟨cs,hr⟩:=h.row
 refine ⟨hl.turnTo (ho.mono (fun _ _ e=>Or.inr e)) (fun k e=>?_) (fun k e=>Or.inl (Or.inl e)),⟨ho.get h.br.box (Zb h.br.box hq (by decide))⟩,⟨cs,ho.get hr (Zb hr hq (by decide))⟩,⟨ho.get h.job.box (Zb h.job.box hq (by decide))⟩,Z5 h.idx ho (fun k e x=>?_),Z5 h.dead ho (fun k e x=>?_),h.new,h.cap⟩
 ·rcases e with e | e
  ·exact h.new k e
  ·omega
 ·obtain ⟨c,hh⟩:=Zh h.idx e
  exact Zb hh hq (by decide) x
 ·obtain ⟨c,hh⟩:=Zh h.dead e
  exact Zb hh hq (by decide) x
def Z5g (w:World) (ids:List Nat) (e:Ending) (w':World):Prop:=∃ v,e=.returned v/\Quiet w w'/\(∀ k,v.ownBlock=some k->w.heap.size <= k)/\w'.ownsRow 0 34 1 v ids.length (ZE ids)
theorem ZkD {w:World} {id c:Nat} {A:Option Addr} :
  Calls Tryz.prog 92 #[.int .u64 (id:Int),.slice A 0 c] w (Z5g w []):=by
 have HX:Hid (Z5g w [] (.returned (.slice none 0 0)) w):=⟨_,rfl,Z0.refl _ _,(fun k e=>by cases e),World.ownsRow_nil _ _ _ _⟩
 obtain ⟨Z8,Z6⟩:∃ Z8,Z5g w []=Z8:=⟨_,rfl⟩
 rw [Z6] at HX ⊢
 clear Z6
 go_enter Tryz.func92,Tryz.ntmps92
 go_wp2
 refine wp_loop_rounds 1 ?_
 rw [rounds_succ]
 go_wp2
 exact HX.out
theorem ZkE {w wv:World} {v:Value} {e:IE} (h:Z1Z wv w v [e]) :
  Calls Tryz.prog 92 #[.int .u64 (e.table:Int),v] w (Z5g w [e.id]):=by
 obtain ⟨A,c,rfl,hc,hm,hrd⟩:=Za h.own
 obtain ⟨b,o,rfl,hs,hcl⟩:=hrd.cells (by show 0 < (Z5d e).length;exact (by decide:0 < 6))
 have c0:=hcl 0 (.int .u64 (e.id:Int)) rfl
 have c1:=hcl 1 (.string e.name) rfl
 have c2:=hcl 2 (.int .u64 (e.table:Int)) rfl
 have c3:=hcl 3 (.int .i64 (e.column:Int)) rfl
 have c4:=hcl 4 (.int .u64 (e.xmin:Int)) rfl
 have c5:=hcl 5 (.int .u64 (e.xmax:Int)) rfl
 simp only [Nat.add_zero] at c0
 have lb:=Zf c0
 dsimp only at lb
 have hq:Quiet w (w.alloc (.cells #[.int .u64 (e.id:Int),.string e.name,.int .u64 (e.table:Int),.int .i64 (e.column:Int),.int .u64 (e.xmin:Int),.int .u64 (e.xmax:Int)] 84)):=(Z0.refl _ _).alloc _
 have h2:=Z4 w (.cells #[.int .u64 (e.id:Int),.string e.name,.int .u64 (e.table:Int),.int .i64 (e.column:Int),.int .u64 (e.xmin:Int),.int .u64 (e.xmax:Int)] 84)
 obtain ⟨Z8,Z6⟩:∃ Z8,Z5g w [e.id]=Z8:=⟨_,rfl⟩
 rw [Z6]
 have Ze:=zh Z6
 obtain ⟨r2,hr2⟩:∃ r2,w.heap.size=r2:=⟨_,rfl⟩
 rw [hr2] at h2
 clear Z6 h hrd hcl hs
 go_enter Tryz.func92,Tryz.ntmps92
 go_wp2
 refine wp_loop_rounds 2 ?_
 rw [rounds_succ]
 go_upto_region 5 with fail
 (try rw [hr2])
 generalize w.alloc (.cells #[.int .u64 (e.id:Int),.string e.name,.int .u64 (e.table:Int),.int .i64 (e.column:Int),.int .u64 (e.xmin:Int),.int .u64 (e.xmax:Int)] 84)=w1 at *
 clear c0 c1 c2 c3 c4 c5 lb
 have i0:=Z1 h2 0
 have i2:=Z1 h2 2
 simp only [zGA,zGS,zGZ] at i0 i2
 have lb:=Z2 h2
 have hqn:Quiet w1 (w1.alloc (.cells (ZE [e.id]).toArray 34)):=(Z0.refl _ _).alloc _
 have HRD:=zh (Rd.new w1 1 1 (ZE [e.id]) 34 (fun _=>True) rfl trivial)
 have HQN:=zh (hq.trans hqn)
 clear hq h2 hqn
 go_wp2_with (at_builtin;refine app Z3S rfl (.tmp 18) (.tmp 21) rfl rfl (World.ownsRow_nil _ _ _ _) rfl HRD.out (Z4P [e.id]) (by unfold maxLen;omega) (by omega) ?_)
 intro v3 w3 hg
 have Zc:Hid (Z8 (.returned v3) w3):=by
  rw [<- Ze.out]
  refine ⟨v3,rfl,HQN.out.trans (hg.only.mono (fun k _ e=>by cases e)),fun k e=>?_,hg.own⟩
  rcases hg.loc with y | y
  ·rw [y] at e;cases e
  ·rw [y] at e;have e2:=Option.some.inj e;have:=HQN.out.size;rw [<- e2];exact this
 clear hg HRD
 go_wp2
 rw [rounds_succ]
 go_wp2
 exact Zc.out
theorem ZfL {w0:Z0b} {w:World} {sb rb ps hz N:Nat} {s:St} {t:TE} (h:Z0o w0 w sb rb ps s) (hT:s.T=[t]) (hI:s.I.length <= 1000) (hh:Z1u s hz) (hlv:Z2U s hz) (hL:s.L.length < 1000000000) (hN:∀ x y,s.sn x=some y->x <= N) (hN2:N <= 2000000) :
  Calls Tryz.prog 45 #[ptrV rb] w (fun e w'=>Z1B 0 e/\Z1K w0 w' sb rb ps s t.id 0 0 0 false [] []):=by
 obtain ⟨vj,hl,hb,hr⟩:=h
 obtain ⟨Z8,Z6⟩:∃ Z8:Ending->World->Prop,(fun e w'=>Z1B 0 e/\Z1K w0 w' sb rb ps s t.id 0 0 0 false [] [])=Z8:=⟨_,rfl⟩
 rw [Z6]
 have Ze:=zh Z6
 have hq:Quiet w (w.alloc (.cells #[.int .i64 0,.int .u64 0,.int .u64 0,.int .i64 0] 118)):=(Z0.refl _ _).alloc _
 have h2:=Z4 w (.cells #[.int .i64 0,.int .u64 0,.int .u64 0,.int .i64 0] 118)
 have hbl:=Z2 hb.box
 obtain ⟨r2,hr2⟩:∃ r2,w.heap.size=r2:=⟨_,rfl⟩
 rw [hr2] at h2 hbl
 have hrn:w0.w.heap.size <= r2:=by have:=hl.quiet.size;omega
 have hl1:ZF w0 (w.alloc (.cells #[.int .i64 0,.int .u64 0,.int .u64 0,.int .i64 0] 118)) sb (fun k=>k=rb ∨ k=r2) s:=(hl.quietly hq).mono (fun k e=>by
   rcases e with e | e
   · exact Or.inl e
   · exact Or.inr ⟨by omega,by have:=Z2 h2;omega⟩)
 have hb1:Z7u (w.alloc (.cells #[.int .i64 0,.int .u64 0,.int .u64 0,.int .i64 0] 118)) rb sb false vj ps:=⟨hq.get hb.box (fun x=>x)⟩
 have HBE:=zh (ZdU hl1 hb1 ⟨hr,hrn,by omega⟩ h2 hT hI hh hlv hL hN hN2)
 have HRN:=zh hrn
 obtain ⟨b0,b1⟩:=zC2 hb1.box
 have lb:=Z2 hb1.box
 clear Z6 hl hb hr hT hI hh hlv hL hN hN2 hq h2 hl1 hb1 hrn
 go_enter Tryz.func45,Tryz.ntmps45
 go_wp2_with fail
 (try rw [hr2])
 refine HBE.out.mono ?_
 rintro e w2 ⟨rfl,⟨jr,jb,cj,vi,vd,hj,hq⟩,h2⟩
 obtain ⟨e0,e1,e2,e3⟩:=zC4 h2
 have ef:=fun o=>Z7 h2 o
 have l2:=Z2 h2
 have HX:=zh (Z00 h2 (.int .i64 0) (.int .u64 0) (.int .u64 0) (.int .i64 0))
 have Zc:Hid (Z8 (.returned (.agg #[.int .i64 0,.int .u64 0,.int .u64 0,.int .i64 0])) (fourSet w2 r2 (.int .i64 0) (.int .u64 0) (.int .u64 0) (.int .i64 0))):=by
  rw [<- Ze.out]
  exact ⟨⟨_,_,_,rfl⟩,jr,jb,cj,vi,vd,hj.other hq h2 (Zy _ _ _ _ _ _) HRN.out⟩
 unfold fourSet at HX Zc
 clear h2 hj hq HBE b0 b1 lb
 go_wp2
 exact bodyPost_ret (Z0j Tryz.results45 _ _ r2 _ _ (0,0) _ (by rfl) HX.out Tryz.underlying118 rfl Z26) (by rfl) Zc.out
section
variable {w0:Z0b} {w w':World} {sb rb ps tid n k i n' k' i' q:Nat} {s s':St} {known known':Bool} {ids ids':List Nat} {D:List (Int × Int)} {jr jb cj:Nat} {vi vi' vd:Value}
theorem Z0l.turnedI (h:Z0l w0 w sb rb ps s tid n k i known ids D jr jb cj vi vd) (hl:ZF w0 w sb (fun k=>BrK rb jr jb vi vd k ∨ k=q) s) (hq:w0.w.heap.size <= q) (ho:Z0 (fun k=>k=jb) w w') (hj:Zg3 w' jb tid n' k' i' known' vi' vd) (hi:w'.ownsRow 0 34 1 vi' ids'.length (ZE ids')) (hloc:∀ k,vi'.ownBlock=some k->vi.ownBlock=some k ∨ w.heap.size <= k) :
  Z0l w0 w' sb rb ps s tid n' k' i' known' ids' D jr jb cj vi' vd/\ZF w0 w' sb (fun k=>BrK rb jr jb vi' vd k ∨ k=q) s:=by
 obtain ⟨a1,a2,a3,a4,a5⟩:=h.apart
 obtain ⟨cs,hr⟩:=h.row
 have hz:=h.law.quiet.size
 have hQ:ZF w0 w' sb (fun k=>BrK rb jr jb vi' vd k ∨ k=q) s:=by
  refine hl.turnTo (ho.mono (fun k _ e=>Or.inl (Or.inr (Or.inr (Or.inl e))))) (fun k e=>?_) (fun k e=>?_)
  ·rcases e with e | e
   ·exact h.new k e
   ·omega
  ·rcases e with (e | e | e | e | e) | e
   ·exact Or.inl (Or.inl (Or.inl e))
   ·exact Or.inl (Or.inl (Or.inr (Or.inl e)))
   ·exact Or.inl (Or.inl (Or.inr (Or.inr (Or.inl e))))
   ·rcases hloc k e with x | x
    ·exact Or.inl (Or.inl (Or.inr (Or.inr (Or.inr (Or.inl x)))))
    ·obtain ⟨c,hh⟩:=Zh hi e
     exact Or.inr ⟨x,Z2 hh⟩
   ·exact Or.inl (Or.inl (Or.inr (Or.inr (Or.inr (Or.inr e)))))
   ·exact Or.inl (Or.inr e)
 refine ⟨⟨hQ.mono (fun k e=>Or.inl e),⟨ho.get h.br.box a2⟩,⟨cs,ho.get hr a3⟩,hj,hi,Z5 h.dead ho (fun k e x=>(a4 k e).2.2.1 x),fun k e=>?_,h.cap⟩,hQ⟩
 rcases e with e | e | e | e | e
 ·exact h.new k (Or.inl e)
 ·exact h.new k (Or.inr (Or.inl e))
 ·exact h.new k (Or.inr (Or.inr (Or.inl e)))
 ·rcases hloc k e with x | x
  ·exact h.new k (Or.inr (Or.inr (Or.inr (Or.inl x))))
  ·omega
 ·exact h.new k (Or.inr (Or.inr (Or.inr (Or.inr e))))
theorem Z0l.lawTo (h:Z0l w0 w sb rb ps s tid n k i known ids D jr jb cj vi vd) (ht:ToB w0 w sb (fun k=>BrK rb jr jb vi vd k ∨ k=q) s' w'):Z0l w0 w' sb rb ps s' tid n k i known ids D jr jb cj vi vd:=by
 obtain ⟨cs,hr⟩:=h.row
 exact ⟨ht.st.mono (fun _ e=>Or.inl e),⟨ht.2.get h.br.box (fun x=>x.2 (Or.inl (Or.inl rfl)))⟩,⟨cs,ht.2.get hr (fun x=>x.2 (Or.inl (Or.inr (Or.inl rfl))))⟩,⟨ht.2.get h.job.box (fun x=>x.2 (Or.inl (Or.inr (Or.inr (Or.inl rfl)))))⟩,Z5 h.idx ht.2 (fun k e x=>x.2 (Or.inl (Or.inr (Or.inr (Or.inr (Or.inl e)))))),Z5 h.dead ht.2 (fun k e x=>x.2 (Or.inl (Or.inr (Or.inr (Or.inr (Or.inr e)))))),h.new,h.cap⟩
end
theorem ZfM {w0:Z0b} {w:World} {sb id:Nat} {K:Nat->Prop} {s:St} {es:List Ent} {ps:List (Int × Int)} {v:Value} (h:ZF w0 w sb K s) (hid:U64 id) (hts:s.ts id=some es) (hr:w.ownsRow 0 48 2 v ps.length (ZU ps)) (hwp:∀ p ∈ ps,Wf p) (hwe:∀ e ∈ es,Wf (e.pg,e.sl)) (hm:ps.length <= 10000) (hn:es.length <= 10000) :
  Calls Tryz.prog 93 #[ptrV sb,.int .u64 (id:Int),v] w (fun e w'=>(∃ z:Int,e=.returned (.int .i64 z))/\ToB w0 w sb K { s with ts:=upd s.ts id (some (Z11 ps es)) } w'):=by
 obtain ⟨A,c,rfl,hc,hcm,hrd⟩:=Za hr
 have hB:=h
 obtain ⟨⟨o,h1,h2,h3,h4⟩,_⟩:=h
 refine (ZcP h1 hid hts hrd rfl hwp hwe hm hn).mono ?_
 rintro e w' ⟨rfl,hst⟩
 exact ⟨⟨_,rfl⟩,hB.call (Z2c h1 h2 h3 h4 hst)⟩
theorem Z84 {w0:Z0b} {w:World} {sb id hz N:Nat} {K:Nat->Prop} {s:St} {H:List (List (Option Tup))} {ps:List (Int × Int)} {v:Value} (h:ZF w0 w sb K s) (hid:U64 id) (hH:s.hs id=some H) (hfit:∀ T ∈ H,Fits T) (hnum:Z2k H) (hr:w.ownsRow 0 48 2 v ps.length (ZU ps)) (hv:∀ k,v.ownBlock=some k->K k) (hnd:ps.Nodup) (hg:∀ a ∈ ps,∃ v,ZM H a.1 a.2=some v)
  (hh:Z1u s hz) (hL:s.L.length < 1000000000) (hN:∀ x y,s.sn x=some y->x <= N) (hN2:N <= 2000000) :
  Calls Tryz.prog 94 #[ptrV sb,.int .u64 (id:Int),v] w (fun e w'=>(∃ z:Int,e=.returned (.int .i64 z))/\ToB w0 w sb K { s with hs:=upd s.hs id (some (Z0D s.L hz H ps)) } w'):=by
 obtain ⟨A,c,rfl,hc,hcm,hrd⟩:=Za hr
 have hB:=h
 obtain ⟨⟨o,h1,h2,h3,h4⟩,_⟩:=h
 refine (ZbC h1 hid hH hfit hnum hrd (fun k e=>(h4 k (Or.inl (hv k e))).1) rfl hc hcm hnd hg hh hL hN hN2).mono ?_
 rintro e w' ⟨⟨z,rfl⟩,hst⟩
 exact ⟨⟨z,rfl⟩,hB.call (Z2c h1 h2 h3 h4 hst)⟩
theorem Z85 {w0:Z0b} {w:World} {sb rb ps tid n:Nat} {s:St} {t:TE} {x:IE} {es:List Ent} {D:List (Int × Int)} (h:Z1K w0 w sb rb ps s tid n n 0 true [] D) (hk2:n <= 256) (hT:s.T=[t]) (hI:s.I.length <= 1000) (htid:t.id=tid) (hkI:ZQ s.L t.id s.I=[x]) (hxt:x.table=tid) (hid:U64 x.id) (hts:s.ts x.id=some es) (hwp:∀ p ∈ D,Wf p) (hwe:∀ e ∈ es,Wf (e.pg,e.sl)) (hm:D.length <= 10000) (hn:es.length <= 10000) :
  Calls Tryz.prog 45 #[ptrV rb] w (fun e w'=>Z1B 2 e/\Z1K w0 w' sb rb ps { s with ts:=upd s.ts x.id (some (Z11 D es)) } tid n n 1 true [x.id] D):=by
 obtain ⟨jr,jb,cj,vi,vd,h⟩:=h
 obtain ⟨Z8,Z6⟩:∃ Z8:Ending->World->Prop,(fun e w'=>Z1B 2 e/\Z1K w0 w' sb rb ps { s with ts:=upd s.ts x.id (some (Z11 D es)) } tid n n 1 true [x.id] D)=Z8:=⟨_,rfl⟩
 have HXT:=zh hxt
 have HBK0:Hid (∀ W,ZF w0 W sb (fun _=>False) s->Calls Tryz.prog 46 #[ptrV sb] W (Z3t W t [x])):=fun W hl=>by rw [<- hkI];exact Z8C hl hT hI
 have HUN0:Hid (∀ W K (v:Value),ZF w0 W sb K s->W.ownsRow 0 48 2 v D.length (ZU D)->Calls Tryz.prog 93 #[ptrV sb,.int .u64 (x.id:Int),v] W (fun e w'=>(∃ z:Int,e=.returned (.int .i64 z))/\ToB w0 W sb K { s with ts:=upd s.ts x.id (some (Z11 D es)) } w')):=fun W K v hl hr=>ZfM hl hid hts hr hwp hwe hm hn
 rw [Z6]
 have Ze:=zh Z6
 have hq:Quiet w (w.alloc (.cells #[.int .i64 0,.int .u64 0,.int .u64 0,.int .i64 0] 118)):=(Z0.refl _ _).alloc _
 have h2:=Z4 w (.cells #[.int .i64 0,.int .u64 0,.int .u64 0,.int .i64 0] 118)
 obtain ⟨r2,hr2⟩:∃ r2,w.heap.size=r2:=⟨_,rfl⟩
 have hrn:w0.w.heap.size <= r2:=by have:=h.law.quiet.size;omega
 rw [hr2] at h2
 have HR2:=zh hr2
 have HRN:=zh hrn
 have HL1:Hid (ZF w0 (w.alloc (.cells #[.int .i64 0,.int .u64 0,.int .u64 0,.int .i64 0] 118)) sb (fun k=>BrK rb jr jb vi vd k ∨ k=r2) s):=(h.law.quietly hq).mono (fun k e=>by
   rcases e with e | e
   · exact Or.inl e
   · exact Or.inr ⟨by omega,by have:=Z2 h2;omega⟩)
 have HJ:=zh h
 have hcj:=h.cap
 unfold maxLen at hcj
 clear h Z6 hrn hxt hT hI htid hkI hid hts hwp hwe hm hn
 go_enter Tryz.func45,Tryz.ntmps45
 go_upto_block 0 with (fail)
 (try rw [hr2])
 generalize w.alloc (.cells #[.int .i64 0,.int .u64 0,.int .u64 0,.int .i64 0] 118)=w1 at *
 have HQ1:=zh hq
 have H21:=zh h2
 have h1:=HJ.out.quietly hq
 obtain ⟨b0,b1,b2⟩:=zC3 h1.br.box
 obtain ⟨cs,hrow⟩:=h1.row
 have j0:w1.cell? ⟨jr,0,none⟩=some (ptrV jb):=by rw [Z1 hrow];rfl
 have k0:=Z1 h1.job.box 0
 have k3:=Z1 h1.job.box 3
 simp only [zGA,zGS,zGZ] at k0 k3
 have lb:=Z2 h1.br.box
 have lr:=Z2 hrow
 have ljb:=Z2 h1.job.box
 have HJ1:=zh h1
 clear hq h2 hr2 hrow h1
 go_upto_region 12 with fail
 have HS12:Hid (∀ W,Quiet w1 W->(fun w'=>w'.cell? ⟨jb,4,none⟩=some (.int .i64 (n:Int))/\w'.cell? ⟨jb,1,none⟩=some (.int .i64 (n:Int))) W):=fun W hq=>by
  have b:=(HJ1.out.quietly hq).job.box
  exact ⟨by rw [Z1 b];rfl,by rw [Z1 b];rfl⟩
 refine zH HS12 ((Z0.refl _ _).drew) (fun Z3=>?_)
 have q0:Quiet w1 w1.drew:=(Z0.refl _ _).drew
 generalize w1.drew=d0 at q0 Z3 ⊢
 refine zT 0 ?_
 refine zT 1 ?_
 refine zT 2 ?_
 refine zT 3 ?_
 refine zT 4 ?_
 refine zT 5 ?_
 refine zT 6 ?_
 refine zT 7 ?_
 refine zT 8 ?_
 refine zD ?_
 clear Z3 b0 b1 b2 j0 k0 k3 lb lr ljb HS12
 have HQ12:Hid (Quiet w1 d0):=q0
 have hj:=HJ1.out.quietly q0
 have c5:d0.cell? ⟨jb,5,none⟩=some (.int .i64 0):=by rw [Z1 hj.job.box];rfl
 have b0:=Z1 hj.br.box 0
 simp only [zGA,zGS,zGZ] at b0
 have lb:=Z2 hj.br.box
 have lj:=Z2 hj.job.box
 clear hj
 have HBK:Hid (∀ W,Quiet w1 W->Calls Tryz.prog 46 #[ptrV sb] W (Z3t W t [x])):=fun W hq=>HBK0.out W ((HL1.out.same hq).mono (fun _ e=>e.elim))
 go_wp2_with fail
 refine (HBK.out _ q0).mono ?_
 rintro e d1 ⟨b,cap,A,c,v,rfl,hO,hX⟩
 have q1:Quiet w1 d1:=q0.trans hO.quiet
 have HOF:Hid (∀ W,Quiet d1 W->Calls Tryz.prog 92 #[.int .u64 (tid:Int),v] W (Z5g W [x.id])):=fun W hq=>by
  have e1:=ZkE (hX.quietly hq)
  rw [HXT.out] at e1
  exact e1
 have hj:=HJ1.out.quietly q1
 have k0:=Z1 hj.job.box 0
 simp only [zGA,zGS,zGZ] at k0
 have HLD:Hid (ZF w0 d1 sb (fun k=>BrK rb jr jb vi vd k ∨ k=r2) s):=HL1.out.same q1
 have HJD:=zh hj
 have H2D:=zh (q1.get H21.out (fun x=>x))
 clear hj hO hX b0 c5 lb lj
 have lj:=Z2 HJD.out.job.box
 go_wp2_with fail
 refine (HOF.out _ (Z0.refl _ _)).mono ?_
 rintro e d2 ⟨v2,rfl,hq2,hn2,hi2⟩
 have hi3:World.ownsRow d2 0 34 1 v2 1 [.int .u64 (x.id:Int)]:=hi2
 rcases ZB hi3 with ⟨_,e⟩ | ⟨g,c2,rfl,hc1,hc2⟩
 ·exact absurd e (by decide)
 have hg0:=hi3.cells (by rfl) 0 (.int .u64 (x.id:Int)) rfl
 rw [Zl,Nat.zero_add] at hg0
 have hgn:=hn2 g rfl
 clear hi3
 have hjd:=HJD.out.quietly hq2
 have k2:=Z1 hjd.job.box 2
 have kf:=fun o=>Z7 hjd.job.box o
 simp only [zGA,zGS,zGZ] at k2
 have hb4:=(Z1Q hjd.job.box (.slice (some ⟨g,0,none⟩) 1 c2)).2.2.2.2.1
 have ho4:Z0 (fun x=>x=jb) d2 (d2.setCell ⟨jb,2,none⟩ (.slice (some ⟨g,0,none⟩) 1 c2)):=(Z0.refl (fun x=>x=jb) d2).setCell (p:=⟨jb,2,none⟩) (fun _=>rfl) _
 have lj2:=Z2 hjd.job.box
 have HN2:=zh hn2
 have HI2:=zh hi2
 have HQ2:=zh hq2
 clear hjd lj k0 hn2 hi2 hq2
 go_upto_region 20 with fail
 generalize d2.setCell ⟨jb,2,none⟩ (.slice (some ⟨g,0,none⟩) 1 c2)=w4 at *
 clear k2 kf lj2
 have hgj:¬ g=jb:=fun e=>by have:=Z2 HJD.out.job.box;omega
 have HS20:Hid (∀ W,Quiet w4 W->(fun w'=>w'.cell? ⟨jb,5,none⟩=some (.int .i64 0)/\w'.cell? ⟨jb,2,none⟩=some (.slice (some ⟨g,0,none⟩) 1 c2)/\w'.cell? ⟨g,0,none⟩=some (.int .u64 (x.id:Int))) W):=fun W hq=>by
  have b:=hq.get hb4 (fun x=>x)
  exact ⟨by rw [Z1 b];rfl,by rw [Z1 b];rfl,hq.cell (ho4.cell hg0 hgj) (fun x=>x)⟩
 refine zH HS20 ((Z0.refl _ _).drew) (fun Z3=>?_)
 have q4:Quiet w4 w4.drew:=(Z0.refl _ _).drew
 generalize w4.drew=d4 at q4 Z3 ⊢
 refine zT 0 ?_
 refine zT 1 ?_
 refine zT 2 ?_
 refine zT 3 ?_
 refine zT 4 ?_
 refine zT 5 ?_
 refine zT 6 ?_
 refine zT 7 ?_
 refine zT 8 ?_
 refine zT 9 ?_
 refine zD ?_
 clear Z3
 go_wp2_with fail
 refine zH HS20 q4.drew (fun Z3=>?_)
 have q5:Quiet w4 d4.drew:=q4.drew
 generalize d4.drew=d5 at q5 Z3 ⊢
 refine zT 0 ?_
 refine zT 1 ?_
 refine zT 2 ?_
 refine zT 3 ?_
 refine zT 4 ?_
 refine zT 5 ?_
 refine zT 6 ?_
 refine zT 7 ?_
 refine zT 8 ?_
 refine zT 9 ?_
 refine zT 10 ?_
 refine zD ?_
 clear Z3
 have hb5:=q5.get hb4 (fun x=>x)
 have c5:d5.cell? ⟨jb,5,none⟩=some (.int .i64 0):=by rw [Z1 hb5];rfl
 have kf:=fun o=>Z7 hb5 o
 have lj:=Z2 hb5
 have hb6:=(Z1Q hb5 (.int .i64 1)).2.2.2.2.2
 have ho6:Z0 (fun x=>x=jb) d5 (d5.setCell ⟨jb,5,none⟩ (.int .i64 1)):=(Z0.refl (fun x=>x=jb) d5).setCell (p:=⟨jb,5,none⟩) (fun _=>rfl) _
 go_upto_region 23 with fail
 generalize d5.setCell ⟨jb,5,none⟩ (.int .i64 1)=w6 at *
 clear c5 kf lj
 have how:Z0 (fun k=>k=jb) d1 w6:=(((HQ2.out.mono (fun _ _ x=>x.elim)).trans ho4).trans (q5.mono (fun _ _ x=>x.elim))).trans ho6
 have hz2:=HQ2.out.size
 have HJ6:=zh (HJD.out.turnedI (n':=n) (k':=n) (i':=1) (known':=true) (ids':=[x.id]) HLD.out HRN.out how ⟨hb6⟩ (Z5 (Z5 (Z5 HI2.out ho4 (fun k e e2=>hgj ((Option.some.inj e).trans e2))) q5 (fun _ _ x=>x)) ho6 (fun k e e2=>hgj ((Option.some.inj e).trans e2))) (fun k e=>Or.inr (HN2.out k e)))
 have H26:=zh (how.get H2D.out (fun e=>by have:=HR2.out;have:=Z2 HJ.out.job.box;omega))
 clear how hz2 hb4 hb5 hb6 ho4 ho6 q4 q5 hg0 hgn hgj HS20
 have HS23:Hid (∀ W s',Z0l w0 W sb rb ps s' tid n n 1 true [x.id] D jr jb cj (.slice (some ⟨g,0,none⟩) 1 c2) vd->(fun w'=>w'.cell? ⟨jb,0,none⟩=some (.int .u64 (tid:Int))/\w'.cell? ⟨rb,0,none⟩=some (ptrV sb)/\w'.cell? ⟨jb,6,none⟩=some vd) W):=fun W s' hj=>⟨by rw [Z1 hj.job.box];rfl,by rw [Z1 hj.br.box];rfl,by rw [Z1 hj.job.box];rfl⟩
 have HUN:Hid (∀ W,Quiet w6 W->Calls Tryz.prog 93 #[ptrV sb,.int .u64 (x.id:Int),vd] W (fun e w'=>(∃ z:Int,e=.returned (.int .i64 z))/\ToB w0 W sb (fun k=>BrK rb jr jb (.slice (some ⟨g,0,none⟩) 1 c2) vd k ∨ k=r2) { s with ts:=upd s.ts x.id (some (Z11 D es)) } w')):=fun W hq=>HUN0.out W _ vd (HJ6.out.2.same hq) (Z5 HJ6.out.1.dead hq (fun _ _ x=>x))
 refine wp_region_held_drew (S:=(fun w'=>w'.cell? ⟨jb,0,none⟩=some (.int .u64 (tid:Int))/\w'.cell? ⟨rb,0,none⟩=some (ptrV sb)/\w'.cell? ⟨jb,6,none⟩=some vd)) (by kernel_rfl) (HS23.out _ _ (HJ6.out.1.quietly (Z0.refl _ _).drew)) (fun Z3=>?_)
 simp only [List.size_toArray,List.length_cons,List.length_nil,Nat.reduceAdd]
 have q7:Quiet w6 w6.drew:=(Z0.refl _ _).drew
 generalize w6.drew=d7 at q7 Z3 ⊢
 refine zT 0 ?_
 refine zT 1 ?_
 refine zT 2 ?_
 refine zT 3 ?_
 refine zT 4 ?_
 refine zT 5 ?_
 refine zT 6 ?_
 refine zT 7 ?_
 refine zT 8 ?_
 refine zT 9 ?_
 refine zT 10 ?_
 refine zT 11 ?_
 refine zT 12 ?_
 refine zT 13 ?_
 refine zR 14 ?_
 intro K hK
 go_simp
 go_at_call 93
 refine (HUN.out _ q7).mono ?_
 rintro e d8 ⟨⟨z,rfl⟩,hl8⟩
 have hj8:=(HJ6.out.1.quietly q7).lawTo hl8
 dsimp only
 refine hK.out _ _ ?_ (fun Z3=>?_)
 ·exact HS23.out _ _ hj8
 clear hK K
 (try simp only [Act.put,zPA,zPZ,zPS])
 refine zT 15 ?_
 refine zR 16 ?_
 intro K hK
 have h28:=hl8.2.get (q7.get H26.out (fun x=>x)) (fun x=>x.2 (Or.inr rfl))
 obtain ⟨e0,e1,e2,e3⟩:=zC4 h28
 have ef:=fun o=>Z7 h28 o
 have l2:=Z2 h28
 go_simp
 refine hK.out _ _ ?_ (fun Z3=>?_)
 ·exact HS23.out _ _ (hj8.other hl8.st h28 (Zy d8 r2 (.int .i64 2) (.int .u64 (tid:Int)) (.int .u64 (x.id:Int)) (.int .i64 z)) HRN.out)
 clear hK K
 (try simp only [Act.put,zPA,zPZ,zPS])
 refine zD ?_
 have HX:=zh (Z00 h28 (.int .i64 2) (.int .u64 (tid:Int)) (.int .u64 (x.id:Int)) (.int .i64 z))
 have Zc:Hid (Z8 (.returned (.agg #[(.int .i64 2),(.int .u64 (tid:Int)),(.int .u64 (x.id:Int)),(.int .i64 z)])) (fourSet d8 r2 (.int .i64 2) (.int .u64 (tid:Int)) (.int .u64 (x.id:Int)) (.int .i64 z))):=by
  rw [<- Ze.out]
  exact ⟨⟨_,_,_,rfl⟩,jr,jb,cj,_,vd,hj8.other hl8.st h28 (Zy d8 r2 (.int .i64 2) (.int .u64 (tid:Int)) (.int .u64 (x.id:Int)) (.int .i64 z)) HRN.out⟩
 unfold fourSet at HX Zc
 clear Z3 h28 hj8 hl8 HUN HS23 e0 e1 e2 e3 ef l2
 go_wp2 <;> exact bodyPost_ret (Z0j Tryz.results45 _ _ r2 _ _ (0,0) _ (by rfl) HX.out Tryz.underlying118 rfl Z26) (by rfl) Zc.out
theorem Zkq {w0:Z0b} {w:World} {sb rb ps tid n hz N:Nat} {s:St} {t:TE} {H:List (List (Option Tup))} {D:List (Int × Int)} (h:Z1K w0 w sb rb ps s tid n n 0 true [] D) (hk2:n <= 256) (hT:s.T=[t]) (hI:s.I.length <= 1000) (hkI:ZQ s.L t.id s.I=[]) (hid:U64 tid) (hH:s.hs tid=some H) (hfit:∀ T ∈ H,Fits T) (hnum:Z2k H) (hnd:D.Nodup) (hg:∀ a ∈ D,∃ v,ZM H a.1 a.2=some v) (hh:Z1u s hz) (hL:s.L.length < 1000000000) (hN:∀ x y,s.sn x=some y->x <= N) (hN2:N <= 2000000) :
  Calls Tryz.prog 45 #[ptrV rb] w (fun e w'=>Z1B 3 e/\Z5n w0 w' sb rb ps { s with hs:=upd s.hs tid (some (Z0D s.L hz H D)) }):=by
 obtain ⟨jr,jb,cj,vi,vd,h⟩:=h
 obtain ⟨Z8,Z6⟩:∃ Z8:Ending->World->Prop,(fun e w'=>Z1B 3 e/\Z5n w0 w' sb rb ps { s with hs:=upd s.hs tid (some (Z0D s.L hz H D)) })=Z8:=⟨_,rfl⟩
 have HBK0:Hid (∀ W,ZF w0 W sb (fun _=>False) s->Calls Tryz.prog 46 #[ptrV sb] W (Z3t W t [])):=fun W hl=>by rw [<- hkI];exact Z8C hl hT hI
 have HRL0:Hid (∀ W K (v:Value),ZF w0 W sb K s->W.ownsRow 0 48 2 v D.length (ZU D)->(∀ k,v.ownBlock=some k->K k)->Calls Tryz.prog 94 #[ptrV sb,.int .u64 (tid:Int),v] W (fun e w'=>(∃ z:Int,e=.returned (.int .i64 z))/\ToB w0 W sb K { s with hs:=upd s.hs tid (some (Z0D s.L hz H D)) } w')):=fun W K v hl hr hv=>Z84 hl hid hH hfit hnum hr hv hnd hg hh hL hN hN2
 rw [Z6]
 have Ze:=zh Z6
 have hq:Quiet w (w.alloc (.cells #[.int .i64 0,.int .u64 0,.int .u64 0,.int .i64 0] 118)):=(Z0.refl _ _).alloc _
 have h2:=Z4 w (.cells #[.int .i64 0,.int .u64 0,.int .u64 0,.int .i64 0] 118)
 obtain ⟨r2,hr2⟩:∃ r2,w.heap.size=r2:=⟨_,rfl⟩
 have hrn:w0.w.heap.size <= r2:=by have:=h.law.quiet.size;omega
 rw [hr2] at h2
 have HR2:=zh hr2
 have HRN:=zh hrn
 have HL1:Hid (ZF w0 (w.alloc (.cells #[.int .i64 0,.int .u64 0,.int .u64 0,.int .i64 0] 118)) sb (fun k=>BrK rb jr jb vi vd k ∨ k=r2) s):=(h.law.quietly hq).mono (fun k e=>by
   rcases e with e | e
   · exact Or.inl e
   · exact Or.inr ⟨by omega,by have:=Z2 h2;omega⟩)
 have HJ:=zh h
 have hcj:=h.cap
 unfold maxLen at hcj
 clear h Z6 hrn hT hI hkI hid hH hfit hnum hnd hg hh hL hN hN2
 go_enter Tryz.func45,Tryz.ntmps45
 go_upto_block 0 with (fail)
 (try rw [hr2])
 generalize w.alloc (.cells #[.int .i64 0,.int .u64 0,.int .u64 0,.int .i64 0] 118)=w1 at *
 have HQ1:=zh hq
 have H21:=zh h2
 have h1:=HJ.out.quietly hq
 obtain ⟨b0,b1,b2⟩:=zC3 h1.br.box
 obtain ⟨cs,hrow⟩:=h1.row
 have j0:w1.cell? ⟨jr,0,none⟩=some (ptrV jb):=by rw [Z1 hrow];rfl
 have k0:=Z1 h1.job.box 0
 have k3:=Z1 h1.job.box 3
 simp only [zGA,zGS,zGZ] at k0 k3
 have lb:=Z2 h1.br.box
 have lr:=Z2 hrow
 have ljb:=Z2 h1.job.box
 have HJ1:=zh h1
 clear hq h2 hr2 hrow h1
 go_upto_region 12 with fail
 have HS12:Hid (∀ W,Quiet w1 W->(fun w'=>w'.cell? ⟨jb,4,none⟩=some (.int .i64 (n:Int))/\w'.cell? ⟨jb,1,none⟩=some (.int .i64 (n:Int))) W):=fun W hq=>by
  have b:=(HJ1.out.quietly hq).job.box
  exact ⟨by rw [Z1 b];rfl,by rw [Z1 b];rfl⟩
 refine zH HS12 ((Z0.refl _ _).drew) (fun Z3=>?_)
 have q0:Quiet w1 w1.drew:=(Z0.refl _ _).drew
 generalize w1.drew=d0 at q0 Z3 ⊢
 refine zT 0 ?_
 refine zT 1 ?_
 refine zT 2 ?_
 refine zT 3 ?_
 refine zT 4 ?_
 refine zT 5 ?_
 refine zT 6 ?_
 refine zT 7 ?_
 refine zT 8 ?_
 refine zD ?_
 clear Z3 b0 b1 b2 j0 k0 k3 lb lr ljb HS12
 have HQ12:Hid (Quiet w1 d0):=q0
 have hj:=HJ1.out.quietly q0
 have c5:d0.cell? ⟨jb,5,none⟩=some (.int .i64 0):=by rw [Z1 hj.job.box];rfl
 have b0:=Z1 hj.br.box 0
 simp only [zGA,zGS,zGZ] at b0
 have lb:=Z2 hj.br.box
 have lj:=Z2 hj.job.box
 clear hj
 have HBK:Hid (∀ W,Quiet w1 W->Calls Tryz.prog 46 #[ptrV sb] W (Z3t W t [])):=fun W hq=>HBK0.out W ((HL1.out.same hq).mono (fun _ e=>e.elim))
 go_wp2_with fail
 refine (HBK.out _ q0).mono ?_
 rintro e d1 ⟨b,cap,A,c,v,rfl,hO,hX⟩
 have q1:Quiet w1 d1:=q0.trans hO.quiet
 obtain ⟨A1,c1,rfl,_,_,_⟩:=Za (show World.ownsRow d1 0 84 6 v 0 [] from hX.own)
 have HOF:Hid (∀ W,Quiet d1 W->Calls Tryz.prog 92 #[.int .u64 (tid:Int),.slice A1 0 c1] W (Z5g W [])):=fun W hq=>ZkD
 have hj:=HJ1.out.quietly q1
 have k0:=Z1 hj.job.box 0
 simp only [zGA,zGS,zGZ] at k0
 have HLD:Hid (ZF w0 d1 sb (fun k=>BrK rb jr jb vi vd k ∨ k=r2) s):=HL1.out.same q1
 have HJD:=zh hj
 have H2D:=zh (q1.get H21.out (fun x=>x))
 clear hj hO hX b0 c5 lb lj
 have lj:=Z2 HJD.out.job.box
 go_wp2_with fail
 refine (HOF.out _ (Z0.refl _ _)).mono ?_
 rintro e d2 ⟨v2,rfl,hq2,hn2,hi2⟩
 obtain ⟨A2,c2,rfl,_,_,_⟩:=Za (show World.ownsRow d2 0 34 1 v2 0 [] from hi2)
 have hjd:=HJD.out.quietly hq2
 have k2:=Z1 hjd.job.box 2
 have kf:=fun o=>Z7 hjd.job.box o
 simp only [zGA,zGS,zGZ] at k2
 have hb4:=(Z1Q hjd.job.box (.slice A2 0 c2)).2.2.2.2.1
 have ho4:Z0 (fun x=>x=jb) d2 (d2.setCell ⟨jb,2,none⟩ (.slice A2 0 c2)):=(Z0.refl (fun x=>x=jb) d2).setCell (p:=⟨jb,2,none⟩) (fun _=>rfl) _
 have lj2:=Z2 hjd.job.box
 have HN2:=zh hn2
 have HI2:=zh hi2
 have HQ2:=zh hq2
 clear hjd lj k0 hn2 hi2 hq2
 go_upto_region 20 with fail
 generalize d2.setCell ⟨jb,2,none⟩ (.slice A2 0 c2)=w4 at *
 clear k2 kf lj2
 have HS20:Hid (∀ W,Quiet w4 W->(fun w'=>w'.cell? ⟨jb,5,none⟩=some (.int .i64 0)/\w'.cell? ⟨jb,2,none⟩=some (.slice A2 0 c2)) W):=fun W hq=>by
  have b:=hq.get hb4 (fun x=>x)
  exact ⟨by rw [Z1 b];rfl,by rw [Z1 b];rfl⟩
 refine zH HS20 ((Z0.refl _ _).drew) (fun Z3=>?_)
 have q4:Quiet w4 w4.drew:=(Z0.refl _ _).drew
 generalize w4.drew=d4 at q4 Z3 ⊢
 refine zT 0 ?_
 refine zT 1 ?_
 refine zT 2 ?_
 refine zT 3 ?_
 refine zT 4 ?_
 refine zT 5 ?_
 refine zT 6 ?_
 refine zT 7 ?_
 refine zT 8 ?_
 refine zT 9 ?_
 refine zD ?_
 clear Z3 HS20
 have how:Z0 (fun k=>k=jb) d1 d4:=((HQ2.out.mono (fun _ _ x=>x.elim)).trans ho4).trans (q4.mono (fun _ _ x=>x.elim))
 have HJ4:=zh (HJD.out.turnedI (n':=n) (k':=n) (i':=0) (known':=true) (ids':=[]) HLD.out HRN.out how ⟨q4.get hb4 (fun x=>x)⟩ (Z5 (Z5 HI2.out ho4 (fun k e e2=>by have:=HN2.out k e;have:=Z2 HJD.out.job.box;omega)) q4 (fun _ _ x=>x)) (fun k e=>Or.inr (HN2.out k e)))
 have H24:=zh (how.get H2D.out (fun e=>by have:=HR2.out;have:=Z2 HJ.out.job.box;omega))
 clear how hb4 ho4 q4
 have b2:=Z1 HJ4.out.1.br.box 2
 have bf:=fun o=>Z7 HJ4.out.1.br.box o
 simp only [zGA,zGS,zGZ] at b2
 have lb:=Z2 HJ4.out.1.br.box
 have HB6:Hid ((d4.setCell ⟨rb,2,none⟩ (.slice (if cj=1 then some ⟨jr,0,none⟩ else some ⟨jr,1,none⟩) 0 (cj - 1))).heap[rb]?=some (.cells #[ptrV sb,.bool true,(.slice (if cj=1 then some ⟨jr,0,none⟩ else some ⟨jr,1,none⟩) 0 (cj - 1)),.int .i64 (ps:Int)] 73 (0,0))):=by
  show _=_
  rw [Zg HJ4.out.1.br.box _ _]
  rfl
 have ho6:Z0 (fun x=>x=rb) d4 (d4.setCell ⟨rb,2,none⟩ (.slice (if cj=1 then some ⟨jr,0,none⟩ else some ⟨jr,1,none⟩) 0 (cj - 1))):=(Z0.refl (fun x=>x=rb) d4).setCell (p:=⟨rb,2,none⟩) (fun _=>rfl) _
 go_upto_region 25 with fail
 generalize d4.setCell ⟨rb,2,none⟩ (.slice (if cj=1 then some ⟨jr,0,none⟩ else some ⟨jr,1,none⟩) 0 (cj - 1))=w6 at *
 clear b2 bf lb
 have HL6:Hid (ZF w0 w6 sb (fun k=>BrK rb jr jb (.slice A2 0 c2) vd k ∨ k=r2) s):=HJ4.out.2.turn (ho6.mono (fun k _ e=>Or.inl (Or.inl e))) (fun k e=>by
   rcases e with e | e
   · exact HJ4.out.1.new k e
   · rw [e];exact HRN.out)
 have HJB:Hid (w6.heap[jb]?=some (.cells #[.int .u64 (tid:Int),.int .i64 (n:Int),(.slice A2 0 c2),.bool true,.int .i64 (n:Int),.int .i64 ((0:Nat):Int),vd] 198 (0,0))):=ho6.get HJ4.out.1.job.box (fun e=>HJ4.out.1.apart.2.1 e.symm)
 have H26:=zh (ho6.get H24.out (fun e=>by have:=HR2.out;have:=Z2 HJ.out.br.box;omega))
 have HDD:Hid (w6.ownsRow 0 48 2 vd D.length (ZU D)):=Z5 HJ4.out.1.dead ho6 (fun k e=>(HJ4.out.1.apart.2.2.2.1 k e).1)
 clear ho6
 have HS25:Hid (∀ W:World,W.heap[jb]?=some (.cells #[.int .u64 (tid:Int),.int .i64 (n:Int),(.slice A2 0 c2),.bool true,.int .i64 (n:Int),.int .i64 ((0:Nat):Int),vd] 198 (0,0))->W.heap[rb]?=some (.cells #[ptrV sb,.bool true,(.slice (if cj=1 then some ⟨jr,0,none⟩ else some ⟨jr,1,none⟩) 0 (cj - 1)),.int .i64 (ps:Int)] 73 (0,0))->(fun w'=>w'.cell? ⟨jb,0,none⟩=some (.int .u64 (tid:Int))/\w'.cell? ⟨rb,0,none⟩=some (ptrV sb)/\w'.cell? ⟨jb,6,none⟩=some vd) W):=fun W a b=>⟨by rw [Z1 a];rfl,by rw [Z1 b];rfl,by rw [Z1 a];rfl⟩
 have HRL:Hid (∀ W,Quiet w6 W->Calls Tryz.prog 94 #[ptrV sb,.int .u64 (tid:Int),vd] W (fun e w'=>(∃ z:Int,e=.returned (.int .i64 z))/\ToB w0 W sb (fun k=>BrK rb jr jb (.slice A2 0 c2) vd k ∨ k=r2) { s with hs:=upd s.hs tid (some (Z0D s.L hz H D)) } w')):=fun W hq=>HRL0.out W _ vd (HL6.out.same hq) (Z5 HDD.out hq (fun _ _ x=>x)) (fun k e=>Or.inl (Or.inr (Or.inr (Or.inr (Or.inr e)))))
 refine wp_region_held_drew (S:=(fun w'=>w'.cell? ⟨jb,0,none⟩=some (.int .u64 (tid:Int))/\w'.cell? ⟨rb,0,none⟩=some (ptrV sb)/\w'.cell? ⟨jb,6,none⟩=some vd)) (by kernel_rfl) (HS25.out _ ((Z0.refl (fun _=>False) w6).drew.get HJB.out (fun x=>x)) ((Z0.refl (fun _=>False) w6).drew.get HB6.out (fun x=>x))) (fun Z3=>?_)
 simp only [List.size_toArray,List.length_cons,List.length_nil,Nat.reduceAdd]
 have q7:Quiet w6 w6.drew:=(Z0.refl _ _).drew
 generalize w6.drew=d7 at q7 Z3 ⊢
 refine zT 0 ?_
 refine zT 1 ?_
 refine zT 2 ?_
 refine zT 3 ?_
 refine zT 4 ?_
 refine zT 5 ?_
 refine zT 6 ?_
 refine zT 7 ?_
 refine zT 8 ?_
 refine zT 9 ?_
 refine zT 10 ?_
 refine zT 11 ?_
 refine zT 12 ?_
 refine zT 13 ?_
 refine zT 14 ?_
 refine zT 15 ?_
 refine zR 16 ?_
 intro K hK
 go_simp
 go_at_call 94
 refine (HRL.out _ q7).mono ?_
 rintro e d8 ⟨⟨z,rfl⟩,hl8⟩
 have hj8:=hl8.2.get (q7.get HJB.out (fun x=>x)) (fun x=>x.2 (Or.inl (Or.inr (Or.inr (Or.inl rfl)))))
 have hb8:=hl8.2.get (q7.get HB6.out (fun x=>x)) (fun x=>x.2 (Or.inl (Or.inl rfl)))
 dsimp only
 refine hK.out _ _ ?_ (fun Z3=>?_)
 ·exact HS25.out _ hj8 hb8
 clear hK K
 (try simp only [Act.put,zPA,zPZ,zPS])
 refine zT 17 ?_
 refine zR 18 ?_
 intro K hK
 have h28:=hl8.2.get (q7.get H26.out (fun x=>x)) (fun x=>x.2 (Or.inr rfl))
 obtain ⟨e0,e1,e2,e3⟩:=zC4 h28
 have ef:=fun o=>Z7 h28 o
 have l2:=Z2 h28
 have ho9:=Zy d8 r2 (.int .i64 3) (.int .u64 (tid:Int)) (.int .u64 0) (.int .i64 z)
 have hj9:=ho9.get hj8 (fun e=>by have:=HR2.out;have:=Z2 HJ.out.job.box;omega)
 have hb9:=ho9.get hb8 (fun e=>by have:=HR2.out;have:=Z2 HJ.out.br.box;omega)
 have HO9:=zh ho9
 have HB9:=zh hb9
 clear ho9
 go_simp
 refine hK.out _ _ ?_ (fun Z3=>?_)
 ·exact HS25.out _ hj9 hb9
 clear hK K
 (try simp only [Act.put,zPA,zPZ,zPS])
 refine zD ?_
 have HX:=zh (Z00 h28 (.int .i64 3) (.int .u64 (tid:Int)) (.int .u64 0) (.int .i64 z))
 have Zc:Hid (Z8 (.returned (.agg #[(.int .i64 3),(.int .u64 (tid:Int)),(.int .u64 0),(.int .i64 z)])) (fourSet d8 r2 (.int .i64 3) (.int .u64 (tid:Int)) (.int .u64 0) (.int .i64 z))):=by
  rw [<- Ze.out]
  refine ⟨⟨_,_,_,rfl⟩,_,cj - 1,(hl8.st.turn (HO9.out.mono (fun k _ e=>Or.inr e)) (fun k e=>?_)).mono (fun k e=>Or.inl (Or.inl e)),⟨HB9.out⟩,HJ.out.new rb (Or.inl rfl),by unfold maxLen;omega⟩
  rcases e with e | e
  ·exact HJ4.out.1.new k e
  ·rw [e];exact HRN.out
 unfold fourSet at HX Zc
 clear Z3 h28 hj8 hb8 hj9 hb9 hl8 HRL HS25 e0 e1 e2 e3 ef l2
 go_wp2 <;> exact bodyPost_ret (Z0j Tryz.results45 _ _ r2 _ _ (0,0) _ (by rfl) HX.out Tryz.underlying118 rfl Z26) (by rfl) Zc.out
theorem Z7l {w0:Z0b} {w:World} {sb rb ps tid n hz N:Nat} {s:St} {xid:Nat} {H:List (List (Option Tup))} {D:List (Int × Int)} (h:Z1K w0 w sb rb ps s tid n n 1 true [xid] D) (hk2:n <= 256) (hid:U64 tid) (hH:s.hs tid=some H) (hfit:∀ T ∈ H,Fits T) (hnum:Z2k H) (hnd:D.Nodup) (hg:∀ a ∈ D,∃ v,ZM H a.1 a.2=some v) (hh:Z1u s hz) (hL:s.L.length < 1000000000) (hN:∀ x y,s.sn x=some y->x <= N) (hN2:N <= 2000000) :
  Calls Tryz.prog 45 #[ptrV rb] w (fun e w'=>Z1B 3 e/\Z5n w0 w' sb rb ps { s with hs:=upd s.hs tid (some (Z0D s.L hz H D)) }):=by
 obtain ⟨jr,jb,cj,vi,vd,h⟩:=h
 obtain ⟨Z8,Z6⟩:∃ Z8:Ending->World->Prop,(fun e w'=>Z1B 3 e/\Z5n w0 w' sb rb ps { s with hs:=upd s.hs tid (some (Z0D s.L hz H D)) })=Z8:=⟨_,rfl⟩
 have HRL0:Hid (∀ W K (v:Value),ZF w0 W sb K s->W.ownsRow 0 48 2 v D.length (ZU D)->(∀ k,v.ownBlock=some k->K k)->Calls Tryz.prog 94 #[ptrV sb,.int .u64 (tid:Int),v] W (fun e w'=>(∃ z:Int,e=.returned (.int .i64 z))/\ToB w0 W sb K { s with hs:=upd s.hs tid (some (Z0D s.L hz H D)) } w')):=fun W K v hl hr hv=>Z84 hl hid hH hfit hnum hr hv hnd hg hh hL hN hN2
 rw [Z6]
 have Ze:=zh Z6
 have hq:Quiet w (w.alloc (.cells #[.int .i64 0,.int .u64 0,.int .u64 0,.int .i64 0] 118)):=(Z0.refl _ _).alloc _
 have h2:=Z4 w (.cells #[.int .i64 0,.int .u64 0,.int .u64 0,.int .i64 0] 118)
 obtain ⟨r2,hr2⟩:∃ r2,w.heap.size=r2:=⟨_,rfl⟩
 have hrn:w0.w.heap.size <= r2:=by have:=h.law.quiet.size;omega
 rw [hr2] at h2
 have HR2:=zh hr2
 have HRN:=zh hrn
 have HL1:Hid (ZF w0 (w.alloc (.cells #[.int .i64 0,.int .u64 0,.int .u64 0,.int .i64 0] 118)) sb (fun k=>BrK rb jr jb vi vd k ∨ k=r2) s):=(h.law.quietly hq).mono (fun k e=>by
   rcases e with e | e
   · exact Or.inl e
   · exact Or.inr ⟨by omega,by have:=Z2 h2;omega⟩)
 have HJ:=zh h
 have hcj:=h.cap
 unfold maxLen at hcj
 clear h Z6 hrn hid hH hfit hnum hnd hg hh hL hN hN2
 go_enter Tryz.func45,Tryz.ntmps45
 go_upto_block 0 with (fail)
 (try rw [hr2])
 generalize w.alloc (.cells #[.int .i64 0,.int .u64 0,.int .u64 0,.int .i64 0] 118)=w1 at *
 have HQ1:=zh hq
 have H21:=zh h2
 have h1:=HJ.out.quietly hq
 obtain ⟨b0,b1,b2⟩:=zC3 h1.br.box
 obtain ⟨cs,hrow⟩:=h1.row
 have j0:w1.cell? ⟨jr,0,none⟩=some (ptrV jb):=by rw [Z1 hrow];rfl
 have k0:=Z1 h1.job.box 0
 have k3:=Z1 h1.job.box 3
 simp only [zGA,zGS,zGZ] at k0 k3
 have lb:=Z2 h1.br.box
 have lr:=Z2 hrow
 have ljb:=Z2 h1.job.box
 have HJ1:=zh h1
 clear hq h2 hr2 hrow h1
 go_upto_region 12 with fail
 have HS12:Hid (∀ W,Quiet w1 W->(fun w'=>w'.cell? ⟨jb,4,none⟩=some (.int .i64 (n:Int))/\w'.cell? ⟨jb,1,none⟩=some (.int .i64 (n:Int))) W):=fun W hq=>by
  have b:=(HJ1.out.quietly hq).job.box
  exact ⟨by rw [Z1 b];rfl,by rw [Z1 b];rfl⟩
 refine zH HS12 ((Z0.refl _ _).drew) (fun Z3=>?_)
 have q0:Quiet w1 w1.drew:=(Z0.refl _ _).drew
 generalize w1.drew=d0 at q0 Z3 ⊢
 refine zT 0 ?_
 refine zT 1 ?_
 refine zT 2 ?_
 refine zT 3 ?_
 refine zT 4 ?_
 refine zT 5 ?_
 refine zT 6 ?_
 refine zT 7 ?_
 refine zT 8 ?_
 refine zD ?_
 clear Z3 b0 b1 b2 j0 k0 k3 lb lr ljb HS12
 have HQ12:Hid (Quiet w1 d0):=q0
 have hj:=HJ1.out.quietly q0
 have c5:d0.cell? ⟨jb,5,none⟩=some (.int .i64 1):=by rw [Z1 hj.job.box];rfl
 have b0:=Z1 hj.br.box 0
 simp only [zGA,zGS,zGZ] at b0
 have lb:=Z2 hj.br.box
 have lj:=Z2 hj.job.box
 clear hj
 go_upto_region 20 with fail
 clear b0 c5 lb lj
 have hix:=HJ.out.idx
 obtain ⟨A2,c2,rfl,_,_,_⟩:=Za (show World.ownsRow w 0 34 1 vi 1 [.int .u64 (xid:Int)] from hix)
 clear hix
 have HS20:Hid (∀ W,Quiet d0 W->(fun w'=>w'.cell? ⟨jb,5,none⟩=some (.int .i64 1)/\w'.cell? ⟨jb,2,none⟩=some (.slice A2 1 c2)) W):=fun W hq=>by
  have b:=(HJ1.out.quietly (HQ12.out.trans hq)).job.box
  exact ⟨by rw [Z1 b];rfl,by rw [Z1 b];rfl⟩
 refine zH HS20 ((Z0.refl _ _).drew) (fun Z3=>?_)
 have q4:Quiet d0 d0.drew:=(Z0.refl _ _).drew
 generalize d0.drew=d4 at q4 Z3 ⊢
 refine zT 0 ?_
 refine zT 1 ?_
 refine zT 2 ?_
 refine zT 3 ?_
 refine zT 4 ?_
 refine zT 5 ?_
 refine zT 6 ?_
 refine zT 7 ?_
 refine zT 8 ?_
 refine zT 9 ?_
 refine zD ?_
 clear Z3 HS20
 have q14:=HQ12.out.trans q4
 have HJ4:Hid (Z0l w0 d4 sb rb ps s tid n n 1 true [xid] D jr jb cj (.slice A2 1 c2) vd/\ZF w0 d4 sb (fun k=>BrK rb jr jb (.slice A2 1 c2) vd k ∨ k=r2) s):=⟨HJ1.out.quietly q14,HL1.out.same q14⟩
 have H24:=zh (q14.get H21.out (fun x=>x))
 clear q14 q4
 have b2:=Z1 HJ4.out.1.br.box 2
 have bf:=fun o=>Z7 HJ4.out.1.br.box o
 simp only [zGA,zGS,zGZ] at b2
 have lb:=Z2 HJ4.out.1.br.box
 have HB6:Hid ((d4.setCell ⟨rb,2,none⟩ (.slice (if cj=1 then some ⟨jr,0,none⟩ else some ⟨jr,1,none⟩) 0 (cj - 1))).heap[rb]?=some (.cells #[ptrV sb,.bool true,(.slice (if cj=1 then some ⟨jr,0,none⟩ else some ⟨jr,1,none⟩) 0 (cj - 1)),.int .i64 (ps:Int)] 73 (0,0))):=by
  show _=_
  rw [Zg HJ4.out.1.br.box _ _]
  rfl
 have ho6:Z0 (fun x=>x=rb) d4 (d4.setCell ⟨rb,2,none⟩ (.slice (if cj=1 then some ⟨jr,0,none⟩ else some ⟨jr,1,none⟩) 0 (cj - 1))):=(Z0.refl (fun x=>x=rb) d4).setCell (p:=⟨rb,2,none⟩) (fun _=>rfl) _
 go_upto_region 25 with fail
 generalize d4.setCell ⟨rb,2,none⟩ (.slice (if cj=1 then some ⟨jr,0,none⟩ else some ⟨jr,1,none⟩) 0 (cj - 1))=w6 at *
 clear b2 bf lb
 have HL6:Hid (ZF w0 w6 sb (fun k=>BrK rb jr jb (.slice A2 1 c2) vd k ∨ k=r2) s):=HJ4.out.2.turn (ho6.mono (fun k _ e=>Or.inl (Or.inl e))) (fun k e=>by
   rcases e with e | e
   · exact HJ4.out.1.new k e
   · rw [e];exact HRN.out)
 have HJB:Hid (w6.heap[jb]?=some (.cells #[.int .u64 (tid:Int),.int .i64 (n:Int),(.slice A2 1 c2),.bool true,.int .i64 (n:Int),.int .i64 ((1:Nat):Int),vd] 198 (0,0))):=ho6.get HJ4.out.1.job.box (fun e=>HJ4.out.1.apart.2.1 e.symm)
 have H26:=zh (ho6.get H24.out (fun e=>by have:=HR2.out;have:=Z2 HJ.out.br.box;omega))
 have HDD:Hid (w6.ownsRow 0 48 2 vd D.length (ZU D)):=Z5 HJ4.out.1.dead ho6 (fun k e=>(HJ4.out.1.apart.2.2.2.1 k e).1)
 clear ho6
 have HS25:Hid (∀ W:World,W.heap[jb]?=some (.cells #[.int .u64 (tid:Int),.int .i64 (n:Int),(.slice A2 1 c2),.bool true,.int .i64 (n:Int),.int .i64 ((1:Nat):Int),vd] 198 (0,0))->W.heap[rb]?=some (.cells #[ptrV sb,.bool true,(.slice (if cj=1 then some ⟨jr,0,none⟩ else some ⟨jr,1,none⟩) 0 (cj - 1)),.int .i64 (ps:Int)] 73 (0,0))->(fun w'=>w'.cell? ⟨jb,0,none⟩=some (.int .u64 (tid:Int))/\w'.cell? ⟨rb,0,none⟩=some (ptrV sb)/\w'.cell? ⟨jb,6,none⟩=some vd) W):=fun W a b=>⟨by rw [Z1 a];rfl,by rw [Z1 b];rfl,by rw [Z1 a];rfl⟩
 have HRL:Hid (∀ W,Quiet w6 W->Calls Tryz.prog 94 #[ptrV sb,.int .u64 (tid:Int),vd] W (fun e w'=>(∃ z:Int,e=.returned (.int .i64 z))/\ToB w0 W sb (fun k=>BrK rb jr jb (.slice A2 1 c2) vd k ∨ k=r2) { s with hs:=upd s.hs tid (some (Z0D s.L hz H D)) } w')):=fun W hq=>HRL0.out W _ vd (HL6.out.same hq) (Z5 HDD.out hq (fun _ _ x=>x)) (fun k e=>Or.inl (Or.inr (Or.inr (Or.inr (Or.inr e)))))
 refine wp_region_held_drew (S:=(fun w'=>w'.cell? ⟨jb,0,none⟩=some (.int .u64 (tid:Int))/\w'.cell? ⟨rb,0,none⟩=some (ptrV sb)/\w'.cell? ⟨jb,6,none⟩=some vd)) (by kernel_rfl) (HS25.out _ ((Z0.refl (fun _=>False) w6).drew.get HJB.out (fun x=>x)) ((Z0.refl (fun _=>False) w6).drew.get HB6.out (fun x=>x))) (fun Z3=>?_)
 simp only [List.size_toArray,List.length_cons,List.length_nil,Nat.reduceAdd]
 have q7:Quiet w6 w6.drew:=(Z0.refl _ _).drew
 generalize w6.drew=d7 at q7 Z3 ⊢
 refine zT 0 ?_
 refine zT 1 ?_
 refine zT 2 ?_
 refine zT 3 ?_
 refine zT 4 ?_
 refine zT 5 ?_
 refine zT 6 ?_
 refine zT 7 ?_
 refine zT 8 ?_
 refine zT 9 ?_
 refine zT 10 ?_
 refine zT 11 ?_
 refine zT 12 ?_
 refine zT 13 ?_
 refine zT 14 ?_
 refine zT 15 ?_
 refine zR 16 ?_
 intro K hK
 go_simp
 go_at_call 94
 refine (HRL.out _ q7).mono ?_
 rintro e d8 ⟨⟨z,rfl⟩,hl8⟩
 have hj8:=hl8.2.get (q7.get HJB.out (fun x=>x)) (fun x=>x.2 (Or.inl (Or.inr (Or.inr (Or.inl rfl)))))
 have hb8:=hl8.2.get (q7.get HB6.out (fun x=>x)) (fun x=>x.2 (Or.inl (Or.inl rfl)))
 dsimp only
 refine hK.out _ _ ?_ (fun Z3=>?_)
 ·exact HS25.out _ hj8 hb8
 clear hK K
 (try simp only [Act.put,zPA,zPZ,zPS])
 refine zT 17 ?_
 refine zR 18 ?_
 intro K hK
 have h28:=hl8.2.get (q7.get H26.out (fun x=>x)) (fun x=>x.2 (Or.inr rfl))
 obtain ⟨e0,e1,e2,e3⟩:=zC4 h28
 have ef:=fun o=>Z7 h28 o
 have l2:=Z2 h28
 have ho9:=Zy d8 r2 (.int .i64 3) (.int .u64 (tid:Int)) (.int .u64 0) (.int .i64 z)
 have hj9:=ho9.get hj8 (fun e=>by have:=HR2.out;have:=Z2 HJ.out.job.box;omega)
 have hb9:=ho9.get hb8 (fun e=>by have:=HR2.out;have:=Z2 HJ.out.br.box;omega)
 have HO9:=zh ho9
 have HB9:=zh hb9
 clear ho9
 go_simp
 refine hK.out _ _ ?_ (fun Z3=>?_)
 ·exact HS25.out _ hj9 hb9
 clear hK K
 (try simp only [Act.put,zPA,zPZ,zPS])
 refine zD ?_
 have HX:=zh (Z00 h28 (.int .i64 3) (.int .u64 (tid:Int)) (.int .u64 0) (.int .i64 z))
 have Zc:Hid (Z8 (.returned (.agg #[(.int .i64 3),(.int .u64 (tid:Int)),(.int .u64 0),(.int .i64 z)])) (fourSet d8 r2 (.int .i64 3) (.int .u64 (tid:Int)) (.int .u64 0) (.int .i64 z))):=by
  rw [<- Ze.out]
  refine ⟨⟨_,_,_,rfl⟩,_,cj - 1,(hl8.st.turn (HO9.out.mono (fun k _ e=>Or.inr e)) (fun k e=>?_)).mono (fun k e=>Or.inl (Or.inl e)),⟨HB9.out⟩,HJ.out.new rb (Or.inl rfl),by unfold maxLen;omega⟩
  rcases e with e | e
  ·exact HJ4.out.1.new k e
  ·rw [e];exact HRN.out
 unfold fourSet at HX Zc
 clear Z3 h28 hj8 hb8 hj9 hb9 hl8 HRL HS25 e0 e1 e2 e3 ef l2
 go_wp2 <;> exact bodyPost_ret (Z0j Tryz.results45 _ _ r2 _ _ (0,0) _ (by rfl) HX.out Tryz.underlying118 rfl Z26) (by rfl) Zc.out
def Z19 (rb sb:Nat) (P:World->Prop):Nat->World->Prop
 | 0,w=>w.cell? ⟨rb,0,none⟩=some (ptrV sb)/\Calls Tryz.prog 45 #[ptrV rb] w (fun e w'=>Z1B 4 e/\P w')
 | m+1,w=>w.cell? ⟨rb,0,none⟩=some (ptrV sb)/\Calls Tryz.prog 45 #[ptrV rb] w (fun e w'=>(∃ z:Int,z ≠ 4/\Z1B z e)/\Z19 rb sb P m w')
theorem Z5O (z:Int) (a b c:Value) (W:World):(Instr.field 118 (.agg #[.int .i64 z,a,b,c]) 0).run Tryz.prog W=.ok (.int .i64 z) W:=by kernel_rfl
theorem Z4O {w:World} {rb sb m most:Nat} {P:World->Prop} (h:Z19 rb sb P m w) (hm:m < most) (hmo:most <= 10000) :
  Calls Tryz.prog 14 #[ptrV rb,.int .i64 (most:Int)] w (fun e w'=>(∃ z:Int,e=.returned (.int .i64 z))/\P w'):=by
 obtain ⟨Z8,Z6⟩:∃ Z8:Ending->World->Prop,(fun e w'=>(∃ z:Int,e=.returned (.int .i64 z))/\P w')=Z8:=⟨_,rfl⟩
 rw [Z6]
 have Ze:=zh Z6
 have HST:=zh h
 clear h Z6
 go_enter Tryz.func14,Tryz.ntmps14
 go_wp2
 go_loopw [5] (fun n wr=>∃ k:Nat,k <= m/\n=.int .i64 (k:Int)/\Z19 rb sb P (m - k) wr) (fun n _=>m+1 - (intOf n).toNat)
 case atStart=>exact ⟨0,Nat.zero_le _,rfl,HST.out⟩
 case round =>
  obtain ⟨k,hk,rfl,hs⟩:=hrel
  have hlt:k < most:=by omega
  have hw1:IntKind.i64.wrap ((k:Int)+1)=((k+1:Nat):Int):=by rw [Zp _ (by omega) (by omega)];rfl
  rcases hd:m - k with _ | d
  ·rw [hd] at hs
   obtain ⟨hc,hcall⟩:=hs
   have HC:=zh hcall
   have lb:=Zf hc
   dsimp only at lb
   clear hcall hd HST
   go_wp2_with fail
   refine HC.out.mono ?_
   rintro e w2 ⟨⟨a,b,c,rfl⟩,hp⟩
   have Zc:Hid (Z8 (.returned (.int .i64 ((k+1:Nat):Int))) w2):=by
    rw [<- Ze.out]
    exact ⟨⟨_,rfl⟩,hp⟩
   clear hp HC hc lb
   have hf:=Z5O 4 a b c w2
   go_wp2
   exact Zc.out
  ·rw [hd] at hs
   obtain ⟨hc,hcall⟩:=hs
   have HC:=zh hcall
   have lb:=Zf hc
   dsimp only at lb
   have HD:=zh hd
   clear hcall hd HST
   go_wp2_with fail
   refine HC.out.mono ?_
   rintro e w2 ⟨⟨z,hz,a,b,c,rfl⟩,hp⟩
   have HP:=zh hp
   have hz2:(z == 4)=false:=by simpa using hz
   clear hp HC hc lb
   have hf:=Z5O z a b c w2
   go_wp2
   go_roundw
   case rel=>exact ⟨k+1,by have:=HD.out;omega,by first | rfl | go_num,by rw [show m - (k+1)=d by have:=HD.out;omega];exact HP.out⟩
   case measure=>simp [intOf];omega
theorem Z0o.cell0 {w0:Z0b} {w:World} {sb rb ps:Nat} {s:St} (h:Z0o w0 w sb rb ps s):w.cell? ⟨rb,0,none⟩=some (ptrV sb):=by
 obtain ⟨vj,_,hb,_⟩:=h
 exact hb.cells.1
theorem Z5n.cell0 {w0:Z0b} {w:World} {sb rb ps:Nat} {s:St} (h:Z5n w0 w sb rb ps s):w.cell? ⟨rb,0,none⟩=some (ptrV sb):=by
 obtain ⟨A,c,_,hb,_⟩:=h
 exact hb.cells.1
theorem Z1K.cell0 {w0:Z0b} {w:World} {sb rb ps tid n k i:Nat} {s:St} {known:Bool} {ids:List Nat} {D:List (Int × Int)} (h:Z1K w0 w sb rb ps s tid n k i known ids D):w.cell? ⟨rb,0,none⟩=some (ptrV sb):=by
 obtain ⟨jr,jb,cj,vi,vd,h⟩:=h
 exact h.br.cells.1
def Z0k (s:St) (hz:Nat) (H:List (List (Option Tup))) (k:Nat):List (Int × Int):=(Zx H k).filter (ZN s.L H hz)
theorem Z5P {s:St} {hz k:Nat} {H:List (List (Option Tup))} {T:List (Option Tup)} (hT:H[k]?=some T):Z0k s hz H (k+1)=Z0k s hz H k ++ (Zk (k:Int) T T.length).filter (ZN s.L H hz):=by
 unfold Z0k
 rw [Zx,List.filter_append,List.getD_eq_getElem?_getD,hT]
 rfl
theorem Z8D {T:List (Option Tup)} (h:Fits T):T.length <= 127:=by
 unfold Fits at h
 omega
theorem Z5h (p:Int) (T:List (Option Tup)) (k:Nat):(Zk p T k).length <= k:=by
 unfold Zk
 refine Nat.le_trans (List.length_filterMap_le _ _) ?_
 rw [List.length_range]
 exact Nat.le_refl _
structure Z39 (s:St) (t:TE) (H:List (List (Option Tup))) (hz N:Nat):Prop where
 tab:s.T=[t]
 idx:s.I.length <= 1000
 hor:Z1u s hz
 lives:Z2U s hz
 log:s.L.length < 1000000000
 few:∀ x y,s.sn x=some y->x <= N
 few2:N <= 2000000
 heap:s.hs t.id=some H
 num:U64 t.id
 fit:∀ T ∈ H,Fits T
 nums:Z2k H
 some_:0 < H.length
 most:H.length <= 256
theorem Z39.dead_len {s:St} {t:TE} {H:List (List (Option Tup))} {hz N:Nat} (h:Z39 s t H hz N) (k:Nat) (hk:k <= H.length):(Z0k s hz H k).length <= 127 * k:=by
 induction k with
 | zero=>exact Nat.le_refl _
 | succ k ih =>
  obtain ⟨T,hT⟩:∃ T,H[k]?=some T:=⟨_,zg (by omega)⟩
  rw [Z5P hT,List.length_append]
  have h1:=ih (by omega)
  have h2:=List.length_filter_le (ZN s.L H hz) (Zk (k:Int) T T.length)
  have h3:=Z5h (k:Int) T T.length
  have h4:=Z8D (h.fit T (List.mem_of_getElem? hT))
  omega
section
variable {w0:Z0b} {w:World} {sb rb ps hz N:Nat} {s:St} {t:TE} {H:List (List (Option Tup))} {P:World->Prop}
theorem ZdW (ho:Z39 s t H hz N) {d:Nat} (hd:∀ w',Z1K w0 w' sb rb ps s t.id H.length H.length 0 true [] (Z0k s hz H H.length)->Z19 rb sb P d w') (j:Nat):∀ (k:Nat) (w:World),k+j=H.length->Z1K w0 w sb rb ps s t.id H.length k 0 true [] (Z0k s hz H k)->Z19 rb sb P (j+d) w:=by
 induction j with
 | zero =>
  intro k w hk h
  obtain rfl:k=H.length:=by omega
  rw [Nat.zero_add]
  exact hd w h
 | succ j ih =>
  intro k w hk h
  obtain ⟨T,hT⟩:∃ T,H[k]?=some T:=⟨_,zg (by omega)⟩
  rw [show j+1+d=(j+d)+1 by omega]
  have h4:=Z8D (ho.fit T (List.mem_of_getElem? hT))
  have h3:=Z5h (k:Int) T T.length
  have h5:=ho.dead_len k (by omega)
  have h6:=ho.most
  refine ⟨h.cell0,(ZdV h rfl (by omega) ho.most ho.num ho.heap hT ho.nums ho.hor ho.log ho.few ho.few2 (by omega) (by omega)).mono ?_⟩
  rintro e w' ⟨he,hj⟩
  refine ⟨⟨1,by decide,he⟩,ih (k+1) w' (by omega) ?_⟩
  rw [Z5P hT]
  exact hj
theorem Z86 (ho:Z39 s t H hz N) {d:Nat} (hd:∀ w',Z1K w0 w' sb rb ps s t.id H.length H.length 0 true [] (Z0k s hz H H.length)->Z19 rb sb P d w') (h:Z0o w0 w sb rb ps s):Z19 rb sb P (H.length+d+1) w:=by
 refine ⟨h.cell0,(ZfL h ho.tab ho.idx ho.hor ho.lives ho.log ho.few ho.few2).mono ?_⟩
 rintro e w1 ⟨he,hj⟩
 refine ⟨⟨0,by decide,he⟩,?_⟩
 obtain ⟨T,hT⟩:∃ T,H[0]?=some T:=⟨_,zg ho.some_⟩
 have h4:=Z8D (ho.fit T (List.mem_of_getElem? hT))
 have h3:=Z5h ((0:Nat):Int) T T.length
 have h6:=ho.some_
 rw [show H.length+d=(H.length - 1+d)+1 by omega]
 refine ⟨hj.cell0,(Zd0 hj rfl ho.some_ ho.most ho.num ho.heap hT ho.nums ho.hor ho.log ho.few ho.few2 (by omega) (by show 0 <= 1000000;omega)).mono ?_⟩
 rintro e w2 ⟨he2,hj2⟩
 refine ⟨⟨1,by decide,he2⟩,ZdW ho hd (H.length - 1) 1 w2 (by omega) ?_⟩
 rw [Z5P hT]
 exact hj2
theorem Z6r (H:List (List (Option Tup))) (hz k:Nat) (s:St):(Z0k s hz H k).Nodup:=(Zbx H k).filter _
theorem Z8E {k:Nat} {a:Int × Int} (h:a ∈ Z0k s hz H k):∃ v,ZM H a.1 a.2=some v:=Z4e (List.mem_filter.1 h).1
def Z4u (s:St) (id hz xid:Nat) (H:List (List (Option Tup))) (es:List Ent):St:={ s with hs:=upd s.hs id (some (Z0D s.L hz H (Z0k s hz H H.length))),ts:=upd s.ts xid (some (Z11 (Z0k s hz H H.length) es)) }
theorem ZhI {most:Nat} {x:IE} {es:List Ent} (ho:Z39 s t H hz N) (hkI:ZQ s.L t.id s.I=[x]) (hxt:x.table=t.id) (hid:U64 x.id) (hts:s.ts x.id=some es) (hwp:∀ p ∈ Z0k s hz H H.length,Wf p) (hwe:∀ e ∈ es,Wf (e.pg,e.sl)) (hlp:(Z0k s hz H H.length).length <= 10000) (hle:es.length <= 10000) (h:Z0o w0 w sb rb ps s) (hp:ps < 1000000) (hm:H.length+4 <= most) (hmo:most <= 10000) :
  Calls Tryz.prog 14 #[ptrV rb,.int .i64 (most:Int)] w (fun e w'=>(∃ z:Int,e=.returned (.int .i64 z))/\Z0o w0 w' sb rb (ps+1) (Z4u s t.id hz x.id H es)):=by
 refine Z4O (m:=H.length+2+1) (Z86 ho (d:=2) (fun w' hj=>?_) h) (by omega) hmo
 refine ⟨hj.cell0,(Z85 hj ho.most ho.tab ho.idx rfl hkI hxt hid hts hwp hwe hlp hle).mono ?_⟩
 rintro e w2 ⟨he,hj2⟩
 have hh:=ho.hor
 refine ⟨⟨2,by decide,he⟩,hj2.cell0,(Z7l (s:={ s with ts:=upd s.ts x.id (some (Z11 (Z0k s hz H H.length) es)) }) (hz:=hz) (N:=N) (H:=H) hj2 ho.most ho.num ho.heap ho.fit ho.nums (Z6r _ _ _ _) (fun a ha=>Z8E ha) ⟨hh.none_,hh.some_,hh.least,hh.num⟩ ho.log ho.few ho.few2).mono ?_⟩
 rintro e w3 ⟨he,hd⟩
 refine ⟨⟨3,by decide,he⟩,hd.cell0,(ZcV hd hp).mono ?_⟩
 rintro e w4 ⟨he,hi⟩
 exact ⟨he,hi⟩
end
theorem ZfN (n:Int) (w:World):Calls Tryz.prog 17 #[.int .i64 n] w (Z60 w 4 (intRow n)):=by
 have hN:Z60 w 4 (intRow n) (.returned (.slice (some ⟨w.heap.size,0,none⟩) 1 1)) (w.alloc (.cells #[.int .u8 1,.int .i64 n,.string ⟨#[]⟩,.bool false] 32)):=⟨w.heap.size,rfl,(Z0.refl _ _).alloc _,Nat.le_refl _,by simp,Rd.new w 4 1 (intRow n) _ _ rfl rfl⟩
 have HN:=zh hN
 clear hN
 obtain ⟨Z8,Z6⟩:∃ Z8,Z60 w 4 (intRow n)=Z8:=⟨_,rfl⟩
 rw [Z6] at HN ⊢
 clear Z6
 go_enter Tryz.func17,Tryz.ntmps17
 go_wp2
 exact HN.out
theorem ZkR (w:World):Calls Tryz.prog 16 #[] w (Z60 w 2 (ZZ [(⟨#[97]⟩,1)])):=by
 have hN:Z60 w 2 (ZZ [(⟨#[97]⟩,1)]) (.returned (.slice (some ⟨w.heap.size,0,none⟩) 1 1)) (w.alloc (.cells #[.string ⟨#[97]⟩,.int .u8 1] 39)):=⟨w.heap.size,rfl,(Z0.refl _ _).alloc _,Nat.le_refl _,by simp,Rd.new w 2 1 (ZZ [(⟨#[97]⟩,1)]) _ _ rfl rfl⟩
 have HN:=zh hN
 clear hN
 obtain ⟨Z8,Z6⟩:∃ Z8,Z60 w 2 (ZZ [(⟨#[97]⟩,1)])=Z8:=⟨_,rfl⟩
 rw [Z6] at HN ⊢
 clear Z6
 go_enter Tryz.func16,Tryz.ntmps16
 go_wp2
 exact HN.out
theorem Z87 {α:Type} [DecidableEq α]:∀ (a b:List α),a.Nodup->(∀ x ∈ a,x ∈ b)->b.length <= a.length->b.Perm a
 | [],b,_,_,h=>by
  have:b=[]:=List.eq_nil_of_length_eq_zero (by simpa using h)
  rw [this]
 | x :: a,b,hn,hs,hl=>by
  obtain ⟨h1,h2⟩:=List.nodup_cons.1 hn
  have hx:=hs x (List.mem_cons_self ..)
  have ih:=Z87 a (b.erase x) h2 (fun z hz=>(List.mem_erase_of_ne (fun e=>h1 (by rw [<- e];exact hz))).2 (hs z (List.mem_cons_of_mem _ hz))) (by
    rw [List.length_erase_of_mem hx]
    simp at hl
    omega)
  exact (List.perm_cons_erase hx).trans (ih.cons x)
theorem Z63 {α β:Type} {f g:α->Option β}:∀ {l:List α},(∀ x ∈ l,f x=g x)->l.filterMap f=l.filterMap g
 | [],_=>rfl
 | a :: l,h=>by
  rw [List.filterMap_cons,List.filterMap_cons,h a (List.mem_cons_self ..),Z63 (fun x hx=>h x (List.mem_cons_of_mem _ hx))]
theorem Zje {p:Int} {T:List (Option Tup)} {s:Int} {v:Tup} (h:ZY T s=some v):(p,s) ∈ Zk p T T.length:=by
 obtain ⟨h0,hs⟩:=Z2Y h
 have hl:=(zi.1 hs).1
 unfold Zk
 refine List.mem_filterMap.2 ⟨s.toNat,List.mem_range.2 hl,?_⟩
 rw [hs]
 show some (p,((s.toNat:Nat):Int))=some (p,s)
 rw [Int.toNat_of_nonneg h0]
theorem Z88 {H:List (List (Option Tup))} {p s:Int} {v:Tup} (h:ZM H p s=some v):(p,s) ∈ Zx H H.length:=by
 have h0:¬ (p < 0 ∨ (H.length:Int) <= p):=fun x=>by rw [Z13 x] at h;cases h
 obtain ⟨k,rfl⟩:=Int.eq_ofNat_of_zero_le (show 0 <= p by omega)
 obtain ⟨T,hT⟩:∃ T,H[k]?=some T:=⟨_,zg (by omega)⟩
 rw [Z1f s hT] at h
 have h1:=Zje (p:=(k:Int)) h
 have key:∀ j,k < j->((k:Int),s) ∈ Zx H j:=by
  intro j
  induction j with
  | zero=>intro hk;omega
  | succ j ih =>
   intro hk
   rw [Zx]
   by_cases e:k=j
   ·subst e
    rw [List.getD_eq_getElem?_getD,hT]
    exact List.mem_append_right _ h1
   ·exact List.mem_append_left _ (ih (by omega))
 exact key _ (by omega)
section
variable {H H':List (List (Option Tup))} {l:List ((Int × Int) × Tup)}
theorem Inv.places (h:Inv H l):(Zx H H.length).Perm (l.map (·.1)):=by
 refine Z87 _ _ h.nd (fun a ha=>?_) ?_
 ·obtain ⟨x,hx,rfl⟩:=List.mem_map.1 ha
  exact Z88 (h.got x hx)
 ·rw [Z5Z H H.length (Nat.le_refl _),List.take_length,h.used,List.length_map]
  exact Nat.le_refl _
theorem Inv.inj (h:Inv H l) {i j:Nat} {x y:(Int × Int) × Tup} (hi:l[i]?=some x) (hj:l[j]?=some y) (he:x.1=y.1):i=j:=by
 have h1:(l.map (·.1))[i]?=some x.1:=by rw [List.getElem?_map,hi];rfl
 have h2:(l.map (·.1))[j]?=some y.1:=by rw [List.getElem?_map,hj];rfl
 exact (List.getElem?_inj (zi.1 h1).1 h.nd).1 (by rw [h1,h2,he])
theorem Inv.stamp (h:Inv H l) {j:Nat} {p:Int × Int} {v u:Tup} (hj:l[j]?=some (p,v)) (hs:Zes H H' p.1 p.2 v u):Inv H' (l.set j (p,u)):=by
 have hlt:=(zi.1 hj).1
 have he:=(zi.1 hj).2
 refine ⟨by rw [hs.used,h.used,List.length_set],?_,fun x hx=>?_,hs.fit⟩
 ·have:(l.set j (p,u)).map (·.1)=l.map (·.1):=by
   rw [List.map_set]
   apply List.ext_getElem?
   intro i
   rw [List.getElem?_set]
   by_cases e:j=i
   ·subst e
    rw [if_pos rfl,if_pos (by simpa using hlt),List.getElem?_map,hj]
    rfl
   ·rw [if_neg e]
  rw [this]
  exact h.nd
 ·obtain ⟨i,hi⟩:=List.mem_iff_getElem?.1 hx
  rw [List.getElem?_set] at hi
  by_cases e:j=i
  ·subst e
   rw [if_pos rfl,if_pos hlt] at hi
   injection hi with hi
   subst hi
   rw [hs.get,if_pos ⟨rfl,rfl⟩]
  ·rw [if_neg e] at hi
   rw [hs.get,if_neg (fun y=>e (h.inj hj hi (by exact (Prod.ext y.1 y.2).symm)))]
   exact h.got x (List.mem_of_getElem? hi)
def ZbL (x:(Int × Int) × Tup):RowR:=(x.2.row,x.1.1,x.1.2,x.2.data)
def ZbM (L:List Nat) (y:ZA) (x:(Int × Int) × Tup):Option RowR:=if Z1T L y x.2.xmin x.2.xmax then some (ZbL x) else none
theorem Inv.seen (h:Inv H l) (L:List Nat) (y:ZA):(Z2z H L y (Zx H H.length)).Perm (l.filterMap (ZbM L y)):=by
 refine (h.places.filterMap (Z2C H L y)).trans ?_
 rw [List.filterMap_map]
 have:List.filterMap (Z2C H L y ∘ fun x=>x.1) l=l.filterMap (ZbM L y):=by
  refine Z63 fun x hx=>?_
  show Z2C H L y x.1=_
  unfold Z2C ZbM
  rw [h.got x hx]
  rfl
 rw [this]
theorem Inv.dead (h:Inv H l) (L:List Nat) (hz:Nat):((Zx H H.length).filter (ZN L H hz)).length=(l.filter (fun x=>Z0h L x.2.xmin x.2.xmax hz)).length:=by
 rw [(h.places.filter (ZN L H hz)).length_eq,List.filter_map,List.length_map]
 have:List.filter (ZN L H hz ∘ fun x=>x.1) l=l.filter (fun x=>Z0h L x.2.xmin x.2.xmax hz):=by
  apply List.filter_congr
  intro x hx
  show ZN L H hz x.1=_
  unfold ZN
  rw [h.got x hx]
 rw [this]
end
theorem ZfO {M:List Z0G} {R:List RowR} (hp:(M.map Z0G.told).Perm R) (hs:M.Pairwise (fun a b=>a.id <= b.id)) (hr:R.Pairwise (fun a b=>a.1 < b.1)):M.map Z0G.told=R:=by
 refine List.Perm.eq_of_pairwise (le:=fun a b:RowR=>a.1 <= b.1) (fun a b ha hb h1 h2=>?_) ?_ (hr.imp (fun h=>Nat.le_of_lt h)) hp
 ·obtain ⟨i,hi⟩:=List.mem_iff_getElem?.1 (hp.mem_iff.1 ha)
  obtain ⟨j,hj⟩:=List.mem_iff_getElem?.1 hb
  have hh:a.1=b.1:=Nat.le_antisymm h1 h2
  obtain ⟨li,ei⟩:=zi.1 hi
  obtain ⟨lj,ej⟩:=zi.1 hj
  rcases Nat.lt_trichotomy i j with y | y | y
  ·have:=List.pairwise_iff_getElem.1 hr i j li lj y
   rw [ei,ej] at this
   omega
  ·subst y
   rw [<- ei,<- ej]
  ·have:=List.pairwise_iff_getElem.1 hr j i lj li y
   rw [ei,ej] at this
   omega
 ·rw [List.pairwise_map]
  exact hs
theorem ZhJ {L:List Nat} {own x:Nat} (h:stateL L x=2) (hx:x <= L.length):Z1i L (Z2I L own) x=true:=by
 unfold Z1i
 have h1:(Z2I L own).xmax=L.length+1:=rfl
 have h2:x ∉ (Z2I L own).run:=fun e=>by
  have:=(Z8N.1 (show x ∈ others own (Z3E L) from e)).1
  rw [Z6I,h] at this
  cases this
 rw [h1,h,decide_eq_true (show x < L.length+1 by omega),decide_eq_false h2]
 simp
theorem Zjf {α:Type} {f:Nat->Option α} {i:Nat} (h:f i=none) (a:Option α):upd (upd f i a) i none=f:=by
 funext k
 by_cases e:k=i
 ·subst e;simp [upd,h]
 ·simp [upd,e]
theorem Z6D {α β:Type} {f:α->Option β} {g:α->β}:∀ {l:List α},(∀ x ∈ l,f x=some (g x))->l.filterMap f=l.map g
 | [],_=>rfl
 | a :: l,h=>by
  rw [List.filterMap_cons,h a (List.mem_cons_self ..),List.map_cons,Z6D (fun x hx=>h x (List.mem_cons_of_mem _ hx))]
theorem Z89 {α:Type} {l:List α} {n:Nat} {x:α} (h:x ∈ l.drop n):∃ m,n <= m/\l[m]?=some x:=by
 obtain ⟨i,hi⟩:=List.mem_iff_getElem?.1 h
 rw [List.getElem?_drop] at hi
 exact ⟨n+i,by omega,hi⟩
theorem ZdX {α:Type} {l:List α} {n:Nat} {x:α} (h:x ∈ l.take n):∃ m,m < n/\l[m]?=some x:=by
 obtain ⟨i,hi⟩:=List.mem_iff_getElem?.1 h
 have hl:=(zi.1 hi).1
 rw [List.length_take] at hl
 rw [List.getElem?_take_of_lt (by omega)] at hi
 exact ⟨i,by omega,hi⟩
theorem ZfP {n x:Nat} (h1:1 <= x) (h2:x <= n):stateL (List.replicate n 2) x=2:=by
 unfold stateL
 rw [if_pos h1,List.getD_eq_getElem?_getD,List.getElem?_replicate,if_pos (by omega)]
 rfl
def Z3i (H:List (List (Option Tup))):Prop:=∀ T ∈ H,T.length <= 15
theorem ZfQ {T:List (Option Tup)} (hf:Fits T) (h:freeT T=T.length):T.length <= 14:=by
 have hall:∀ s ∈ T,30 <= Z0T s:=fun s hs=>by
  obtain ⟨i,hi⟩:=List.mem_iff_getElem?.1 hs
  rcases s with _ | v
  ·have h1:=Z7S hi
   have h2:=(zi.1 hi).1
   omega
  ·show 30 <= v.size
   unfold Tup.size
   omega
 have key:∀ l:List (Option Tup),(∀ s ∈ l,30 <= Z0T s)->30 * l.length <= (l.map Z0T).sum:=by
  intro l
  induction l with
  | nil=>intro _;exact Nat.le_refl _
  | cons s l ih =>
   intro hl
   have h1:=ih (fun x hx=>hl x (List.mem_cons_of_mem _ hx))
   have h2:=hl s (List.mem_cons_self ..)
   rw [List.map_cons,List.sum_cons,List.length_cons]
   omega
 have:=key T hall
 unfold Fits at hf
 omega
theorem Zb8 {T:List (Option Tup)} {t:Tup} (hf:Fits T) (hs:T.length <= 15):(Z1v T t).length <= 15:=by
 rw [Z95]
 have h1:=Z53 T
 rcases Nat.lt_or_ge (freeT T) T.length with x | x
 ·omega
 ·have:=ZfQ hf (by omega)
  omega
theorem Z6s {α:Type} {l:List α} {i:Nat} {a x:α} (h:x ∈ l.set i a):x=a ∨ x ∈ l:=by
 rcases List.mem_or_eq_of_mem_set h with y | y
 ·exact .inr y
 ·exact .inl y
theorem Z8F {H:List (List (Option Tup))} {i:Nat}:H.getD i []=[] ∨ H.getD i [] ∈ H:=by
 rw [List.getD_eq_getElem?_getD]
 cases h:H[i]? with
 | none=>exact .inl rfl
 | some T=>exact .inr (List.mem_of_getElem? h)
theorem Z9H {H H':List (List (Option Tup))} {left left':Nat} {t:Tup} {a:Int × Int × Int} (hf:∀ T ∈ H,Fits T) (hs:Z3i H) (h:Z12 H left t=(a,H',left')):Z3i H':=by
 unfold Z12 at h
 split at h
 ·injection h with _ h;injection h with h _;rw [<- h];exact hs
 ·split at h
  ·injection h with _ h;injection h with h _
   rw [<- h]
   intro T hT
   rcases Z6s hT with e | e
   ·rw [e]
    rcases Z8F (H:=H) (i:=_) with z | z
    ·rw [z]
     exact Zb8 (by show 4+4 * 0+0 <= 512;omega) (Nat.zero_le _)
    ·exact Zb8 (hf _ z) (hs _ z)
   ·exact hs T e
  ·split at h
   ·injection h with _ h;injection h with h _;rw [<- h];exact hs
   ·injection h with _ h;injection h with h _
    rw [<- h]
    intro T hT
    rcases List.mem_append.1 hT with e | e
    ·exact hs T e
    ·rw [List.mem_singleton] at e;rw [e];exact (by decide:(1:Nat) <= 15)
theorem ZbE (T:List (Option Tup)) (i:Int) (x:Nat) (p q:Int):(Z02 T i x p q).2.length=T.length:=by
 unfold Z02
 split
 ·rfl
 ·split
  ·rfl
  ·exact List.length_set
theorem Zd1 {H:List (List (Option Tup))} {pg sl:Int} {x:Nat} {p q:Int} (hs:Z3i H):Z3i (Z1l H pg sl x p q).2:=by
 unfold Z1l
 split
 ·exact hs
 ·intro T hT
  rcases Z6s hT with e | e
  ·rw [e,ZbE]
   rcases Z8F (H:=H) (i:=pg.toNat) with z | z
   ·rw [z];exact Nat.zero_le _
   ·exact hs _ z
  ·exact hs T e
theorem Zjg (T:List (Option Tup)):(Z0d T).length <= T.length:=by
 unfold Z0d
 rw [List.length_reverse]
 refine Nat.le_trans (List.dropWhile_sublist _).length_le ?_
 rw [List.length_reverse]
 exact Nat.le_refl _
theorem ZdY {H:List (List (Option Tup))} {pg sl:Int} (hs:Z3i H):Z3i (Z1q H pg sl).2:=by
 unfold Z1q
 split
 ·exact hs
 ·intro T hT
  rcases Z6s hT with e | e
  ·rw [e]
   refine Nat.le_trans (Zjg _) ?_
   rw [List.length_set]
   rcases Z8F (H:=H) (i:=pg.toNat) with z | z
   ·rw [z];exact Nat.zero_le _
   ·exact hs _ z
  ·exact hs T e
theorem Z9I {L:List Nat} {hz:Nat}:∀ (l:List (Int × Int)) (H:List (List (Option Tup))),Z3i H->Z3i (Z0D L hz H l)
 | [],_,h=>h
 | a :: l,H,h=>by
  unfold Z0D
  rw [List.foldl_cons]
  refine Z9I l _ ?_
  split
  ·exact ZdY h
  ·exact h
theorem ZfR {T:List (Option Tup)} {n:Nat} (hu:Z0r T=0) (hs:T.length <= 15) (hn:n <= 400):(n:Int) <= ZP T:=by
 have hnone:∀ s ∈ T,s=none:=fun s hs=>by
  rcases s with _ | v
  ·rfl
  ·exfalso
   unfold Z0r at hu
   have:=List.length_eq_zero_iff.1 hu
   rw [List.filter_eq_nil_iff] at this
   exact this _ hs rfl
 have hsp:Z2B T=4 * T.length:=by
  unfold Z2B
  clear hu hs
  induction T with
  | nil=>rfl
  | cons s T ih =>
   have h1:=ih (fun x hx=>hnone x (List.mem_cons_of_mem _ hx))
   have h2:=hnone s (List.mem_cons_self ..)
   rw [List.map_cons,List.sum_cons,h1,h2,List.length_cons]
   show 4+0+_=_
   omega
 unfold ZP
 rw [hsp]
 split <;> omega
theorem ZfS {H:List (List (Option Tup))} {n:Nat} (hs:Z3i H) (hu:usedH H < H.length) (hn:n <= 400):(Z1p H n).isSome=true:=by
 have key:∃ T ∈ H,Z0r T=0:=by
  refine Classical.byContradiction fun hno=>?_
  have h1:∀ l:List (List (Option Tup)),(∀ T ∈ l,Z0r T ≠ 0)->l.length <= (l.map Z0r).sum:=by
   intro l
   induction l with
   | nil=>intro _;exact Nat.le_refl _
   | cons T l ih =>
    intro hl
    have a:=ih (fun x hx=>hl x (List.mem_cons_of_mem _ hx))
    have b:=hl T (List.mem_cons_self ..)
    rw [List.map_cons,List.sum_cons,List.length_cons]
    omega
  have:=h1 H (fun T hT e=>hno ⟨T,hT,e⟩)
  unfold usedH at hu
  omega
 obtain ⟨T,hT,h0⟩:=key
 unfold Z1p
 cases h:H.findIdx? (fun T=>decide ((n:Int) <= ZP T)) with
 | some i=>rfl
 | none =>
  rw [List.findIdx?_eq_none_iff] at h
  have:=h T hT
  rw [decide_eq_true (ZfR h0 (hs T hT) hn)] at this
  cases this
structure Zjq (k r i:Nat) (d:List Nat) (m:Nat) (v:Tup):Prop where
 row:v.row=m % k+1
 xmin:v.xmin=if m < k then r+1 else r+2
 xmax:v.xmax=if m < i then r+2 else 0
 data:v.data=d
structure Zs (k c r i:Nat) (d:List Nat) (H:List (List (Option Tup))) (left:Nat) (l:List ((Int × Int) × Tup)):Prop where
 inv:Inv H l
 cnt:l.length=c
 left:H.length+left=2 * k
 short:Z3i H
 vers:∀ m x,l[m]?=some x->Zjq k r i d m x.2
theorem Zs.start (k:Nat) (d:List Nat):Zs k 0 0 0 d [] (2 * k) []:=⟨Inv.start,rfl,(by simp),(fun T hT=>by cases hT),(fun m x h=>by simp at h)⟩
theorem Z7m {r x:Nat} {d:List Nat} (hr:r <= 1099511627776) (hx:x <= 1099511627776) (hd:d.length <= 200):(⟨r,x,0,-1,-1,d⟩:Tup).rightB=true:=by
 unfold Tup.rightB
 exact decide_eq_true ⟨hr,hx,Nat.zero_le _,(by show Z0O (-1) (-1)=false;decide),hd⟩
section
variable {k c r i left:Nat} {d:List Nat} {H:List (List (Option Tup))} {l:List ((Int × Int) × Tup)}
theorem Zs.room (h:Zs k c r i d H left l) (hc:c < 2 * k) (hd:d.length <= 200):0 < left ∨ (Z1p H d.length).isSome=true:=by
 rcases Nat.eq_zero_or_pos left with z | z
 ·right
  have h1:=h.left
  have h2:=h.inv.used
  rw [h.cnt] at h2
  exact ZfS h.short (by omega) (by omega)
 ·exact .inl z
theorem Zs.at_ (h:Zs k c r i d H left l) {p s:Int} {v:Tup} (hg:ZM H p s=some v):∃ m,m < c/\l[m]?=some ((p,s),v)/\Zjq k r i d m v:=by
 have h1:=(h.inv.places.mem_iff).1 (Z88 hg)
 obtain ⟨x,hx,he⟩:=List.mem_map.1 h1
 have h2:=h.inv.got x hx
 rw [he,hg] at h2
 injection h2 with h2
 obtain ⟨m,hm⟩:=List.mem_iff_getElem?.1 hx
 have hx2:x=((p,s),v):=Prod.ext he h2.symm
 rw [hx2] at hm
 exact ⟨m,by rw [<- h.cnt];exact (zi.1 hm).1,hm,h.vers m _ hm⟩
theorem Zs.place (h:Zs k c r i d H left l) (hk:k <= 100) {pg sl:Int} {v:Tup} (hg:ZM H pg sl=some v):0 <= pg/\pg < 256/\0 <= sl/\sl < 512:=by
 have h0:¬ (pg < 0 ∨ (H.length:Int) <= pg):=fun x=>by rw [Z13 x] at hg;cases hg
 obtain ⟨k',rfl⟩:=Int.eq_ofNat_of_zero_le (show 0 <= pg by omega)
 obtain ⟨T,hT⟩:∃ T,H[k']?=some T:=⟨_,zg (by omega)⟩
 rw [Z1f sl hT] at hg
 obtain ⟨s0,hs⟩:=Z2Y hg
 have hl:=(zi.1 hs).1
 have hf:=h.inv.fit T (List.mem_of_getElem? hT)
 have hL:=h.left
 unfold Fits at hf
 omega
theorem Zs.ins (h:Zs k c 0 0 d H left l) (hc:c < k) (hk:k <= 100) (hd:d.length <= 200):∃ p q H' left' l',Z12 H left ⟨c+1,1,0,-1,-1,d⟩=((p,q,0),H',left')/\(∃ v,ZM H' p q=some v)/\Zs k (c+1) 0 0 d H' left' l':=by
 have hl:=h.left
 obtain ⟨p,q,H',left',h1,h2,_,h4⟩:=ZaC (left:=left) h.inv.fit (Z7m (r:=c+1) (x:=1) (d:=d) (by omega) (by omega) hd) (h.room (by omega) hd)
 refine ⟨p,q,H',left',_,h1,⟨_,by rw [h2.get,if_pos ⟨rfl,rfl⟩]⟩,⟨h.inv.ins h2,by simp [h.cnt],by omega,Z9H h.inv.fit h.short h1,fun m x hx=>?_⟩⟩
 rcases Nat.lt_trichotomy m c with y | y | y
 ·rw [List.getElem?_append_left (by rw [h.cnt];exact y)] at hx
  exact h.vers m x hx
 ·subst y
  rw [List.getElem?_append_right (by rw [h.cnt];exact Nat.le_refl _),h.cnt] at hx
  simp at hx
  subst hx
  refine ⟨?_,by rw [if_pos hc],by rw [if_neg (by omega)],rfl⟩
  show m+1=m % k+1
  rw [Nat.mod_eq_of_lt hc]
 ·rw [List.getElem?_eq_none (by rw [List.length_append,h.cnt];show c+1 <= m;omega)] at hx
  cases hx
theorem Zs.upd (h:Zs k (k+i) r i d H left l) (hi:i < k) (hk:k <= 100) (hr:r <= 100) (hd:d.length <= 200) {x:(Int × Int) × Tup} (hx:l[i]?=some x) :
  ∃ p q H1 left1 H2 l',Z12 H left ⟨x.2.row,r+2,0,-1,-1,d⟩=((p,q,0),H1,left1)/\Z1l H1 x.1.1 x.1.2 (r+2) p q=(0,H2)/\(∃ v,ZM H2 p q=some v)/\Zs k (k+(i+1)) r (i+1) d H2 left1 l'/\(∀ m,i < m->m < k->l'[m]?=l[m]?):=by
 have hl:=h.left
 have hV:=h.vers _ x hx
 obtain ⟨p,q,H1,left1,h1,h2,_,h4⟩:=ZaC (left:=left) h.inv.fit (Z7m (r:=x.2.row) (x:=r+2) (d:=d) (by rw [hV.row,Nat.mod_eq_of_lt hi];omega) (by omega) hd) (h.room (by omega) hd)
 have hiv:=h.inv.ins h2
 have hgx:ZM H1 x.1.1 x.1.2=some x.2:=hiv.got x (List.mem_append_left _ (List.mem_of_getElem? hx))
 have hpos:=h2.pos
 have hp1:ZM H1 p q=some ⟨x.2.row,r+2,0,-1,-1,d⟩:=by rw [h2.get,if_pos ⟨rfl,rfl⟩]
 have hfar:Z0O p q=false:=by
  have h0:¬ (p < 0 ∨ (H1.length:Int) <= p):=fun x=>by rw [Z13 x] at hp1;cases hp1
  obtain ⟨k',rfl⟩:=Int.eq_ofNat_of_zero_le (show 0 <= p by omega)
  obtain ⟨T,hT⟩:∃ T,H1[k']?=some T:=⟨_,zg (by omega)⟩
  rw [Z1f q hT] at hp1
  obtain ⟨s0,hs⟩:=Z2Y hp1
  have hl:=(zi.1 hs).1
  have hf:=h2.fit T (List.mem_of_getElem? hT)
  have:=h2.len
  unfold Fits at hf
  unfold Z0O
  rw [if_neg (by omega),decide_eq_false_iff_not]
  omega
 obtain ⟨H2,h5,h6⟩:=ZdJ (x:=r+2) h2.fit hgx (by omega) hfar
 have hx1:(l ++ [((p,q),(⟨x.2.row,r+2,0,-1,-1,d⟩:Tup))])[i]?=some (x.1,x.2):=by
  rw [List.getElem?_append_left (by rw [h.cnt];omega)]
  exact hx
 have hsh:Z3i H2:=by
  have:=Zd1 (pg:=x.1.1) (sl:=x.1.2) (x:=r+2) (p:=p) (q:=q) (Z9H h.inv.fit h.short h1)
  rw [h5] at this
  exact this
 refine ⟨p,q,H1,left1,H2,_,h1,h5,(by rw [h6.get];split;exact ⟨_,rfl⟩;exact ⟨_,hp1⟩),⟨hiv.stamp hx1 h6,by simp [h.cnt];omega,by rw [h6.len];omega,hsh,fun m z hz=>?_⟩,fun m hm hm2=>?_⟩
 ·rw [List.getElem?_set] at hz
  by_cases e:i=m
  ·subst e
   rw [if_pos rfl,if_pos (by simp [h.cnt];omega)] at hz
   injection hz with hz
   subst hz
   refine ⟨hV.row,hV.xmin,?_,hV.data⟩
   show r+2=_
   rw [if_pos (by omega)]
  ·rw [if_neg e] at hz
   rcases Nat.lt_trichotomy m (k+i) with y | y | y
   ·rw [List.getElem?_append_left (by rw [h.cnt];exact y)] at hz
    obtain ⟨a,b,c,d⟩:=h.vers m z hz
    refine ⟨a,b,?_,d⟩
    rw [c]
    by_cases e2:m < i
    ·rw [if_pos e2,if_pos (by omega)]
    ·rw [if_neg e2,if_neg (by omega)]
   ·subst y
    rw [List.getElem?_append_right (by rw [h.cnt];exact Nat.le_refl _),h.cnt] at hz
    simp at hz
    subst hz
    refine ⟨?_,by rw [if_neg (by omega)],by rw [if_neg (by omega)],rfl⟩
    show x.2.row=_
    rw [hV.row,Nat.add_mod_left]
   ·rw [List.getElem?_eq_none (by rw [List.length_append,h.cnt];show k+i+1 <= m;omega)] at hz
    cases hz
 ·rw [List.getElem?_set,if_neg (by omega),List.getElem?_append_left (by rw [h.cnt];omega)]
theorem ZdZ {L:List Nat} {hz:Nat} (h:Zs k (k+k) r k d H left l) (hL:∀ x,1 <= x->x <= r+2->stateL L x=2) (hhz:r+2 < hz) {m:Nat} {x:(Int × Int) × Tup} (hx:l[m]?=some x):Z0h L x.2.xmin x.2.xmax hz=decide (m < k):=by
 have hV:=h.vers m x hx
 unfold Z0h
 have h1:stateL L x.2.xmin=2:=by
  rw [hV.xmin]
  split
  ·exact hL _ (by omega) (by omega)
  ·exact hL _ (by omega) (by omega)
 rw [h1,hV.xmax]
 by_cases hm:m < k
 ·rw [if_pos hm,hL _ (by omega) (by omega),decide_eq_true (show r+2 ≠ 0 by omega),decide_eq_true hhz,decide_eq_true hm]
  rfl
 ·rw [if_neg hm,decide_eq_false hm]
  simp
theorem Zs.swept {L:List Nat} {hz:Nat} {H':List (List (Option Tup))} {D:List (Int × Int)} (h:Zs k (k+k) r k d H left l) (hL:∀ x,1 <= x->x <= r+2->stateL L x=2) (hhz:r+2 < hz) (hs:Zg4 L hz H H' D) (hD:D=(Zx H H.length).filter (ZN L H hz)) (hsh:Z3i H'):Zs k k (r+1) 0 d H' left (l.drop k):=by
 have hdead:∀ m (x:(Int × Int) × Tup),l[m]?=some x->Z0h L x.2.xmin x.2.xmax hz=decide (m < k):=fun m x hx=>ZdZ h hL hhz hx
 have hat:∀ x ∈ l,ZN L H hz x.1=Z0h L x.2.xmin x.2.xmax hz:=fun x hx=>by
  unfold ZN
  rw [h.inv.got x hx]
 refine ⟨⟨?_,?_,?_,hs.fit⟩,by rw [List.length_drop,h.cnt];omega,by rw [hs.len];exact h.left,hsh,?_⟩
 ·have hu:=hs.used
  have e3:D.filter (ZN L H hz)=D:=by
   rw [List.filter_eq_self]
   intro a ha
   rw [hD] at ha
   exact (List.mem_filter.1 ha).2
  rw [e3,h.inv.used,h.cnt,hD,h.inv.dead] at hu
  have e5:l.filter (fun x=>Z0h L x.2.xmin x.2.xmax hz)=l.take k:=by
   conv=>lhs;rw [<- List.take_append_drop k l]
   rw [List.filter_append,List.filter_eq_self.2 (fun x hx=>?_),List.filter_eq_nil_iff.2 (fun x hx=>?_),List.append_nil]
   ·obtain ⟨m,hm,hx⟩:=Z89 hx
    rw [hdead m x hx,decide_eq_false (by omega)]
    decide
   ·obtain ⟨m,hm,hx⟩:=ZdX hx
    rw [hdead m x hx,decide_eq_true hm]
  rw [e5,List.length_take,h.cnt] at hu
  rw [List.length_drop,h.cnt]
  omega
 ·have:(l.drop k).map (·.1)=(l.map (·.1)).drop k:=by rw [List.map_drop]
  rw [this]
  exact h.inv.nd.sublist (List.drop_sublist _ _)
 ·intro x hx
  obtain ⟨m,hm,hx2⟩:=Z89 hx
  have hxl:=List.mem_of_mem_drop hx
  rw [hs.get,if_neg (fun y=>?_)]
  ·exact h.inv.got x hxl
  ·have y2:=y.2
   have:ZN L H hz x.1=true:=y2
   rw [hat x hxl,hdead m x hx2,decide_eq_false (by omega)] at this
   cases this
 ·intro m x hx
  rw [List.getElem?_drop] at hx
  have hV:=h.vers _ x hx
  have hlt:=(zi.1 hx).1
  rw [h.cnt] at hlt
  refine ⟨by rw [hV.row,Nat.add_mod_left],?_,?_,hV.data⟩
  ·rw [hV.xmin,if_neg (by omega),if_pos (by omega)]
  ·rw [hV.xmax,if_neg (by omega),if_neg (by omega)]
theorem Zs.none_dead {L:List Nat} {hz:Nat} (h:Zs k k r 0 d H left l) (hL:stateL L (r+1)=2):(Zx H H.length).filter (ZN L H hz)=[]:=by
 rw [List.filter_eq_nil_iff]
 intro a ha hd
 obtain ⟨v,hv⟩:=Z4e ha
 obtain ⟨m,hm,_,hV⟩:=h.at_ hv
 unfold ZN at hd
 rw [hv] at hd
 have hd2:Z0h L v.xmin v.xmax hz=true:=hd
 unfold Z0h at hd2
 rw [hV.xmin,hV.xmax,if_pos hm,if_neg (by omega),hL] at hd2
 simp at hd2
theorem Zs.nums (h:Zs k c r i d H left l) (hr:r <= 1000):Z2k H:=fun pg sl v hv=>by
 obtain ⟨m,hm,_,hV⟩:=h.at_ hv
 unfold U64
 rw [hV.xmin,hV.xmax]
 split <;> split <;> omega
end
def Zjv (s:St) (t:TE) (name:ByteArray) (own:Nat) (es:List Ent):St:={ s with T:=[t],I:=[⟨s.blast+1,name,t.id,0,own,0⟩],blast:=s.blast+1,ts:=upd s.ts (s.blast+1) (some es) }
def Z7n (w:World) (sb:Nat) (o:Nat->Nat) (s:St) (t:TE) (H:List (List (Option Tup))) (name:ByteArray) (own:Nat) (e:Ending) (w':World):Prop:=∃ hz0:Nat,e=.returned (.int .i64 0)/\Z0Z w sb o (Zjv s t name own (ZcW H s.L hz0 (Zx H H.length))) w'
structure Z7M (o:Nat->Nat) (wb W:World) (bb xi last:Nat) (t:TE) (x:IE):Prop where
 only:Z0 (fun k=>o k=3) wb W
 book:ZV W (fun k=>o k=3 ∨ wb.heap.size <= k) bb [t] [x] last
 box:W.heap[xi]?=some (.cells #[.int .u64 (x.id:Int),.string x.name,.int .u64 (x.table:Int),.int .i64 (x.column:Int),.int .u64 (x.xmin:Int),.int .u64 (x.xmax:Int)] 84 (0,0))
 new:wb.heap.size <= xi
theorem Z6t {o:Nat->Nat} {wb w1:World} {bb xi last:Nat} {t:TE} {x:IE} {c0 c1 c2 c3 c4 c5 v0 v1 v2 v3 v4 v5:Value} (hv:Z5d x=[v0,v1,v2,v3,v4,v5]) (ho:Z0 (fun k=>o k=3) wb w1) (hb:ZV w1 (fun k=>(o k=3 ∨ wb.heap.size <= k)/\k ≠ xi) bb [t] [x] last) (hx:w1.heap[xi]?=some (.cells #[c0,c1,c2,c3,c4,c5] 84 (0,0))) (hn:wb.heap.size <= xi) :
  Z7M o wb (sixSet w1 xi v0 v1 v2 v3 v4 v5) bb xi last t x:=by
 simp only [Z5d,List.cons.injEq,and_true] at hv
 obtain ⟨rfl,rfl,rfl,rfl,rfl,rfl⟩:=hv
 have h1:=Z0L w1 xi (.int .u64 (x.id:Int)) (.string x.name) (.int .u64 (x.table:Int)) (.int .i64 (x.column:Int)) (.int .u64 (x.xmin:Int)) (.int .u64 (x.xmax:Int))
 exact ⟨ho.trans' h1 (fun k hk e=>by omega),(hb.kept h1 (fun k hk e=>hk.2 e)).mono (fun k hk=>hk.1),Z1a hx _ _ _ _ _ _,hn⟩
theorem Zkc {goal:Prop} {o:Nat->Nat} {wb:World} {bb last:Nat} {t:TE} {x:IE} {G:Nat->World->Prop} (main:(∀ xi W,Z7M o wb W bb xi last t x->G xi W)->goal) (key:∀ xi W,Z7M o wb W bb xi last t x->G xi W):goal:=main key
structure Zah (wb W:World) (nb tq B1:Nat) (A:Option Addr) (c:Nat) (t:TE):Prop where
 quiet:Quiet wb W
 tree:Z0x W (fun k=>wb.heap.size <= k/\k < B1/\k ≠ tq) nb []
 box:W.heap[tq]?=some (.cells #[.int .u64 (t.id:Int),.string t.name,.slice A t.cols.length c,.int .u64 (t.xmin:Int),.int .u64 (t.xmax:Int)] 90 (0,0))
 new:wb.heap.size <= tq
 cols:Rd W (fun k=>B1 <= k/\k ≠ tq) 2 A t.cols.length (ZZ t.cols)/\t.cols.length <= c/\c <= maxLen
 big:wb.heap.size <= B1/\B1 <= W.heap.size
theorem Z45 {wb w1:World} {nb tq B1 c:Nat} {A:Option Addr} {t:TE} {D S:Nat->Prop} {c0 c1 c2 c3 c4:Value} (hq:Quiet wb w1) (ht:Z0x w1 D nb []) (hd:∀ k,D k->wb.heap.size <= k/\k < B1/\k ≠ tq) (hx:w1.heap[tq]?=some (.cells #[c0,c1,c2,c3,c4] 90 (0,0))) (hn:wb.heap.size <= tq)
  (hr:Rd w1 S 2 A t.cols.length (ZZ t.cols)) (hs:∀ k,S k->B1 <= k/\k ≠ tq) (hc:t.cols.length <= c/\c <= maxLen) (hB:wb.heap.size <= B1/\B1 <= w1.heap.size) :
  Zah wb (fiveSet w1 tq (.int .u64 (t.id:Int)) (.string t.name) (.slice A t.cols.length c) (.int .u64 (t.xmin:Int)) (.int .u64 (t.xmax:Int))) nb tq B1 A c t:=by
 have h1:=Z1w w1 tq (.int .u64 (t.id:Int)) (.string t.name) (.slice A t.cols.length c) (.int .u64 (t.xmin:Int)) (.int .u64 (t.xmax:Int))
 exact ⟨hq.trans' h1 (fun k hk e=>by omega),(ht.mono (fun k a _=>hd k a)).kept h1 (fun k hk e=>hk.2.2 e),Z2i hx _ _ _ _ _,hn,⟨(hr.mono hs).kept h1 (fun k hk e=>hk.2 e),hc⟩,hB.1,Nat.le_trans hB.2 h1.size⟩
theorem Zkd {goal:Prop} {wb:World} {t:TE} {G:Nat->Nat->Nat->Option Addr->Nat->World->Prop} (main:(∀ nb tq B1 A c W,Zah wb W nb tq B1 A c t->G nb tq B1 A c W)->goal) (key:∀ nb tq B1 A c W,Zah wb W nb tq B1 A c t->G nb tq B1 A c W):goal:=main key
theorem Zjh {w w2 W1 wr w6:World} {sb lb bb pb mh mt ms nb xi own:Nat} {o:Nat->Nat} {s:St} {t:TE} {name:ByteArray} {es:List Ent} {fh ft fs:Nat->Option Value} (h:Zj w sb o s lb bb pb mh mt ms fh ft fs) (hq2:Quiet w w2) (hL:Z7M o w2 W1 bb xi (s.blast+1) t ⟨s.blast+1,name,t.id,0,own,0⟩)
  (ho:Z0 (fun k=>W1.heap.size <= k) W1 wr) (ht:Z0x wr (fun k=>W1.heap.size <= k) nb es) (ho6:Z0 (fun k=>k=mt) wr w6) (hm:Z0f w6 mt (upd ft (s.blast+1) (some (ptrV nb)))):Z0Z w sb o (Zjv s t name own es) w6:=by
 have h1:=(h.quietly hq2).setBook hL.only hL.book
 have hz2:=hq2.size
 have hz1:=hL.only.size
 have hzr:=ho.size
 have hmt:o mt=7:=h.tags.2.2.2.1
 have hml:=h.mT.lt
 have hor:=h1.kept ho (fun k x=>h1.big k x)
 have hn:=hor.newTree (B:=W1.heap.size) (id:=s.blast+1) (tb:=nb) (es:=es) h1.big hzr ho6 hm (ht.kept ho6 (fun k x e=>by omega))
 refine ⟨_,fun k hk=>?_,(((hq2.mono (T:=fun k=>o k ≠ 0) (fun _ _ x=>x.elim)).trans' hL.only (fun k _ x=>by omega)).trans' ho (fun k hk x=>by omega)).trans' ho6 (fun k _ x=>by rw [x,hmt];omega),_,_,_,_,_,_,_,_,_,hn⟩
 rw [Z0K (by omega),Z0K (by omega)]
theorem Ze0 {w:World} {sb x N:Nat} {o:Nat->Nat} {s:St} {y:ZA} {t:TE} {name of_ nm:ByteArray} {H:List (List (Option Tup))} (h:Zn w sb o s) (hx:U64 x) (hy:s.sn x=some y) (hT:s.T=[t]) (hI:s.I=[]) {kd:Nat} (hc:t.cols=[(nm,kd)]) (hf:Z1r s.L y of_ s.T=some 0) (hH:s.hs t.id=some H) (hid:U64 t.id)
  (hl:s.blast < 1000000) (hu:U64 y.own) (hnm:Z2M name) (hne:(t.name.toList == name.toList)=false) (hL:s.L.length < 1000000000) (hN:∀ x y,s.sn x=some y->x <= N) (hN2:N <= 2000000) (hp:∀ k,k <= H.length->(Zx H k).length <= 10000) (hemp:H.length=0) :
  Calls Tryz.prog 9 #[ptrV sb,.int .u64 (x:Int),.string name,.string of_,.string nm] w (Z7n w sb o s t H name y.own):=by
 have HRU:=zh (Z6l h hx)
 obtain ⟨lb,bb,pb,mh,mt,ms,fh,ft,fs,h⟩:=h
 have HH:=zh h
 obtain ⟨hb,hfh,hhp⟩:=h.heaps.2 t.id H hH
 have HHP:=zh hhp
 have HFH:=zh hfh
 have HHH:=zh hH
 have HCC:=zh hc
 have HID:=zh hid
 have HTI:=zh (And.intro hT hI)
 have HLU:=zh (And.intro hl hu)
 have HNM:=zh (And.intro hnm hne)
 have HNN:=zh (And.intro hL (And.intro hN hN2))
 have HPL:=zh hp
 have HEMP:=zh hemp
 have HFT:=zh hf
 have HBIG:Hid (∀ k,w.heap.size <= k->o k=0):=h.big
 have HTG:=zh h.tags
 unfold Z43 at HRU
 rw [hy] at HRU
 obtain ⟨Z8,Z6⟩:∃ Z8,Z7n w sb o s t H name y.own=Z8:=⟨_,rfl⟩
 rw [Z6]
 have Ze:=zh Z6
 clear h hx hT hI hc hf hH hid hl hu hnm hne hL hN hN2 hp hemp hfh hhp Z6
 go_enter Tryz.func9,Tryz.ntmps9
 go_wp2_with fail
 refine HRU.out.mono ?_
 rintro e w1 ⟨hq1,A,c,rfl,hs1⟩
 clear HRU
 have hq2:Quiet w (w1.alloc (.cells (snapCells y A c) 76)):=hq1.alloc _
 have hpb:=Z4 w1 (.cells (snapCells y A c) 76)
 have hs2:=hs1.kept ((Z0.refl (fun _=>False) w1).alloc (.cells (snapCells y A c) 76)) (fun _ _ x=>x)
 have hz1:=hq1.size
 obtain ⟨ps,hps⟩:∃ ps,w1.heap.size=ps:=⟨_,rfl⟩
 unfold Zm
 go_wp2_with fail
 rw [hps] at hpb hz1
 (try rw [hps])
 generalize w1.alloc (.cells (snapCells y A c) 76)=w2 at *
 have HQ2:=zh hq2
 have HPS:=zh (And.intro hpb hz1)
 have HSN:=zh hs2
 have HS4:Hid (∀ W,Z0 (fun k=>o k=3) w2 W->(fun w'=>w'.cell? ⟨sb,1,none⟩=some (ptrV bb)/\w'.cell? ⟨sb,0,none⟩=some (ptrV lb)/\w'.cell? ⟨ps,0,none⟩=some (.int .u64 (y.own:Int))/\w'.cell? ⟨ps,1,none⟩=some (.int .u64 (y.xmin:Int))/\w'.cell? ⟨ps,2,none⟩=some (.int .u64 (y.xmax:Int))/\w'.cell? ⟨ps,3,none⟩=some (.slice A y.run.length c)) W):=fun W ho=>by
  have tg:=HTG.out
  have c:=(HH.out.quietly HQ2.out).cells
  have hz:=HBIG.out ps HPS.out.2
  obtain ⟨s0,s1,s2,s3⟩:=Z07 (ho.get HPS.out.1 (fun x=>by omega))
  exact ⟨ho.cell c.2.1 (fun x=>by dsimp only at x;omega),ho.cell c.1 (fun x=>by dsimp only at x;omega),s0,s1,s2,s3⟩
 obtain ⟨nid,hnid⟩:∃ nid,s.blast+1=nid:=⟨_,rfl⟩
 have HNID:=zh hnid
 have HBI:Hid (∀ W,Quiet w2 W->Calls Tryz.prog 27 #[ptrV bb,ptrV lb,.agg #[.int .u64 (y.own:Int),.int .u64 (y.xmin:Int),.int .u64 (y.xmax:Int),.slice A y.run.length c],.string name,.string of_,.string nm] W (fun e w'=>e=.returned (.tuple #[.agg #[.int .u64 (nid:Int),.string name,.int .u64 (t.id:Int),.int .i64 0,.int .u64 (y.own:Int),.int .u64 0],.int .i64 0])/\Z0 (fun k=>o k=3) W w'/\ZV w' (fun k=>o k=3 ∨ W.heap.size <= k) bb [t] [⟨nid,name,t.id,0,y.own,0⟩] nid)):=fun W hq=>by
  subst hnid
  have h2:=(HH.out.quietly HQ2.out).quietly hq
  have hbk:=h2.book
  rw [HTI.out.1,HTI.out.2] at hbk
  have hf:=HFT.out
  rw [HTI.out.1] at hf
  exact ZfD hbk h2.log (HSN.out.kept hq (fun _ _ x=>x)) HLU.out.1 HCC.out hf HNM.out.1 HNM.out.2 HID.out HLU.out.2 (fun k hk=>by rcases Nat.lt_or_ge k W.heap.size with a | a;exact a;have:=h2.big k a;omega)
 clear hq1 hs1 hs2 hpb hz1 hq2 hps hy hnid
 apply Zkc (o:=o) (wb:=w2) (bb:=bb) (last:=nid) (t:=t) (x:=⟨nid,name,t.id,0,y.own,0⟩)
 case main =>
   intro KEY
   refine zH HS4 ((Z0.refl _ _).drew) (fun Z3=>?_)
   have q0:Quiet w2 w2.drew:=(Z0.refl _ _).drew
   generalize w2.drew=d0 at q0 Z3 ⊢
   refine zT 0 ?_
   refine zT 1 ?_
   refine zT 2 ?_
   refine zT 3 ?_
   refine zT 4 ?_
   refine zT 5 ?_
   refine zT 6 ?_
   refine zT 7 ?_
   refine zT 8 ?_
   refine zT 9 ?_
   refine zT 10 ?_
   refine zT 11 ?_
   refine wpAnyH_ready (rs:=[12,16]) (by kernel_rfl) (by simp) ?_
   refine zA ?_ ?_
   ·intro K hK
    go_simp
    go_at_call 27
    refine (HBI.out _ q0).mono ?_
    rintro e d2 ⟨rfl,ho2,hb2⟩
    have hO:=(q0.mono (T:=fun k=>o k=3) (fun _ _ x=>x.elim)).trans ho2
    have hzq:=q0.size
    have hbl:=hb2.lim
    dsimp only
    refine hK.out _ _ ?_ (fun Z3=>?_)
    ·exact HS4.out _ hO
    clear hK K
    (try simp only [Act.put,zPA,zPZ,zPS])
    refine zT 13 ?_
    refine zT 14 ?_
    refine zT 15 ?_
    refine zR 16 ?_
    intro K hK
    go_simp
    refine hK.out _ _ ?_ (fun Z3=>?_)
    ·exact HS4.out _ (hO.alloc _)
    clear hK K
    (try simp only [Act.put,zPA,zPZ,zPS])
    have hO3:=hO.alloc (.cells #[.int .u64 0,.string ⟨#[]⟩,.int .u64 0,.int .i64 0,.int .u64 0,.int .u64 0] 84)
    have hx1:=Z4 d2 (.cells #[.int .u64 0,.string ⟨#[]⟩,.int .u64 0,.int .i64 0,.int .u64 0,.int .u64 0] 84)
    have hnp:w2.heap.size <= d2.heap.size:=hO.size
    have hB:=(hbl.kept ((Z0.refl (fun _=>False) d2).alloc (.cells #[.int .u64 0,.string ⟨#[]⟩,.int .u64 0,.int .i64 0,.int .u64 0,.int .u64 0] 84)) (fun _ _ x=>x)).mono (G:=fun k=>(o k=3 ∨ w2.heap.size <= k)/\k ≠ d2.heap.size) (fun k hk=>⟨by rcases hk.1 with a | a;exact Or.inl a;exact Or.inr (by omega),by omega⟩)
    obtain ⟨xi,hxi⟩:∃ xi,d2.heap.size=xi:=⟨_,rfl⟩
    rw [hxi] at hx1 hnp hB ⊢
    generalize d2.alloc (.cells #[.int .u64 0,.string ⟨#[]⟩,.int .u64 0,.int .i64 0,.int .u64 0,.int .u64 0] 84)=d3 at *
    clear hxi hO
    have hO:=hO3
    obtain ⟨z0,z1,z2,z3,z4,z5⟩:=zC6 hx1
    have zf:=fun o=>Z7 hx1 o
    refine zR 17 ?_
    intro K hK
    go_simp
    refine hK.out _ _ ?_ (fun Z3=>?_)
    ·exact HS4.out _ (Z6t (x:=⟨nid,name,t.id,0,y.own,0⟩) (v0:=.int .u64 (nid:Int)) (v1:=.string name) (v2:=.int .u64 (t.id:Int)) (v3:=.int .i64 0) (v4:=.int .u64 (y.own:Int)) (v5:=.int .u64 0) rfl hO hB hx1 hnp).only
    clear hK K
    (try simp only [Act.put,zPA,zPZ,zPS])
    have HG:=Z6t (x:=⟨nid,name,t.id,0,y.own,0⟩) (v0:=.int .u64 (nid:Int)) (v1:=.string name) (v2:=.int .u64 (t.id:Int)) (v3:=.int .i64 0) (v4:=.int .u64 (y.own:Int)) (v5:=.int .u64 0) rfl hO hB hx1 hnp
    unfold sixSet at HG
    refine zT 18 ?_
    refine zD ?_
    generalize ((((((d3.setCell ⟨xi,0,none⟩ (.int .u64 (nid:Int))).setCell ⟨xi,1,none⟩ (.string name)).setCell ⟨xi,2,none⟩ (.int .u64 (t.id:Int))).setCell ⟨xi,3,none⟩ (.int .i64 0)).setCell ⟨xi,4,none⟩ (.int .u64 (y.own:Int))).setCell ⟨xi,5,none⟩ (.int .u64 0))=WF at HG ⊢
    exact KEY _ _ HG
   refine zA ?_ AllReadyH.nil
   intro K hK
   go_simp
   refine hK.out _ _ ?_ (fun Z3=>?_)
   ·exact HS4.out _ ((q0.alloc _).mono (fun _ _ x=>x.elim))
   clear hK K
   (try simp only [Act.put,zPA,zPZ,zPS])
   have q1:Quiet w2 (d0.alloc (.cells #[.int .u64 0,.string ⟨#[]⟩,.int .u64 0,.int .i64 0,.int .u64 0,.int .u64 0] 84)):=q0.alloc _
   have hb1:=Z4 d0 (.cells #[.int .u64 0,.string ⟨#[]⟩,.int .u64 0,.int .i64 0,.int .u64 0,.int .u64 0] 84)
   have hnp:w2.heap.size <= d0.heap.size:=q0.size
   obtain ⟨xi,hxi⟩:∃ xi,d0.heap.size=xi:=⟨_,rfl⟩
   rw [hxi] at hb1 hnp ⊢
   generalize d0.alloc (.cells #[.int .u64 0,.string ⟨#[]⟩,.int .u64 0,.int .i64 0,.int .u64 0,.int .u64 0] 84)=d1 at *
   clear hxi
   refine zR 12 ?_
   intro K hK
   go_simp
   go_at_call 27
   refine (HBI.out _ q1).mono ?_
   rintro e d2 ⟨rfl,ho2,hb2⟩
   have hO:=(q1.mono (T:=fun k=>o k=3) (fun _ _ x=>x.elim)).trans ho2
   have hzq:=q1.size
   have hox:=HBIG.out xi (Nat.le_trans HQ2.out.size hnp)
   have hx1:=ho2.get hb1 (fun x=>by omega)
   have hlx:=Z2 hb1
   have hB:=hb2.mono (G:=fun k=>(o k=3 ∨ w2.heap.size <= k)/\k ≠ xi) (fun k hk=>by rcases hk with a | a;exact ⟨Or.inl a,fun e=>by rw [e] at a;omega⟩;exact ⟨Or.inr (by omega),by omega⟩)
   dsimp only
   refine hK.out _ _ ?_ (fun Z3=>?_)
   ·exact HS4.out _ hO
   clear hK K
   (try simp only [Act.put,zPA,zPZ,zPS])
   obtain ⟨z0,z1,z2,z3,z4,z5⟩:=zC6 hx1
   have zf:=fun o=>Z7 hx1 o
   refine zT 13 ?_
   refine zT 14 ?_
   refine zT 15 ?_
   refine zR 17 ?_
   intro K hK
   go_simp
   refine hK.out _ _ ?_ (fun Z3=>?_)
   ·exact HS4.out _ (Z6t (x:=⟨nid,name,t.id,0,y.own,0⟩) (v0:=.int .u64 (nid:Int)) (v1:=.string name) (v2:=.int .u64 (t.id:Int)) (v3:=.int .i64 0) (v4:=.int .u64 (y.own:Int)) (v5:=.int .u64 0) rfl hO hB hx1 hnp).only
   clear hK K
   (try simp only [Act.put,zPA,zPZ,zPS])
   have HG:=Z6t (x:=⟨nid,name,t.id,0,y.own,0⟩) (v0:=.int .u64 (nid:Int)) (v1:=.string name) (v2:=.int .u64 (t.id:Int)) (v3:=.int .i64 0) (v4:=.int .u64 (y.own:Int)) (v5:=.int .u64 0) rfl hO hB hx1 hnp
   unfold sixSet at HG
   refine zT 18 ?_
   refine zD ?_
   generalize ((((((d2.setCell ⟨xi,0,none⟩ (.int .u64 (nid:Int))).setCell ⟨xi,1,none⟩ (.string name)).setCell ⟨xi,2,none⟩ (.int .u64 (t.id:Int))).setCell ⟨xi,3,none⟩ (.int .i64 0)).setCell ⟨xi,4,none⟩ (.int .u64 (y.own:Int))).setCell ⟨xi,5,none⟩ (.int .u64 0))=WF at HG ⊢
   exact KEY _ _ HG
 case key =>
  intro xi W1 HL0
  have HL:=zh HL0
  clear HL0 HS4 HBI
  have hst:=(HH.out.quietly HQ2.out).setBook HL.out.only HL.out.book
  obtain ⟨o1,ho1⟩:∃ o1,grow o w2.heap.size W1.heap.size 3=o1:=⟨_,rfl⟩
  rw [ho1] at hst
  have HST:=zh hst
  have HSA:Hid (Zn W1 sb o1 { s with T:=[t],I:=[⟨nid,name,t.id,0,y.own,0⟩],blast:=nid }):=⟨_,_,_,_,_,_,_,_,_,hst⟩
  have HBX:=zh HL.out.box
  clear hst ho1
  have HS7:Hid (∀ W,Quiet W1 W->(fun w'=>w'.cell? ⟨xi,2,none⟩=some (.int .u64 (t.id:Int))) W):=fun W hq=>by
   show W.cell? _=_
   rw [Z1 (hq.get HBX.out (fun x=>x))]
   rfl
  have HTBL:Hid (∀ W,Quiet W1 W->Calls Tryz.prog 29 #[ptrV sb,.int .u64 (t.id:Int)] W (Z8z W t)):=fun W hq=>ZdO (HSA.out.quietly hq) rfl
  go_wp2_with fail
  apply Zkd (wb:=W1) (t:=t)
  case main =>
    intro KEY
    refine zH HS7 ((Z0.refl _ _).drew) (fun Z3=>?_)
    have q0:Quiet W1 W1.drew:=(Z0.refl _ _).drew
    generalize W1.drew=d0 at q0 Z3 ⊢
    refine zT 1 ?_
    refine zT 2 ?_
    refine zT 3 ?_
    refine wpAnyH_ready (rs:=[0,5]) (by kernel_rfl) (by simp) ?_
    refine zA ?_ ?_
    ·intro K hK
     go_simp
     go_at_call 28
     refine (Zed _).mono ?_
     rintro e dN ⟨rfl,hqN,hN0,hN1⟩
     have qN:=q0.trans hqN
     have htl:=(Zcw hqN hN0 hN1).mono (D':=fun k=>d0.heap.size <= k/\k < dN.heap.size) (fun k a b=>⟨a,b⟩)
     have hzN:=hqN.size
     have hzn:=q0.size
     obtain ⟨nb,hnb⟩:∃ nb,d0.heap.size+1=nb:=⟨_,rfl⟩
     rw [hnb] at htl ⊢
     clear hqN hN0 hN1 hnb
     dsimp only
     refine hK.out _ _ ?_ (fun Z3=>?_)
     ·exact HS7.out _ qN
     clear hK K
     (try simp only [Act.put,zPA,zPZ,zPS])
     refine wpAnyH_ready (rs:=[4,5]) (by kernel_rfl) (by simp) ?_
     refine zA ?_ ?_
     ·intro K hK
      go_simp
      go_at_call 29
      refine (HTBL.out _ qN).mono ?_
      rintro e dT ⟨A2,c2,rfl,hqT,hrT,hcT⟩
      have qT:=qN.trans hqT
      have htl:=htl.kept hqT (fun _ _ x=>x)
      have hrl:=Z9A hrT
      have hzT:=hqT.size
      clear hqT hrT
      unfold Z0g
      dsimp only
      refine hK.out _ _ ?_ (fun Z3=>?_)
      ·exact HS7.out _ qT
      clear hK K
      (try simp only [Act.put,zPA,zPZ,zPS])
      refine zR 5 ?_
      intro K hK
      go_simp
      refine hK.out _ _ ?_ (fun Z3=>?_)
      ·exact HS7.out _ (qT.alloc _)
      clear hK K
      (try simp only [Act.put,zPA,zPZ,zPS])
      have qA:Quiet W1 (dT.alloc (.cells #[.int .u64 0,.string ⟨#[]⟩,.slice none 0 0,.int .u64 0,.int .u64 0] 90)):=qT.alloc _
      have hb1:=Z4 dT (.cells #[.int .u64 0,.string ⟨#[]⟩,.slice none 0 0,.int .u64 0,.int .u64 0] 90)
      have hnp:W1.heap.size <= dT.heap.size:=qT.size
      have htl:=htl.kept ((Z0.refl (fun _=>False) dT).alloc (.cells #[.int .u64 0,.string ⟨#[]⟩,.slice none 0 0,.int .u64 0,.int .u64 0] 90)) (fun _ _ x=>x)
      have hrl:=hrl.kept ((Z0.refl (fun _=>False) dT).alloc (.cells #[.int .u64 0,.string ⟨#[]⟩,.slice none 0 0,.int .u64 0,.int .u64 0] 90)) (fun _ _ x=>x)
      have hzA:=Z2 hb1
      obtain ⟨tq,htq⟩:∃ tq,dT.heap.size=tq:=⟨_,rfl⟩
      rw [htq] at hb1 hnp hzA ⊢
      generalize dT.alloc (.cells #[.int .u64 0,.string ⟨#[]⟩,.slice none 0 0,.int .u64 0,.int .u64 0] 90)=dA at *
      obtain ⟨z0,z1,z2,z3,z4⟩:=zC5 hb1
      have zf:=fun o=>Z7 hb1 o
      refine zT 6 ?_
      refine zR 7 ?_
      intro K hK
      go_simp
      refine hK.out _ _ ?_ (fun Z3=>?_)
      ·exact HS7.out _ (Z45 (B1:=dN.heap.size) (t:=t) qA htl (fun k hk=>by omega) hb1 hnp hrl (fun k hk=>by omega) hcT ⟨by omega,by omega⟩).quiet
      clear hK K
      (try simp only [Act.put,zPA,zPZ,zPS])
      have HG:=Z45 (B1:=dN.heap.size) (t:=t) qA htl (fun k hk=>by omega) hb1 hnp hrl (fun k hk=>by omega) hcT ⟨by omega,by omega⟩
      unfold fiveSet at HG
      refine zD ?_
      generalize (((((dA.setCell ⟨tq,0,none⟩ (.int .u64 (t.id:Int))).setCell ⟨tq,1,none⟩ (.string t.name)).setCell ⟨tq,2,none⟩ (.slice A2 t.cols.length c2)).setCell ⟨tq,3,none⟩ (.int .u64 (t.xmin:Int))).setCell ⟨tq,4,none⟩ (.int .u64 (t.xmax:Int)))=WF at HG ⊢
      generalize dN.heap.size=BN at HG
      exact KEY _ _ _ _ _ _ HG
     refine zA ?_ AllReadyH.nil
     intro K hK
     go_simp
     refine hK.out _ _ ?_ (fun Z3=>?_)
     ·exact HS7.out _ (qN.alloc _)
     clear hK K
     (try simp only [Act.put,zPA,zPZ,zPS])
     have qA:Quiet W1 (dN.alloc (.cells #[.int .u64 0,.string ⟨#[]⟩,.slice none 0 0,.int .u64 0,.int .u64 0] 90)):=qN.alloc _
     have hb1:=Z4 dN (.cells #[.int .u64 0,.string ⟨#[]⟩,.slice none 0 0,.int .u64 0,.int .u64 0] 90)
     have hnp:W1.heap.size <= dN.heap.size:=qN.size
     have htl:=htl.kept ((Z0.refl (fun _=>False) dN).alloc (.cells #[.int .u64 0,.string ⟨#[]⟩,.slice none 0 0,.int .u64 0,.int .u64 0] 90)) (fun _ _ x=>x)
     have hzA:=Z2 hb1
     obtain ⟨tq,htq⟩:∃ tq,dN.heap.size=tq:=⟨_,rfl⟩
     rw [htq] at hb1 hnp hzA ⊢
     generalize dN.alloc (.cells #[.int .u64 0,.string ⟨#[]⟩,.slice none 0 0,.int .u64 0,.int .u64 0] 90)=dA at *
     refine zR 4 ?_
     intro K hK
     go_simp
     go_at_call 29
     refine (HTBL.out _ qA).mono ?_
     rintro e dT ⟨A2,c2,rfl,hqT,hrT,hcT⟩
     have qT:=qA.trans hqT
     have htl:=htl.kept hqT (fun _ _ x=>x)
     have hrl:=Z9A hrT
     have hzT:=hqT.size
     have hb1:=hqT.get hb1 (fun x=>x)
     clear hqT hrT
     unfold Z0g
     dsimp only
     refine hK.out _ _ ?_ (fun Z3=>?_)
     ·exact HS7.out _ qT
     clear hK K
     (try simp only [Act.put,zPA,zPZ,zPS])
     obtain ⟨z0,z1,z2,z3,z4⟩:=zC5 hb1
     have zf:=fun o=>Z7 hb1 o
     refine zT 6 ?_
     refine zR 7 ?_
     intro K hK
     go_simp
     refine hK.out _ _ ?_ (fun Z3=>?_)
     ·exact HS7.out _ (Z45 (B1:=dN.heap.size) (t:=t) qT htl (fun k hk=>by omega) hb1 hnp hrl (fun k hk=>by omega) hcT ⟨by omega,by omega⟩).quiet
     clear hK K
     (try simp only [Act.put,zPA,zPZ,zPS])
     have HG:=Z45 (B1:=dN.heap.size) (t:=t) qT htl (fun k hk=>by omega) hb1 hnp hrl (fun k hk=>by omega) hcT ⟨by omega,by omega⟩
     unfold fiveSet at HG
     refine zD ?_
     generalize (((((dT.setCell ⟨tq,0,none⟩ (.int .u64 (t.id:Int))).setCell ⟨tq,1,none⟩ (.string t.name)).setCell ⟨tq,2,none⟩ (.slice A2 t.cols.length c2)).setCell ⟨tq,3,none⟩ (.int .u64 (t.xmin:Int))).setCell ⟨tq,4,none⟩ (.int .u64 (t.xmax:Int)))=WF at HG ⊢
     generalize dN.heap.size=BN at HG
     exact KEY _ _ _ _ _ _ HG
    refine zA ?_ AllReadyH.nil
    intro K hK
    go_simp
    refine hK.out _ _ ?_ (fun Z3=>?_)
    ·exact HS7.out _ (q0.alloc _)
    clear hK K
    (try simp only [Act.put,zPA,zPZ,zPS])
    have qA:Quiet W1 (d0.alloc (.cells #[.int .u64 0,.string ⟨#[]⟩,.slice none 0 0,.int .u64 0,.int .u64 0] 90)):=q0.alloc _
    have hb1:=Z4 d0 (.cells #[.int .u64 0,.string ⟨#[]⟩,.slice none 0 0,.int .u64 0,.int .u64 0] 90)
    have hnp:W1.heap.size <= d0.heap.size:=q0.size
    have hzA:=Z2 hb1
    obtain ⟨tq,htq⟩:∃ tq,d0.heap.size=tq:=⟨_,rfl⟩
    rw [htq] at hb1 hnp hzA ⊢
    generalize d0.alloc (.cells #[.int .u64 0,.string ⟨#[]⟩,.slice none 0 0,.int .u64 0,.int .u64 0] 90)=dA at *
    refine zR 0 ?_
    intro K hK
    go_simp
    go_at_call 28
    refine (Zed _).mono ?_
    rintro e dN ⟨rfl,hqN,hN0,hN1⟩
    have qN:=qA.trans hqN
    have htl:=(Zcw hqN hN0 hN1).mono (D':=fun k=>dA.heap.size <= k/\k < dN.heap.size) (fun k a b=>⟨a,b⟩)
    have hzN:=hqN.size
    have hzn:=qA.size
    obtain ⟨nb,hnb⟩:∃ nb,dA.heap.size+1=nb:=⟨_,rfl⟩
    rw [hnb] at htl ⊢
    have hb1:=hqN.get hb1 (fun x=>x)
    clear hqN hN0 hN1 hnb
    dsimp only
    refine hK.out _ _ ?_ (fun Z3=>?_)
    ·exact HS7.out _ qN
    clear hK K
    (try simp only [Act.put,zPA,zPZ,zPS])
    refine zR 4 ?_
    intro K hK
    go_simp
    go_at_call 29
    refine (HTBL.out _ qN).mono ?_
    rintro e dT ⟨A2,c2,rfl,hqT,hrT,hcT⟩
    have qT:=qN.trans hqT
    have htl:=htl.kept hqT (fun _ _ x=>x)
    have hrl:=Z9A hrT
    have hzT:=hqT.size
    have hb1:=hqT.get hb1 (fun x=>x)
    clear hqT hrT
    unfold Z0g
    dsimp only
    refine hK.out _ _ ?_ (fun Z3=>?_)
    ·exact HS7.out _ qT
    clear hK K
    (try simp only [Act.put,zPA,zPZ,zPS])
    obtain ⟨z0,z1,z2,z3,z4⟩:=zC5 hb1
    have zf:=fun o=>Z7 hb1 o
    refine zT 6 ?_
    refine zR 7 ?_
    intro K hK
    go_simp
    refine hK.out _ _ ?_ (fun Z3=>?_)
    ·exact HS7.out _ (Z45 (B1:=dN.heap.size) (t:=t) qT htl (fun k hk=>by omega) hb1 hnp hrl (fun k hk=>by omega) hcT ⟨by omega,by omega⟩).quiet
    clear hK K
    (try simp only [Act.put,zPA,zPZ,zPS])
    have HG:=Z45 (B1:=dN.heap.size) (t:=t) qT htl (fun k hk=>by omega) hb1 hnp hrl (fun k hk=>by omega) hcT ⟨by omega,by omega⟩
    unfold fiveSet at HG
    refine zD ?_
    generalize (((((dT.setCell ⟨tq,0,none⟩ (.int .u64 (t.id:Int))).setCell ⟨tq,1,none⟩ (.string t.name)).setCell ⟨tq,2,none⟩ (.slice A2 t.cols.length c2)).setCell ⟨tq,3,none⟩ (.int .u64 (t.xmin:Int))).setCell ⟨tq,4,none⟩ (.int .u64 (t.xmax:Int)))=WF at HG ⊢
    generalize dN.heap.size=BN at HG
    exact KEY _ _ _ _ _ _ HG
  case key =>
   intro nb tq B1 A2 c2 W HN0
   have HNL:=zh HN0
   clear HN0 HS7 HTBL
   have HHZ:Hid (Calls Tryz.prog 30 #[ptrV sb] W (Z5a W { s with T:=[t],I:=[⟨nid,name,t.id,0,y.own,0⟩],blast:=nid })):=Z3g (HSA.out.quietly HNL.out.quiet) HNN.out.1 HNN.out.2.1 HNN.out.2.2
   go_wp2_with fail
   refine HHZ.out.mono ?_
   rintro e W2 ⟨hz0,rfl,_,hqz⟩
   have HQZ:Hid (Quiet W1 W2):=HNL.out.quiet.trans hqz
   have HPLC:Hid (Calls Tryz.prog 31 #[ptrV sb,.int .u64 (t.id:Int)] W2 (Z1h W2 (Zx H H.length))):=Z7c (HSA.out.quietly HQZ.out) HID.out HHH.out (fun k hk=>by have:=HPL.out k hk;omega)
   have hx2:=HQZ.out.get HBX.out (fun x=>x)
   have xc2:W2.cell? ⟨xi,2,none⟩=some (.int .u64 (t.id:Int)):=by rw [Z1 hx2];rfl
   have lxi:=Z2 hx2
   clear hx2 HHZ
   go_wp2_with fail
   refine HPLC.out.mono ?_
   rintro e W3 ⟨vp,rfl,hqp,hnp,hrp⟩
   obtain ⟨A3,c3,rfl,hc3,hm3,hrd3⟩:=Za hrp
   have HQ3:Hid (Quiet W1 W3):=HQZ.out.trans hqp
   have HNQ:Hid (Quiet W W3):=hqz.trans hqp
   obtain ⟨pl,hpl⟩:∃ pl,Zx H H.length=pl:=⟨_,rfl⟩
   have HPN:Hid (∀ a ∈ pl,∃ v,ZM H a.1 a.2=some v):=by rw [<- hpl];exact fun a ha=>Z4e ha
   have HLEN:Hid (pl.length <= 10000):=by rw [<- hpl];exact HPL.out H.length (Nat.le_refl _)
   rw [hpl] at hrd3 hc3 ⊢
   have HPLE:=zh hpl
   obtain ⟨m,hm⟩:∃ m,pl.length=m:=⟨_,rfl⟩
   rw [hm] at HLEN hc3
   have HM:=zh hm
   have HRP:Hid (Rd W3 (fun k=>W2.heap.size <= k/\k < W3.heap.size) 2 A3 pl.length (ZU pl)):=(Z9A hrd3).mono (fun k hk=>⟨by rw [hpl] at hnp;exact hnp k hk.1,hk.2⟩)
   rw [hm]
   unfold maxLen at hm3
   obtain ⟨D0,hD0⟩:∃ D0:Nat->Prop,(fun k=>W1.heap.size <= k/\k < B1/\k ≠ tq)=D0:=⟨_,rfl⟩
   have HD0:Hid (∀ k,D0 k->W1.heap.size <= k/\k < B1/\k ≠ tq):=by rw [<- hD0];exact fun k hk=>hk
   have HT3:Hid (Z0x W3 (fun j=>D0 j ∨ W3.heap.size <= j) nb (ZcW H s.L hz0 (pl.take 0))):=by
    have h1:=HNL.out.tree.kept HNQ.out (fun _ _ x=>x)
    rw [hD0] at h1
    exact h1.mono (fun k a _=>Or.inl a)
   have HB3:Hid (W3.heap[tq]?=some (.cells #[.int .u64 (t.id:Int),.string t.name,.slice A2 t.cols.length c2,.int .u64 (t.xmin:Int),.int .u64 (t.xmax:Int)] 90 (0,0))/\W3.heap[xi]?=some (.cells #[.int .u64 (nid:Int),.string name,.int .u64 (t.id:Int),.int .i64 0,.int .u64 (y.own:Int),.int .u64 0] 84 (0,0))):=⟨HNQ.out.get HNL.out.box (fun x=>x),HQ3.out.get HBX.out (fun x=>x)⟩
   have HCL3:Hid (Rd W3 (fun k=>B1 <= k/\k ≠ tq) 2 A2 t.cols.length (ZZ t.cols)):=HNL.out.cols.1.kept HNQ.out (fun _ _ x=>x)
   have HZ:Hid (xi < W1.heap.size/\W1.heap.size <= tq/\tq < W3.heap.size/\W1.heap.size <= W3.heap.size/\B1 <= W2.heap.size/\W2.heap.size <= W3.heap.size):=⟨Z2 HBX.out,HNL.out.new,Z2 HB3.out.1,HQ3.out.size,Nat.le_trans HNL.out.big.2 hqz.size,hqp.size⟩
   clear hqz hqp hnp hrp hrd3 hpl hm HPLC xc2 lxi hD0
   go_wp2_with fail
   go_loopw [61,19,20,21] (fun i _ _ _ wr=>∃ k:Nat,k <= m/\i=.int .i64 (k:Int)/\Z0 D0 W3 wr/\Z0x wr (fun j=>D0 j ∨ W3.heap.size <= j) nb (ZcW H s.L hz0 (pl.take k))) (fun i _ _ _ _=>m - (intOf i).toNat)
   case atStart=>exact ⟨0,Nat.zero_le _,rfl,Z0.refl _ _,HT3.out⟩
   case round =>
    obtain ⟨k,hk,rfl,ho,htr⟩:=hrel
    have HO:=zh ho
    have HTR:=zh htr
    clear ho htr
    have HOW:Hid (Z0 D0 W1 wr):=(HQ3.out.mono (fun _ _ x=>x.elim)).trans HO.out
    have HSR:Hid (Zj wr sb o1 { s with T:=[t],I:=[⟨nid,name,t.id,0,y.own,0⟩],blast:=nid } lb bb pb mh mt ms fh ft fs):=HST.out.kept HOW.out (fun k x=>HST.out.big k (HD0.out k x).1)
    by_cases hlt:k < m
    ·exfalso
     have h1:=HPLE.out
     rw [HEMP.out] at h1
     have h2:=HM.out
     rw [<- h1] at h2
     have h3:(0:Nat)=m:=h2
     omega
    ·obtain rfl:k=m:=by omega
     have HMT:Hid (Z0f wr mt ft):=HSR.out.mT
     have c4:=HSR.out.cells.2.2.2.2.1
     have x0:wr.cell? ⟨xi,0,none⟩=some (.int .u64 (nid:Int)):=by
      rw [Z1 (HO.out.get HB3.out.2 (fun x=>by have:=HD0.out _ x;have:=HZ.out;omega))]
      rfl
     have HX:Hid (U64 nid):=by have:=HNID.out;have:=HLU.out.1;unfold Hid U64;omega
     clear hlt hk
     go_wp2_with fail
     refine Z0M (S:=(fun w'=>w'.cell? ⟨sb,4,none⟩=some (.map (some mt))/\w'.cell? ⟨xi,0,none⟩=some (.int .u64 (nid:Int))/\Quiet wr w')) (by kernel_rfl) (by kernel_rfl) (by simp) (⟨c4,x0,(Z0.refl _ _).drew⟩) (fun Z3=>?_)
     simp only [List.pop_toArray,List.dropLast,List.size_toArray,List.length_cons,List.length_nil,Nat.reduceAdd,Nat.reduceSub]
     refine zT 0 ?_
     refine zT 1 ?_
     refine zT 2 ?_
     refine zT 3 ?_
     refine zT 4 ?_
     refine zT 5 ?_
     refine zT 6 ?_
     refine zD ?_
     refine Z21 (o:=?_) ?_ ?_
     rotate_left 1
     (focus (simp only [zGA,zGZ,zGS] <;> rfl))
     intro K hK
     refine ZbT (.tmp 97) (.tmp 99) (.tmp 100) rfl (HMT.out.kept Z3.2.2 (fun x=>x)) Tryz.underlying67 Tryz.underlying34 rfl rfl rfl HX.out ?_
     intro w6 hm6 ho6
     refine hK.out _ _ ?_
     clear hK K
     have hm7:Z0f w6 mt (upd ft nid (some (ptrV nb))):=hm6
     have Zc:Hid (Z8 (.returned (.int .i64 0)) w6):=by
      rw [<- Ze.out]
      have hn:=HNID.out
      subst hn
      have hb:=HTR.out
      rw [List.take_of_length_le (by have:=HM.out;omega),<- HPLE.out] at hb
      have hz:=HZ.out
      refine ⟨hz0,rfl,Zjh HH.out HQ2.out HL.out ((HOW.out.mono (fun k _ x=>(HD0.out k x).1)).trans' Z3.2.2 (fun _ _ x=>x.elim)) ((hb.kept Z3.2.2 (fun _ _ x=>x)).mono (fun j a _=>by rcases a with a | a;exact (HD0.out j a).1;omega)) ho6 hm7⟩
     clear hm6 hm7 ho6 Z3 HMT
     dsimp only [Act.put]
     go_wp2
     exact Zc.out
def Z0R (kd:Nat):TE:=⟨1,⟨#[116]⟩,[(⟨#[97]⟩,kd)],1,0⟩
def idxK:IE:=⟨2,⟨#[105]⟩,1,0,1,0⟩
theorem Z2l (kd:Nat):U64 (Z0R kd).id:=by
 show (1:Nat) < 18446744073709551616
 decide
def stT (kd:Nat) (L:List Nat) (H:List (List (Option Tup))) (left last:Nat) (es:List Ent) (sn:Nat->Option ZA):St:=⟨L,[Z0R kd],[idxK],2,left,upd (fun _=>none) 1 (some H),upd (fun _=>none) 2 (some es),sn,last⟩
def LR (n:Nat):List Nat:=List.replicate n 2
def Z1Y (n:Nat):ZA:=Z2I (LR n ++ [1]) (n+1)
def snN (n:Nat):Nat->Option ZA:=upd (fun _=>none) (n+1) (some (Z1Y n))
theorem Z37 (n:Nat):(LR n).length=n:=List.length_replicate
theorem Zke (n:Nat):(LR n ++ [1]).length=n+1:=by rw [List.length_append,Z37];rfl
theorem Z5i {n x:Nat} (h1:1 <= x) (h2:x <= n):stateL (LR n) x=2:=ZfP h1 h2
theorem Zb9 {n x:Nat} (h1:1 <= x) (h2:x <= n):stateL (LR n ++ [1]) x=2:=by
 unfold stateL
 rw [if_pos h1,List.getD_eq_getElem?_getD,List.getElem?_append_left (by rw [Z37];omega)]
 unfold LR
 rw [List.getElem?_replicate,if_pos (by omega)]
 rfl
theorem Zji (n:Nat):stateL (LR n ++ [1]) (n+1)=1:=by
 unfold stateL
 rw [if_pos (by omega),List.getD_eq_getElem?_getD,List.getElem?_append_right (by rw [Z37];omega),Z37,Nat.add_sub_cancel,Nat.sub_self]
 rfl
theorem ZhK (n:Nat):Z2Q (LR n ++ [1]) (n+1) 2=(0,LR (n+1)):=by
 unfold Z2Q
 rw [if_pos (Zji n)]
 have:(LR n ++ [1]).set (n+1 - 1) 2=LR (n+1):=by
  have e:n+1 - 1=(LR n).length:=by rw [Z37];omega
  rw [e,List.set_append_right _ _ (Nat.le_refl _),Nat.sub_self]
  show List.replicate n 2 ++ [2]=List.replicate (n+1) 2
  rw [List.replicate_succ']
 rw [this]
theorem Zjj (n:Nat):upd (snN n) (n+1) none=fun _=>none:=Zjf (f:=fun _=>none) (i:=n+1) rfl _
theorem ZhL (n:Nat):snN n (n+1)=some (Z1Y n):=by unfold snN;simp [upd]
theorem Z33 {n x:Nat} (h1:1 <= x) (h2:x <= n+1):Z1i (LR n ++ [1]) (Z1Y n) x=true:=by
 rcases Nat.lt_or_ge n x with y | y
 ·obtain rfl:x=n+1:=by omega
  unfold Z1i
  have:(Z1Y n).own=n+1:=rfl
  rw [this]
  simp
 ·exact ZhJ (Zb9 h1 y) (by rw [Zke];omega)
section
variable {kd n r k i left left' last N:Nat} {L:List Nat} {H H':List (List (Option Tup))} {es:List Ent} {sn:Nat->Option ZA} {ent:Ent}
theorem Zkf:Z4b (stT kd (LR n) H left last es (fun _=>none))=stT kd (LR n ++ [1]) H left last es (snN n):=by
 show stT kd (LR n ++ [1]) H left last es (upd (fun _=>none) ((LR n).length+1) (some (Z2I (LR n ++ [1]) ((LR n).length+1))))=_
 rw [Z37]
 rfl
theorem Zkg:ZbJ (stT kd (LR n ++ [1]) H left last es (snN n)) (n+1) 2=stT kd (LR (n+1)) H left last es (fun _=>none):=by
 show stT kd (Z2Q (LR n ++ [1]) (n+1) 2).2 H left last es (upd (snN n) (n+1) none)=_
 rw [ZhK,Zjj]
theorem Z5B (h:stateL L 1 ≠ 3):ZQ L 1 [idxK]=[idxK]:=by
 unfold ZQ
 have:(decide (idxK.table=1) && !decide (stateL L idxK.xmin=3))=true:=by
  show (decide (1=1) && !decide (stateL L 1=3))=true
  rw [decide_eq_false h]
  rfl
 rw [List.filter_cons,if_pos this]
 rfl
theorem Z64 (h:stateL L 1 ≠ 3):putSx (stT kd L H left last es sn) 1 H' left' ent=stT kd L H' left' last (Z2H ent es) sn:=by
 unfold putSx
 have e1:ZQ (stT kd L H left last es sn).L 1 (stT kd L H left last es sn).I=[idxK]:=Z5B h
 rw [e1]
 have e2:Z31 ent (stT kd L H left last es sn).ts [idxK]=upd (fun _=>none) 2 (some (Z2H ent es)):=by
  show upd (upd (fun _=>none) 2 (some es)) 2 (some (Z2H ent es))=_
  rw [Z44]
 rw [e2]
 simp only [stT,Z44]
theorem Z5j (h:stateL L 1 ≠ 3) (he:es.length <= 10000):Z7t (stT kd L H left last es sn) 1:=by
 have e1:ZQ (stT kd L H left last es sn).L 1 (stT kd L H left last es sn).I=[idxK]:=Z5B h
 refine ⟨by show 1 <= 1000;omega,fun e he'=>?_,by rw [e1];simp⟩
 rw [e1,List.mem_singleton] at he'
 subst he'
 exact ⟨rfl,(by unfold U64;decide),es,rfl,he⟩
theorem Z1I {y:ZA} (h:Z1i L y 1=true):Z1r L y ⟨#[116]⟩ [Z0R kd]=some 0:=by
 unfold Z1r
 rw [List.findIdx?_cons]
 have:Z4z L y ⟨#[116]⟩ (Z0R kd)=true:=by
  unfold Z4z Z1T
  show ((⟨#[116]⟩:ByteArray).toList == (⟨#[116]⟩:ByteArray).toList && (Z1i L y 1 && (decide ((0:Nat)=0) || !Z1i L y 0)))=true
  rw [h]
  simp
 rw [if_pos this]
structure Z1L (N:Nat) (es:List Ent):Prop where
 few:es.length <= N
 wf:∀ e ∈ es,Wf (e.pg,e.sl)
theorem Z1L.start:Z1L 0 []:=⟨Nat.le_refl _,fun e h=>by cases h⟩
theorem Z1L.prune (h:Z1L N es) (D:List (Int × Int)):Z1L N (Z11 D es):=⟨Nat.le_trans (Zhy D es) h.few,fun e he=>h.wf e (List.mem_filter.1 he).1⟩
theorem Z8G {p q:Int} (h:0 <= p/\p < 256/\0 <= q/\q < 512):Wf (p,q):=by
 unfold Wf
 exact ⟨Z7H (by show _ <= p/\p < _;omega),Z7H (by show _ <= q/\q < _;omega)⟩
theorem Z1L.put (h:Z1L N es) {key:List Nat} {p q:Int} (hp:Wf (p,q)):Z1L (N+1) (Z2H ⟨key,p,q⟩ es):=by
 refine ⟨Nat.le_trans (ZdA _ _) (Nat.succ_le_succ h.few),fun e he=>?_⟩
 rcases Z6k.1 he with rfl | x
 ·exact hp
 ·exact h.wf e x
structure Zg5 (kd:Nat) (x0:RV):Prop where
 ok:Z2A [kd] [x0]
 key:Z4M x0
 len:(Zq [x0]).length <= 200
end
section
variable {w0 w:World} {sb kd n r k c i left last N:Nat} {d:List Nat} {K:Nat->Prop} {H:List (List (Option Tup))} {es:List Ent} {x0:RV} {l:List ((Int × Int) × Tup)}
theorem Z7o (h:ZK w0 w sb K (Z5f (Z4b (st0 left)) ⟨#[116]⟩ ⟨#[97]⟩ kd 1)) (hs:Z2M ⟨#[105]⟩) (hne:((⟨#[116]⟩:ByteArray).toList == (⟨#[105]⟩:ByteArray).toList)=false) :
  Calls Tryz.prog 9 #[ptrV sb,.int .u64 1,.string ⟨#[105]⟩,.string ⟨#[116]⟩,.string ⟨#[97]⟩] w fun e w'=>e=.returned (.int .i64 0)/\Z0W w0 w sb K (stT kd (LR 0 ++ [1]) [] left 0 [] (snN 0)) w':=by
 obtain ⟨o,h1,h2,h3,h4⟩:=h
 refine (Ze0 (x:=1) (y:=Z1Y 0) (t:=Z0R kd) (nm:=⟨#[97]⟩) (kd:=kd) (N:=1) (H:=[]) h1 (by unfold U64;omega) rfl rfl rfl rfl (Z1I rfl) rfl (Z2l kd) (by show 1 < 1000000;omega) (by unfold U64;decide) hs hne (by show 1 < 1000000000;omega) (fun x y e=>?_) (by omega) (fun k hk=>by
   obtain rfl:k=0:=by simpa using hk
   exact Nat.zero_le _) rfl).mono ?_
 ·rcases Nat.lt_or_ge 1 x with a | a
  ·have e':upd (fun _=>none) 1 (some (Z2I [1] 1)) x=some y:=e
   rw [show upd (fun _=>none) 1 (some (Z2I [1] 1)) x=(none:Option ZA) by simp [upd];omega] at e'
   cases e'
  ·exact a
 ·rintro e w' ⟨hz,rfl,hst⟩
  exact ⟨rfl,Z2c h1 h2 h3 h4 hst⟩
def Zd2 (w0 w:World) (sb:Nat) (K:Nat->Prop) (kd n k c r i N last:Nat) (d:List Nat) (Q:List ((Int × Int) × Tup)->Prop) (e:Ending) (w':World):Prop :=
 e=.returned (.int .i64 0)/\∃ H left l es,Z0W w0 w sb K (stT kd (LR n ++ [1]) H left last es (snN n)) w'/\Zs k c r i d H left l/\Z1L N es/\Q l
theorem ZbF {Sv:Nat->Prop} {A3:Option Addr} {c3:Nat} (h:ZK w0 w sb K (stT kd (LR 0 ++ [1]) H left c es (snN 0))) (hh:Zs k c 0 0 (Zq [x0]) H left l) (hc:c < k) (hk:k <= 100) (hU:U8 w0) (hx:Zg5 kd x0) (he:Z1L c es) (hv:Rd w Sv 4 A3 1 (Z0P [x0])) (hc3:1 <= c3) (hm3:c3 <= maxLen) :
  Calls Tryz.prog 10 #[ptrV sb,.int .u64 1,.string ⟨#[116]⟩,.slice A3 1 c3] w (Zd2 w0 w sb K kd 0 k (c+1) 0 0 (c+1) (c+1) (Zq [x0]) (fun _=>True)):=by
 obtain ⟨p,q,H',left',l',h1,⟨v,hpq⟩,h2⟩:=hh.ins hc hk hx.len
 have hl:=hh.left
 have he':=he.few
 have hL:stateL (LR 0 ++ [1]) 1 ≠ 3:=by decide
 refine (Z82 (x:=1) (y:=Z1Y 0) (t:=Z0R kd) (i:=0) (name:=⟨#[116]⟩) (l:=[x0]) (x0:=x0) (H:=H) (H':=H') (left':=left') (p:=p) (q:=q) h (by unfold U64;omega) rfl (Z1I (Z33 (n:=0) (Nat.le_refl _) (Nat.le_refl _))) rfl hU rfl hx.key (by show 1 <= 8;omega) (Z2l kd) (Z5j hL (by omega)) rfl (by show H.length+left <= 256;omega) hx.ok hv hc3 hm3 (by show c+1 < _;omega) h1).mono ?_
 rintro e w' ⟨rfl,ht⟩
 have e1:({ putSx (stT kd (LR 0 ++ [1]) H left c es (snN 0)) (Z0R kd).id H' left' ⟨ZW x0,p,q⟩ with last:=c+1 }:St)=stT kd (LR 0 ++ [1]) H' left' (c+1) (Z2H ⟨ZW x0,p,q⟩ es) (snN 0):=by
  have:=Z64 (kd:=kd) (H:=H) (left:=left) (last:=c) (es:=es) (sn:=snN 0) (H':=H') (left':=left') (ent:=⟨ZW x0,p,q⟩) hL
  show ({ putSx (stT kd (LR 0 ++ [1]) H left c es (snN 0)) 1 H' left' ⟨ZW x0,p,q⟩ with last:=c+1 }:St)=_
  rw [this]
  rfl
 have ht':Z0W w0 w sb K ({ putSx (stT kd (LR 0 ++ [1]) H left c es (snN 0)) (Z0R kd).id H' left' ⟨ZW x0,p,q⟩ with last:=c+1 }:St) w':=ht
 rw [e1] at ht'
 exact ⟨rfl,H',left',l',_,ht',h2,he.put (Z8G (h2.place hk hpq)),trivial⟩
theorem Zd3 (h:ZK w0 w sb K (stT kd (LR n) H left last es (fun _=>none))) (hn:n <= 1000) :
  Calls Tryz.prog 7 #[ptrV sb] w fun e w'=>e=.returned (.tuple #[.int .u64 ((n+1:Nat):Int),.int .i64 0])/\Z0W w0 w sb K (stT kd (LR n ++ [1]) H left last es (snN n)) w':=by
 refine (Z7j h (by show (LR n).length < _;rw [Z37];omega)).mono ?_
 rintro e w' ⟨rfl,ht⟩
 rw [Zkf] at ht
 refine ⟨?_,ht⟩
 show Ending.returned (.tuple #[.int .u64 (((LR n).length:Int)+1),.int .i64 0])=_
 rw [Z37]
 rfl
theorem Z4D (h:ZK w0 w sb K (stT kd (LR n ++ [1]) H left last es (snN n))) (hn:n <= 1000) :
  Calls Tryz.prog 11 #[ptrV sb,.int .u64 ((n+1:Nat):Int)] w fun e w'=>e=.returned (.int .i64 0)/\Z0W w0 w sb K (stT kd (LR (n+1)) H left last es (fun _=>none)) w':=by
 refine (ZfF (x:=n+1) h (by unfold U64;omega)).mono ?_
 rintro e w' ⟨rfl,ht⟩
 rw [Zkg] at ht
 refine ⟨?_,ht⟩
 show Ending.returned (.int .i64 ((Z2Q (LR n ++ [1]) (n+1) 2).1:Int))=_
 rw [ZhK]
 rfl
theorem Zs.places_len (h:Zs k c r i d H left l):∀ j,j <= H.length->(Zx H j).length <= c:=fun j hj=>by
 rw [Z5Z H j hj]
 have h1:usedH (H.take j) <= usedH H:=by
  conv=>rhs;rw [<- List.take_append_drop j H]
  unfold usedH
  rw [List.map_append,List.sum_append]
  omega
 have:=h.inv.used
 have:=h.cnt
 omega
theorem ZfT {v:Tup} {m:Nat} (hV:Zjq k r 0 d m v) (hm:m < k):Z1T (LR (r+1) ++ [1]) (Z1Y (r+1)) v.xmin v.xmax=true:=by
 unfold Z1T
 rw [hV.xmax,if_neg (by omega),hV.xmin,if_pos hm,Z33 (by omega) (by omega)]
 rfl
def ZfU (w:World) (R:List RowR) (e:Ending) (w':World):Prop:=∃ v M,e=.returned (.tuple #[v,.int .i64 0])/\Z0V w w' v M/\M.map Z0G.told=R
theorem Ze1 (h:ZK w0 w sb K (stT kd (LR (r+1) ++ [1]) H left last es (snN (r+1)))) (hh:Zs k k r 0 (Zq [x0]) H left l) (hk:k <= 100) (hr:r <= 100) (hU:U8 w0) (hx:Zg5 kd x0) :
  Calls Tryz.prog 12 #[ptrV sb,.int .u64 ((r+2:Nat):Int),.string ⟨#[116]⟩] w (ZfU w (l.map ZbL)):=by
 refine (Z8A (x:=r+2) (y:=Z1Y (r+1)) (t:=Z0R kd) (i:=0) (name:=⟨#[116]⟩) (H:=H) h (by unfold U64;omega) (ZhL (r+1)) (Z1I (Z33 (Nat.le_refl _) (by omega))) rfl hU (by show 1 <= 8;omega) (Z2l kd) rfl (fun j hj=>by have:=hh.places_len j hj;omega) (fun pg sl v hv=>?_)).mono ?_
 ·obtain ⟨m,hm,_,hV⟩:=hh.at_ hv
  obtain ⟨a,b⟩:=hh.nums (by omega) pg sl v hv
  exact ⟨a,b,[x0],hx.ok,hV.data⟩
 ·rintro e w' ⟨v,M,rfl,hW,hp,hs⟩
  refine ⟨v,M,rfl,hW,ZfO (hp.trans ((hh.inv.seen _ _).trans ?_)) hs ?_⟩
  ·rw [Z6D (g:=ZbL) (fun x hx=>?_)]
   obtain ⟨m,hm⟩:=List.mem_iff_getElem?.1 hx
   have hlt:=(zi.1 hm).1
   rw [hh.cnt] at hlt
   unfold ZbM
   have e1:Z1T (stT kd (LR (r+1) ++ [1]) H left last es (snN (r+1))).L (Z1Y (r+1)) x.2.xmin x.2.xmax=true:=ZfT (hh.vers m x hm) hlt
   rw [e1]
   rfl
  ·rw [List.pairwise_iff_getElem]
   intro a b ha hb hab
   simp only [List.length_map,hh.cnt] at ha hb
   have la:a < l.length:=by rw [hh.cnt];omega
   have lb:b < l.length:=by rw [hh.cnt];omega
   have h1:=(hh.vers a l[a] (zg la)).row
   have h2:=(hh.vers b l[b] (zg lb)).row
   rw [List.getElem_map,List.getElem_map]
   show l[a].2.row < l[b].2.row
   rw [h1,h2,Nat.mod_eq_of_lt ha,Nat.mod_eq_of_lt hb]
   omega
theorem ZfV {Sv:Nat->Prop} {A3 Ar:Option Addr} {c3 nr cr:Nat} {x:(Int × Int) × Tup} (h:ZK w0 w sb K (stT kd (LR (r+1) ++ [1]) H left last es (snN (r+1)))) (hh:Zs k (k+i) r i (Zq [x0]) H left l) (hi:i < k) (hk:k <= 100) (hr:r <= 100) (hU:U8 w0) (hx:Zg5 kd x0) (he:Z1L N es) (hN:N <= 9000) (hxi:l[i]?=some x) (hv:Rd w Sv 4 A3 1 (Z0P [x0])) (hc3:1 <= c3) (hm3:c3 <= maxLen) :
  Calls Tryz.prog 13 #[ptrV sb,.int .u64 ((r+2:Nat):Int),.string ⟨#[116]⟩,.agg #[.int .u64 x.2.row,.int .i64 x.1.1,.int .i64 x.1.2,.slice Ar nr cr],.slice A3 1 c3] w (Zd2 w0 w sb K kd (r+1) k (k+(i+1)) r (i+1) (N+1) last (Zq [x0]) (fun l'=>∀ m,i < m->m < k->l'[m]?=l[m]?)):=by
 obtain ⟨p,q,H1,left1,H2,l',h1,h2,⟨v,hpq⟩,h3,h4⟩:=hh.upd hi hk hr hx.len hxi
 have hl:=hh.left
 have he':=he.few
 have hL:stateL (LR (r+1) ++ [1]) 1 ≠ 3:=by rw [Zb9 (Nat.le_refl _) (by omega)];decide
 have hV:=hh.vers i x hxi
 have hg:ZM H x.1.1 x.1.2=some x.2:=hh.inv.got x (List.mem_of_getElem? hxi)
 obtain ⟨u1,u2⟩:=hh.nums (by omega) _ _ _ hg
 have hf:freeS (LR (r+1) ++ [1]) (Z1Y (r+1)) x.2.xmin x.2.xmax=0:=by
  unfold freeS
  have e1:x.2.xmax=0:=by rw [hV.xmax,if_neg (by omega)]
  have e2:Z1T (LR (r+1) ++ [1]) (Z1Y (r+1)) x.2.xmin x.2.xmax=true:=by
   unfold Z1T
   rw [e1,hV.xmin,if_pos hi,Z33 (by omega) (by omega)]
   rfl
  rw [if_neg (fun y=>y.1 e1),e2,if_neg (by decide)]
 refine (Z5N (x:=r+2) (y:=Z1Y (r+1)) (t:=Z0R kd) (i:=0) (name:=⟨#[116]⟩) (l:=[x0]) (x0:=x0) (H:=H) (H1:=H1) (H2:=H2) (left':=left1) (p:=p) (q:=q) (z:=0) (code:=0) (v:=x.2) h (by unfold U64;omega) (ZhL (r+1)) (Z1I (Z33 (Nat.le_refl _) (by omega))) rfl hU rfl hx.key (by show 1 <= 8;omega) (Z2l kd) (Z5j hL (by omega)) rfl (by show H.length+left <= 256;omega) hx.ok hv hc3 hm3 hg u1 u2 hf (fun _=>h1) h2).mono ?_
 intro e w' hp
 rw [if_pos rfl] at hp
 obtain ⟨rfl,ht⟩:=hp
 have ht':Z0W w0 w sb K (putSx (stT kd (LR (r+1) ++ [1]) H left last es (snN (r+1))) 1 H2 left1 ⟨ZW x0,p,q⟩) w':=ht
 rw [Z64 hL] at ht'
 exact ⟨rfl,H2,left1,l',_,ht',h3,he.put (Z8G (h3.place hk hpq)),h4⟩
theorem Z8a {L:List Nat} {sn:Nat->Option ZA} (h:ZK w0 w sb K (stT kd L H left last es sn)) (hh:Zs k k r 0 d H left l) :
  Calls Tryz.prog 15 #[ptrV sb] w (Z2b w [k]):=by
 obtain ⟨o,h1,_⟩:=h
 have:=Z9D (t:=Z0R kd) (H:=H) h1 rfl (by show 1 <= 1000;omega) (Z2l kd) rfl
 rw [hh.inv.used,hh.cnt] at this
 exact this
end
theorem ZfW {w:World} {rb sb m most:Nat} {P:World->Prop} (h:Z19 rb sb P m w) (hm:most <= m) (hmo:most <= 10000) (hc0:w.cell? ⟨rb,0,none⟩=some (ptrV sb)) :
  Calls Tryz.prog 14 #[ptrV rb,.int .i64 (most:Int)] w (fun e w'=>(∃ z:Int,e=.returned (.int .i64 z))/\Z19 rb sb P (m - most) w'):=by
 obtain ⟨Z8,Z6⟩:∃ Z8:Ending->World->Prop,(fun e w'=>(∃ z:Int,e=.returned (.int .i64 z))/\Z19 rb sb P (m - most) w')=Z8:=⟨_,rfl⟩
 rw [Z6]
 have Ze:=zh Z6
 have HST:=zh h
 clear h Z6 hc0
 go_enter Tryz.func14,Tryz.ntmps14
 go_wp2
 go_loopw [5] (fun n wr=>∃ k:Nat,k <= most/\n=.int .i64 (k:Int)/\Z19 rb sb P (m - k) wr) (fun n _=>most+1 - (intOf n).toNat)
 case atStart=>exact ⟨0,Nat.zero_le _,rfl,HST.out⟩
 case round =>
  obtain ⟨k,hk,rfl,hs⟩:=hrel
  have hw1:IntKind.i64.wrap ((k:Int)+1)=((k+1:Nat):Int):=by rw [Zp _ (by omega) (by omega)];rfl
  have hc:wr.cell? ⟨rb,0,none⟩=some (ptrV sb):=by
   cases e:m - k with
   | zero=>rw [e] at hs;exact hs.1
   | succ d=>rw [e] at hs;exact hs.1
  have lb:=Zf hc
  dsimp only at lb
  rcases Nat.lt_or_ge k most with hlt | hge
  ·obtain ⟨d,hd⟩:∃ d,m - k=d+1:=⟨m - k - 1,by omega⟩
   rw [hd] at hs
   obtain ⟨_,hcall⟩:=hs
   have HC:=zh hcall
   have HD:=zh hd
   clear hcall hd HST
   go_wp2_with fail
   refine HC.out.mono ?_
   rintro e w2 ⟨⟨z,hz,a,b,c,rfl⟩,hp⟩
   have HP:=zh hp
   have hz2:(z == 4)=false:=by simpa using hz
   clear hp HC hc lb
   have hf:=Z5O z a b c w2
   go_wp2
   go_roundw
   case rel=>exact ⟨k+1,by omega,by first | rfl | go_num,by rw [show m - (k+1)=d by have:=HD.out;omega];exact HP.out⟩
   case measure=>simp [intOf];omega
  ·obtain rfl:k=most:=by omega
   have Zc:Hid (Z8 (.returned (.int .i64 (k:Int))) wr):=by
    rw [<- Ze.out]
    exact ⟨⟨_,rfl⟩,hs⟩
   clear hs HST
   go_wp2
   exact Zc.out
section
variable {w0:Z0b} {w:World} {sb rb ps hz N:Nat} {s:St} {t:TE} {H:List (List (Option Tup))} {P:World->Prop}
theorem Z9J {x:IE} {es:List Ent} (ho:Z39 s t H hz N) (hkI:ZQ s.L t.id s.I=[x]) (hxt:x.table=t.id) (hid:U64 x.id) (hts:s.ts x.id=some es) (hwp:∀ p ∈ Z0k s hz H H.length,Wf p) (hwe:∀ e ∈ es,Wf (e.pg,e.sl)) (hlp:(Z0k s hz H H.length).length <= 10000) (hle:es.length <= 10000) (h:Z0o w0 w sb rb ps s) (hp:ps < 1000000) :
  Z19 rb sb (fun w'=>Z0o w0 w' sb rb (ps+1) (Z4u s t.id hz x.id H es)) (H.length+2+1) w:=by
 refine Z86 ho (d:=2) (fun w' hj=>?_) h
 refine ⟨hj.cell0,(Z85 hj ho.most ho.tab ho.idx rfl hkI hxt hid hts hwp hwe hlp hle).mono ?_⟩
 rintro e w2 ⟨he,hj2⟩
 have hh:=ho.hor
 refine ⟨⟨2,by decide,he⟩,hj2.cell0,(Z7l (s:={ s with ts:=upd s.ts x.id (some (Z11 (Z0k s hz H H.length) es)) }) (hz:=hz) (N:=N) (H:=H) hj2 ho.most ho.num ho.heap ho.fit ho.nums (Z6r _ _ _ _) (fun a ha=>Z8E ha) ⟨hh.none_,hh.some_,hh.least,hh.num⟩ ho.log ho.few ho.few2).mono ?_⟩
 rintro e w3 ⟨he,hd⟩
 refine ⟨⟨3,by decide,he⟩,hd.cell0,(ZcV hd hp).mono ?_⟩
 rintro e w4 ⟨he,hi⟩
 exact ⟨he,hi⟩
end
theorem Z19.cell {rb sb m:Nat} {P:World->Prop} {w:World} (h:Z19 rb sb P m w):w.cell? ⟨rb,0,none⟩=some (ptrV sb):=by
 cases m with
 | zero=>exact h.1
 | succ m=>exact h.1
abbrev stQ (kd n:Nat) (H:List (List (Option Tup))) (left last:Nat) (es:List Ent):St:=stT kd (LR n) H left last es (fun _=>none)
section
variable {B:Z0b} {w:World} {sb rb ps kd n r k c i left last N:Nat} {d:List Nat} {H:List (List (Option Tup))} {es:List Ent} {l:List ((Int × Int) × Tup)}
theorem ZkF (hh:Zs k c r i d H left l) (hc:0 < c) (hk:k <= 100) (hr:r <= 1000) (hn:1 <= n) (hn2:n <= 1000):Z39 (stQ kd n H left last es) (Z0R kd) H (n+1) 0:=by
 have hl:=hh.left
 have hd:∀ z,Z0h (LR n) 1 0 z=false:=fun z=>by
  unfold Z0h
  rw [Z5i (Nat.le_refl _) hn]
  rfl
 refine ⟨rfl,by show 1 <= 1000;omega,⟨fun _=>?_,?_,?_,by unfold U64;omega⟩,⟨?_,?_⟩,?_,?_,by decide,rfl,Z2l kd,hh.inv.fit,hh.nums hr,?_,by omega⟩
 ·show n+1=(LR n).length+1
  rw [Z37]
 ·rintro ⟨x,y,e⟩
  cases e
 ·intro x y e
  cases e
 ·intro t ht
  obtain rfl:t=Z0R kd:=List.mem_singleton.1 ht
  exact hd _
 ·intro x hx
  obtain rfl:x=idxK:=List.mem_singleton.1 hx
  exact hd _
 ·show (LR n).length < _
  rw [Z37]
  omega
 ·intro x y e
  cases e
 ·rcases Nat.eq_zero_or_pos H.length with z | z
  ·have hu:=hh.inv.used
   rw [List.eq_nil_of_length_eq_zero z,hh.cnt] at hu
   have:usedH []=0:=rfl
   omega
  ·exact z
theorem Zem (D:List (Int × Int)) (hz:Nat) (hD:Z0k (stQ kd n H left last es) hz H H.length=D):Z4u (stQ kd n H left last es) (Z0R kd).id hz idxK.id H es=stQ kd n (Z0D (LR n) hz H D) left last (Z11 D es):=by
 unfold Z4u
 rw [hD]
 show ({ stQ kd n H left last es with hs:=upd (upd (fun _=>none) 1 (some H)) 1 (some _),ts:=upd (upd (fun _=>none) 2 (some es)) 2 (some _) }:St)=_
 rw [Z44,Z44]
 rfl
theorem ZkG (hh:Zs k c r i d H left l) (hk:k <= 100) (hz:Nat):∀ p ∈ Z0k (stQ kd n H left last es) hz H H.length,Wf p:=fun p hp=>by
 obtain ⟨v,hv⟩:=Z8E hp
 exact Z8G (hh.place hk hv)
theorem Zjw (hh:Zs k c r i d H left l) (hc:c <= 10000) (hz:Nat):(Z0k (stQ kd n H left last es) hz H H.length).length <= 10000:=by
 have h1:=hh.places_len H.length (Nat.le_refl _)
 unfold Z0k
 have h2:=List.length_filter_le (ZN (stQ kd n H left last es).L H hz) (Zx H H.length)
 omega
theorem Zkh (hh:Zs k (k+k) r k d H left l) (hk0:0 < k) (hk:k <= 100) (hr:r <= 100) (he:Z1L N es) (hN:N <= 9000) (h:Z0o B w sb rb ps (stQ kd (r+2) H left last es)) (hp:ps < 1000) :
  ∃ H' es',Zs k k (r+1) 0 d H' left (l.drop k)/\Z1L N es'/\Z19 rb sb (fun w'=>Z0o B w' sb rb (ps+1) (stQ kd (r+2) H' left last es')) (H.length+2+1) w:=by
 have ho:Z39 (stQ kd (r+2) H left last es) (Z0R kd) H (r+2+1) 0:=ZkF hh (by omega) hk (by omega) (by omega) (by omega)
 have hkI:ZQ (stQ kd (r+2) H left last es).L (Z0R kd).id (stQ kd (r+2) H left last es).I=[idxK]:=Z5B (L:=LR (r+2)) (by rw [Z5i (Nat.le_refl _) (by omega)];decide)
 have he':=he.few
 have h0:=Z9J ho hkI rfl (by unfold U64;decide) rfl (ZkG hh hk _) he.wf (Zjw hh (by omega) _) (by omega) h (by omega)
 rw [Zem _ _ rfl] at h0
 refine ⟨_,_,hh.swept (fun x a b=>Z5i a b) (Nat.lt_succ_self _) (Z9E (L:=LR (r+2)) (hz:=r+2+1) hh.inv.fit _ (Z6r _ _ _ _)) rfl (Z9I _ _ hh.short),he.prune _,h0⟩
theorem Zae (hh:Zs k k r 0 d H left l) (hk0:0 < k) (hk:k <= 100) (hr:r+1 <= n) (hn:n <= 1000) (he:Z1L N es) (hN:N <= 9000) (h:Z0o B w sb rb ps (stQ kd n H left last es)) (hp:ps < 1000) :
  Calls Tryz.prog 14 #[ptrV rb,.int .i64 1000] w (fun e w'=>(∃ z:Int,e=.returned (.int .i64 z))/\Z0o B w' sb rb (ps+1) (stQ kd n H left last es)):=by
 have hl:=hh.left
 have ho:Z39 (stQ kd n H left last es) (Z0R kd) H (n+1) 0:=ZkF hh hk0 hk (by omega) (by omega) (by omega)
 have hkI:ZQ (stQ kd n H left last es).L (Z0R kd).id (stQ kd n H left last es).I=[idxK]:=Z5B (L:=LR n) (by rw [Z5i (Nat.le_refl _) (by omega)];decide)
 have he':=he.few
 have h0:=Z9J ho hkI rfl (by unfold U64;decide) rfl (ZkG hh hk _) he.wf (Zjw hh (by omega) _) (by omega) h (by omega)
 have hD:Z0k (stQ kd n H left last es) (n+1) H H.length=[]:=hh.none_dead (Z5i (by omega) hr)
 rw [Zem _ _ hD] at h0
 have e2:Z11 [] es=es:=by
  unfold Z11
  rw [List.filter_eq_self]
  intro x _
  rfl
 have e3:Z0D (LR n) (n+1) H []=H:=rfl
 rw [e2,e3] at h0
 exact Z4O (most:=1000) h0 (by omega) (by omega)
def ZbN (B:Z0b) (w:World) (sb rb ps:Nat) (s:St):Prop:=(∃ m,m <= 300/\Z19 rb sb (fun w'=>Z0o B w' sb rb (ps+1) s) m w) ∨ Z0o B w sb rb (ps+1) s
theorem ZkH {s:St} {m most:Nat} (h:Z19 rb sb (fun w'=>Z0o B w' sb rb (ps+1) s) m w) (hm:m <= 300) (hmo:most <= 10) :
  Calls Tryz.prog 14 #[ptrV rb,.int .i64 (most:Int)] w (fun e w'=>(∃ z:Int,e=.returned (.int .i64 z))/\ZbN B w' sb rb ps s):=by
 rcases Nat.lt_or_ge m most with a | a
 ·exact (Z4O h a (by omega)).mono fun e w' ⟨x,y⟩=>⟨x,Or.inr y⟩
 ·exact (ZfW h a (by omega) h.cell).mono fun e w' ⟨x,y⟩=>⟨x,Or.inl ⟨m - most,by omega,y⟩⟩
theorem ZhM (h:ZbN B w sb rb ps (stQ kd n H left last es)) (hh:Zs k k r 0 d H left l) (hk0:0 < k) (hk:k <= 100) (hr:r+1 <= n) (hn:n <= 1000) (he:Z1L N es) (hN:N <= 9000) (hp:ps+1 < 1000) :
  Calls Tryz.prog 14 #[ptrV rb,.int .i64 1000] w (fun e w'=>(∃ z:Int,e=.returned (.int .i64 z))/\∃ ps',ps' <= ps+2/\Z0o B w' sb rb ps' (stQ kd n H left last es)):=by
 rcases h with ⟨m,hm,h⟩ | h
 ·exact (Z4O (most:=1000) h (by omega) (by omega)).mono fun e w' ⟨x,y⟩=>⟨x,ps+1,by omega,y⟩
 ·exact (Zae hh hk0 hk hr hn he hN h (by omega)).mono fun e w' ⟨x,y⟩=>⟨x,ps+2,by omega,y⟩
end
theorem Zba:∀ (M:List Z0G) (i:Nat) (m:Z0G),M[i]?=some m->(rowsV M)[i * 4]?=some (.int .u64 (m.id:Int))/\(rowsV M)[i * 4+1]?=some (.int .i64 m.pg)/\(rowsV M)[i * 4+2]?=some (.int .i64 m.sl)/\(rowsV M)[i * 4+3]?=some (.slice m.A m.l.length m.c)
 | [],i,m,h=>by simp at h
 | x :: M,0,m,h=>by
  simp at h
  subst h
  exact ⟨rfl,rfl,rfl,rfl⟩
 | x :: M,i+1,m,h=>by
  have ih:=Zba M i m (by simpa using h)
  have e:rowsV (x :: M)=.int .u64 (x.id:Int) :: .int .i64 x.pg :: .int .i64 x.sl :: .slice x.A x.l.length x.c :: rowsV M:=rfl
  rw [e,show (i+1) * 4=i * 4+1+1+1+1 by omega]
  exact ih
theorem Z0V.box {w wr:World} {v:Value} {M:List Z0G} (h:Z0V w wr v M) (h0:0 < M.length):∃ b c,v=.slice (some ⟨b,0,none⟩) M.length c/\w.heap.size <= b/\b < wr.heap.size/\∀ i x,M[i]?=some x->wr.cell? ⟨b,i * 4,none⟩=some (.int .u64 (x.id:Int))/\wr.cell? ⟨b,i * 4+1,none⟩=some (.int .i64 x.pg)/\wr.cell? ⟨b,i * 4+2,none⟩=some (.int .i64 x.sl)/\wr.cell? ⟨b,i * 4+3,none⟩=some (.slice x.A x.l.length x.c):=by
 rcases ZB h.own with ⟨_,e⟩ | ⟨b,c,rfl,_,_⟩
 ·omega
 obtain ⟨cb,hcb⟩:=Zh h.own (k:=b) rfl
 refine ⟨b,c,rfl,h.new b rfl,Z2 hcb,fun i x hx=>?_⟩
 obtain ⟨k0,k1,k2,k3⟩:=Zba M i x hx
 have hown:=h.own
 have c0:=hown.cells (by rfl) _ _ k0
 have c1:=hown.cells (by rfl) _ _ k1
 have c2:=hown.cells (by rfl) _ _ k2
 have c3:=hown.cells (by rfl) _ _ k3
 rw [Zl,Nat.zero_add] at c0 c1 c2 c3
 exact ⟨c0,c1,c2,c3⟩
structure Zdb (w wr:World) (v:Value) (id:Nat) (pg sl:Int) (b c:Nat) (A2:Option Addr) (n2 c2:Nat):Prop where
 form:v=.slice (some ⟨b,0,none⟩) 1 c
 quiet:Quiet w wr
 nb:w.heap.size <= b/\b < wr.heap.size
 c0:wr.cell? ⟨b,0,none⟩=some (.int .u64 (id:Int))
 c1:wr.cell? ⟨b,1,none⟩=some (.int .i64 pg)
 c2':wr.cell? ⟨b,2,none⟩=some (.int .i64 sl)
 c3:wr.cell? ⟨b,3,none⟩=some (.slice A2 n2 c2)
theorem Z0V.one {w wr:World} {v:Value} {M:List Z0G} {id:Nat} {pg sl:Int} {d:List Nat} (h:Z0V w wr v M) (hp:(M.map Z0G.told).Perm [(id,pg,sl,d)]):∃ b c A2 n2 c2,Zdb w wr v id pg sl b c A2 n2 c2:=by
 have hm:=List.perm_singleton.1 hp
 rcases M with _ | ⟨m,_ | ⟨m2,M⟩⟩
 ·cases hm
 rotate_left 1
 ·cases hm
 injection hm with hm _
 injection hm with e1 hm
 injection hm with e2 hm
 injection hm with e3 e4
 obtain ⟨b,c,rfl,n1,n2,hc⟩:=h.box (by show 0 < 1;decide)
 obtain ⟨k0,k1,k2,k3⟩:=hc 0 m rfl
 rw [e1] at k0
 rw [e2] at k1
 rw [e3] at k2
 exact ⟨b,c,m.A,m.l.length,m.c,rfl,h.quiet,⟨n1,n2⟩,k0,k1,k2,k3⟩
theorem Zdb.kept {w wr wn:World} {v:Value} {id b c n2 c2:Nat} {A2:Option Addr} {pg sl:Int} {S:Nat->Prop} (h:Zdb w wr v id pg sl b c A2 n2 c2) (ho:Z0 S wr wn) (h1:¬ S b) :
  wn.cell? ⟨b,0,none⟩=some (.int .u64 (id:Int))/\wn.cell? ⟨b,1,none⟩=some (.int .i64 pg)/\wn.cell? ⟨b,2,none⟩=some (.int .i64 sl)/\wn.cell? ⟨b,3,none⟩=some (.slice A2 n2 c2) :=
 ⟨ho.cell h.c0 h1,ho.cell h.c1 h1,ho.cell h.c2' h1,ho.cell h.c3 h1⟩
def ZfX (s:Option Tup):Prop:=∃ v,s=some v/\v.data.length=9
theorem ZfY {T:List (Option Tup)} (h:∀ s ∈ T,ZfX s):Z2B T=43 * T.length:=by
 induction T with
 | nil=>rfl
 | cons s T ih =>
  obtain ⟨v,rfl,hv⟩:=h s (List.mem_cons_self ..)
  have:=ih (fun s hs=>h s (List.mem_cons_of_mem _ hs))
  unfold Z2B at this ⊢
  rw [List.map_cons,List.sum_cons,this,List.length_cons]
  show 4+v.size+_=_
  unfold Tup.size
  omega
theorem Zbb {T:List (Option Tup)} (h:∀ s ∈ T,ZfX s):freeT T=T.length:=by
 unfold freeT
 rw [List.findIdx?_eq_none_iff.2 (fun s hs=>by obtain ⟨v,rfl,_⟩:=h s hs;rfl)]
 rfl
theorem ZhN {T:List (Option Tup)} (h:∀ s ∈ T,ZfX s) (hm:T.length <= 10):9 <= ZP T:=by
 unfold ZP
 rw [ZfY h,Zbb h,if_pos rfl]
 omega
theorem Zd4 {T:List (Option Tup)} {t:Tup} {left:Nat} (h:∀ s ∈ T,ZfX s) (hm:T.length <= 10) (ht:t.rightB=true) (hd:t.data.length=9):Z12 [T] left t=(((0:Int),(T.length:Int),0),[T ++ [some t]],left):=by
 unfold Z12
 rw [if_neg (by rw [ht];decide),hd]
 have:Z1p [T] 9=some 0:=by
  unfold Z1p
  rw [List.findIdx?_cons,if_pos (by simpa using ZhN h hm)]
 rw [this]
 show (((0:Int),((freeT T:Nat):Int),0),[Z1v T t],left)=_
 unfold Z1v
 rw [Zbb h,if_pos rfl]
theorem ZfZ {t:Tup} {left:Nat} (ht:t.rightB=true) (hl:left ≠ 0):Z12 [] left t=(((0:Int),0,0),[[some t]],left - 1):=by
 unfold Z12
 rw [if_neg (by rw [ht];decide)]
 show (if left=0 then _ else _)=_
 rw [if_neg hl]
 rfl
theorem Zg0 {v:Tup} {T:List (Option Tup)} {x:Nat} {p q:Int} (hx:x <= 1099511627776) (hf:Z0O p q=false):Z1l [some v :: T] 0 0 x p q=(0,[some (v.stamp x p q) :: T]):=by
 unfold Z1l
 rw [if_neg (by simp)]
 have:Z02 (some v :: T) 0 x p q=(0,some (v.stamp x p q) :: T):=by
  unfold Z02
  rw [if_neg (by rw [hf];simp;omega)]
  rfl
 show ((Z02 (some v :: T) 0 x p q).1,[(Z02 (some v :: T) 0 x p q).2])=_
 rw [this]
theorem Zki {ks:List Nat} {T:List (Option Tup)} (h:∀ s ∈ T,∃ v,s=some v/\U64 v.xmin/\U64 v.xmax/\∃ l,Z2A ks l/\v.data=Zq l):Z5X ks [T]:=by
 intro pg sl v hv
 unfold ZM at hv
 split at hv
 ·cases hv
 ·unfold ZY at hv
  split at hv
  ·cases hv
  ·rcases hp:pg.toNat with _ | k
   ·rw [hp] at hv
    have e:([T]:List (List (Option Tup))).getD 0 []=T:=rfl
    rw [e] at hv
    cases hx:T[sl.toNat]? with
    | none=>rw [hx] at hv;cases hv
    | some u =>
     rw [hx] at hv
     obtain ⟨v',rfl,h1,h2,h3⟩:=h u (List.mem_of_getElem? hx)
     have:v'=v:=by simpa using hv
     subst this
     exact ⟨h1,h2,h3⟩
   ·rw [hp] at hv
    have e:([T]:List (List (Option Tup))).getD (k+1) []=[]:=rfl
    rw [e] at hv
    simp at hv
theorem Z7p {T:List (Option Tup)} (h:T.length <= 1000000):∀ k,k <= [T].length->(Zx [T] k).length <= 1000000:=by
 intro k hk
 have hl:∀ (p:Int) (m:Nat),(Zk p T m).length <= m:=fun p m=>by
  unfold Zk
  have:=List.length_filterMap_le (fun s:Nat=>if ((T[s]?).join).isSome then some (p,(s:Int)) else none) (List.range m)
  simpa using this
 rcases k with _ | _ | k
 ·exact Nat.zero_le _
 ·show ([] ++ Zk ((0:Nat):Int) T T.length).length <= 1000000
  rw [List.nil_append]
  exact Nat.le_trans (hl _ _) h
 ·simp at hk
theorem Zen:Z2M ⟨#[116]⟩:=⟨by decide,by decide,fun i h=>by
  obtain rfl:i=0:=by have:i < 1:=h;omega
  decide +revert⟩
theorem Zeo:Z2M ⟨#[97]⟩:=⟨by decide,by decide,fun i h=>by
  obtain rfl:i=0:=by have:i < 1:=h;omega
  decide +revert⟩
theorem Zep:Z2M ⟨#[105]⟩:=⟨by decide,by decide,fun i h=>by
  obtain rfl:i=0:=by have:i < 1:=h;omega
  decide +revert⟩
theorem Zeq:((⟨#[116]⟩:ByteArray).toList == (⟨#[105]⟩:ByteArray).toList)=false:=by
 rw [Lib.toList_data,Lib.toList_data]
 decide
def Z1x (n:Int):RV:=⟨1,n,⟨#[]⟩,false⟩
theorem Z65 (n:Int) (h:0 <= n/\n < 256):Z2A [1] [Z1x n]:=by
 refine ⟨rfl,fun v hv=>?_⟩
 rw [List.mem_singleton] at hv
 subst hv
 exact ⟨by show _ <= n;omega,by show n <= _;omega⟩
theorem Z8H (n:Int) (h:0 <= n/\n < 256):Z4M (Z1x n):=⟨rfl,⟨by show _ <= n;omega,by show n <= _;omega⟩,Or.inr ⟨rfl,h.1,h.2⟩⟩
end Go.Proofs.YtobhgnjblniphaaGreatDoor
