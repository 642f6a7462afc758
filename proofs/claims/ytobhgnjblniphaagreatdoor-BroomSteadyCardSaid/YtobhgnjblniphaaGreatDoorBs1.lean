/- Plain facts on worlds, blocks and frames that all walks of this seat share. A region that draws its order and whose last operation waits for all others: the others first, then the last one. The contracts on slices of bytes: bytes.Clone, and the references' Copy, Cut, Same. The log of transactions as plain lists: four states in a byte; those that run. Snapshots as plain data: what one sees. Two bits of a byte, set and read: every case by the kernel. The log of transactions in memory: New, Next, State, Begin, Commit, Abort, All. No condition. -/
import Derived.Test.YtobhgnjblniphaaGreatDoorProg
import Derived.WalkKit
import Derived.WalkSpells
import Derived.WalkLawsBesides
import Derived.Lib.Hide
import Derived.Lib.MinMax
import Derived.OwnWalk
import Derived.Laws.AppendOwnNone
import Derived.Maps.AppendAt
import Derived.RegionTactic
import Derived.Deep.RegionHeld3
import Derived.BigRegion
import Derived.BigQuiet
import Derived.Deep.QuietTactic
import Derived.Deep.LoopGhost
import Derived.Deep.RegionWith
import Derived.Deep.DeepCutAuto
import Derived.Outline
import Derived.Laws.CopyRow
import Derived.Lib.SliceRun
import Derived.Laws.Externs
import Derived.Laws.IdiomStrings
import Derived.Lib.BufferRead
import Derived.Lib.Strings
import Derived.Maps.OwnOps
import Derived.Maps.Ext
import Derived.Maps.Range
import Derived.Maps.OwnSet
import Derived.DeepKeys4
import Derived.Laws.BitsAllLaws
import Derived.Lib.SlBytesConst
import Derived.Deep.RegionHeld
set_option linter.unusedVariables false
set_option linter.unusedSimpArgs false
set_option maxRecDepth 100000
set_option maxHeartbeats 8000000
namespace Go.Lap
open Go.RowKit
structure Z0 (S:Nat->Prop) (w w':World):Prop where
 os:w'.os=w.os
 tape:w'.tape=w.tape
 output:w'.output=w.output
 size:w.heap.size <= w'.heap.size
 block:∀ k,k < w.heap.size->¬ S k->w'.heap[k]?=w.heap[k]?
theorem Z0.refl (S:Nat->Prop) (w:World):Z0 S w w:=⟨rfl,rfl,rfl,Nat.le_refl _,fun _ _ _=>rfl⟩
theorem Z0.trans {S:Nat->Prop} {a b c:World} (h:Z0 S a b) (k:Z0 S b c):Z0 S a c :=
 ⟨k.os.trans h.os,k.tape.trans h.tape,k.output.trans h.output,Nat.le_trans h.size k.size,fun i hi hs=>(k.block i (Nat.lt_of_lt_of_le hi h.size) hs).trans (h.block i hi hs)⟩
theorem Z0.mono {S T:Nat->Prop} {a b:World} (h:Z0 S a b) (hs:∀ k,k < a.heap.size->S k->T k):Z0 T a b :=
 ⟨h.os,h.tape,h.output,h.size,fun i hi hn=>h.block i hi (fun x=>hn (hs i hi x))⟩
theorem Z0.trans' {S T:Nat->Prop} {a b c:World} (h:Z0 S a b) (k:Z0 T b c) (hs:∀ k,k < a.heap.size->T k->S k):Z0 S a c :=
 ⟨k.os.trans h.os,k.tape.trans h.tape,k.output.trans h.output,Nat.le_trans h.size k.size,fun i hi hn=>(k.block i (Nat.lt_of_lt_of_le hi h.size) (fun x=>hn (hs i hi x))).trans (h.block i hi hn)⟩
theorem Z0.drew {S:Nat->Prop} {a w:World} (h:Z0 S a w):Z0 S a w.drew:=⟨h.os,h.tape,h.output,h.size,h.block⟩
theorem Z0.drewN {S:Nat->Prop} {a w:World} (h:Z0 S a w) (n:Nat):Z0 S a (w.drewN n):=⟨h.os,h.tape,h.output,h.size,h.block⟩
theorem Z0.alloc {S:Nat->Prop} {a w:World} (h:Z0 S a w) (o:Obj):Z0 S a (w.alloc o) :=
 h.trans ⟨rfl,rfl,rfl,by simp,fun k hk _=>Below.heap_alloc _ _ _ hk⟩
theorem Z0.setCell {S:Nat->Prop} {a w:World} (h:Z0 S a w) {p:Addr} (hp:p.block < a.heap.size->S p.block) (u:Value):Z0 S a (w.setCell p u) :=
 h.trans' (T:=fun k=>k=p.block) ⟨rfl,rfl,rfl,by simp [World.setCell],fun k _ hn=>Below.heap_setCell _ _ _ _ hn⟩ (fun k hk e=>by subst e;exact hp hk)
theorem Z0.grown {S:Nat->Prop} {a w w':World} {row:Option Nat} (h:Z0 S a w) (hg:w.grownBy w' row) (hr:∀ k,row=some k->k < a.heap.size->S k):Z0 S a w' :=
 h.trans' (T:=fun k=>row=some k) ⟨hg.os,hg.tape,hg.output,hg.size,fun k hk hn=>hg.block k hk (fun e=>hn e.symm)⟩ (fun k hk e=>hr k e hk)
theorem Z0.byMap {S:Nat->Prop} {a w w':World} {b:Nat} (h:Z0 S a w) (hg:w.grownBy w' (some b)) (hb:b < a.heap.size->S b):Z0 S a w' :=
 h.grown hg (fun k e hk=>by injection e with e;subst e;exact hb hk)
theorem Z0.ofBelow' {S:Nat->Prop} {a w:World} (h:Below a.heap.size a w):Z0 S a w :=
 ⟨h.os,h.tape,h.output,h.size,fun k hk _=>h.block k hk⟩
theorem Z0.get {S:Nat->Prop} {a w:World} (h:Z0 S a w) {b:Nat} {o:Obj} (hb:a.heap[b]?=some o) (hn:¬ S b):w.heap[b]?=some o:=by
 have hl:b < a.heap.size:=by
  rcases Nat.lt_or_ge b a.heap.size with x | x
  ·exact x
  ·rw [Array.getElem?_eq_none x] at hb;cases hb
 rw [h.block b hl hn];exact hb
theorem Z2 {w:World} {b:Nat} {o:Obj} (hb:w.heap[b]?=some o):b < w.heap.size:=by
 rcases Nat.lt_or_ge b w.heap.size with x | x
 ·exact x
 ·rw [Array.getElem?_eq_none x] at hb;cases hb
theorem Z1 {w:World} {b:Nat} {c:Array Value} {t:TypeId} {fr:Nat × Nat} (h:w.heap[b]?=some (.cells c t fr)) (o:Nat):w.cell? ⟨b,o,none⟩=c[o]?:=by
 simp [World.cell?,h]
theorem Z7 {w:World} {b:Nat} {c:Array Value} {t:TypeId} (h:w.heap[b]?=some (.cells c t (0,0))) (o:Nat):w.frozen? ⟨b,o,none⟩=false:=by
 simp [World.frozen?,h]
theorem Zg {w:World} {b:Nat} {c:Array Value} {t:TypeId} {fr:Nat × Nat} (h:w.heap[b]?=some (.cells c t fr)) (o:Nat) (v:Value) :
  (w.setCell ⟨b,o,none⟩ v).heap[b]?=some (.cells (c.setIfInBounds o v) t fr):=by
 simp [World.setCell,Array.getElem?_modify,h]
theorem Z6E {w:World} {b b':Nat} {x:Obj} (h:w.heap[b]?=some x) (o:Nat) (v:Value) (hn:b ≠ b') :
  (w.setCell ⟨b',o,none⟩ v).heap[b]?=some x:=by
 rw [Below.heap_setCell _ _ _ _ hn];exact h
theorem Zd {w:World} {b:Nat} {x:Obj} (h:w.heap[b]?=some x) (o:Obj):(w.alloc o).heap[b]?=some x:=by
 rw [Below.heap_alloc _ _ _ (Z2 h)];exact h
theorem Z4 (w:World) (o:Obj):(w.alloc o).heap[w.heap.size]?=some o:=by
 show (w.heap.push o)[w.heap.size]?=_
 simp
def tab (k:Nat) (f:Nat->Value):Array Value:=Array.ofFn (n:=k) fun i=>f i
theorem Z2r (k:Nat) (f:Nat->Value):(tab k f).size=k:=by simp [tab]
theorem Z2g {k:Nat} {f:Nat->Value} {i:Nat} (h:i < k):(tab k f)[i]?=some (f i):=by
 simp [tab,h]
theorem Z7x {k:Nat} {f g:Nat->Value} (h:∀ i,i < k->f i=g i):tab k f=tab k g:=by
 unfold tab
 congr 1
 funext i
 exact h i i.isLt
theorem Z5Q (k:Nat) (f:Nat->Value) (i:Nat) (v:Value):(tab k f).setIfInBounds i v=tab k (fun j=>if j=i then v else f j):=by
 apply Array.ext
 ·simp [tab]
 ·intro j h1 h2
  simp only [tab,Array.size_setIfInBounds,Array.size_ofFn] at h1 h2 ⊢
  rw [Array.getElem_setIfInBounds (by simpa using h1)]
  by_cases e:i=j
  ·subst e;simp
  ·have e':¬ j=i:=fun x=>e x.symm
   simp [e,e']
theorem Z8J {c:Array Value} {k:Nat} {f:Nat->Value} (hk:c.size=k) (h:∀ i,i < k->c[i]?=some (f i)):c=tab k f:=by
 apply Array.ext
 ·rw [hk,Z2r]
 ·intro j h1 h2
  have h3:=h j (by omega)
  have h4:=Z2g (f:=f) (show j < k by omega)
  rw [Array.getElem?_eq_getElem h1] at h3
  rw [Array.getElem?_eq_getElem h2] at h4
  have h5:=h3.trans h4.symm
  exact Option.some.inj h5
structure Z0c (P:Program) (t e:TypeId) (size bytes:Nat):Prop where
 ex:∃ i z,P.underlying t=some (.slice e)/\P.info? e=some i/\i.zero=some z/\i.size=size/\i.bytes=bytes/\z.cells.size=size/\0 < size
theorem Z0c.mk' {P:Program} {t e:TypeId} {size bytes:Nat} (z:Value) (ht:P.underlying t=some (.slice e)) (hi:(P.info? e).map (fun i=>(i.zero,i.size,i.bytes))=some (some z,size,bytes))
  (hz:z.cells.size=size) (hs:0 < size):Z0c P t e size bytes:=by
 obtain ⟨i,hi,h0,h1,h2⟩:=info_parts hi
 exact ⟨i,z,ht,hi,h0,h1,h2,hz,hs⟩
structure Rd (w:World) (S:Nat->Prop) (size:Nat) (A:Option Addr) (n:Nat) (xs:List Value):Prop where
 len:xs.length=n * size
 cells:0 < xs.length->∃ b off,A=some ⟨b,off,none⟩/\S b/\∀ j u,xs[j]?=some u->w.cell? ⟨b,off+j,none⟩=some u
theorem Zl (b off j:Nat):(⟨b,off,none⟩:Addr).add j=⟨b,off+j,none⟩:=by
 unfold Addr.add
 split
 ·subst_vars;rfl
 ·rfl
theorem Zf {w:World} {p:Addr} {u:Value} (h:w.cell? p=some u):p.block < w.heap.size:=by
 rcases Nat.lt_or_ge p.block w.heap.size with x | x
 ·exact x
 ·simp [World.cell?,Array.getElem?_eq_none x] at h
theorem Z0.cell {S:Nat->Prop} {a w:World} (h:Z0 S a w) {p:Addr} {u:Value} (hc:a.cell? p=some u) (hn:¬ S p.block):w.cell? p=some u:=by
 rw [World.cell?_of_block (h.block p.block (Zf hc) hn)];exact hc
theorem Rd.kept {w w':World} {S T:Nat->Prop} {size n:Nat} {A:Option Addr} {xs:List Value} (h:Rd w S size A n xs) (ho:Z0 T w w') (hs:∀ k,S k->¬ T k):Rd w' S size A n xs :=
 ⟨h.len,fun hn=>by
   obtain ⟨b,off,e,hb,hc⟩:=h.cells hn
   exact ⟨b,off,e,hb,fun j u hu=>ho.cell (hc j u hu) (hs _ hb)⟩⟩
theorem Rd.mono {w:World} {S T:Nat->Prop} {size n:Nat} {A:Option Addr} {xs:List Value} (h:Rd w S size A n xs) (hs:∀ k,S k->T k):Rd w T size A n xs :=
 ⟨h.len,fun hn=>by
   obtain ⟨b,off,e,hb,hc⟩:=h.cells hn
   exact ⟨b,off,e,hs _ hb,hc⟩⟩
theorem Rd.nil (w:World) (S:Nat->Prop) (size:Nat) (A:Option Addr):Rd w S size A 0 []:=⟨by simp,fun h=>absurd h (by simp)⟩
theorem Rd.get {w:World} {S:Nat->Prop} {n k:Nat} {A:Option Addr} {xs:List Value} (h:Rd w S 1 A n xs) (hk:k < n):∃ b off u,A=some ⟨b,off,none⟩/\S b/\xs[k]?=some u/\w.cell? ⟨b,off+k,none⟩=some u:=by
 have hl:k < xs.length:=by have:=h.len;omega
 obtain ⟨b,off,e,hb,hc⟩:=h.cells (by omega)
 exact ⟨b,off,xs[k],e,hb,List.getElem?_eq_getElem hl,hc k _ (List.getElem?_eq_getElem hl)⟩
theorem Rd.at_ {w:World} {S:Nat->Prop} {size n k:Nat} {A:Option Addr} {xs:List Value} (h:Rd w S size A n xs) (hk:k < n) (hs:0 < size):∃ b off,A=some ⟨b,off,none⟩/\S b/\∀ f,f < size->∃ u,xs[k * size+f]?=some u/\w.cell? ⟨b,off+(k * size+f),none⟩=some u:=by
 have hm:(k+1) * size <= n * size:=Nat.mul_le_mul_right _ hk
 rw [Nat.add_mul,Nat.one_mul] at hm
 have hl:=h.len
 obtain ⟨b,off,e,hb,hc⟩:=h.cells (by omega)
 refine ⟨b,off,e,hb,fun f hf=>?_⟩
 have hlt:k * size+f < xs.length:=by omega
 exact ⟨xs[k * size+f],List.getElem?_eq_getElem hlt,hc _ _ (List.getElem?_eq_getElem hlt)⟩
theorem Za {w:World} {e:TypeId} {size:Nat} {v:Value} {n:Nat} {xs:List Value} (h:w.ownsRow 0 e size v n xs) :
  ∃ A c,v=.slice A n c/\n <= c/\c <= maxLen/\Rd w (fun k=>v.ownBlock=some k) size A n xs:=by
 rcases h.2 with ⟨rfl,rfl⟩ | ⟨g,cap,cur,rfl,hg,hh,r1,r2,_⟩
 ·have hx:xs=[]:=List.eq_nil_of_length_eq_zero (by simpa using h.1)
  subst hx
  exact ⟨none,0,rfl,Nat.le_refl _,Nat.zero_le _,Rd.nil _ _ _ _⟩
 ·exact ⟨_,cap,rfl,r1,r2,h.1,fun _=>⟨g,0,rfl,rfl,fun j u hu=>by rw [<- Zl];exact h.cells rfl j u hu⟩⟩
theorem Zdc {P:Program} (w:World) (t ty e:TypeId) (i:TypeInfo) (size:Nat) (ht:P.underlying t=some (.slice e)) (hi:P.info? e=some i)
  (v:Value) (n:Nat) (xs:List Value) (hown:w.ownsRow 0 e size v n xs) (c:Nat):(Builtin.append_ #[t,t] ty #[v,.slice none 0 c]).run P w=.ok v w:=by
 rcases hown.2 with ⟨rfl,rfl⟩ | ⟨g,cap,cur,rfl,_,_,hnc,_⟩
 ·simp [Builtin.append_,run_underlying ht,sizeOf,typeInfo,hi,Builtin.lenOf,Builtin.firstCells]
 ·simp [Builtin.append_,run_underlying ht,sizeOf,typeInfo,hi,Builtin.lenOf,Builtin.firstCells,hnc,storeCells]
structure ZT (w w':World) (e:TypeId) (size:Nat) (v v':Value) (n:Nat) (xs:List Value):Prop where
 own:w'.ownsRow 0 e size v' n xs
 only:Z0 (fun k=>v.ownBlock=some k) w w'
 loc:v'.ownBlock=v.ownBlock ∨ v'.ownBlock=some w.heap.size
theorem Zjx {P:Program} (w:World) {t e:TypeId} {size bytes:Nat} (E:Z0c P t e size bytes) (ty:TypeId)
  {v:Value} {n:Nat} {xs:List Value} (hown:w.ownsRow 0 e size v n xs)
  {S:Nat->Prop} {A:Option Addr} {m c:Nat} {news:List Value} (hr:Rd w S size A m news) (h1:∀ u ∈ news,u.oneCell'=true)
  (h63:n+m <= maxLen) (hbytes:(n+m) * bytes <= 140737488355328) :
  ∃ v' w',(Builtin.append_ #[t,t] ty #[v,.slice A m c]).run P w=.ok v' w'/\ZT w w' e size v v' (n+m) (xs ++ news):=by
 obtain ⟨i,z,ht,hi,h0,h1',h2,hz,hsz⟩:=E
 by_cases hne:0 < news.length
 ·obtain ⟨b,off,rfl,_,hc⟩:=hr.cells hne
  obtain ⟨v',w',hrun,h2,h3,_,h5⟩:=run_append_own_at (P:=P) w 0 t ty e i z size bytes ht hi h0 h1' h2 hz hsz v n xs hown ⟨b,off,none⟩ m c news hr.len (fun j u hu=>by rw [Zl];exact hc j u hu) h1 h63 hbytes (Nat.zero_le _)
  exact ⟨v',w',hrun,h2,(Z0.refl _ _).grown h3 (fun k e _=>e),h5⟩
 ·have hn:news=[]:=List.eq_nil_of_length_eq_zero (by omega)
  subst hn
  have hm:m=0:=by
   have:=hr.len
   simp only [List.length_nil] at this
   rcases Nat.mul_eq_zero.1 this.symm with x | x
   ·exact x
   ·omega
  subst hm
  rcases A with _ | ad
  ·exact ⟨v,w,Zdc w t ty e i size ht hi v n xs hown c,by simpa using hown,Z0.refl _ _,.inl rfl⟩
  ·obtain ⟨v',w',hrun,h2,h3,_,h5⟩:=run_append_own_at (P:=P) w 0 t ty e i z size bytes ht hi h0 h1' h2 hz hsz v n xs hown ad 0 c [] (by simp) (fun j u hu=>by simp at hu) h1 h63 hbytes (Nat.zero_le _)
   exact ⟨v',w',hrun,h2,(Z0.refl _ _).grown h3 (fun k e _=>e),h5⟩
theorem Zg6 {P:Program} {w:World} {t e:TypeId} {size bytes:Nat} (E:Z0c P t e size bytes) {o:Oper} {a:Act} {K:Act->World->Prop} {Q:Exit->Act->World->Prop} (s x:Operand)
  (ho:o.op=.call { callee:=.builtin .append,args:=#[s,x],argTypes:=#[t,t] })
  {v:Value} {n:Nat} {xs:List Value} (hs:a.eval s=v) (hown:w.ownsRow 0 e size v n xs)
  {S:Nat->Prop} {A:Option Addr} {m c:Nat} {news:List Value} (hx:a.eval x=.slice A m c) (hr:Rd w S size A m news) (h1:∀ u ∈ news,u.oneCell'=true)
  (h63:n+m <= maxLen) (hbytes:(n+m) * bytes <= 140737488355328)
  (h:∀ v' w',ZT w w' e size v v' (n+m) (xs ++ news)->K (a.put o.dst v') w'):o.wp P a w K Q:=by
 obtain ⟨v',w',hrun,h2⟩:=Zjx (P:=P) w E o.type hown hr (c:=c) h1 h63 hbytes
 unfold Oper.wp execOp
 simp only [ho,resolve,invoke,builtin,Sem.run_bind,Sem.run_pure,Result.andThen_ok,List.map_toArray,List.map_cons,List.map_nil,hs,hx,hrun]
 exact h v' w' h2
theorem app {P:Program} {w:World} {t e:TypeId} {size bytes:Nat} (E:Z0c P t e size bytes) {ops:Array Oper} {rest:List Oper} {o:Oper} {a:Act} {Q:Exit->Act->World->Prop} (hgd:o.guard=none) (s x:Operand)
  (ho:o.op=.call { callee:=.builtin .append,args:=#[s,x],argTypes:=#[t,t] })
  {v:Value} {n:Nat} {xs:List Value} (hs:a.eval s=v) (hown:w.ownsRow 0 e size v n xs)
  {S:Nat->Prop} {A:Option Addr} {m c:Nat} {news:List Value} (hx:a.eval x=.slice A m c) (hr:Rd w S size A m news) (h1:∀ u ∈ news,u.oneCell'=true)
  (h63:n+m <= maxLen) (hbytes:(n+m) * bytes <= 140737488355328)
  (h:∀ v' w',ZT w w' e size v v' (n+m) (xs ++ news)->wpList P ops Q rest (a.put o.dst v') w'):wpList P ops Q (o :: rest) a w :=
 wpList_plain hgd fun _ hK=>Zg6 E s x ho hs hown hx hr h1 h63 hbytes fun v' w' h2=>hK _ _ (h v' w' h2)
theorem Z0B {P:Program} {w:World} {t e:TypeId} {size bytes:Nat} (E:Z0c P t e size bytes) {ops:Array Oper} {o:Oper} {a:Act} {K:Act->World->Prop} {Q:Exit->Act->World->Prop} {F:Prop} (hgd:o.guard=none) (s x:Operand)
  (ho:o.op=.call { callee:=.builtin .append,args:=#[s,x],argTypes:=#[t,t] })
  {v:Value} {n:Nat} {xs:List Value} (hs:a.eval s=v) (hown:w.ownsRow 0 e size v n xs)
  {S:Nat->Prop} {A:Option Addr} {m c:Nat} {news:List Value} (hx:a.eval x=.slice A m c) (hr:Rd w S size A m news) (h1:∀ u ∈ news,u.oneCell'=true)
  (h63:n+m <= maxLen) (hbytes:(n+m) * bytes <= 140737488355328)
  (h:∀ v' w',ZT w w' e size v v' (n+m) (xs ++ news)->K (a.put o.dst v') w') :
  if Region.wanted o (yielded ops a.tmps)=true then Oper.wp P o a w K Q else F:=by
 have hw:Region.wanted o (yielded ops a.tmps)=true:=by simp [Region.wanted,hgd]
 rw [if_pos hw]
 exact Zg6 E s x ho hs hown hx hr h1 h63 hbytes h
theorem Rd.new (w:World) (size m:Nat) (xs:List Value) (e:TypeId) (S:Nat->Prop) (hl:xs.length=m * size) (hS:S w.heap.size):Rd (w.alloc (.cells xs.toArray e)) S size (some ⟨w.heap.size,0,none⟩) m xs:=by
 refine ⟨hl,fun _=>⟨w.heap.size,0,rfl,hS,fun j u hu=>?_⟩⟩
 rw [Z1 (Z4 w _)]
 simpa using hu
theorem Z4G (w:World) (e:TypeId) (size:Nat):(w.alloc (.cells #[] e)).ownsRow 0 e size (.slice (some ⟨w.heap.size,0,none⟩) 0 0) 0 [] :=
 World.ownsRow_made w #[] 0 (Nat.zero_le _) (Nat.zero_le _) (by simp)
theorem Z5 {S:Nat->Prop} {w w':World} {base:Nat} {e:TypeId} {size:Nat} {v:Value} {n:Nat} {xs:List Value} (h:w.ownsRow base e size v n xs) (ho:Z0 S w w')
  (hn:∀ k,v.ownBlock=some k->¬ S k):w'.ownsRow base e size v n xs:=by
 obtain ⟨h1,h2⟩:=h
 refine ⟨h1,?_⟩
 rcases h2 with h2 | ⟨g,cap,cur,hv,hg,hh,r⟩
 ·exact Or.inl h2
 ·exact Or.inr ⟨g,cap,cur,hv,hg,ho.get hh (hn g (by rw [hv];rfl)),r⟩
theorem ZB {w:World} {base:Nat} {e:TypeId} {size:Nat} {v:Value} {n:Nat} {xs:List Value} (h:w.ownsRow base e size v n xs) :
  (v=.slice none 0 0/\n=0) ∨ ∃ g cap,v=.slice (some ⟨g,0,none⟩) n cap/\n <= cap/\cap <= maxLen:=by
 rcases h.2 with ⟨a,b⟩ | ⟨g,cap,cur,hv,hg,hh,r1,r2,_⟩
 ·exact Or.inl ⟨a,b⟩
 ·exact Or.inr ⟨g,cap,hv,r1,r2⟩
theorem Z4H {P:Program} {f:FuncId} {args:Array Value} {w:World} {n:Nat} {v:Value}
  (h:Calls P f args (w.drewN n) fun e w'=>e=.returned v/\w.drewN n=w'):Calls P f args (w.drewN n) fun e w''=>e=.returned v/\∃ m,w''=w.drewN m :=
 h.mono fun _ _ ⟨he,hm⟩=>⟨he,n,hm.symm⟩
def upd {α:Type} (f:Nat->α) (i:Nat) (v:α):Nat->α:=fun j=>if j=i then v else f j
theorem Z1S {α:Type} (f:Nat->α) (i:Nat) (v:α):upd f i v i=v:=by simp [upd]
theorem ZX {α:Type} (f:Nat->α) {i j:Nat} (v:α) (h:j ≠ i):upd f i v j=f j:=by simp [upd,h]
end Go.Lap
namespace Go.Lap
theorem Zg7 {α:Type} {p:α->Bool} {xs:Array α}:xs.any p=true ↔ ∃ x ∈ xs,p x=true:=by
 rw [Array.any_eq_true]
 constructor
 ·rintro ⟨i,hi,h⟩
  exact ⟨xs[i],Array.getElem_mem hi,h⟩
 ·rintro ⟨x,hx,h⟩
  obtain ⟨i,hi,rfl⟩:=Array.mem_iff_getElem.1 hx
  exact ⟨i,hi,h⟩
theorem Zkr {α:Type} {p:α->Bool} {xs:Array α}:xs.all p=true ↔ ∀ x ∈ xs,p x=true:=by
 rw [Array.all_eq_true]
 constructor
 ·intro h x hx
  obtain ⟨i,hi,rfl⟩:=Array.mem_iff_getElem.1 hx
  exact h i hi
 ·exact fun h i hi=>h _ (Array.getElem_mem hi)
section
variable {P:Program} {Q:Exit->Act->World->Prop}
def Z7y (P:Program) (ops:Array Oper) (Q:Exit->Act->World->Prop):Exit->Act->World->Prop
 | .normal,a,w=>wpOp P ops Q (ops.size - 1) (fun a' w'=>Q .normal a' w') a w
 | .exit i,a,w=>Q (.exit i) a w
 | .goto l,a,w=>Q (.goto l) a w
 | .ret,a,w=>Q .ret a w
 | .panic c,a,w=>Q (.panic c) a w
 | .outgrown,a,w=>Q .outgrown a w
def Z2N (ops:Array Oper):Bool :=
 (List.range ops.size).all (fun j=>(ops[j]?).any fun o=>o.after.all (fun e=>decide (e.on < j)) && (match o.guard with | none=>true | some (g,_)=>decide (g < j))) &&
 (List.range (ops.size - 1)).all (fun i=>(ops[ops.size - 1]?).any fun o=>o.after.any fun e=>Region.binds .any e && (e.on == i || (ops[e.on]?).any fun o'=>o'.after.any fun e'=>Region.binds .any e' && e'.on == i))
theorem Z2h {ops:Array Oper} (h:Z2N ops=true) {j:Nat} {o:Oper} (ho:ops[j]?=some o):(∀ e ∈ o.after,e.on < j)/\∀ g b,o.guard=some (g,b)->g < j:=by
 unfold Z2N at h
 rw [Bool.and_eq_true] at h
 have h1:=h.1
 rw [List.all_eq_true] at h1
 have hj:j < ops.size:=(Array.getElem?_eq_some_iff.1 ho).1
 have h2:=h1 j (List.mem_range.2 hj)
 rw [ho] at h2
 simp only [Option.any_some,Bool.and_eq_true] at h2
 refine ⟨fun e he=>?_,fun g b hg=>?_⟩
 ·have:=h2.1
  rw [Zkr] at this
  exact of_decide_eq_true (this e he)
 ·have:=h2.2
  rw [hg] at this
  exact of_decide_eq_true this
theorem ZbP {ops:Array Oper} (h:Z2N ops=true) {i:Nat} (hi:i < ops.size - 1) {o:Oper} (ho:ops[ops.size - 1]?=some o) :
  ∃ e ∈ o.after,Region.binds .any e=true/\(e.on=i ∨ ∃ o',ops[e.on]?=some o'/\∃ e' ∈ o'.after,Region.binds .any e'=true/\e'.on=i):=by
 unfold Z2N at h
 rw [Bool.and_eq_true] at h
 have h1:=h.2
 rw [List.all_eq_true] at h1
 have h2:=h1 i (List.mem_range.2 hi)
 rw [ho] at h2
 simp only [Option.any_some] at h2
 rw [Zg7] at h2
 obtain ⟨e,he,h3⟩:=h2
 rw [Bool.and_eq_true,Bool.or_eq_true] at h3
 refine ⟨e,he,h3.1,?_⟩
 rcases h3.2 with h4 | h4
 ·exact Or.inl (by simpa using h4)
 ·cases hq:ops[e.on]? with
  | none=>rw [hq] at h4;simp at h4
  | some o' =>
   rw [hq] at h4
   simp only [Option.any_some] at h4
   rw [Zg7] at h4
   obtain ⟨e',he',h5⟩:=h4
   rw [Bool.and_eq_true] at h5
   exact Or.inr ⟨o',rfl,e',he',h5.1,by simpa using h5.2⟩
theorem Z5R {ops:Array Oper} {i:Nat} (h:i < ops.size - 1):ops.pop[i]?=ops[i]?:=by
 rw [Array.getElem?_pop,if_pos h]
theorem Z2O {listed:Array Bool} {i:Nat} (b d:Bool) (h:i < listed.size):(listed.push b).getD i d=listed.getD i d:=by
 simp [Array.getElem?_push,h,Nat.ne_of_lt h]
theorem Z9M {listed:Array Bool} (b d:Bool):(listed.push b).getD listed.size d=b:=by
 simp
theorem Z69 {listed:Array Bool} {i:Nat} (d d':Bool) (h:i < listed.size):listed.getD i d=listed.getD i d':=by
 simp [h]
theorem ZhT {listed:Array Bool} {i:Nat} (b:Bool) (h:i < listed.size):(listed.push b).setIfInBounds i true=(listed.setIfInBounds i true).push b:=by
 apply Array.ext
 ·simp
 ·intro j h1 h2
  simp only [Array.size_setIfInBounds,Array.size_push] at h1
  rw [Array.getElem_setIfInBounds (by simpa using h1),Array.getElem_push,Array.getElem_push]
  by_cases hj:j < listed.size
  ·simp only [Array.size_setIfInBounds,hj,dite_true]
   rw [Array.getElem_setIfInBounds hj]
  ·simp only [Array.size_setIfInBounds,hj,dite_false]
   rw [if_neg (by omega)]
def Z6u (ops:Array Oper) (listed:Array Bool):Prop:=∀ (j:Nat) (o:Oper),ops[j]?=some o->listed.getD j false=true->∀ e ∈ o.after,Region.binds .any e=true->listed.getD e.on false=true
theorem Z6u.start (ops:Array Oper) (n:Nat):Z6u ops (Array.replicate n false):=by
 intro j o _ h
 by_cases hj:j < n
 ·simp [hj] at h
 ·simp [hj] at h
theorem Z6x {listed:Array Bool} {i j:Nat} (h:listed.getD j false=true):(listed.setIfInBounds i true).getD j false=true:=by
 by_cases e:i=j
 ·subst e
  have hl:i < listed.size:=by
   rcases Nat.lt_or_ge i listed.size with x | x
   ·exact x
   ·simp [Array.getElem?_eq_none x] at h
  simp [hl]
 ·rw [getD_set_ne false e];exact h
theorem Z6u.set {ops:Array Oper} {listed:Array Bool} {i:Nat} (h:Z6u ops listed) (hr:∀ o,ops[i]?=some o->∀ e ∈ o.after,Region.binds .any e=true->listed.getD e.on false=true):Z6u ops (listed.setIfInBounds i true):=by
 intro j o ho hl e he hb
 by_cases hij:i=j
 ·subst hij
  exact Z6x (hr o ho e he hb)
 ·rw [getD_set_ne false hij] at hl
  exact Z6x (h j o ho hl e he hb)
variable {ops:Array Oper}
theorem Z6F {listed:Array Bool} (hok:Z2N ops=true) (hs:listed.size=ops.size - 1) {i:Nat} (hi:i < ops.size - 1):i ∈ Region.ready .any ops (listed.push false) ↔ i ∈ Region.ready .any ops.pop listed:=by
 rw [mem_ready,mem_ready,Z2O _ _ (by omega),Z5R hi]
 constructor
 ·rintro ⟨h1,o,ho,h2⟩
  refine ⟨h1,o,ho,fun e he hb=>?_⟩
  have:=(Z2h hok ho).1 e he
  have h3:=h2 e he hb
  rw [Z2O _ _ (by omega)] at h3
  exact h3
 ·rintro ⟨h1,o,ho,h2⟩
  refine ⟨h1,o,ho,fun e he hb=>?_⟩
  have:=(Z2h hok ho).1 e he
  rw [Z2O _ _ (by omega)]
  exact h2 e he hb
theorem Z3R {listed:Array Bool} {i:Nat} (h:i ∈ Region.ready .any ops listed):i < ops.size:=by
 obtain ⟨_,o,ho,_⟩:=mem_ready.1 h
 exact (Array.getElem?_eq_some_iff.1 ho).1
theorem Z8K {listed:Array Bool} (hok:Z2N ops=true) (hs:listed.size=ops.size - 1) (hr:Region.ready .any ops.pop listed=[]):∀ (k i:Nat),i < k->i < ops.size - 1->listed.getD i false=true:=by
 intro k
 induction k with
 | zero=>intro i h;omega
 | succ k ih =>
  intro i _ hi
  cases hl:listed.getD i false with
  | true=>rfl
  | false =>
   have hlt:i < ops.size:=by omega
   have:i ∈ Region.ready .any ops.pop listed:=by
    rw [mem_ready,Z5R hi]
    refine ⟨by rw [Z69 true false (by omega)];exact hl,ops[i],Array.getElem?_eq_getElem hlt,fun e he _=>?_⟩
    have:=(Z2h hok (Array.getElem?_eq_getElem hlt)).1 e he
    exact ih e.on (by omega) (by omega)
   rw [hr] at this
   cases this
theorem Z8L {listed:Array Bool} (hok:Z2N ops=true) (h0:0 < ops.size) (hs:listed.size=ops.size - 1) (hall:∀ i,i < ops.size - 1->listed.getD i false=true):ops.size - 1 ∈ Region.ready .any ops (listed.push false):=by
 rw [mem_ready]
 have hlt:ops.size - 1 < ops.size:=by omega
 refine ⟨by rw [<- hs];exact Z9M _ _,ops[ops.size - 1],Array.getElem?_eq_getElem hlt,fun e he _=>?_⟩
 have:=(Z2h hok (Array.getElem?_eq_getElem hlt)).1 e he
 rw [Z2O _ _ (by omega)]
 exact hall e.on this
theorem Zet (hok:Z2N ops=true) {i:Nat} {o:Oper} (hi:i < ops.size - 1) (ho:ops[i]?=some o) (tmps:Array Value):Region.wanted o (yielded ops.pop tmps)=Region.wanted o (yielded ops tmps):=by
 unfold Region.wanted
 cases hg:o.guard with
 | none=>rfl
 | some gb =>
  obtain ⟨g,b⟩:=gb
  have:=(Z2h hok ho).2 g b hg
  simp only [yielded]
  rw [Z5R (by omega)]
theorem ZhU (hok:Z2N ops=true) {i:Nat} (hi:i < ops.size - 1) {K:Act->World->Prop} {a:Act} {w:World} (h:wpOp P ops.pop (Z7y P ops Q) i K a w):wpOp P ops Q i K a w:=by
 have hlt:i < ops.size:=by omega
 have ho:ops[i]?=some ops[i]:=Array.getElem?_eq_getElem hlt
 unfold wpOp at *
 rw [Z5R hi] at h
 simp only [ho] at h ⊢
 rw [Zet hok hi ho] at h
 by_cases hw:Region.wanted ops[i] (yielded ops a.tmps)=true
 ·rw [if_pos hw] at h ⊢
  rcases h with h | ⟨h,hl⟩
  ·refine Or.inl ?_
   unfold Oper.wp at *
   generalize (execOp a.eval ops[i]).run P w=r at *
   cases r with
   | ok n w' =>
    cases n <;> simp only [Oper.upon] at h ⊢ <;>
     first
      | exact h
      | exact Calls.mono h (fun e w'' he=>by cases e <;> exact he)
   | halt x w'=>cases x <;> simp only [Oper.upon] at h ⊢ <;> exact h
  ·exact Or.inr ⟨h,hl⟩
 ·rw [if_neg hw] at h ⊢
  exact h
theorem Zeu (hok:Z2N ops=true) (h0:0 < ops.size):∀ (fuel:Nat) (listed:Array Bool) (a:Act) (w:World),listed.size=ops.size - 1->Z6u ops listed->wpAny P .any ops.pop (Z7y P ops Q) fuel listed a w->wpAny P .any ops Q (fuel+1) (listed.push false) a w:=by
 intro fuel
 induction fuel with
 | zero =>
  intro listed a w hs hc H
  have hall:=fun i hi=>Z8K hok hs H.1 (i+1) i (Nat.lt_succ_self i) hi
  refine ⟨fun hr=>?_,fun i hi=>?_⟩
  ·have:=Z8L hok h0 hs hall
   rw [hr] at this
   cases this
  ·have hlt:=Z3R hi
   by_cases hn:i < ops.size - 1
   ·have:=(Z6F hok hs hn).1 hi
    rw [H.1] at this
    cases this
   ·obtain rfl:i=ops.size - 1:=by omega
    refine wpOp_mono (fun a' w' hq=>?_) H.2
    exact ⟨(by
      rw [List.eq_nil_iff_forall_not_mem]
      intro j hj
      have h1:=Z3R hj
      have h2:=(mem_ready.1 hj).1
      by_cases hjn:j=ops.size - 1
      · subst hjn
        rw [<- hs] at h2
        simp at h2
      · rw [getD_set_ne true (by omega),Z2O _ _ (by omega),Z69 true false (by omega),hall j (by omega)] at h2
        cases h2),hq⟩
 | succ f ih =>
  intro listed a w hs hc H
  refine ⟨fun hr=>?_,fun i hi=>?_⟩
  ·have hr':Region.ready .any ops.pop listed=[]:=by
    rw [List.eq_nil_iff_forall_not_mem]
    intro j hj
    have h1:=Z3R hj
    rw [Array.size_pop] at h1
    have:=(Z6F hok hs h1).2 hj
    rw [hr] at this
    cases this
   have hall:=fun i hi=>Z8K hok hs hr' (i+1) i (Nat.lt_succ_self i) hi
   have:=Z8L hok h0 hs hall
   rw [hr] at this
   cases this
  ·have hlt:=Z3R hi
   by_cases hn:i < ops.size - 1
   ·have hi':=(Z6F hok hs hn).1 hi
    refine wpOp_mono (fun a' w' hq=>?_) (ZhU hok hn (H.2 i hi'))
    rw [ZhT _ (by omega)]
    refine ih _ a' w' (by simpa using hs) (hc.set (fun o ho e he hb=>?_)) hq
    obtain ⟨_,o',ho',h2⟩:=mem_ready.1 hi'
    rw [Z5R hn,ho] at ho'
    injection ho' with ho'
    subst ho'
    exact h2 e he hb
   ·obtain rfl:i=ops.size - 1:=by omega
    obtain ⟨_,o,ho,h2⟩:=mem_ready.1 hi
    have hall:∀ j,j < ops.size - 1->listed.getD j false=true:=by
     intro j hj
     obtain ⟨e,he,hb,h3⟩:=ZbP hok hj ho
     have h4:=h2 e he hb
     have h5:=(Z2h hok ho).1 e he
     rw [Z2O _ _ (by omega)] at h4
     rcases h3 with rfl | ⟨o',ho',e',he',hb',rfl⟩
     ·exact h4
     ·exact hc e.on o' ho' h4 e' he' hb'
    have hr':Region.ready .any ops.pop listed=[]:=by
     rw [List.eq_nil_iff_forall_not_mem]
     intro j hj
     have h1:=Z3R hj
     rw [Array.size_pop] at h1
     have h2:=(mem_ready.1 hj).1
     rw [Z69 true false (by omega),hall j h1] at h2
     cases h2
    refine wpOp_mono (fun a' w' hq=>?_) (H.1 hr')
    refine ⟨fun _=>hq,fun j hj=>?_⟩
    have h1:=Z3R hj
    have h2:=(mem_ready.1 hj).1
    by_cases hjn:j=ops.size - 1
    ·subst hjn
     rw [<- hs] at h2
     simp at h2
    ·rw [getD_set_ne true (by omega),Z2O _ _ (by omega),Z69 true false (by omega),hall j (by omega)] at h2
     cases h2
theorem Z0M {S:World->Prop} {id:Nat} {a:Act} {w:World} (hm:P.follows .mixedOrders=true) (hok:Z2N ops=true) (h0:0 < ops.size) (hS:S w.drew)
  (h:S w.drew->wpAnyH P .any ops.pop (Z7y P ops Q) S (ops.size - 1) (Array.replicate (ops.size - 1) false) a w.drew):(Code.region id ops true).wp P Q a w:=by
 refine wp_region_any hm ?_
 have h1:=Zeu hok h0 (ops.size - 1) (Array.replicate (ops.size - 1) false) a w.drew (by simp) (Z6u.start _ _) (wpAny_of_held _ _ _ _ (h hS))
 have e:(Array.replicate (ops.size - 1) false).push false=Array.replicate ops.size false:=by
  rw [<- Array.replicate_succ]
  congr 1
  omega
 rw [e,show ops.size - 1+1=ops.size by omega] at h1
 exact h1
theorem Z8M {c:List PanicEntry} {a a':Act} {w:World} (hq:Q (.panic c) a' w->Q (.panic c) a w) (h:Z7y P ops Q (.panic c) a' w):Z7y P ops Q (.panic c) a w:=hq h
theorem Z21 {o:Oper} {a:Act} {w:World} (ho:ops[ops.size - 1]?=some o)
  (h:∀ K':Act->World->Prop,Shut (∀ a w,Q .normal a w->K' a w)->if Region.wanted o (yielded ops a.tmps)=true then Oper.wp P o a w K' Q else K' (a.put o.dst undef) w):Z7y P ops Q .normal a w:=by
 have h1:=h (fun a' w'=>Q .normal a' w') (fun _ _ x=>x)
 show wpOp P ops Q (ops.size - 1) (fun a' w'=>Q .normal a' w') a w
 unfold wpOp
 simp only [ho]
 by_cases hw:Region.wanted o (yielded ops a.tmps)=true
 ·rw [if_pos hw] at h1 ⊢;exact Or.inl h1
 ·rw [if_neg hw] at h1 ⊢;exact h1
end
end Go.Lap
namespace Go
open Go.Lap
theorem zGA {α:Type _} (l:List α) (i:Nat):l.toArray[i]?=l[i]?:=List.getElem?_toArray
theorem zGZ {α:Type _} (a:α) (l:List α):(a :: l)[0]?=some a:=rfl
theorem zGS {α:Type _} (a:α) (i:Nat) (l:List α):(a :: l)[i+1]?=l[i]?:=rfl
theorem zPA {α:Type _} (l:List α) (i:Nat) (a:α):l.toArray.setIfInBounds i a=(l.set i a).toArray:=List.setIfInBounds_toArray l i a
theorem zPZ {α:Type _} (x a:α) (l:List α):(x :: l).set 0 a=a :: l:=rfl
theorem zPS {α:Type _} (x a:α) (l:List α) (i:Nat):(x :: l).set (i+1) a=x :: l.set i a:=rfl
/-- One operation more, that only reads. -/
theorem zT {P:Program} {ops:Array Oper} {Q:Exit → Act → World → Prop} {md:Region.Mode} {S:World → Prop} (i:Nat) {oi:Oper} {v:Value} {fuel:Nat} {listed l':Array Bool} {a a':Act} {w:World} (h:wpAnyH P md ops Q S fuel l' a' w)
    (hi:ops[i]?=some oi:=by simp only [zGA,zGZ,zGS] <;> rfl)
    (hg:Region.wanted oi (yielded ops a.tmps)=true:=by rfl)
    (hv:∀ w,S w → (execOp a.eval oi).run P w=.ok (.value v) w:=by intro w hSw;(try dsimp only at hSw);go_simp;(try with_reducible rfl);done)
    (hQ:∀ c a w,Q (.panic c) (a.put oi.dst v) w → Q (.panic c) a w:=by first | exact fun _ _ _ h=>h | exact fun _ _ _=>Z8M (fun h=>h))
    (ha:a.put oi.dst v=a':=by (try simp only [Act.put,zPA,zPZ,zPS]);first | done | exact rfl)
    (hl:listed.setIfInBounds i true=l':=by (try simp only [zPA,zPZ,zPS]);first | done | exact rfl)
    (hs:Region.noSelect ops=true:=by kernel_rfl) (hf:Region.free md ops listed i=true:=by decide +kernel) (hr:(Region.ready md ops listed).contains i=true:=by decide +kernel) (hS:S w:=by first | assumption | exact trivial):wpAnyH P md ops Q S (fuel+1) listed a w :=
  wpAnyH_take hi hs hf hr hQ (Or.inl ⟨hg,hv⟩) hS (by rw [ha,hl];exact h)
/-- One that is not wanted. -/
theorem zO {P:Program} {ops:Array Oper} {Q:Exit → Act → World → Prop} {md:Region.Mode} {S:World → Prop} (i:Nat) {oi:Oper} {fuel:Nat} {listed l':Array Bool} {a a':Act} {w:World} (h:wpAnyH P md ops Q S fuel l' a' w)
    (hi:ops[i]?=some oi:=by simp only [zGA,zGZ,zGS] <;> rfl)
    (hg:Region.wanted oi (yielded ops a.tmps)=false:=by rfl)
    (hQ:∀ c a w,Q (.panic c) (a.put oi.dst undef) w → Q (.panic c) a w:=by first | exact fun _ _ _ h=>h | exact fun _ _ _=>Z8M (fun h=>h))
    (ha:a.put oi.dst undef=a':=by (try simp only [Act.put,zPA,zPZ,zPS]);first | done | exact rfl)
    (hl:listed.setIfInBounds i true=l':=by (try simp only [zPA,zPZ,zPS]);first | done | exact rfl)
    (hs:Region.noSelect ops=true:=by kernel_rfl) (hf:Region.free md ops listed i=true:=by decide +kernel) (hr:(Region.ready md ops listed).contains i=true:=by decide +kernel) (hS:S w:=by first | assumption | exact trivial):wpAnyH P md ops Q S (fuel+1) listed a w :=
  wpAnyH_take hi hs hf hr hQ (Or.inr ⟨hg,rfl⟩) hS (by rw [ha,hl];exact h)
/-- The one that is ready. -/
theorem zR {P:Program} {ops:Array Oper} {Q:Exit → Act → World → Prop} {md:Region.Mode} {S:World → Prop} (i:Nat) {o:Oper} {fuel:Nat} {listed:Array Bool} {a:Act} {w:World}
    (h:∀ K':Act → World → Prop,Shut (∀ a w,S w → (S w → wpAnyH P md ops Q S fuel (listed.setIfInBounds i true) a w) → K' a w) → if Region.wanted o (yielded ops a.tmps)=true then Oper.wp P o a w K' Q else K' (a.put o.dst undef) w)
    (hi:ops[i]?=some o:=by simp only [zGA,zGZ,zGS] <;> rfl) (hr:Region.ready md ops listed=[i]:=by kernel_rfl):wpAnyH P md ops Q S (fuel+1) listed a w :=
  wpAnyH_ready hr (by simp) (AllReadyH.cons hi h AllReadyH.nil)
/-- A region's beginning. -/
theorem zH {P:Program} {ops:Array Oper} {Q:Exit → Act → World → Prop} {S R:World → Prop} {id n:Nat} {a:Act} {w:World} (hS:RowKit.Hid (∀ W,R W → S W)) (hr:R w.drew)
    (h:S w.drew → wpAnyH P .any ops Q S n (Array.replicate n false) a w.drew) (hn:ops.size=n:=by (try simp only [List.size_toArray,List.length_cons,List.length_nil,Nat.reduceAdd]);first | done | rfl) (hm:P.follows .mixedOrders=true:=by kernel_rfl):(Code.region id ops true).wp P Q a w:=by
  subst hn
  exact wp_region_held_drew hm (hS.out _ hr) h
/-- All is done. -/
theorem zD {P:Program} {ops:Array Oper} {Q:Exit → Act → World → Prop} {md:Region.Mode} {S:World → Prop} {listed:Array Bool} {a:Act} {w:World} {fuel:Nat} (h:Q .normal a w) (hr:Region.ready md ops listed=[]:=by kernel_rfl):wpAnyH P md ops Q S fuel listed a w:=wpAnyH_done hr h fuel
theorem zh {p:Prop} (h:p):RowKit.Hid p:=Lib.hid h
theorem zg {α:Type _} {l:List α} {i:Nat} (h:i < l.length):l[i]?=some l[i]:=List.getElem?_eq_getElem h
theorem zi {α:Type _} {l:List α} {i:Nat} {a:α}:l[i]?=some a ↔ ∃ h:i < l.length,l[i]=a:=List.getElem?_eq_some_iff
theorem zC2 {w:World} {b:Nat} {l:List Value} {t:TypeId} {fr:Nat × Nat} {a0 a1:Value} (h:w.heap[b]?=some (.cells (a0 :: a1 :: l).toArray t fr)):w.cell? ⟨b,0,none⟩=some a0 ∧ w.cell? ⟨b,1,none⟩=some a1:=⟨(Z1 h 0).trans rfl,(Z1 h 1).trans rfl⟩
theorem zC3 {w:World} {b:Nat} {l:List Value} {t:TypeId} {fr:Nat × Nat} {a0 a1 a2:Value} (h:w.heap[b]?=some (.cells (a0 :: a1 :: a2 :: l).toArray t fr)):w.cell? ⟨b,0,none⟩=some a0 ∧ w.cell? ⟨b,1,none⟩=some a1 ∧ w.cell? ⟨b,2,none⟩=some a2:=⟨(Z1 h 0).trans rfl,(Z1 h 1).trans rfl,(Z1 h 2).trans rfl⟩
theorem zC4 {w:World} {b:Nat} {l:List Value} {t:TypeId} {fr:Nat × Nat} {a0 a1 a2 a3:Value} (h:w.heap[b]?=some (.cells (a0 :: a1 :: a2 :: a3 :: l).toArray t fr)):w.cell? ⟨b,0,none⟩=some a0 ∧ w.cell? ⟨b,1,none⟩=some a1 ∧ w.cell? ⟨b,2,none⟩=some a2 ∧ w.cell? ⟨b,3,none⟩=some a3:=⟨(Z1 h 0).trans rfl,(Z1 h 1).trans rfl,(Z1 h 2).trans rfl,(Z1 h 3).trans rfl⟩
theorem zC5 {w:World} {b:Nat} {l:List Value} {t:TypeId} {fr:Nat × Nat} {a0 a1 a2 a3 a4:Value} (h:w.heap[b]?=some (.cells (a0 :: a1 :: a2 :: a3 :: a4 :: l).toArray t fr)):w.cell? ⟨b,0,none⟩=some a0 ∧ w.cell? ⟨b,1,none⟩=some a1 ∧ w.cell? ⟨b,2,none⟩=some a2 ∧ w.cell? ⟨b,3,none⟩=some a3 ∧ w.cell? ⟨b,4,none⟩=some a4:=⟨(Z1 h 0).trans rfl,(Z1 h 1).trans rfl,(Z1 h 2).trans rfl,(Z1 h 3).trans rfl,(Z1 h 4).trans rfl⟩
theorem zC6 {w:World} {b:Nat} {l:List Value} {t:TypeId} {fr:Nat × Nat} {a0 a1 a2 a3 a4 a5:Value} (h:w.heap[b]?=some (.cells (a0 :: a1 :: a2 :: a3 :: a4 :: a5 :: l).toArray t fr)):w.cell? ⟨b,0,none⟩=some a0 ∧ w.cell? ⟨b,1,none⟩=some a1 ∧ w.cell? ⟨b,2,none⟩=some a2 ∧ w.cell? ⟨b,3,none⟩=some a3 ∧ w.cell? ⟨b,4,none⟩=some a4 ∧ w.cell? ⟨b,5,none⟩=some a5:=⟨(Z1 h 0).trans rfl,(Z1 h 1).trans rfl,(Z1 h 2).trans rfl,(Z1 h 3).trans rfl,(Z1 h 4).trans rfl,(Z1 h 5).trans rfl⟩
theorem zC7 {w:World} {b:Nat} {l:List Value} {t:TypeId} {fr:Nat × Nat} {a0 a1 a2 a3 a4 a5 a6:Value} (h:w.heap[b]?=some (.cells (a0 :: a1 :: a2 :: a3 :: a4 :: a5 :: a6 :: l).toArray t fr)):w.cell? ⟨b,0,none⟩=some a0 ∧ w.cell? ⟨b,1,none⟩=some a1 ∧ w.cell? ⟨b,2,none⟩=some a2 ∧ w.cell? ⟨b,3,none⟩=some a3 ∧ w.cell? ⟨b,4,none⟩=some a4 ∧ w.cell? ⟨b,5,none⟩=some a5 ∧ w.cell? ⟨b,6,none⟩=some a6:=⟨(Z1 h 0).trans rfl,(Z1 h 1).trans rfl,(Z1 h 2).trans rfl,(Z1 h 3).trans rfl,(Z1 h 4).trans rfl,(Z1 h 5).trans rfl,(Z1 h 6).trans rfl⟩
theorem zA {P:Program} {ops:Array Oper} {Q:Exit → Act → World → Prop} {md:Region.Mode} {S:World → Prop} {fuel:Nat} {listed:Array Bool} {a:Act} {w:World} {i:Nat} {o:Oper} {rs:List Nat}
    (h:∀ K':Act → World → Prop,Shut (∀ a w,S w → (S w → wpAnyH P md ops Q S fuel (listed.setIfInBounds i true) a w) → K' a w) → if Region.wanted o (yielded ops a.tmps)=true then Oper.wp P o a w K' Q else K' (a.put o.dst undef) w)
    (hs:AllReadyH P md ops Q S fuel listed a w rs) (ho:ops[i]?=some o:=by simp only [zGA,zGZ,zGS] <;> rfl):AllReadyH P md ops Q S fuel listed a w (i :: rs):=AllReadyH.cons ho h hs
end Go
namespace Go.Lap
section
open Go.RowKit
abbrev Quiet (w w':World):Prop:=Z0 (fun _=>False) w w'
def Z9 (l:List Nat):List Value:=l.map (fun x:Nat=>Value.int .u8 x)
theorem Z0A (l:List Nat):∀ u ∈ Z9 l,u.oneCell'=true:=by
 intro u hu
 obtain ⟨n,_,rfl⟩:=List.mem_map.1 hu
 rfl
theorem Zb {w:World} {a b:Nat} {c1 c2:Array Value} {t1 t2:TypeId} {f1 f2:Nat × Nat} (h1:w.heap[a]?=some (.cells c1 t1 f1)) (h2:w.heap[b]?=some (.cells c2 t2 f2)) (h:t1 ≠ t2):a ≠ b:=by
 intro e
 subst e
 rw [h1] at h2
 injection h2 with h2
 injection h2 with _ h3 _
 exact h h3
theorem Z29 {α:Type} {M:List α} {s:α} {k:Nat} {x:α} (h:(M ++ [s])[k]?=some x):(k < M.length/\M[k]?=some x) ∨ (k=M.length/\x=s):=by
 rw [List.getElem?_append] at h
 split at h
 ·exact Or.inl ⟨by assumption,h⟩
 ·rcases hk:k - M.length with _ | n
  ·rw [hk] at h
   simp at h
   exact Or.inr ⟨by omega,h.symm⟩
  ·rw [hk] at h
   simp at h
theorem Zh {w:World} {e:TypeId} {size:Nat} {v:Value} {n:Nat} {xs:List Value} (h:w.ownsRow 0 e size v n xs) {k:Nat} (hk:v.ownBlock=some k):∃ c,w.heap[k]?=some (.cells c e (0,0)):=by
 rcases h.2 with ⟨rfl,_⟩ | ⟨g,cap,cur,rfl,_,hh,_⟩
 ·cases hk
 ·obtain rfl:g=k:=by injection hk
  exact ⟨_,hh⟩
abbrev ptrV (p:Nat):Value:=.pointer (some ⟨p,0,none⟩)
theorem Z3v (ps:List Nat):∀ u ∈ ps.map ptrV,u.oneCell'=true:=by
 intro u hu
 obtain ⟨n,_,rfl⟩:=List.mem_map.1 hu
 rfl
theorem Z3a {x:Int} (h:-9223372036854775808 <= x/\x < 9223372036854775808):IntKind.i64.wrap x=x:=by
 rw [IntKind.wrap_i64]
 omega
def strOf (l:List Nat):ByteArray:=⟨(l.map UInt8.ofNat).toArray⟩
end
def Z0N (L:List Nat) (j:Nat):Nat:=L.getD (4 * j) 0+4 * L.getD (4 * j+1) 0+16 * L.getD (4 * j+2) 0+64 * L.getD (4 * j+3) 0
def Z0X (L:List Nat):List Nat:=(List.range ((L.length+3) / 4)).map (Z0N L)
def Z2m (L:List Nat):Prop:=∀ x ∈ L,x <= 3
theorem Z2m.le {L:List Nat} (h:Z2m L) (i:Nat):L.getD i 0 <= 3:=by
 rw [List.getD_eq_getElem?_getD]
 rcases e:L[i]? with _ | x
 ·simp
 ·have:=h x (List.mem_of_getElem? e)
  simp;omega
theorem Z2m.byte {L:List Nat} (h:Z2m L) (j:Nat):Z0N L j < 256:=by
 have h0:=h.le (4 * j)
 have h1:=h.le (4 * j+1)
 have h2:=h.le (4 * j+2)
 have h3:=h.le (4 * j+3)
 unfold Z0N
 omega
theorem Z2m.set {L:List Nat} (h:Z2m L) (i:Nat) {s:Nat} (hs:s <= 3):Z2m (L.set i s):=by
 intro x hx
 rcases List.mem_or_eq_of_mem_set hx with y | y
 ·exact h x y
 ·subst y;exact hs
theorem Z2m.snoc {L:List Nat} (h:Z2m L) {s:Nat} (hs:s <= 3):Z2m (L ++ [s]):=by
 intro x hx
 rcases List.mem_append.1 hx with y | y
 ·exact h x y
 ·simp at y;subst y;exact hs
theorem Z06 (L:List Nat):(Z0X L).length=(L.length+3) / 4:=by simp [Z0X]
theorem Z1C (L:List Nat) {j:Nat} (h:j < (L.length+3) / 4):(Z0X L)[j]?=some (Z0N L j):=by
 unfold Z0X
 rw [List.getElem?_map,List.getElem?_range h]
 rfl
theorem Zaj {L:List Nat} (h:Z2m L) (i:Nat):Z0N L (i / 4) / 4 ^ (i % 4) % 4=L.getD i 0:=by
 have h0:=h.le (4 * (i / 4))
 have h1:=h.le (4 * (i / 4)+1)
 have h2:=h.le (4 * (i / 4)+2)
 have h3:=h.le (4 * (i / 4)+3)
 have hd:i=4 * (i / 4)+i % 4:=by omega
 generalize hq:i / 4=q at *
 have hr:i % 4 < 4:=Nat.mod_lt _ (by omega)
 generalize i % 4=r at *
 subst hd
 unfold Z0N
 rcases r with _ | _ | _ | _ | r
 ·simp only [Nat.pow_zero,Nat.div_one,Nat.add_zero];omega
 ·simp only [Nat.zero_add,Nat.pow_one];omega
 ·simp only [Nat.zero_add,Nat.reduceAdd,Nat.reducePow];omega
 ·simp only [Nat.zero_add,Nat.reduceAdd,Nat.reducePow];omega
 ·omega
theorem Z3b {L:List Nat} {i:Nat} (h:i < L.length) (s:Nat):(L.set i s).getD i 0=s:=by
 rw [List.getD_eq_getElem?_getD,List.getElem?_set_self h];rfl
theorem Z09 {L:List Nat} {i j:Nat} (h:i ≠ j) (s:Nat):(L.set i s).getD j 0=L.getD j 0:=by
 rw [List.getD_eq_getElem?_getD,List.getD_eq_getElem?_getD,List.getElem?_set_ne h]
theorem Zg9 {L:List Nat} (h:Z2m L) {i:Nat} (hi:i < L.length) (s:Nat) :
  Z0N (L.set i s) (i / 4)=Z0N L (i / 4) - 4 ^ (i % 4) * (Z0N L (i / 4) / 4 ^ (i % 4) % 4)+4 ^ (i % 4) * s:=by
 rw [Zaj h]
 have h0:=h.le (4 * (i / 4))
 have h1:=h.le (4 * (i / 4)+1)
 have h2:=h.le (4 * (i / 4)+2)
 have h3:=h.le (4 * (i / 4)+3)
 have hd:i=4 * (i / 4)+i % 4:=by omega
 generalize hq:i / 4=q at *
 have hr:i % 4 < 4:=Nat.mod_lt _ (by omega)
 generalize i % 4=r at *
 unfold Z0N
 rcases r with _ | _ | _ | _ | r
 ·have e:i=4 * q:=by omega
  subst e
  rw [Z3b hi,Z09 (by omega),Z09 (by omega),Z09 (by omega)]
  simp only [Nat.pow_zero,Nat.one_mul];omega
 ·have e:i=4 * q+1:=by omega
  subst e
  rw [Z3b hi,Z09 (by omega),Z09 (by omega),Z09 (by omega)]
  simp only [Nat.zero_add,Nat.pow_one];omega
 ·have e:i=4 * q+2:=by omega
  subst e
  rw [Z3b hi,Z09 (by omega),Z09 (by omega),Z09 (by omega)]
  simp only [Nat.zero_add,Nat.reduceAdd,Nat.reducePow];omega
 ·have e:i=4 * q+3:=by omega
  subst e
  rw [Z3b hi,Z09 (by omega),Z09 (by omega),Z09 (by omega)]
  simp only [Nat.zero_add,Nat.reduceAdd,Nat.reducePow];omega
 ·omega
theorem ZbQ {L:List Nat} {i j:Nat} (h:i / 4 ≠ j) (s:Nat):Z0N (L.set i s) j=Z0N L j:=by
 unfold Z0N
 rw [Z09 (by omega),Z09 (by omega),Z09 (by omega),Z09 (by omega)]
theorem Zev {L:List Nat} {i:Nat} (_:i < L.length) (s:Nat):Z0X (L.set i s)=(Z0X L).set (i / 4) (Z0N (L.set i s) (i / 4)):=by
 apply List.ext_getElem?
 intro j
 rw [List.getElem?_set]
 rcases Nat.lt_or_ge j ((L.length+3) / 4) with hj | hj
 ·rw [Z1C _ (by simpa using hj)]
  by_cases e:i / 4=j
  ·subst e
   rw [if_pos rfl,if_pos (by rw [Z06];omega)]
  ·rw [if_neg e,Z1C _ hj,ZbQ e]
 ·rw [List.getElem?_eq_none (by rw [Z06];simpa using hj)]
  split
  ·rename_i e
   rw [if_neg (by rw [Z06];omega)]
  ·rw [List.getElem?_eq_none (by rw [Z06];exact hj)]
def Z7z (L:List Nat):List Nat:=if L.length % 4=0 then Z0X L ++ [0] else Z0X L
theorem Z6G (L:List Nat):Z0X (L ++ [0])=Z7z L:=by
 have hg:∀ k,(L ++ [0]).getD k 0=L.getD k 0:=by
  intro k
  rw [List.getD_eq_getElem?_getD,List.getD_eq_getElem?_getD,List.getElem?_append]
  split
  ·rfl
  ·rename_i h
   rw [List.getElem?_eq_none (by omega:L.length <= k)]
   rcases hk:k - L.length with _ | n <;> simp
 have hb:∀ j,Z0N (L ++ [0]) j=Z0N L j:=by
  intro j
  unfold Z0N
  rw [hg,hg,hg,hg]
 unfold Z7z
 apply List.ext_getElem?
 intro j
 by_cases h4:L.length % 4=0
 ·rw [if_pos h4]
  rcases Nat.lt_trichotomy j ((L.length+3) / 4) with hj | hj | hj
  ·rw [Z1C _ (by simp;omega),List.getElem?_append_left (by rw [Z06];exact hj),Z1C _ hj,hb]
  ·rw [Z1C _ (by simp;omega),List.getElem?_append_right (by rw [Z06];omega),Z06,hb]
   have e:j - (L.length+3) / 4=0:=by omega
   rw [e]
   have hz:∀ k,L.length <= k->L.getD k 0=0:=fun k hk=>by rw [List.getD_eq_getElem?_getD,List.getElem?_eq_none hk];rfl
   unfold Z0N
   rw [hz _ (by omega),hz _ (by omega),hz _ (by omega),hz _ (by omega)]
   rfl
  ·rw [List.getElem?_eq_none (by rw [Z06];simp;omega),List.getElem?_eq_none (by rw [List.length_append,Z06];simp;omega)]
 ·rw [if_neg h4]
  rcases Nat.lt_or_ge j ((L.length+3) / 4) with hj | hj
  ·rw [Z1C _ (by simp;omega),Z1C _ hj,hb]
  ·rw [List.getElem?_eq_none (by rw [Z06];simp;omega),List.getElem?_eq_none (by rw [Z06];omega)]
theorem ZbR (L:List Nat) (s:Nat):(L ++ [0]).set L.length s=L ++ [s]:=by simp
def stateL (L:List Nat) (x:Nat):Nat:=if 1 <= x then L.getD (x - 1) 0 else 0
theorem Z4I {L:List Nat} {x:Nat} (h:x < 1 ∨ L.length < x):stateL L x=0:=by
 unfold stateL
 split
 ·rw [List.getD_eq_getElem?_getD,List.getElem?_eq_none (by omega)];rfl
 ·rfl
def Z3E (L:List Nat):List Nat:=(List.range L.length).filterMap fun i=>if L.getD i 0=1 then some (i+1) else none
def Z6a (L:List Nat) (k:Nat):List Nat:=(List.range k).filterMap fun i=>if L.getD i 0=1 then some (i+1) else none
theorem Zak (L:List Nat):Z6a L L.length=Z3E L:=rfl
theorem Zew (L:List Nat) (k:Nat):Z6a L (k+1)=Z6a L k ++ if L.getD k 0=1 then [k+1] else []:=by
 unfold Z6a
 rw [List.range_succ,List.filterMap_append]
 congr 1
 by_cases h:L.getD k 0=1
 ·rw [if_pos h,List.filterMap_cons,if_pos h];rfl
 ·rw [if_neg h,List.filterMap_cons,if_neg h];rfl
theorem Z6H (L:List Nat) (k:Nat):(Z6a L k).length <= k:=by
 have:=List.length_filterMap_le (fun i=>if L.getD i 0=1 then some (i+1) else none) (List.range k)
 simpa [Z6a] using this
theorem Z6I {L:List Nat} {x:Nat}:x ∈ Z3E L ↔ stateL L x=1:=by
 unfold Z3E stateL
 rw [List.mem_filterMap]
 constructor
 ·rintro ⟨i,hi,h⟩
  split at h
  ·rename_i e
   injection h with h
   subst h
   rw [if_pos (by omega)]
   exact e
  ·cases h
 ·intro h
  split at h
  ·rename_i hx
   refine ⟨x - 1,?_,?_⟩
   ·rw [List.mem_range]
    rcases Nat.lt_or_ge (x - 1) L.length with y | y
    ·exact y
    ·rw [List.getD_eq_getElem?_getD,List.getElem?_eq_none y] at h;cases h
   ·rw [if_pos h,show x - 1+1=x by omega]
  ·cases h
structure ZA where
 own:Nat
 xmin:Nat
 xmax:Nat
 run:List Nat
 deriving DecidableEq
def leastR (own:Nat) (n:Nat) (l:List Nat):Nat:=l.foldl (fun m x=>if x=own then m else min m x) n
def others (own:Nat) (R:List Nat):List Nat:=R.filter (· ≠ own)
theorem Z8N {own x:Nat} {R:List Nat}:x ∈ others own R ↔ x ∈ R/\x ≠ own:=by unfold others;rw [List.mem_filter];simp
def Z2I (L:List Nat) (own:Nat):ZA:=⟨own,leastR own (L.length+1) (Z3E L),L.length+1,others own (Z3E L)⟩
def Z1i (L:List Nat) (s:ZA) (x:Nat):Bool:=decide (x=s.own) || (decide (x < s.xmax) && !decide (x ∈ s.run) && decide (stateL L x=2))
def Z1T (L:List Nat) (s:ZA) (xmin xmax:Nat):Bool:=Z1i L s xmin && (decide (xmax=0) || !Z1i L s xmax)
def freeS (L:List Nat) (s:ZA) (xmin xmax:Nat):Nat :=
 if xmax ≠ 0/\xmax ≠ s.own/\stateL L xmax ≠ 3 then 11 else if Z1T L s xmin xmax=false then 14 else 0
def Z0h (L:List Nat) (xmin xmax horizon:Nat):Bool:=decide (stateL L xmin=3) || (decide (xmax ≠ 0) && decide (stateL L xmax=2) && decide (xmax < horizon))
theorem ZbS {L:List Nat} {x:Nat} (h:x ∈ Z3E L):1 <= x/\x <= L.length:=by
 rw [Z6I] at h
 refine ⟨?_,?_⟩
 ·rcases Nat.lt_or_ge x 1 with y | y
  ·rw [Z4I (Or.inl y)] at h;cases h
  ·exact y
 ·rcases Nat.lt_or_ge L.length x with y | y
  ·rw [Z4I (Or.inr y)] at h;cases h
  ·exact y
section
open Go.RowKit
theorem ZhV (x s r:Nat) (hx:x < 256) (hs:s <= 3) (hr:r < 4) :
  bits .or .u8 (bits .andNot .u8 (x:Int) (3 * 2 ^ (2 * r) % 256)) ((s:Int) * 2 ^ (2 * r) % 256)=((x - 4 ^ r * (x / 4 ^ r % 4)+4 ^ r * s:Nat):Int):=by
 have key:∀ (x:Fin 256) (s r:Fin 4),bits .or .u8 (bits .andNot .u8 ((x.val:Nat):Int) (3 * 2 ^ (2 * r.val) % 256)) (((s.val:Nat):Int) * 2 ^ (2 * r.val) % 256)=((x.val - 4 ^ r.val * (x.val / 4 ^ r.val % 4)+4 ^ r.val * s.val:Nat):Int):=by decide +kernel
 exact key ⟨x,hx⟩ ⟨s,by omega⟩ ⟨r,hr⟩
theorem ZhW (x r:Nat) (hx:x < 256) (hr:r < 4):bits .and .u8 ((x:Int) / 2 ^ (2 * r)) 3=((x / 4 ^ r % 4:Nat):Int):=by
 have key:∀ (x:Fin 256) (r:Fin 4),bits .and .u8 (((x.val:Nat):Int) / 2 ^ (2 * r.val)) 3=((x.val / 4 ^ r.val % 4:Nat):Int):=by decide +kernel
 exact key ⟨x,hx⟩ ⟨r,hr⟩
end
section
open Go.RowKit
def U64 (k:Nat):Prop:=k < 18446744073709551616
def ZE (l:List Nat):List Value:=l.map (fun x:Nat=>Value.int .u64 x)
theorem Z4P (l:List Nat):∀ u ∈ ZE l,u.oneCell'=true:=by
 intro u hu
 obtain ⟨n,_,rfl⟩:=List.mem_map.1 hu
 rfl
theorem Zex (l:List Nat) (i x:Nat):(Z9 l).set i (.int .u8 (x:Int))=Z9 (l.set i x):=by simp [Z9,List.map_set]
end
section
open Go.RowKit Go.Maps Go.MapKept
open Go.ChangeMaps (setBlock)
theorem wf_u64 {k:Nat} (h:U64 k):(Lit.int .u64 (k:Int)).wf=true:=by
 unfold U64 at h
 exact WalkArith.wf_u64 (by omega)
def Z0f (w:World) (b:Nat) (f:Nat->Option Value):Prop :=
 ∃ es clock,w.heap[b]?=some (.map es clock)/\Stamped es clock/\(∀ x ∈ es.toList,∃ k:Nat,U64 k/\x.key=.int .u64 (k:Int)/\f k=some x.val)/\∀ k v,f k=some v->∃ x ∈ es.toList,x.key=.int .u64 (k:Int)/\x.val=v
theorem Z0f.kept {S:Nat->Prop} {w w':World} {b:Nat} {f:Nat->Option Value} (h:Z0f w b f) (ho:Z0 S w w') (hn:¬ S b):Z0f w' b f:=by
 obtain ⟨es,clock,h1,r⟩:=h
 exact ⟨es,clock,ho.get h1 hn,r⟩
theorem Z0f.lt {w:World} {b:Nat} {f:Nat->Option Value} (h:Z0f w b f):b < w.heap.size:=by
 obtain ⟨es,clock,h1,_⟩:=h
 exact Z2 h1
theorem Z0f.small {w:World} {b:Nat} {f:Nat->Option Value} (h:Z0f w b f) {k:Nat} {v:Value} (hk:f k=some v):U64 k:=by
 obtain ⟨es,clock,h1,h2,h3,h4⟩:=h
 obtain ⟨x,hx,e1,e2⟩:=h4 k v hk
 obtain ⟨k',hk',e3,_⟩:=h3 x hx
 rw [e1] at e3
 injection e3 with _ e3
 have:k=k':=by omega
 rw [this];exact hk'
theorem Z6J (w:World):Z0f (w.alloc (.map #[] 0)) w.heap.size (fun _=>none) :=
 ⟨#[],0,Z4 _ _,stamped_empty 0,fun x hx=>by simp at hx,fun k v h=>by cases h⟩
section
variable {P:Program} {t k e:TypeId} {w:World} {b:Nat} {f:Nat->Option Value}
theorem Z0f.find (_:Z0f w b f) (hk:P.underlying k=some (.int .u64)) {x:Nat} (hx:U64 x) (es:List MapEntry) (hes:∀ y ∈ es,∃ k:Nat,U64 k/\y.key=.int .u64 (k:Int)/\f k=some y.val) :
  ((Instr.findKey k (.int .u64 (x:Int)) es).run P w=.ok none w/\∀ y ∈ es,y.key ≠ .int .u64 (x:Int)) ∨ ∃ j y,(Instr.findKey k (.int .u64 (x:Int)) es).run P w=.ok (some (j,y.val)) w/\es[j]?=some y/\y.key=.int .u64 (x:Int) :=
 (int_keyed hk).find w (keyOf_int_mk hk (wf_u64 hx)) es (fun y hy=>by
   obtain ⟨k',h1,h2,_⟩:=hes y hy
   exact ⟨_,by rw [h2];exact keyOf_int_mk hk (wf_u64 h1)⟩)
theorem ZhX {f:Nat->Option Value} {x:Nat} {y:MapEntry} (hy:∃ k:Nat,U64 k/\y.key=.int .u64 (k:Int)/\f k=some y.val) (he:y.key=.int .u64 (x:Int)):f x=some y.val:=by
 obtain ⟨k,_,e,r⟩:=hy
 rw [he] at e
 injection e with _ e
 have:x=k:=by omega
 rw [this];exact r
theorem Z0f.lookup (h:Z0f w b f) (ht:P.underlying t=some (.map k e)) (hk:P.underlying k=some (.int .u64)) (c:Bool) {z:Value} (hz:(zeroValue e).run P w=.ok z w) {x:Nat} (hx:U64 x) :
  (Instr.lookup t (.map (some b)) (.int .u64 (x:Int)) c).run P w=.ok (if c then .tuple #[(f x).getD z,.bool (f x).isSome] else (f x).getD z) w:=by
 have h':=h
 obtain ⟨es,clock,h1,h2,h3,h4⟩:=h
 have hck:=(int_keyed hk).check w es.isEmpty (keyOf_int_mk hk (wf_u64 hx))
 rcases h'.find hk hx es.toList h3 with ⟨h5,h6⟩ | ⟨j,y,h5,h6,h7⟩
 ·have hf:f x=none:=by
   rcases hfx:f x with _ | v
   ·rfl
   ·obtain ⟨y,hy,e1,_⟩:=h4 x v hfx
    exact absurd e1 (h6 y hy)
  rw [hf]
  simp [Instr.lookup,run_underlying ht,MapKept.run_getObj_map h1,hck,h5,hz,Result.andThen]
 ·have hf:=ZhX (h3 y (List.mem_of_getElem? h6)) h7
  rw [hf]
  simp [Instr.lookup,run_underlying ht,MapKept.run_getObj_map h1,hck,h5,Result.andThen]
theorem Z3c {es:Array MapEntry} {clock:Nat} (h:w.heap[b]?=some (.map es clock)) (o:Obj):Z0 (·=b) w (setBlock w b o) :=
 ⟨rfl,rfl,rfl,by simp [setBlock],fun _ _ hn=>Go.ChangeMaps.heap_setBlock_other h o hn⟩
theorem Z0f.update (h:Z0f w b f) (ht:P.underlying t=some (.map k e)) (hk:P.underlying k=some (.int .u64)) {x:Nat} (hx:U64 x) (v:Value) :
  ∃ w',(Instr.mapUpdate t (.map (some b)) (.int .u64 (x:Int)) v).run P w=.ok () w'/\Z0f w' b (upd f x (some v))/\Z0 (·=b) w w':=by
 have h':=h
 obtain ⟨es,clock,h1,h2,h3,h4⟩:=h
 have hck:=(int_keyed hk).check w false (keyOf_int_mk hk (wf_u64 hx))
 rcases h'.find hk hx es.toList h3 with ⟨h5,h6⟩ | ⟨j,y,h5,h6,h7⟩
 ·refine ⟨setBlock w b (.map (es.push ⟨.int .u64 (x:Int),v,clock⟩) (clock+1)),by simp [Instr.mapUpdate,run_underlying ht,MapKept.run_getObj_map h1,hck,h5,MapKept.run_setObj_map _ h1,Result.andThen,setBlock],⟨_,_,Go.ChangeMaps.heap_setBlock_same h1 _,stamped_push h2 h6,?_,?_⟩,Z3c h1 _⟩
  ·intro y hy
   simp only [Array.toList_push,List.mem_append,List.mem_singleton] at hy
   rcases hy with hy | rfl
   ·obtain ⟨k',a1,a2,a3⟩:=h3 y hy
    refine ⟨k',a1,a2,?_⟩
    rw [ZX _ _ (fun e=>h6 y hy (by rw [a2,e]))]
    exact a3
   ·exact ⟨x,hx,rfl,by rw [Z1S]⟩
  ·intro k' v' hv
   simp only [Array.toList_push,List.mem_append,List.mem_singleton]
   by_cases e:k'=x
   ·subst e
    rw [Z1S] at hv
    injection hv with hv
    exact ⟨_,Or.inr rfl,rfl,hv⟩
   ·rw [ZX _ _ e] at hv
    obtain ⟨y,hy,a1,a2⟩:=h4 k' v' hv
    exact ⟨y,Or.inl hy,a1,a2⟩
 ·have hkey:∀ z ∈ es.toList,es[j]?=some z->({ z with key:=.int .u64 (x:Int),val:=v }:MapEntry).key=z.key:=fun z _ hz=>by
   rw [show es[j]?=some y by simpa using h6] at hz
   injection hz with hz
   subst hz
   exact h7.symm
  have hst:=(int_keyed hk).stays w (keyOf_int_mk hk (wf_u64 hx))
  have hj:es[j]?=some y:=by simpa using h6
  refine ⟨setBlock w b (.map (es.modify j fun z=>{ z with key:=.int .u64 (x:Int),val:=v }) clock),?_,⟨_,_,Go.ChangeMaps.heap_setBlock_same h1 _,stamped_modify h2 j _ (fun _ _=>rfl) hkey,?_,?_⟩,Z3c h1 _⟩
  ·simp [Instr.mapUpdate,run_underlying ht,MapKept.run_getObj_map h1,hck,h5,hj,h7,hst,MapKept.run_setObj_map _ h1,Result.andThen,setBlock]
  ·intro z hz
   rw [Array.toList_modify,Go.ChangeMaps.modify_eq_set _ _ _ _ h6] at hz
   obtain ⟨i,hi⟩:=List.mem_iff_getElem?.1 hz
   rw [List.getElem?_set] at hi
   split at hi
   ·split at hi
    ·injection hi with hi
     subst hi
     exact ⟨x,hx,rfl,by rw [Z1S]⟩
    ·cases hi
   ·rename_i hne
    obtain ⟨k',a1,a2,a3⟩:=h3 z (List.mem_of_getElem? hi)
    refine ⟨k',a1,a2,?_⟩
    rw [ZX _ _ (fun e=>hne ?_)]
    ·exact a3
    ·have hnd:=h2.2.2
     have l1:j < es.toList.length:=(zi.1 h6).1
     refine (List.getElem?_inj (l:=es.toList.map (·.key)) (by simpa using l1) hnd).1 ?_
     rw [List.getElem?_map,List.getElem?_map,h6,hi]
     simp [h7,a2,e]
  ·intro k' v' hv
   rw [Array.toList_modify,Go.ChangeMaps.modify_eq_set _ _ _ _ h6]
   have l1:j < es.toList.length:=(zi.1 h6).1
   by_cases e:k'=x
   ·subst e
    rw [Z1S] at hv
    injection hv with hv
    exact ⟨_,List.mem_of_getElem? (List.getElem?_set_self l1),rfl,hv⟩
   ·rw [ZX _ _ e] at hv
    obtain ⟨z,hz,a1,a2⟩:=h4 k' v' hv
    obtain ⟨i,hi⟩:=List.mem_iff_getElem?.1 hz
    refine ⟨z,List.mem_of_getElem? (i:=i) ?_,a1,a2⟩
    rw [List.getElem?_set_ne (fun x'=>?_)]
    ·exact hi
    ·subst x'
     rw [h6] at hi
     injection hi with hi
     subst hi
     rw [h7] at a1
     injection a1 with _ a1
     exact e (by omega)
theorem Z0f.delete (h:Z0f w b f) (ht:P.underlying t=some (.map k e)) (hk:P.underlying k=some (.int .u64)) (ty:TypeId) {x:Nat} (hx:U64 x) :
  ∃ w',(Builtin.delete_ #[t,k] ty #[.map (some b),.int .u64 (x:Int)]).run P w=.ok (.tuple #[]) w'/\Z0f w' b (upd f x none)/\Z0 (·=b) w w':=by
 have h':=h
 obtain ⟨es,clock,h1,h2,h3,h4⟩:=h
 have hck:=(int_keyed hk).check w es.isEmpty (keyOf_int_mk hk (wf_u64 hx))
 rcases h'.find hk hx es.toList h3 with ⟨h5,h6⟩ | ⟨j,y,h5,h6,h7⟩
 ·refine ⟨setBlock w b (.map es clock),by simp [Builtin.delete_,run_underlying ht,MapKept.run_getObj_map h1,hck,h5,MapKept.run_setObj_map _ h1,Result.andThen,setBlock],⟨_,_,Go.ChangeMaps.heap_setBlock_same h1 _,h2,?_,?_⟩,Z3c h1 _⟩
  ·intro y hy
   obtain ⟨k',a1,a2,a3⟩:=h3 y hy
   exact ⟨k',a1,a2,by rw [ZX _ _ (fun e=>h6 y hy (by rw [a2,e]))];exact a3⟩
  ·intro k' v' hv
   by_cases e:k'=x
   ·subst e;rw [Z1S] at hv;cases hv
   ·rw [ZX _ _ e] at hv
    exact h4 k' v' hv
 ·have hjl:j < es.toList.length:=(zi.1 h6).1
  have hjs:j < es.size:=by simpa using hjl
  have hsub:(es.eraseIdxIfInBounds j).toList=es.toList.eraseIdx j:=by
   unfold Array.eraseIdxIfInBounds
   rw [dif_pos hjs]
   simp
  refine ⟨setBlock w b (.map (es.eraseIdxIfInBounds j) clock),by simp [Builtin.delete_,run_underlying ht,MapKept.run_getObj_map h1,hck,h5,MapKept.run_setObj_map _ h1,Result.andThen,setBlock],⟨_,_,Go.ChangeMaps.heap_setBlock_same h1 _,stamped_erase h2 j,?_,?_⟩,Z3c h1 _⟩
  ·intro z hz
   rw [hsub] at hz
   obtain ⟨i,hi,hij⟩:=List.mem_eraseIdx_iff_getElem?.1 hz
   obtain ⟨k',a1,a2,a3⟩:=h3 z (List.mem_of_getElem? hij)
   refine ⟨k',a1,a2,?_⟩
   rw [ZX _ _ (fun e=>hi ?_)]
   ·exact a3
   ·have hnd:=h2.2.2
    refine ((List.getElem?_inj (l:=es.toList.map (·.key)) (by simpa using hjl) hnd).1 ?_).symm
    rw [List.getElem?_map,List.getElem?_map,h6,hij]
    simp [h7,a2,e]
  ·intro k' v' hv
   rw [hsub]
   by_cases e:k'=x
   ·subst e;rw [Z1S] at hv;cases hv
   ·rw [ZX _ _ e] at hv
    obtain ⟨z,hz,a1,a2⟩:=h4 k' v' hv
    obtain ⟨i,hi⟩:=List.mem_iff_getElem?.1 hz
    refine ⟨z,List.mem_eraseIdx_iff_getElem?.2 ⟨i,fun x'=>?_,hi⟩,a1,a2⟩
    subst x'
    rw [h6] at hi
    injection hi with hi
    subst hi
    rw [h7] at a1
    injection a1 with _ a1
    exact e (by omega)
variable {ops:Array Oper} {rest:List Oper} {o:Oper} {a:Act} {K:Act->World->Prop} {Q:Exit->Act->World->Prop}
theorem ZbT (m x v:Operand) (hop:o.op=Op.mapUpdate t m x v) (h:Z0f w b f) (ht:P.underlying t=some (.map k e)) (hk:P.underlying k=some (.int .u64))
  {n:Nat} {u:Value} (hm:a.eval m=.map (some b)) (hx:a.eval x=.int .u64 (n:Int)) (hv:a.eval v=u) (hn:U64 n) (hK:∀ w',Z0f w' b (upd f n (some u))->Z0 (·=b) w w'->K (a.put o.dst undef) w'):o.wp P a w K Q:=by
 obtain ⟨w',hrun,h1,h2⟩:=h.update ht hk hn u
 unfold Oper.wp
 simp [execOp,hop,hm,hx,hv,hrun,Result.andThen]
 exact hK w' h1 h2
end
end
section
open Go.RowKit Go.Maps Go.MapKept Go.WideElems
def Z3d (v:Value):Option (DataW Value × List MemPlace):=some (.held v,[])
def ZhY (x:MapEntry):Nat:=match x.key with | .int _ z=>z.toNat | _=>0
theorem ZjA {x:MapEntry} {j:Nat} (h:x.key=.int .u64 (j:Int)):ZhY x=j:=by
 unfold ZhY
 rw [h]
 simp
theorem Zdd {l:List Nat} {N:Nat} (h:l.Nodup) (hb:∀ x ∈ l,x <= N):l.length <= N+1:=by
 have:=h.length_le_of_subset (l₂:=List.range (N+1)) (fun x hx=>List.mem_range.2 (Nat.lt_succ_of_le (hb x hx)))
 simpa using this
section
variable {P:Program} {k:TypeId} {w:World} {b:Nat} {f:Nat->Option Value}
theorem Z0f.owns (h:Z0f w b f) (hk:P.underlying k=some (.int .u64)) {N:Nat} (hN:∀ x v,f x=some v->x <= N) (hm:N+1 <= maxLen) :
  ∃ D:DataW Value,w.ownsMap P k Z3d b (N+1) D/\Maps.size D <= N+1/\(∀ kl,Maps.has D kl=true->∃ (x:Nat) (v:Value),kl=.int .u64 (x:Int)/\f x=some v/\∀ z,D.atKey kl z=.held v)/\∀ x v,f x=some v->Maps.has D (.int .u64 (x:Int))=true:=by
 obtain ⟨es,clock,h1,h2,h3,h4⟩:=h
 have hrd:∀ x ∈ es.toList,∃ (j:Nat),rd P k Z3d x=some (.int .u64 (j:Int),.held x.val)/\f j=some x.val/\x.key=.int .u64 (j:Int):=fun x hx=>by
  obtain ⟨j,hj,e1,e2⟩:=h3 x hx
  refine ⟨j,?_,e2,e1⟩
  unfold rd
  rw [e1,keyOf_int_mk hk (wf_u64 hj)]
  rfl
 have hsz:es.size <= N+1:=by
  have hnd:=h2.2.2
  have hl:∀ (l:List MapEntry),(∀ x ∈ l,∃ j:Nat,j <= N/\x.key=.int .u64 (j:Int))->(l.map (·.key)).Nodup->l.length <= N+1:=by
   intro l hall hn
   have hex:∃ m:MapEntry->Nat,∀ x ∈ l,m x <= N/\x.key=.int .u64 ((m x:Nat):Int):=⟨ZhY,fun x hx=>by
     obtain ⟨j,hj,e⟩:=hall x hx
     rw [ZjA e]
     exact ⟨hj,e⟩⟩
   obtain ⟨m,hm⟩:=hex
   have:(l.map m).Nodup:=by
    rw [List.Nodup,List.pairwise_map] at hn ⊢
    refine List.Pairwise.imp_of_mem ?_ hn
    intro a b ha hb hne e
    exact hne (by rw [(hm a ha).2,(hm b hb).2,e])
   have:=Zdd (N:=N) this (fun y hy=>by obtain ⟨x,hx,rfl⟩:=List.mem_map.1 hy;exact (hm x hx).1)
   simpa using this
  have:=hl es.toList (fun x hx=>by obtain ⟨j,_,e2,e3⟩:=hrd x hx;exact ⟨j,hN j _ e2,e3⟩) hnd
  simpa using this
 have hfit:Fit P k Z3d es clock:=⟨by omega,h2,fun x hx=>by obtain ⟨j,e,_⟩:=hrd x hx;exact ⟨_,e⟩⟩
 have hmem:∀ p:Lit × DataW Value,p ∈ (es.toList.map (rg P k Z3d)).foldr DataW.insert []->∃ (j:Nat) (v:Value),p=(.int .u64 (j:Int),.held v)/\f j=some v:=fun p hp=>by
  rw [mem_sorted,List.mem_map] at hp
  obtain ⟨x,hx,rfl⟩:=hp
  obtain ⟨j,e,e2,_⟩:=hrd x hx
  exact ⟨j,x.val,rg_of e,e2⟩
 have same:∀ (j:Nat) (kl:Lit),(Lit.int .u64 (j:Int)).sameKey kl=true->kl=.int .u64 (j:Int):=fun j kl h=>by
  cases kl <;> simp [Lit.sameKey] at h
  obtain ⟨rfl,rfl⟩:=h
  rfl
 refine ⟨.map ((es.toList.map (rg P k Z3d)).foldr DataW.insert []),⟨es,clock,h1,hfit,hsz,rfl⟩,?_,fun kl hkl=>?_,fun x v hx=>?_⟩
 ·show ((es.toList.map (rg P k Z3d)).foldr DataW.insert []).length <= N+1
  rw [length_sorted,List.length_map]
  simpa using hsz
 ·obtain ⟨p,hp,hs⟩:=List.any_eq_true.1 hkl
  obtain ⟨j,v,rfl,hv⟩:=hmem p hp
  obtain rfl:=same j kl hs
  refine ⟨j,v,rfl,hv,fun z=>?_⟩
  simp only [DataW.atKey]
  cases hfi:((es.toList.map (rg P k Z3d)).foldr DataW.insert []).find? (fun p=>p.1.sameKey (.int .u64 (j:Int))) with
  | none =>
   have:=List.find?_eq_none.1 hfi _ hp
   exact absurd hs (by simpa using this)
  | some p2 =>
   have hm:=List.mem_of_find?_eq_some hfi
   have hk2:=List.find?_some hfi
   obtain ⟨j2,v2,rfl,hv2⟩:=hmem p2 hm
   have e:=same j2 _ hk2
   injection e with _ e
   have:j=j2:=by omega
   subst this
   rw [hv] at hv2
   injection hv2 with hv2
   simp only [hv2]
 ·obtain ⟨y,hy,y1,y2⟩:=h4 x v hx
  obtain ⟨j,e,e2,e3⟩:=hrd y hy
  rw [y1] at e3
  injection e3 with _ e3
  have:j=x:=by omega
  subst this
  refine List.any_eq_true.2 ⟨rg P k Z3d y,mem_sorted.2 (List.mem_map.2 ⟨y,hy,rfl⟩),?_⟩
  rw [rg_of e]
  simp [Lit.sameKey]
end
end
def Zw (g:Nat->Nat):Nat->Nat->Nat
 | _,0=>0
 | off,n+1=>g off+256 * Zw g (off+1) n
theorem Z8b {g:Nat->Nat} (hg:∀ i,g i < 256):∀ n off,Zw g off n < 256 ^ n
 | 0,_=>by simp [Zw]
 | n+1,off=>by
  have:=Z8b hg n (off+1)
  have:=hg off
  rw [Zw,Nat.pow_succ]
  omega
theorem ZI {g g':Nat->Nat}:∀ n off,(∀ i,off <= i->i < off+n->g i=g' i)->Zw g off n=Zw g' off n
 | 0,_,_=>rfl
 | n+1,off,h=>by
  rw [Zw,Zw,h off (Nat.le_refl _) (by omega),ZI n (off+1) (fun i h1 h2=>h i (by omega) (by omega))]
def ZL (g:Nat->Nat) (off n x:Nat):Nat->Nat:=fun j=>if off <= j/\j < off+n then x / 256 ^ (j - off) % 256 else g j
theorem Z0p {g:Nat->Nat} (hg:∀ i,g i < 256) (off n x:Nat):∀ i,ZL g off n x i < 256:=by
 intro i
 unfold ZL
 split
 ·exact Nat.mod_lt _ (by omega)
 ·exact hg i
theorem Zu {g:Nat->Nat} {off n x j:Nat} (h:j < off ∨ off+n <= j):ZL g off n x j=g j:=by
 unfold ZL
 rw [if_neg (by omega)]
theorem Z8Q (f:Nat->Nat):∀ n off x,(∀ i,i < n->f (off+i)=x / 256 ^ i % 256)->x < 256 ^ n->Zw f off n=x
 | 0,_,x,_,h=>by simp at h;simp [Zw,h]
 | n+1,off,x,h,hx=>by
  rw [Nat.pow_succ] at hx
  rw [Zw,Z8Q f n (off+1) (x / 256) (fun i hi=>?_) (by omega)]
  ·have:=h 0 (by omega)
   simp at this
   omega
  ·have:=h (i+1) (by omega)
   rw [show off+1+i=off+(i+1) by omega,this,Nat.pow_succ,Nat.mul_comm (256 ^ i) 256,<- Nat.div_div_eq_div_mul]
theorem Z03 {g:Nat->Nat} {off n x:Nat} (hx:x < 256 ^ n):Zw (ZL g off n x) off n=x:=by
 refine Z8Q _ n off x (fun i hi=>?_) hx
 unfold ZL
 rw [if_pos (by omega),Nat.add_sub_cancel_left]
theorem Zr {g:Nat->Nat} {off n x off' n':Nat} (h:off'+n' <= off ∨ off+n <= off'):Zw (ZL g off n x) off' n'=Zw g off' n' :=
 ZI _ _ (fun i h1 h2=>Zu (by omega))
def Z0u (g:Nat->Nat) (off n:Nat) (f:Nat->Nat):Nat->Nat:=fun j=>if off <= j/\j < off+n then f (j - off) else g j
theorem Z2s {g f:Nat->Nat} {off n j:Nat} (h:j < off ∨ off+n <= j):Z0u g off n f j=g j:=by
 unfold Z0u
 rw [if_neg (by omega)]
theorem Z9O {g f:Nat->Nat} {off n j:Nat} (h:j < n):Z0u g off n f (off+j)=f j:=by
 unfold Z0u
 rw [if_pos (by omega),Nat.add_sub_cancel_left]
theorem Z3T {g f:Nat->Nat} (hg:∀ i,g i < 256) (off n:Nat) (hf:∀ i,i < n->f i < 256):∀ i,Z0u g off n f i < 256:=by
 intro i
 unfold Z0u
 split
 ·exact hf _ (by omega)
 ·exact hg i
theorem Z2W {g f:Nat->Nat} {off n off' n':Nat} (h:off'+n' <= off ∨ off+n <= off'):Zw (Z0u g off n f) off' n'=Zw g off' n' :=
 ZI _ _ (fun i h1 h2=>Z2s (by omega))
structure Tup where
 row:Nat
 xmin:Nat
 xmax:Nat
 pg:Int
 sl:Int
 data:List Nat
def Z0O (pg sl:Int):Bool:=if pg=-1 ∨ sl=-1 then decide (pg ≠ sl) else decide (pg < 0 ∨ 65536 <= pg ∨ sl < 0 ∨ 65535 <= sl)
def Tup.rightB (t:Tup):Bool:=decide (t.row <= 1099511627776/\t.xmin <= 1099511627776/\t.xmax <= 1099511627776/\Z0O t.pg t.sl=false/\t.data.length <= 200)
structure Tup.Ok (t:Tup):Prop where
 right:t.rightB=true
 bytes:∀ x ∈ t.data,x < 256
def Tup.size (t:Tup):Nat:=30+t.data.length
def Tup.hdr (t:Tup):Nat->Nat:=ZL (ZL (ZL (ZL (ZL (fun _=>0) 0 8 t.row) 8 8 t.xmin) 16 8 t.xmax) 24 4 (t.pg+1).toNat) 28 2 (t.sl+1).toNat
def Tup.ver (t:Tup) (j:Nat):Nat:=if j < 30 then t.hdr j else t.data.getD (j - 30) 0
theorem Tup.ver_lt {t:Tup} (h:∀ x ∈ t.data,x < 256):∀ j,t.ver j < 256:=by
 intro j
 unfold Tup.ver
 split
 ·exact Z0p (Z0p (Z0p (Z0p (Z0p (fun _=>by omega) _ _ _) _ _ _) _ _ _) _ _ _) _ _ _ _
 ·rw [List.getD_eq_getElem?_getD]
  rcases hx:t.data[j - 30]? with _ | x
  ·simp
  ·exact h x (List.mem_of_getElem? hx)
theorem Tup.far_bounds {pg sl:Int} (h:Z0O pg sl=false):-1 <= pg/\pg <= 65535/\-1 <= sl/\sl <= 65534:=by
 unfold Z0O at h
 split at h
 ·have:=of_decide_eq_false h
  omega
 ·have:=of_decide_eq_false h
  omega
theorem Tup.Ok.bounds {t:Tup} (h:t.Ok):t.row <= 1099511627776/\t.xmin <= 1099511627776/\t.xmax <= 1099511627776/\-1 <= t.pg/\t.pg <= 65535/\-1 <= t.sl/\t.sl <= 65534/\t.data.length <= 200:=by
 obtain ⟨h1,h2,h3,h4,h5⟩:=of_decide_eq_true h.right
 have:=Tup.far_bounds h4
 omega
theorem Tup.read {t:Tup} (h:t.Ok) {g:Nat->Nat} {f:Nat} (hg:∀ j,j < t.size->g (f+j)=t.ver j) :
  Zw g f 8=t.row/\Zw g (f+8) 8=t.xmin/\Zw g (f+16) 8=t.xmax/\Zw g (f+24) 4=(t.pg+1).toNat/\Zw g (f+28) 2=(t.sl+1).toNat:=by
 have hb:=h.bounds
 have hs:30 <= t.size:=by unfold Tup.size;omega
 have key:∀ o n,o+n <= 30->Zw g (f+o) n=Zw t.hdr o n:=by
  intro o n hon
  have e:∀ n o,o+n <= 30->Zw g (f+o) n=Zw t.hdr o n:=by
   intro n
   induction n with
   | zero=>intro o _;rfl
   | succ n ih =>
    intro o ho
    have h1:=hg o (by omega)
    rw [Tup.ver,if_pos (by omega)] at h1
    rw [Zw,Zw,h1,show f+o+1=f+(o+1) by omega,ih (o+1) (by omega)]
  exact e n o hon
 have k0:=key 0 8 (by omega)
 rw [Nat.add_zero] at k0
 refine ⟨?_,?_,?_,?_,?_⟩
 ·rw [k0,Tup.hdr,Zr (by omega),Zr (by omega),Zr (by omega),Zr (by omega),Z03 (by omega)]
 ·rw [key 8 8 (by omega),Tup.hdr,Zr (by omega),Zr (by omega),Zr (by omega),Z03 (by omega)]
 ·rw [key 16 8 (by omega),Tup.hdr,Zr (by omega),Zr (by omega),Z03 (by omega)]
 ·rw [key 24 4 (by omega),Tup.hdr,Zr (by omega),Z03 (by omega)]
 ·rw [key 28 2 (by omega),Tup.hdr,Z03 (by omega)]
abbrev Slot:=Option (Nat × Tup)
def Slot.from_:Slot->Nat
 | none=>0
 | some (f,_)=>f
def Slot.size:Slot->Nat
 | none=>0
 | some (_,t)=>t.size
theorem Tup.size_pos (t:Tup):30 <= t.size:=by unfold Tup.size;omega
structure Pg (g:Nat->Nat) (L:List Slot) (start:Nat):Prop where
 lt:∀ i,g i < 256
 cnt:Zw g 0 2=L.length
 st:Zw g 2 2=start
 fit:4+4 * L.length <= start
 le:start <= 512
 ptr:∀ i s,L[i]?=some s->Zw g (4+4 * i) 2=Slot.from_ s/\Zw g (6+4 * i) 2=Slot.size s
 ver:∀ (i f:Nat) (t:Tup),L[i]?=some (some (f,t))->start <= f/\f+t.size <= 512/\t.Ok/\∀ j,j < t.size->g (f+j)=t.ver j
 sep:∀ (i j f:Nat) (t:Tup) (f':Nat) (t':Tup),i ≠ j->L[i]?=some (some (f,t))->L[j]?=some (some (f',t'))->f+t.size <= f' ∨ f'+t'.size <= f
 zero:∀ x,4+4 * L.length <= x->x < 512->(∀ (i f:Nat) (t:Tup),L[i]?=some (some (f,t))->x < f ∨ f+t.size <= x)->g x=0
theorem Pg.new:Pg (ZL (ZL (fun _=>0) 0 2 0) 2 2 512) [] 512:=by
 refine ⟨Z0p (Z0p (fun _=>by omega) _ _ _) _ _ _,?_,Z03 (by omega),by simp,Nat.le_refl _,by simp,by simp,by simp,fun x h1 h2 _=>?_⟩
 ·rw [Zr (by omega),Z03 (by omega)];rfl
 ·simp at h1
  rw [Zu (by omega),Zu (by omega)]
def Z6b (g:Nat->Nat) (slot count from_:Nat) (t:Tup):Nat->Nat :=
 ZL (ZL (Z0u (ZL (ZL g 0 2 count) 2 2 from_) from_ t.size t.ver) (4+4 * slot) 2 from_) (6+4 * slot) 2 t.size
def Z4w (L:List Slot) (slot:Nat) (s:Slot):List Slot:=if slot=L.length then L ++ [s] else L.set slot s
theorem Zdf (L:List Slot) (slot:Nat) (s:Slot) (h:slot <= L.length):(Z4w L slot s).length=max L.length (slot+1):=by
 unfold Z4w
 split
 ·simp;omega
 ·simp;omega
theorem Zi2 (L:List Slot) (slot:Nat) (s:Slot) (h:slot <= L.length) (i:Nat):(Z4w L slot s)[i]?=if i=slot then some s else L[i]?:=by
 unfold Z4w
 split
 ·rename_i e
  subst e
  by_cases hi:i=L.length
  ·subst hi;simp
  ·rw [if_neg hi,List.getElem?_append]
   split
   ·rfl
   ·rw [List.getElem?_eq_none (by simp;omega),List.getElem?_eq_none (by omega)]
 ·rw [List.getElem?_set]
  by_cases hi:i=slot
  ·subst hi;simp [show i < L.length by omega]
  ·simp [hi,show ¬ slot=i by omega]
theorem Pg.insert {g:Nat->Nat} {L:List Slot} {start slot:Nat} {t:Tup} (h:Pg g L start) (hs:slot <= L.length) (hfree:∀ s,L[slot]?=some s->s=none) (ht:t.Ok)
  (hroom:4+4 * max L.length (slot+1)+t.size <= start) :
  Pg (Z6b g slot (max L.length (slot+1)) (start - t.size) t) (Z4w L slot (some (start - t.size,t))) (start - t.size):=by
 have hlen:=Zdf L slot (some (start - t.size,t)) hs
 have hget:=Zi2 L slot (some (start - t.size,t)) hs
 have hb:=ht.bounds
 have hts:t.size=30+t.data.length:=rfl
 have hle:=h.le
 have hfit:=h.fit
 generalize hf:start - t.size=fr at *
 generalize hc:max L.length (slot+1)=c at *
 have lt1:∀ i,Z6b g slot c fr t i < 256:=Z0p (Z0p (Z3T (Z0p (Z0p h.lt _ _ _) _ _ _) _ _ (fun i _=>Tup.ver_lt ht.bytes i)) _ _ _) _ _ _
 have out:∀ x,4 <= x->(x < 4+4 * slot ∨ 8+4 * slot <= x)->(x < fr ∨ fr+t.size <= x)->Z6b g slot c fr t x=g x:=by
  intro x h1 h2 h3
  unfold Z6b
  rw [Zu (by omega),Zu (by omega),Z2s h3,Zu (by omega),Zu (by omega)]
 refine ⟨lt1,?_,?_,by omega,by omega,?_,?_,?_,?_⟩
 ·unfold Z6b
  rw [Zr (by omega),Zr (by omega),Z2W (by omega),Zr (by omega),Z03 (by omega),hlen]
 ·unfold Z6b
  rw [Zr (by omega),Zr (by omega),Z2W (by omega),Z03 (by omega)]
 ·intro i s hi
  rw [hget] at hi
  by_cases e:i=slot
  ·subst e
   rw [if_pos rfl] at hi
   injection hi with hi
   subst hi
   unfold Z6b
   constructor
   ·rw [Zr (by omega),Z03 (by omega)];rfl
   ·rw [Z03 (by omega)];rfl
  ·rw [if_neg e] at hi
   have hil:i < L.length:=(zi.1 hi).1
   have:=h.ptr i s hi
   constructor
   ·rw [ZI (g':=g) _ _ (fun x h1 h2=>out x (by omega) (by omega) (by omega))];exact this.1
   ·rw [ZI (g':=g) _ _ (fun x h1 h2=>out x (by omega) (by omega) (by omega))];exact this.2
 ·intro i f t' hi
  rw [hget] at hi
  by_cases e:i=slot
  ·subst e
   rw [if_pos rfl] at hi
   injection hi with hi
   injection hi with hi
   injection hi with h1 h2
   subst h1 h2
   refine ⟨Nat.le_refl _,by omega,ht,fun j hj=>?_⟩
   unfold Z6b
   rw [Zu (by omega),Zu (by omega),Z9O hj]
  ·rw [if_neg e] at hi
   obtain ⟨a,b,c',d⟩:=h.ver i f t' hi
   refine ⟨by omega,b,c',fun j hj=>?_⟩
   rw [out _ (by omega) (by omega) (by omega)]
   exact d j hj
 ·intro i j f t1 f' t2 hij hi hj
  rw [hget] at hi hj
  by_cases e:i=slot
  ·by_cases e':j=slot
   ·omega
   ·rw [if_pos e] at hi
    rw [if_neg e'] at hj
    injection hi with hi
    injection hi with hi
    injection hi with h1 h2
    subst h1 h2
    have:=(h.ver j f' t2 hj).1
    omega
  ·rw [if_neg e] at hi
   by_cases e':j=slot
   ·rw [if_pos e'] at hj
    injection hj with hj
    injection hj with hj
    injection hj with h1 h2
    subst h1 h2
    have:=(h.ver i f t1 hi).1
    omega
   ·rw [if_neg e'] at hj
    exact h.sep i j f t1 f' t2 hij hi hj
 ·intro x h1 h2 h3
  rw [hlen] at h1
  have h4:=h3 slot fr t (by rw [hget,if_pos rfl])
  rw [out x (by omega) (by omega) h4]
  refine h.zero x (by omega) h2 (fun i f t' hi=>h3 i f t' ?_)
  rw [hget,if_neg (fun e=>?_)]
  ·exact hi
  ·subst e
   cases hfree _ hi
def Tup.stamp (t:Tup) (xmax:Nat) (pg sl:Int):Tup:={ t with xmax:=xmax,pg:=pg,sl:=sl }
theorem Slot.stamp_same (f:Nat) (t:Tup) (xmax:Nat) (pg sl:Int):Slot.from_ (some (f,t.stamp xmax pg sl))=Slot.from_ (some (f,t))/\Slot.size (some (f,t.stamp xmax pg sl))=Slot.size (some (f,t)):=⟨rfl,rfl⟩
theorem Tup.stamp_size (t:Tup) (xmax:Nat) (pg sl:Int):(t.stamp xmax pg sl).size=t.size:=rfl
theorem Tup.stamp_ok {t:Tup} (h:t.Ok) {xmax:Nat} {pg sl:Int} (hx:xmax <= 1099511627776) (hf:Z0O pg sl=false):(t.stamp xmax pg sl).Ok:=by
 obtain ⟨h1,h2,h3,h4,h5⟩:=of_decide_eq_true h.right
 exact ⟨decide_eq_true ⟨h1,h2,hx,hf,h5⟩,h.bytes⟩
def Z4Z (g:Nat->Nat) (f xmax:Nat) (pg sl:Int):Nat->Nat:=ZL (ZL (ZL g (f+16) 8 xmax) (f+24) 4 (pg+1).toNat) (f+28) 2 (sl+1).toNat
theorem Z2t {g:Nat->Nat} {f xmax:Nat} {pg sl:Int} {x:Nat} (h:x < f+16 ∨ f+30 <= x):Z4Z g f xmax pg sl x=g x:=by
 unfold Z4Z
 rw [Zu (by omega),Zu (by omega),Zu (by omega)]
theorem Zgd {g:Nat->Nat} {f xmax:Nat} {pg sl:Int} {t:Tup} (hg:∀ j,j < t.size->g (f+j)=t.ver j) (j:Nat) (hj:j < t.size):Z4Z g f xmax pg sl (f+j)=(t.stamp xmax pg sl).ver j:=by
 have h0:=hg j hj
 by_cases h1:j < 16 ∨ 30 <= j
 ·rw [Z2t (by omega),h0]
  unfold Tup.ver
  rcases h1 with h1 | h1
  ·rw [if_pos (by omega),if_pos (by omega)]
   unfold Tup.hdr Tup.stamp
   dsimp only
   rw [Zu (g:=ZL _ 24 4 (t.pg+1).toNat) (by omega),Zu (g:=ZL _ 16 8 t.xmax) (by omega),Zu (off:=16) (x:=t.xmax) (by omega),Zu (x:=(sl+1).toNat) (by omega),Zu (x:=(pg+1).toNat) (by omega),Zu (x:=xmax) (by omega)]
  ·rw [if_neg (by omega),if_neg (by omega)];rfl
 ·rw [Tup.ver,if_pos (by omega)]
  unfold Z4Z Tup.hdr Tup.stamp
  dsimp only
  by_cases h2:28 <= j
  ·unfold ZL
   rw [if_pos (by omega),if_pos (by omega),show f+j - (f+28)=j - 28 by omega]
  ·rw [Zu (by omega),Zu (g:=ZL _ 24 4 _) (by omega)]
   by_cases h3:24 <= j
   ·unfold ZL
    rw [if_pos (by omega),if_pos (by omega),show f+j - (f+24)=j - 24 by omega]
   ·rw [Zu (by omega),Zu (g:=ZL _ 16 8 _) (by omega)]
    unfold ZL
    rw [if_pos (by omega),if_pos (by omega),show f+j - (f+16)=j - 16 by omega]
theorem Ze7 (L:List Slot) (i:Nat) (s:Slot) (hi:i < L.length) (k:Nat):(L.set i s)[k]?=if k=i then some s else L[k]?:=by
 rw [List.getElem?_set]
 by_cases hk:k=i
 ·subst hk;simp [hi]
 ·simp [hk,show ¬ i=k by omega]
theorem Pg.stamp {g:Nat->Nat} {L:List Slot} {start i f:Nat} {t:Tup} (h:Pg g L start) (hi:L[i]?=some (some (f,t))) {xmax:Nat} {pg sl:Int} (hx:xmax <= 1099511627776) (hf:Z0O pg sl=false) :
  Pg (Z4Z g f xmax pg sl) (L.set i (some (f,t.stamp xmax pg sl))) start:=by
 have hil:i < L.length:=(zi.1 hi).1
 have hget:=Ze7 L i (some (f,t.stamp xmax pg sl)) hil
 obtain ⟨v1,v2,v3,v4⟩:=h.ver i f t hi
 have hfit:=h.fit
 have hsz:=Tup.size_pos t
 refine ⟨Z0p (Z0p (Z0p h.lt _ _ _) _ _ _) _ _ _,?_,?_,by rw [List.length_set];exact hfit,h.le,?_,?_,?_,?_⟩
 ·rw [ZI (g':=g) _ _ (fun x h1 h2=>Z2t (by omega)),h.cnt,List.length_set]
 ·rw [ZI (g':=g) _ _ (fun x h1 h2=>Z2t (by omega)),h.st]
 ·intro k s hk
  have hkl:k < L.length:=by simpa using (zi.1 hk).1
  rw [hget] at hk
  have hp:Zw (Z4Z g f xmax pg sl) (4+4 * k) 2=Zw g (4+4 * k) 2/\Zw (Z4Z g f xmax pg sl) (6+4 * k) 2=Zw g (6+4 * k) 2 :=
   ⟨ZI _ _ (fun x h1 h2=>Z2t (by omega)),ZI _ _ (fun x h1 h2=>Z2t (by omega))⟩
  rw [hp.1,hp.2]
  by_cases e:k=i
  ·subst e
   rw [if_pos rfl] at hk
   injection hk with hk
   subst hk
   have:=h.ptr k _ hi
   rw [(Slot.stamp_same f t xmax pg sl).1,(Slot.stamp_same f t xmax pg sl).2]
   exact this
  ·rw [if_neg e] at hk
   exact h.ptr k s hk
 ·intro k f' t' hk
  rw [hget] at hk
  by_cases e:k=i
  ·subst e
   rw [if_pos rfl] at hk
   injection hk with hk
   injection hk with hk
   injection hk with h1 h2
   subst h1 h2
   exact ⟨v1,v2,Tup.stamp_ok v3 hx hf,fun j hj=>Zgd v4 j hj⟩
  ·rw [if_neg e] at hk
   obtain ⟨u1,u2,u3,u4⟩:=h.ver k f' t' hk
   refine ⟨u1,u2,u3,fun j hj=>?_⟩
   have:=h.sep k i f' t' f t e hk hi
   rw [Z2t (by omega)]
   exact u4 j hj
 ·intro a b fa ta fb tb hab ha hb
  rw [hget] at ha hb
  by_cases e:a=i
  ·by_cases e':b=i
   ·omega
   ·rw [if_pos e] at ha
    rw [if_neg e'] at hb
    injection ha with ha
    injection ha with ha
    injection ha with h1 h2
    subst h1 h2
    exact h.sep i b f t fb tb (by omega) hi hb
  ·rw [if_neg e] at ha
   by_cases e':b=i
   ·rw [if_pos e'] at hb
    injection hb with hb
    injection hb with hb
    injection hb with h1 h2
    subst h1 h2
    exact h.sep a i fa ta f t (by omega) ha hi
   ·rw [if_neg e'] at hb
    exact h.sep a b fa ta fb tb hab ha hb
 ·intro x h1 h2 h3
  rw [List.length_set] at h1
  have h4:=h3 i f (t.stamp xmax pg sl) (by rw [hget,if_pos rfl])
  rw [Tup.stamp_size] at h4
  rw [Z2t (by omega)]
  refine h.zero x h1 h2 (fun k f' t' hk=>?_)
  by_cases e:k=i
  ·subst e
   rw [hi] at hk
   injection hk with hk
   injection hk with hk
   injection hk with e1 e2
   subst e1 e2
   exact h4
  ·exact h3 k f' t' (by rw [hget,if_neg e];exact hk)
def Z7A (g:Nat->Nat) (i f size:Nat):Nat->Nat:=ZL (ZL (Z0u g f size (fun _=>0)) (4+4 * i) 2 0) (6+4 * i) 2 0
theorem Pg.free {g:Nat->Nat} {L:List Slot} {start i f:Nat} {t:Tup} (h:Pg g L start) (hi:L[i]?=some (some (f,t))):Pg (Z7A g i f t.size) (L.set i none) start:=by
 have hil:i < L.length:=(zi.1 hi).1
 have hget:=Ze7 L i none hil
 obtain ⟨v1,v2,v3,v4⟩:=h.ver i f t hi
 have hfit:=h.fit
 have hle:=h.le
 have out:∀ x,(x < 4+4 * i ∨ 8+4 * i <= x)->(x < f ∨ f+t.size <= x)->Z7A g i f t.size x=g x:=by
  intro x h1 h2
  unfold Z7A
  rw [Zu (by omega),Zu (by omega),Z2s h2]
 refine ⟨Z0p (Z0p (Z3T h.lt _ _ (fun _ _=>by omega)) _ _ _) _ _ _,?_,?_,by rw [List.length_set];exact hfit,h.le,?_,?_,?_,?_⟩
 ·rw [ZI (g':=g) _ _ (fun x h1 h2=>out x (by omega) (by omega)),h.cnt,List.length_set]
 ·rw [ZI (g':=g) _ _ (fun x h1 h2=>out x (by omega) (by omega)),h.st]
 ·intro k s hk
  have hkl:k < L.length:=by simpa using (zi.1 hk).1
  rw [hget] at hk
  by_cases e:k=i
  ·subst e
   rw [if_pos rfl] at hk
   injection hk with hk
   subst hk
   unfold Z7A
   exact ⟨by rw [Zr (by omega),Z03 (by omega)];rfl,by rw [Z03 (by omega)];rfl⟩
  ·rw [if_neg e] at hk
   have:=h.ptr k s hk
   exact ⟨by rw [ZI (g':=g) _ _ (fun x h1 h2=>out x (by omega) (by omega))];exact this.1,by rw [ZI (g':=g) _ _ (fun x h1 h2=>out x (by omega) (by omega))];exact this.2⟩
 ·intro k f' t' hk
  rw [hget] at hk
  by_cases e:k=i
  ·rw [if_pos e] at hk;cases hk
  ·rw [if_neg e] at hk
   obtain ⟨u1,u2,u3,u4⟩:=h.ver k f' t' hk
   refine ⟨u1,u2,u3,fun j hj=>?_⟩
   have:=h.sep k i f' t' f t e hk hi
   rw [out _ (by omega) (by omega)]
   exact u4 j hj
 ·intro a b fa ta fb tb hab ha hb
  rw [hget] at ha hb
  by_cases e:a=i
  ·rw [if_pos e] at ha;cases ha
  ·by_cases e':b=i
   ·rw [if_pos e'] at hb;cases hb
   ·rw [if_neg e] at ha
    rw [if_neg e'] at hb
    exact h.sep a b fa ta fb tb hab ha hb
 ·intro x h1 h2 h3
  rw [List.length_set] at h1
  by_cases hx:x < f ∨ f+t.size <= x
  ·rw [out x (by omega) hx]
   refine h.zero x h1 h2 (fun k f' t' hk=>?_)
   by_cases e:k=i
   ·subst e
    rw [hi] at hk
    injection hk with hk
    injection hk with hk
    injection hk with e1 e2
    subst e1 e2
    exact hx
   ·exact h3 k f' t' (by rw [hget,if_neg e];exact hk)
  ·unfold Z7A
   rw [Zu (by omega),Zu (by omega)]
   unfold Z0u
   rw [if_pos (by omega)]
def Z6c (g:Nat->Nat) (m n start:Nat):Nat->Nat:=ZL (ZL (Z0u g (4+4 * m) (4 * (n - m)) (fun _=>0)) 0 2 m) 2 2 start
theorem Pg.trim {g:Nat->Nat} {L:List Slot} {start m:Nat} (h:Pg g L start) (hm:m <= L.length) (hn:∀ k s,m <= k->L[k]?=some s->s=none):Pg (Z6c g m L.length start) (L.take m) start:=by
 have hfit:=h.fit
 have hle:=h.le
 have hlen:(L.take m).length=m:=by simp;omega
 have hget:∀ k,(L.take m)[k]?=if k < m then L[k]? else none:=by
  intro k
  rw [List.getElem?_take]
 have out:∀ x,4 <= x->(x < 4+4 * m ∨ 4+4 * L.length <= x)->Z6c g m L.length start x=g x:=by
  intro x h0 h1
  unfold Z6c
  rw [Zu (by omega),Zu (by omega),Z2s (by omega)]
 refine ⟨Z0p (Z0p (Z3T h.lt _ _ (fun _ _=>by omega)) _ _ _) _ _ _,?_,?_,by rw [hlen];omega,h.le,?_,?_,?_,?_⟩
 ·unfold Z6c
  rw [Zr (by omega),Z03 (by omega),hlen]
 ·unfold Z6c
  rw [Z03 (by omega)]
 ·intro k s hk
  rw [hget] at hk
  by_cases e:k < m
  ·rw [if_pos e] at hk
   have:=h.ptr k s hk
   exact ⟨by rw [ZI (g':=g) _ _ (fun x h1 h2=>out x (by omega) (by omega))];exact this.1,by rw [ZI (g':=g) _ _ (fun x h1 h2=>out x (by omega) (by omega))];exact this.2⟩
  ·rw [if_neg e] at hk;cases hk
 ·intro k f t hk
  rw [hget] at hk
  by_cases e:k < m
  ·rw [if_pos e] at hk
   obtain ⟨u1,u2,u3,u4⟩:=h.ver k f t hk
   refine ⟨u1,u2,u3,fun j hj=>?_⟩
   rw [out _ (by omega) (by omega)]
   exact u4 j hj
  ·rw [if_neg e] at hk;cases hk
 ·intro a b fa ta fb tb hab ha hb
  rw [hget] at ha hb
  by_cases e:a < m
  ·by_cases e':b < m
   ·rw [if_pos e] at ha
    rw [if_pos e'] at hb
    exact h.sep a b fa ta fb tb hab ha hb
   ·rw [if_neg e'] at hb;cases hb
  ·rw [if_neg e] at ha;cases ha
 ·intro x h1 h2 h3
  rw [hlen] at h1
  by_cases hx:4+4 * L.length <= x
  ·rw [out x (by omega) (by omega)]
   refine h.zero x hx h2 (fun k f t hk=>?_)
   by_cases e:k < m
   ·exact h3 k f t (by rw [hget,if_pos e];exact hk)
   ·have:=hn k _ (by omega) hk
    cases this
  ·unfold Z6c
   rw [Zu (by omega),Zu (by omega)]
   unfold Z0u
   rw [if_pos (by omega)]
def Z7B (p:List Slot × Nat) (s:Slot):List Slot × Nat :=
 match s with
 | none=>(p.1 ++ [none],p.2)
 | some (_,t)=>(p.1 ++ [some (p.2 - t.size,t)],p.2 - t.size)
def Z08 (L:List Slot):List Slot × Nat:=L.foldl Z7B ([],512)
def Z3l (L:List Slot):Nat:=(L.map Slot.size).sum
theorem Z2u (L:List Slot) (s:Slot):Z08 (L ++ [s])=Z7B (Z08 L) s:=by simp [Z08,List.foldl_append]
theorem Zam (L:List Slot) (s:Slot):Z3l (L ++ [s])=Z3l L+Slot.size s:=by simp [Z3l]
structure Mv (g g0:Nat->Nat) (n i:Nat) (M:List Slot) (at_:Nat):Prop where
 lt:∀ x,g x < 256
 len:M.length=i
 same:∀ x,x < 4 ∨ (4+4 * i <= x/\x < 4+4 * n)->g x=g0 x
 lo:4+4 * n <= at_
 hi:at_ <= 512
 ptr:∀ k s,M[k]?=some s->Zw g (4+4 * k) 2=Slot.from_ s/\Zw g (6+4 * k) 2=Slot.size s
 ver:∀ (k f:Nat) (t:Tup),M[k]?=some (some (f,t))->at_ <= f/\f+t.size <= 512/\t.Ok/\∀ j,j < t.size->g (f+j)=t.ver j
 sep:∀ (k j f:Nat) (t:Tup) (f':Nat) (t':Tup),k ≠ j->M[k]?=some (some (f,t))->M[j]?=some (some (f',t'))->f+t.size <= f' ∨ f'+t'.size <= f
 zero:∀ x,4+4 * n <= x->x < 512->(∀ (k f:Nat) (t:Tup),M[k]?=some (some (f,t))->x < f ∨ f+t.size <= x)->g x=0
theorem Mv.start {g:Nat->Nat} {n:Nat} (hg:∀ x,g x < 256) (hn:4+4 * n <= 512):Mv (Z0u g (4+4 * n) (512 - (4+4 * n)) (fun _=>0)) g n 0 [] 512:=by
 refine ⟨Z3T hg _ _ (fun _ _=>by omega),rfl,fun x hx=>Z2s (by omega),hn,Nat.le_refl _,by simp,by simp,by simp,fun x h1 h2 _=>?_⟩
 unfold Z0u
 rw [if_pos (by omega)]
theorem Z8c {α:Type} {M:List α} {s:α} {k:Nat} {x:α} (h:M[k]?=some x):(M ++ [s])[k]?=some x:=by
 rw [List.getElem?_append_left (zi.1 h).1];exact h
theorem Mv.none {g g0:Nat->Nat} {n i at_:Nat} {M:List Slot} (h:Mv g g0 n i M at_) (hi:i < n) (h0:Zw g0 (4+4 * i) 2=0/\Zw g0 (6+4 * i) 2=0):Mv g g0 n (i+1) (M ++ [Option.none]) at_:=by
 refine ⟨h.lt,by simp [h.len],fun x hx=>h.same x (by omega),h.lo,h.hi,fun k s hk=>?_,fun k f t hk=>?_,fun k j f t f' t' hkj hk hj=>?_,fun x h1 h2 h3=>h.zero x h1 h2 (fun k f t hk=>h3 k f t (Z8c hk))⟩
 ·rcases Z29 hk with ⟨_,hk⟩ | ⟨rfl,rfl⟩
  ·exact h.ptr k s hk
  ·rw [h.len]
   exact ⟨by rw [ZI (g':=g0) _ _ (fun x h1 h2=>h.same x (by omega))];exact h0.1,by rw [ZI (g':=g0) _ _ (fun x h1 h2=>h.same x (by omega))];exact h0.2⟩
 ·rcases Z29 hk with ⟨_,hk⟩ | ⟨_,e⟩
  ·exact h.ver k f t hk
  ·cases e
 ·rcases Z29 hk with ⟨_,hk⟩ | ⟨_,e⟩
  ·rcases Z29 hj with ⟨_,hj⟩ | ⟨_,e⟩
   ·exact h.sep k j f t f' t' hkj hk hj
   ·cases e
  ·cases e
def Z9P (g:Nat->Nat) (i at_:Nat) (t:Tup):Nat->Nat:=ZL (ZL (Z0u g at_ t.size t.ver) (4+4 * i) 2 at_) (6+4 * i) 2 t.size
theorem Mv.some {g g0:Nat->Nat} {n i at_:Nat} {M:List Slot} {t:Tup} (h:Mv g g0 n i M at_) (hi:i < n) (ht:t.Ok) (hr:4+4 * n+t.size <= at_) :
  Mv (Z9P g i (at_ - t.size) t) g0 n (i+1) (M ++ [Option.some (at_ - t.size,t)]) (at_ - t.size):=by
 have hh:=h.hi
 have hb:=ht.bounds
 have hts:t.size=30+t.data.length:=rfl
 have hl:=h.len
 generalize hf:at_ - t.size=fr at *
 have out:∀ x,(x < 4+4 * i ∨ 8+4 * i <= x)->(x < fr ∨ fr+t.size <= x)->Z9P g i fr t x=g x:=by
  intro x h1 h2
  unfold Z9P
  rw [Zu (by omega),Zu (by omega),Z2s h2]
 refine ⟨Z0p (Z0p (Z3T h.lt _ _ (fun j _=>Tup.ver_lt ht.bytes j)) _ _ _) _ _ _,by simp [hl],fun x hx=>?_,by omega,by omega,fun k s hk=>?_,fun k f t' hk=>?_,fun k j f t1 f' t2 hkj hk hj=>?_,fun x h1 h2 h3=>?_⟩
 ·rw [out x (by omega) (by omega)]
  exact h.same x (by omega)
 ·rcases Z29 hk with ⟨hlt,hk⟩ | ⟨rfl,rfl⟩
  ·have:=h.ptr k s hk
   exact ⟨by rw [ZI (g':=g) _ _ (fun x h1 h2=>out x (by omega) (by omega))];exact this.1,by rw [ZI (g':=g) _ _ (fun x h1 h2=>out x (by omega) (by omega))];exact this.2⟩
  ·rw [hl]
   unfold Z9P
   exact ⟨by rw [Zr (by omega),Z03 (by omega)];rfl,by rw [Z03 (by omega)];rfl⟩
 ·rcases Z29 hk with ⟨hlt,hk⟩ | ⟨rfl,e⟩
  ·obtain ⟨u1,u2,u3,u4⟩:=h.ver k f t' hk
   refine ⟨by omega,u2,u3,fun j hj=>?_⟩
   rw [out _ (by omega) (by omega)]
   exact u4 j hj
  ·injection e with e
   injection e with e1 e2
   subst e1 e2
   refine ⟨Nat.le_refl _,by omega,ht,fun j hj=>?_⟩
   unfold Z9P
   rw [Zu (by omega),Zu (by omega),Z9O hj]
 ·rcases Z29 hk with ⟨_,hk'⟩ | ⟨e0,e⟩
  ·rcases Z29 hj with ⟨_,hj'⟩ | ⟨_,e⟩
   ·exact h.sep k j f t1 f' t2 hkj hk' hj'
   ·have:=(h.ver k f t1 hk').1
    injection e with e
    injection e with e1 e2
    subst e1 e2
    omega
  ·rcases Z29 hj with ⟨_,hj'⟩ | ⟨e1,_⟩
   ·have:=(h.ver j f' t2 hj').1
    injection e with e
    injection e with e1 e2
    subst e1 e2
    omega
   ·omega
 ·have h4:=h3 M.length fr t (by simp)
  rw [out x (by omega) h4]
  exact h.zero x h1 h2 (fun k f t hk=>h3 k f t (Z8c hk))
theorem Mv.done {g g0:Nat->Nat} {n at_:Nat} {M:List Slot} (h:Mv g g0 n n M at_):Pg (ZL (ZL g 0 2 n) 2 2 at_) M at_:=by
 have hl:=h.len
 have hlo:=h.lo
 have hhi:=h.hi
 have out:∀ x,4 <= x->ZL (ZL g 0 2 n) 2 2 at_ x=g x:=by
  intro x hx
  rw [Zu (by omega),Zu (by omega)]
 refine ⟨Z0p (Z0p h.lt _ _ _) _ _ _,?_,Z03 (by omega),by omega,by omega,fun k s hk=>?_,fun k f t hk=>?_,h.sep,fun x h1 h2 h3=>?_⟩
 ·rw [Zr (by omega),Z03 (by omega),hl]
 ·have:=h.ptr k s hk
  exact ⟨by rw [ZI (g':=g) _ _ (fun x h1 h2=>out x (by omega))];exact this.1,by rw [ZI (g':=g) _ _ (fun x h1 h2=>out x (by omega))];exact this.2⟩
 ·obtain ⟨u1,u2,u3,u4⟩:=h.ver k f t hk
  refine ⟨u1,u2,u3,fun j hj=>?_⟩
  rw [out _ (by omega)]
  exact u4 j hj
 ·rw [out x (by omega)]
  exact h.zero x (by omega) h2 h3
section
open Go.RowKit
def Z0q (g:Nat->Nat) (i:Nat):Value:=.int .u8 (g i)
def Bk (w:World) (b N:Nat) (t:TypeId) (g:Nat->Nat):Prop:=w.heap[b]?=some (.cells (tab N (Z0q g)) t (0,0))
theorem Bk.cell {w:World} {b N:Nat} {t:TypeId} {g:Nat->Nat} (h:Bk w b N t g) {i:Nat} (hi:i < N):w.cell? ⟨b,i,none⟩=some (.int .u8 (g i)):=by
 rw [Z1 h,Z2g hi];rfl
theorem Bk.frozen {w:World} {b N:Nat} {t:TypeId} {g:Nat->Nat} (h:Bk w b N t g) (i:Nat):w.frozen? ⟨b,i,none⟩=false:=Z7 h i
theorem Bk.kept {S:Nat->Prop} {w w':World} {b N:Nat} {t:TypeId} {g:Nat->Nat} (h:Bk w b N t g) (ho:Z0 S w w') (hn:¬ S b):Bk w' b N t g:=ho.get h hn
theorem Bk.lt {w:World} {b N:Nat} {t:TypeId} {g:Nat->Nat} (h:Bk w b N t g):b < w.heap.size:=Z2 h
theorem Bk.ext {w:World} {b N:Nat} {t:TypeId} {g g':Nat->Nat} (h:Bk w b N t g) (he:∀ i,i < N->g i=g' i):Bk w b N t g':=by
 unfold Bk at *
 rw [h,Z7x (g:=Z0q g') (fun i hi=>by unfold Z0q;rw [he i hi])]
theorem Bk.set {w:World} {b N:Nat} {t:TypeId} {g:Nat->Nat} (h:Bk w b N t g) (i x:Nat):Bk (w.setCell ⟨b,i,none⟩ (.int .u8 x)) b N t (fun j=>if j=i then x else g j):=by
 unfold Bk at *
 rw [Zg h,Z5Q]
 congr 2
 apply Z7x
 intro j _
 unfold Z0q
 by_cases e:j=i <;> simp [e]
theorem Zks (v c:Nat) (hv:v < 72057594037927936) (hc:c < 256):bits .or .u64 ((v:Int) * 256) (c:Int)=((c+256 * v:Nat):Int):=by
 have h:=u64_or_nat (v * 256) c (by omega) (by omega)
 rw [show (((v * 256:Nat)):Int)=(v:Int) * 256 by omega] at h
 rw [h]
 have e:=Nat.two_pow_add_eq_or_of_lt (i:=8) (b:=c) (by simpa using hc) v
 rw [show v * 256=2 ^ 8 * v by omega,<- e]
 omega
theorem ZeA (x k:Nat):(x:Int) / 2 ^ (8 * k) % 256=((x / 256 ^ k % 256:Nat):Int):=by
 have e:(2:Int) ^ (8 * k)=((256 ^ k:Nat):Int):=by
  rw [Int.pow_mul]
  norm_cast
 rw [e,<- Int.natCast_ediv]
 rfl
theorem ZeB {g:Nat->Nat} {off n k:Nat} (h0:0 < k) (hk:k <= n):Zw g (off+(k - 1)) (n - (k - 1))=g (off+(k - 1))+256 * Zw g (off+k) (n - k):=by
 rw [show n - (k - 1)=(n - k)+1 by omega,Zw,show off+(k - 1)+1=off+k by omega]
end
section
open Go.RowKit
def Z0Y (L:List Slot) (i:Int):Slot:=if i < 0 then none else (L[i.toNat]?).join
theorem Z1b (L:List Slot) (i:Nat):Z0Y L i=(L[i]?).join:=by
 unfold Z0Y
 rw [if_neg (by omega),Int.toNat_natCast]
theorem Z47 {L:List Slot} {i:Int} {f:Nat} {t:Tup} (h:Z0Y L i=some (f,t)):∃ k:Nat,i=k/\k < L.length/\L[k]?=some (some (f,t)):=by
 unfold Z0Y at h
 split at h
 ·cases h
 ·rename_i h0
  obtain ⟨k,rfl⟩:=Int.eq_ofNat_of_zero_le (show 0 <= i by omega)
  rw [Int.toNat_natCast] at h
  rcases hk:L[k]? with _ | s
  ·rw [hk] at h;cases h
  ·rw [hk] at h
   have:s=some (f,t):=h
   subst this
   exact ⟨k,rfl,(zi.1 hk).1,hk⟩
def freeIdx (L:List Slot):Nat:=(L.findIdx? (fun s=>s.isNone)).getD L.length
theorem Z4J (L:List Slot):freeIdx L <= L.length:=by
 unfold freeIdx
 rcases h:L.findIdx? (fun s=>s.isNone) with _ | i
 ·rw [h];exact Nat.le_refl _
 ·rw [h]
  rw [List.findIdx?_eq_some_iff_getElem] at h
  obtain ⟨hi,_⟩:=h
  exact Nat.le_of_lt hi
theorem Z6M (L:List Slot):∀ s,L[freeIdx L]?=some s->s=none:=by
 intro s hs
 unfold freeIdx at hs
 rcases h:L.findIdx? (fun s=>s.isNone) with _ | i
 ·rw [h] at hs
  simp at hs
 ·rw [h] at hs
  rw [List.findIdx?_eq_some_iff_getElem] at h
  obtain ⟨hi,h1,_⟩:=h
  simp only [Option.getD_some] at hs
  rw [zg hi] at hs
  injection hs with hs
  subst hs
  simpa using h1
theorem ZeC {L:List Slot} {k:Nat} (hk:L[k]?=some none) (h:∀ j,j < k->∀ s,L[j]?=some s->s ≠ none):freeIdx L=k:=by
 have hkl:k < L.length:=(zi.1 hk).1
 have:L.findIdx? (fun s=>s.isNone)=some k:=by
  rw [List.findIdx?_eq_some_iff_getElem]
  refine ⟨hkl,?_,fun j hj=>?_⟩
  ·rw [zg hkl] at hk;injection hk with hk;rw [hk];rfl
  ·have:=h j hj _ (zg (by omega))
   simpa using this
 unfold freeIdx
 rw [this];rfl
theorem ZbV {L:List Slot} (h:∀ j,j < L.length->∀ s,L[j]?=some s->s ≠ none):freeIdx L=L.length:=by
 have:L.findIdx? (fun s=>s.isNone)=Option.none:=by
  rw [List.findIdx?_eq_none_iff]
  intro s hs
  obtain ⟨j,hj,rfl⟩:=List.mem_iff_getElem.1 hs
  have:=h j hj _ (zg hj)
  cases hx:L[j]
  ·exact absurd hx this
  ·rfl
 unfold freeIdx
 rw [this];rfl
def Z1X (L:List Slot):Nat:=(L.map (fun s=>4+Slot.size s)).sum
theorem ZeD (L:List Slot) (s:Slot):Z1X (L ++ [s])=Z1X L+(4+Slot.size s):=by simp [Z1X]
theorem Z5q (L:List Slot) (k:Nat) (s:Slot) (h:L[k]?=some s):Z1X (L.take (k+1))=Z1X (L.take k)+(4+Slot.size s):=by
 rw [<- ZeD]
 congr 1
 rw [List.take_add_one,h];rfl
def Z22 (L:List Slot):Int:=max (478 - Z1X L - (if freeIdx L=L.length then 4 else 0)) (-1)
def Z4i (L:List Slot):Nat:=(L.filter (fun s=>s.isSome)).length
theorem Z8d (L:List Slot) (k:Nat) (s:Slot) (h:L[k]?=some s):Z4i (L.take (k+1))=Z4i (L.take k)+(if s.isSome then 1 else 0):=by
 have e:L.take (k+1)=L.take k ++ [s]:=by rw [List.take_add_one,h];rfl
 unfold Z4i
 rw [e,List.filter_append,List.length_append]
 cases s <;> rfl
end
section
open Go.RowKit
def trim (L:List Slot):List Slot:=(L.reverse.dropWhile (fun s=>s.isNone)).reverse
theorem Zgi (L:List Slot):trim (L ++ [none])=trim L:=by simp [trim]
theorem Zgj (L:List Slot) (x:Nat × Tup):trim (L ++ [some x])=L ++ [some x]:=by simp [trim]
theorem Zaq:∀ (L:List Slot) (k:Nat),k <= L.length->(∀ j s,k <= j->L[j]?=some s->s=none)->(0 < k->∃ x,L[k - 1]?=some (some x))->trim L=L.take k:=by
 intro L
 induction hn:L.length generalizing L with
 | zero =>
  intro k hk _ _
  have:L=[]:=List.eq_nil_of_length_eq_zero hn
  subst this
  simp [trim]
 | succ n ih =>
  intro k hk h1 h2
  have hne:L ≠ []:=fun e=>by subst e;simp at hn
  obtain ⟨M,s,rfl⟩:∃ M s,L=M ++ [s]:=⟨L.dropLast,L.getLast hne,(List.dropLast_concat_getLast hne).symm⟩
  have hM:M.length=n:=by simpa using hn
  rcases Nat.lt_or_ge k (n+1) with hlt | hge
  ·have hs:s=none:=h1 n s (by omega) (by rw [List.getElem?_append_right (by omega),hM];simp)
   subst hs
   rw [Zgi,ih M hM k (by omega) (fun j s hj hs=>h1 j s hj (by rw [List.getElem?_append_left (zi.1 hs).1];exact hs)) (fun h0=>by
     obtain ⟨x,hx⟩:=h2 h0
     exact ⟨x,by rw [List.getElem?_append_left (by omega)] at hx;exact hx⟩)]
   rw [List.take_append_of_le_length (by omega)]
  ·obtain rfl:k=n+1:=by omega
   obtain ⟨x,hx⟩:=h2 (by omega)
   rw [show n+1 - 1=n by omega,List.getElem?_append_right (by omega),hM] at hx
   simp at hx
   subst hx
   rw [Zgj,List.take_of_length_le (by simp;omega)]
end
section
open Go.RowKit
theorem Zgo (L:List Slot):Z1X L=4 * L.length+Z3l L:=by
 induction L with
 | nil=>rfl
 | cons s L ih =>
  have e1:Z1X (s :: L)=4+Slot.size s+Z1X L:=by simp [Z1X]
  have e2:Z3l (s :: L)=Slot.size s+Z3l L:=by simp [Z3l]
  rw [e1,e2,ih,List.length_cons]
  omega
def Z3V (L:List Slot):Nat:=max L.length (freeIdx L+1)
def Z1F (L:List Slot) (st:Nat) (t:Tup):List Slot × Nat :=
 if st < t.size+(4+4 * Z3V L) then (Z4w (Z08 L).1 (freeIdx L) (some ((Z08 L).2 - t.size,t)),(Z08 L).2 - t.size)
 else (Z4w L (freeIdx L) (some (st - t.size,t)),st - t.size)
def Z3W (L:List Slot) (st:Nat) (t:Tup):Int × Int × List Slot × Nat :=
 if t.rightB=false then (0,3,L,st) else if Z22 L < t.data.length then (0,12,L,st) else (freeIdx L,0,(Z1F L st t).1,(Z1F L st t).2)
theorem Zi8 {L:List Slot} {n:Nat} (h:¬ Z22 L < n):4+4 * Z3V L+Z3l L+(30+n) <= 512:=by
 unfold Z22 at h
 have h1:=Zgo L
 have h2:=Z4J L
 unfold Z3V
 by_cases e:freeIdx L=L.length
 ·rw [if_pos e] at h
  omega
 ·rw [if_neg e] at h
  omega
theorem Z7Q (L:List Slot):(Z08 L).1.map (fun s=>s.isNone)=L.map (fun s=>s.isNone):=by
 induction hn:L.length generalizing L with
 | zero =>
  have:L=[]:=List.eq_nil_of_length_eq_zero hn
  subst this
  rfl
 | succ n ih =>
  have hne:L ≠ []:=fun e=>by subst e;simp at hn
  obtain ⟨M,s,rfl⟩:∃ M s,L=M ++ [s]:=⟨L.dropLast,L.getLast hne,(List.dropLast_concat_getLast hne).symm⟩
  have hM:M.length=n:=by simpa using hn
  rw [Z2u,List.map_append,<- ih M hM]
  rcases s with _ | ⟨f,t⟩ <;> simp [Z7B]
theorem ZbZ (L:List Slot):(Z08 L).1.length=L.length:=by
 have:=congrArg List.length (Z7Q L)
 simpa using this
theorem ZeI (L:List Slot):∀ s,(Z08 L).1[freeIdx L]?=some s->s=none:=by
 intro s hs
 have h1:((Z08 L).1.map (fun s=>s.isNone))[freeIdx L]?=some s.isNone:=by rw [List.getElem?_map,hs];rfl
 rw [Z7Q,List.getElem?_map] at h1
 rcases hx:L[freeIdx L]? with _ | y
 ·rw [hx] at h1;cases h1
 ·have:=Z6M L y hx
  subst this
  rw [hx] at h1
  have h2:some true=some s.isNone:=h1
  injection h2 with h2
  cases s
  ·rfl
  ·cases h2
end
section
open Go.RowKit
def Z0v (L:List Slot):List (Option Tup):=L.map (Option.map Prod.snd)
def freeT (T:List (Option Tup)):Nat:=(T.findIdx? (fun s=>s.isNone)).getD T.length
def Z0T:Option Tup->Nat
 | none=>0
 | some t=>t.size
def Z2B (T:List (Option Tup)):Nat:=(T.map (fun s=>4+Z0T s)).sum
def ZP (T:List (Option Tup)):Int:=max (478 - Z2B T - (if freeT T=T.length then 4 else 0)) (-1)
def Z0r (T:List (Option Tup)):Nat:=(T.filter (fun s=>s.isSome)).length
def Z0d (T:List (Option Tup)):List (Option Tup):=(T.reverse.dropWhile (fun s=>s.isNone)).reverse
def Z1v (T:List (Option Tup)) (t:Tup):List (Option Tup):=if freeT T=T.length then T ++ [some t] else T.set (freeT T) (some t)
def Z2J (T:List (Option Tup)) (t:Tup):Int × Int × List (Option Tup) :=
 if t.rightB=false then (0,3,T) else if ZP T < t.data.length then (0,12,T) else (freeT T,0,Z1v T t)
def ZY (T:List (Option Tup)) (i:Int):Option Tup:=if i < 0 then none else (T[i.toNat]?).join
theorem Z48 (L:List Slot):(Z0v L).length=L.length:=by simp [Z0v]
theorem Zc0 (s:Slot):(Option.map Prod.snd s).isNone=s.isNone:=by cases s <;> rfl
theorem Zi9 (s:Slot):(Option.map Prod.snd s).isSome=s.isSome:=by cases s <;> rfl
theorem Z6R (L:List Slot):freeT (Z0v L)=freeIdx L:=by
 unfold freeT freeIdx Z0v
 rw [List.findIdx?_map,List.length_map]
 congr 2
 funext s
 exact Zc0 s
theorem Zia (s:Slot):Z0T (Option.map Prod.snd s)=Slot.size s:=by rcases s with _ | ⟨f,t⟩ <;> rfl
theorem ZeJ (L:List Slot):Z2B (Z0v L)=Z1X L:=by
 unfold Z2B Z1X Z0v
 rw [List.map_map]
 congr 1
 apply List.map_congr_left
 intro s _
 show 4+Z0T (Option.map Prod.snd s)=_
 rw [Zia]
theorem Zau (L:List Slot):ZP (Z0v L)=Z22 L:=by
 unfold ZP Z22
 rw [ZeJ,Z6R,Z48]
theorem Zgp (L:List Slot):Z0r (Z0v L)=Z4i L:=by
 unfold Z0r Z4i Z0v
 rw [List.filter_map,List.length_map]
 congr 2
 funext s
 exact Zi9 s
theorem Zgq (L:List Slot):Z0d (Z0v L)=Z0v (trim L):=by
 unfold Z0d trim Z0v
 rw [<- List.map_reverse,List.dropWhile_map,<- List.map_reverse]
 congr 3
 funext s
 exact Zc0 s
theorem Zib (L:List Slot) (i:Nat):Z0v (L.set i none)=(Z0v L).set i none:=by
 unfold Z0v
 rw [List.map_set];rfl
theorem Zav (L:List Slot) (i:Nat) (f:Nat) (t:Tup):Z0v (Z4w L i (some (f,t)))=if i=(Z0v L).length then Z0v L ++ [some t] else (Z0v L).set i (some t):=by
 unfold Z4w
 rw [Z48]
 split
 ·simp [Z0v]
 ·unfold Z0v;rw [List.map_set];rfl
theorem ZeK (L:List Slot):Z0v (Z08 L).1=Z0v L:=by
 induction hn:L.length generalizing L with
 | zero =>
  have:L=[]:=List.eq_nil_of_length_eq_zero hn
  subst this
  rfl
 | succ n ih =>
  have hne:L ≠ []:=fun e=>by subst e;simp at hn
  obtain ⟨M,s,rfl⟩:∃ M s,L=M ++ [s]:=⟨L.dropLast,L.getLast hne,(List.dropLast_concat_getLast hne).symm⟩
  have hM:M.length=n:=by simpa using hn
  have:=ih M hM
  rw [Z2u]
  unfold Z0v at this ⊢
  rw [List.map_append,<- this]
  rcases s with _ | ⟨f,t⟩ <;> simp [Z7B]
theorem ZeL (L:List Slot) (st:Nat) (t:Tup):Z0v (Z1F L st t).1=Z1v (Z0v L) t:=by
 unfold Z1F Z1v
 rw [Z6R]
 split
 ·rw [Zav,ZeK]
 ·rw [Zav]
theorem Z4k (L:List Slot) (i:Int):ZY (Z0v L) i=(Z0Y L i).map Prod.snd:=by
 unfold ZY Z0Y Z0v
 split
 ·rfl
 ·rw [List.getElem?_map]
  rcases L[i.toNat]? with _ | s
  ·rfl
  ·rfl
theorem Zc1 (T:List (Option Tup)) (n:Nat):(¬ ZP T < n) ↔ 4+4 * (max T.length (freeT T+1))+((T.map Z0T).sum)+(30+n) <= 512:=by
 have e:Z2B T=4 * T.length+(T.map Z0T).sum:=by
  unfold Z2B
  induction T with
  | nil=>rfl
  | cons s T ih=>rw [List.map_cons,List.sum_cons,ih,List.map_cons,List.sum_cons,List.length_cons];omega
 have hf:freeT T <= T.length:=by
  unfold freeT
  rcases h:T.findIdx? (fun s=>s.isNone) with _ | i
  ·rw [h];exact Nat.le_refl _
  ·rw [h]
   rw [List.findIdx?_eq_some_iff_getElem] at h
   obtain ⟨hi,_⟩:=h
   exact Nat.le_of_lt hi
 unfold ZP
 rw [e]
 by_cases hx:freeT T=T.length
 ·rw [if_pos hx];omega
 ·rw [if_neg hx];omega
end
section
open Go.RowKit
end
def Z02 (T:List (Option Tup)) (i:Int) (xmax:Nat) (pg sl:Int):Int × List (Option Tup) :=
 if 1099511627776 < xmax ∨ Z0O pg sl=true then (3,T) else
  match ZY T i with
  | none=>(15,T)
  | some t=>(0,T.set i.toNat (some (t.stamp xmax pg sl)))
structure Z3O (l t:Nat->Int):Prop where
 leaf:∀ i,i < 256->t (256+i)=l i
 node:∀ j,1 <= j->j < 256->t j=max (t (2 * j)) (t (2 * j+1))
structure Z34 (l t:Nat->Int) (i:Nat):Prop where
 leaf:∀ i,i < 256->t (256+i)=l i
 node:∀ j,1 <= j->j < 256->(∀ k,1 <= k->j ≠ i / 2 ^ k)->t j=max (t (2 * j)) (t (2 * j+1))
theorem Z34.start {l t:Nat->Int} (h:Z3O l t) {p:Nat} (hp:p < 256) (v:Int):Z34 (upd l p v) (upd t (256+p) v) (256+p):=by
 refine ⟨fun i hi=>?_,fun j h1 h2 hk=>?_⟩
 ·by_cases e:i=p
  ·subst e;rw [Z1S,Z1S]
  ·rw [ZX _ _ (by omega),ZX _ _ e];exact h.leaf i hi
 ·have hj:j ≠ (256+p) / 2:=by simpa using hk 1 (Nat.le_refl _)
  rw [ZX _ _ (by omega),ZX _ _ (by omega),ZX _ _ (by omega)]
  exact h.node j h1 h2
theorem Z34.step {l t:Nat->Int} {i:Nat} (h:Z34 l t i) (hi:1 < i) (hm:i < 512) :
  Z34 l (upd t (i / 2) (max (t (2 * (i / 2))) (t (2 * (i / 2)+1)))) (i / 2):=by
 refine ⟨fun k hk=>?_,fun j h1 h2 hk=>?_⟩
 ·rw [ZX _ _ (by omega)];exact h.leaf k hk
 ·have hj:j ≠ i / 2 / 2:=by simpa using hk 1 (Nat.le_refl _)
  by_cases e:j=i / 2
  ·subst e
   rw [Z1S,ZX _ _ (by omega),ZX _ _ (by omega)]
  ·rw [ZX _ _ e,ZX _ _ (by omega),ZX _ _ (by omega)]
   refine h.node j h1 h2 (fun k hk1=>?_)
   by_cases e1:k=1
   ·subst e1;simpa using e
   ·have:=hk (k - 1) (by omega)
    rw [Nat.div_div_eq_div_mul] at this
    have e2:2 * 2 ^ (k - 1)=2 ^ k:=by
     rw [show k=(k - 1)+1 by omega,Nat.pow_succ];simp [Nat.mul_comm]
    rw [e2] at this;exact this
theorem Z34.done {l t:Nat->Int} {i:Nat} (h:Z34 l t i) (hi:i <= 1):Z3O l t:=by
 refine ⟨h.leaf,fun j h1 h2=>h.node j h1 h2 (fun k hk e=>?_)⟩
 have:2 <= 2 ^ k:=by
  rw [show k=(k - 1)+1 by omega,Nat.pow_succ]
  have:=Nat.one_le_two_pow (n:=k - 1)
  omega
 have:=Nat.div_eq_of_lt (show i < 2 ^ k by omega)
 omega
theorem Z3O.reach {l t:Nat->Int} (T:Z3O l t) (need:Int):∀ (h i:Nat),1 <= i->i * 2 ^ h < 512->256 <= i * 2 ^ h->(need <= t i ↔ ∃ p,i * 2 ^ h <= 256+p/\256+p < (i+1) * 2 ^ h/\p < 256/\need <= l p):=by
 intro h
 induction h with
 | zero =>
  intro i h1 h2 h3
  simp only [Nat.pow_zero,Nat.mul_one] at *
  constructor
  ·intro hn
   refine ⟨i - 256,by omega,by omega,by omega,?_⟩
   rw [<- T.leaf _ (by omega),show 256+(i - 256)=i by omega];exact hn
  ·rintro ⟨p,a,b,c,d⟩
   rw [<- T.leaf _ c,show 256+p=i by omega] at d;exact d
 | succ h ih =>
  intro i h1 h2 h3
  have hp:1 <= 2 ^ h:=Nat.one_le_two_pow
  have e1:i * 2 ^ (h+1)=(2 * i) * 2 ^ h:=by rw [Nat.pow_succ,Nat.mul_comm (2 ^ h) 2,<- Nat.mul_assoc,Nat.mul_comm i 2]
  have e2:(i+1) * 2 ^ (h+1)=(2 * i+2) * 2 ^ h:=by rw [Nat.pow_succ,Nat.mul_comm (2 ^ h) 2,<- Nat.mul_assoc];congr 1;omega
  have e3:(2 * i+1) * 2 ^ h=(2 * i) * 2 ^ h+2 ^ h:=by rw [Nat.add_mul,Nat.one_mul]
  have e4:(2 * i+2) * 2 ^ h=(2 * i) * 2 ^ h+2 ^ h+2 ^ h:=by rw [Nat.add_mul,Nat.two_mul (2 ^ h)];omega
  have hi:i < 256:=by
   rcases Nat.lt_or_ge i 256 with x | x
   ·exact x
   ·have:=Nat.mul_le_mul x (Nat.le_refl (2 ^ (h+1)))
    rw [Nat.pow_succ] at this h2
    omega
  have hdvd:∃ c,256=2 ^ h * c:=by
   have hh:h <= 8:=by
    rcases Nat.lt_or_ge 8 h with x | x
    ·have a1:2 ^ 9 <= 2 ^ h:=Nat.pow_le_pow_right (by omega) x
     have a2:2 ^ (h+1) <= i * 2 ^ (h+1):=Nat.le_mul_of_pos_left _ h1
     rw [Nat.pow_succ] at a2 h2
     omega
    ·exact x
   exact ⟨2 ^ (8 - h),by rw [<- Nat.pow_add,show h+(8 - h)=8 by omega]⟩
  have h5:(2 * i+1) * 2 ^ h < 512:=by
   obtain ⟨c,hc⟩:=hdvd
   rw [e1] at h2
   have a1:2 ^ h * (2 * i) < 2 ^ h * (2 * c):=by
    rw [Nat.mul_comm (2 ^ h) (2 * i),show 2 ^ h * (2 * c)=2 * (2 ^ h * c) by rw [Nat.mul_left_comm],<- hc];exact h2
   have a2:2 * i < 2 * c:=Nat.lt_of_mul_lt_mul_left a1
   have a3:(2 * i+1) * 2 ^ h < (2 * c) * 2 ^ h:=Nat.mul_lt_mul_of_pos_right (by omega) (by omega)
   rw [show (2 * c) * 2 ^ h=2 * (2 ^ h * c) by rw [Nat.mul_assoc,Nat.mul_comm c],<- hc] at a3
   exact a3
  rw [T.node i h1 hi]
  have A:=ih (2 * i) (by omega) (by omega) (by omega)
  have B:=ih (2 * i+1) (by omega) h5 (by omega)
  have M:need <= max (t (2 * i)) (t (2 * i+1)) ↔ need <= t (2 * i) ∨ need <= t (2 * i+1):=by omega
  rw [M,A,B,e1,e2]
  rw [show 2 * i+1+1=2 * i+2 by omega]
  constructor
  ·rintro (⟨p,a,b,c,d⟩ | ⟨p,a,b,c,d⟩)
   ·exact ⟨p,a,by omega,c,d⟩
   ·exact ⟨p,by omega,b,c,d⟩
  ·rintro ⟨p,a,b,c,d⟩
   rcases Nat.lt_or_ge (256+p) ((2 * i+1) * 2 ^ h) with x | x
   ·exact Or.inl ⟨p,a,x,c,d⟩
   ·exact Or.inr ⟨p,x,b,c,d⟩
def Z3P (l t:Nat->Int) (need:Int) (k i h:Nat):Prop :=
 1 <= i/\i * 2 ^ h <= 256+k/\256+k < (i+1) * 2 ^ h/\256 <= i * 2 ^ h/\i * 2 ^ h < 512
theorem Z3P.left {l t:Nat->Int} (T:Z3O l t) {need:Int} {k i h:Nat} (D:Z3P l t need k i (h+1)) (hk:k < 256) (hn:need <= l k) (hm:∀ j,j < k->l j < need)
  (hr:¬ t (2 * i) < need):Z3P l t need k (2 * i) h:=by
 obtain ⟨a,b,c,d,e⟩:=D
 have hp:1 <= 2 ^ h:=Nat.one_le_two_pow
 have e1:i * 2 ^ (h+1)=(2 * i) * 2 ^ h:=by rw [Nat.pow_succ,Nat.mul_comm (2 ^ h) 2,<- Nat.mul_assoc,Nat.mul_comm i 2]
 rw [e1] at b d e
 have R:=(T.reach need h (2 * i) (by omega) e d).1 (by omega)
 obtain ⟨p,p1,p2,p3,p4⟩:=R
 have:¬ p < k:=fun x=>by have:=hm p x;omega
 exact ⟨by omega,b,by omega,d,e⟩
theorem Z3P.right {l t:Nat->Int} (T:Z3O l t) {need:Int} {k i h:Nat} (D:Z3P l t need k i (h+1)) (hk:k < 256) (hn:need <= l k)
  (hr:t (2 * i) < need):Z3P l t need k (2 * i+1) h:=by
 obtain ⟨a,b,c,d,e⟩:=D
 have hp:1 <= 2 ^ h:=Nat.one_le_two_pow
 have e1:i * 2 ^ (h+1)=(2 * i) * 2 ^ h:=by rw [Nat.pow_succ,Nat.mul_comm (2 ^ h) 2,<- Nat.mul_assoc,Nat.mul_comm i 2]
 have e2:(i+1) * 2 ^ (h+1)=(2 * i+2) * 2 ^ h:=by rw [Nat.pow_succ,Nat.mul_comm (2 ^ h) 2,<- Nat.mul_assoc];congr 1;omega
 have e3:(2 * i+1) * 2 ^ h=(2 * i) * 2 ^ h+2 ^ h:=by rw [Nat.add_mul,Nat.one_mul]
 rw [e1] at b d e
 rw [e2] at c
 have R:=T.reach need h (2 * i) (by omega) e d
 have nl:¬ 256+k < (2 * i+1) * 2 ^ h:=fun x=>by
  have:=R.2 ⟨k,b,x,hk,hn⟩
  omega
 exact ⟨by omega,by omega,by rw [show 2 * i+1+1=2 * i+2 by omega];exact c,by omega,by omega⟩
theorem Z3P.top {l t:Nat->Int} {need:Int} {k:Nat} (hk:k < 256):Z3P l t need k 1 8:=⟨by omega,by omega,by omega,by omega,by omega⟩
theorem Z3P.end_ {l t:Nat->Int} {need:Int} {k i:Nat} (D:Z3P l t need k i 0):i=256+k:=by
 obtain ⟨a,b,c,d,e⟩:=D
 simp only [Nat.pow_zero,Nat.mul_one] at *
 omega
theorem Z3P.inner {l t:Nat->Int} {need:Int} {k i h:Nat} (D:Z3P l t need k i (h+1)):i < 256:=by
 obtain ⟨a,b,c,d,e⟩:=D
 have hp:1 <= 2 ^ h:=Nat.one_le_two_pow
 have:i * 2 <= i * 2 ^ (h+1):=Nat.mul_le_mul_left _ (by rw [Nat.pow_succ];omega)
 omega
theorem Z3O.none {l t:Nat->Int} (T:Z3O l t) {need:Int} (hn:∀ j,j < 256->l j < need):t 1 < need:=by
 have R:=T.reach need 8 1 (by omega) (by omega) (by omega)
 rcases Int.lt_or_le (t 1) need with x | x
 ·exact x
 ·obtain ⟨p,_,_,c,d⟩:=R.1 x
  have:=hn p c
  omega
theorem Z3O.some {l t:Nat->Int} (T:Z3O l t) {need:Int} {k:Nat} (hk:k < 256) (hn:need <= l k):need <= t 1 :=
 (T.reach need 8 1 (by omega) (by omega) (by omega)).2 ⟨k,by omega,by omega,hk,hn⟩
theorem Z3O.empty:Z3O (fun _=>-1) (fun _=>-1):=⟨fun _ _=>rfl,fun _ _ _=>by simp⟩
end Go.Lap
namespace Go.Proofs.YtobhgnjblniphaaGreatDoor
open Go.RowKit Go.Lap
theorem Z17:Z0c Tryz.prog 22 5 1 1:=Z0c.mk' (.int .u8 0) Tryz.underlying22 (by kernel_rfl) rfl (by decide)
structure ZH (w w':World) (v:Value) (l:List Nat):Prop where
 quiet:Quiet w w'
 new:∀ k,v.ownBlock=some k->w.heap.size <= k
 own:w'.ownsRow 0 5 1 v l.length (Z9 l)
def Z4f (w:World) (l:List Nat) (e:Ending) (w':World):Prop:=∃ v,e=.returned v/\ZH w w' v l
theorem Z0S (l:List Nat):(Z9 l).length=l.length:=by simp [Z9]
theorem Zg8 {w w1:World} {l:List Nat} {v:Value} (hg:ZT (w.alloc (.cells #[] 5)) w1 5 1 (.slice (some ⟨w.heap.size,0,none⟩) 0 0) v l.length (Z9 l)):ZH w w1 v l:=by
 refine ⟨((Z0.refl _ _).alloc _).trans' hg.only (fun k hk e=>by simp [Value.ownBlock] at e;omega),fun k e=>?_,hg.own⟩
 rcases hg.loc with x | x <;> rw [x] at e
 ·simp [Value.ownBlock] at e;omega
 ·injection e with e;simp at e;omega
theorem Zai (A:Option Addr) (cap:Nat) (l:List Nat) (S:Nat->Prop) (w:World) (hr:Rd w S 1 A l.length (Z9 l)) (hl:l.length <= 100000) :
  Calls Tryz.prog 111 #[.slice A l.length cap] w (Z4f w l):=by
 have heq:=fun (w:World) (a:Option Addr) (n c:Nat)=>Lib.run_eql_slice_nil (P:=Tryz.prog) w 22 _ a n c 0 0 Tryz.underlying22
 rcases A with _ | ad
 ·have hl0:l=[]:=by
   rcases l with _ | ⟨x,l⟩
   ·rfl
   ·obtain ⟨b,off,e,_⟩:=hr.cells (by simp [Z9]);cases e
  have HF:Hid (Z4f w l (.returned (.slice none 0 0)) w):=by
   subst hl0
   exact ⟨_,rfl,Z0.refl _ _,by simp [Value.ownBlock],World.ownsRow_nil _ _ _ _⟩
  clear hl0 hr
  go_enter Tryz.func111,Tryz.ntmps111
  go_wp2
  go_ret
  exact HF.out
 ·have HR:=zh hr
  clear hr
  go_enter Tryz.func111,Tryz.ntmps111
  go_wp2_with (at_builtin;refine app Z17 rfl (.tmp 5) (.tmp 6) rfl rfl (Z4G w _ _) rfl (HR.out.kept ((Z0.refl (fun _=>False) w).alloc _) (fun _ _ x=>x)) (Z0A l) (by unfold maxLen;omega) (by omega) ?_)
  intro v w1 hg
  have HF:=zh (Zg8 hg)
  clear hg
  go_wp2
  go_ret
  exact ⟨v,rfl,HF.out⟩
theorem Z3k (A:Option Addr) (cap:Nat) (l:List Nat) (S:Nat->Prop) (w:World) (hr:Rd w S 1 A l.length (Z9 l)) (hb:∀ x ∈ l,x < 256) :
  (convert 22 9 (.slice A l.length cap)).run Tryz.prog w=.ok (.string (strOf l)) w:=by
 have hlen:(l.map UInt8.ofNat).length=l.length:=by simp
 by_cases h0:0 < l.length
 ·obtain ⟨b,off,rfl,_,hc⟩:=hr.cells (by rw [Z0S];exact h0)
  have:=run_convert_bytes_back (P:=Tryz.prog) w 22 9 5 ⟨b,off,none⟩ cap (l.map UInt8.ofNat) Tryz.underlying22 Tryz.underlying5 Tryz.underlying9 (fun j hj=>by
    rw [Zl]
    have hj':j < l.length:=by simpa using hj
    refine hc j _ ?_
    unfold Z9
    rw [List.getElem?_map,zg hj']
    have:=hb l[j] (List.getElem_mem hj')
    simp [Nat.mod_eq_of_lt this])
  rw [hlen] at this
  exact this
 ·have hl0:l=[]:=List.eq_nil_of_length_eq_zero (by omega)
  subst hl0
  rcases A with _ | ad
  ·exact Lib.run_convert_nil_bytes (P:=Tryz.prog) w 22 9 5 cap Tryz.underlying22 Tryz.underlying5 Tryz.underlying9
  ·exact run_convert_bytes_back (P:=Tryz.prog) w 22 9 5 ad cap [] Tryz.underlying22 Tryz.underlying5 Tryz.underlying9 (fun j hj=>absurd hj (by simp))
structure Z1V (w:World) (F:Nat->Prop) (lb:Nat) (L:List Nat) (v:Value):Prop where
 box:w.heap[lb]?=some (.cells #[.int .u64 1,.int .u64 (L.length:Int),v] 128 (0,0))
 row:w.ownsRow 0 5 1 v (Z0X L).length (Z9 (Z0X L))
 foot:F lb/\∀ k,v.ownBlock=some k->F k
 st:Z2m L
 most:L.length <= 1099511627776
def ZJ (w:World) (F:Nat->Prop) (lb:Nat) (L:List Nat):Prop:=∃ v,Z1V w F lb L v
section
variable {w w':World} {F:Nat->Prop} {lb:Nat} {L:List Nat} {v:Value}
theorem Z1V.kept {S:Nat->Prop} (h:Z1V w F lb L v) (ho:Z0 S w w') (hn:∀ k,F k->¬ S k):Z1V w' F lb L v :=
 ⟨ho.get h.box (hn _ h.foot.1),Z5 h.row ho (fun k e=>hn k (h.foot.2 k e)),h.foot,h.st,h.most⟩
theorem ZJ.kept {S:Nat->Prop} (h:ZJ w F lb L) (ho:Z0 S w w') (hn:∀ k,F k->¬ S k):ZJ w' F lb L:=by
 obtain ⟨v,h⟩:=h
 exact ⟨v,h.kept ho hn⟩
theorem ZJ.drewN (h:ZJ w F lb L) (n:Nat):ZJ (w.drewN n) F lb L:=h.kept ((Z0.refl (fun _=>False) w).drewN n) (fun _ _ x=>x)
theorem ZJ.mono {G:Nat->Prop} (h:ZJ w F lb L) (hg:∀ k,F k->k < w.heap.size->G k):ZJ w G lb L:=by
 obtain ⟨v,h⟩:=h
 exact ⟨v,h.box,h.row,⟨hg _ h.foot.1 (Z2 h.box),fun k e=>hg _ (h.foot.2 k e) (h.row.lt k e).2⟩,h.st,h.most⟩
theorem Z1V.cells (h:Z1V w F lb L v):w.cell? ⟨lb,0,none⟩=some (.int .u64 1)/\w.cell? ⟨lb,1,none⟩=some (.int .u64 (L.length:Int))/\w.cell? ⟨lb,2,none⟩=some v :=
 ⟨by rw [Z1 h.box];rfl,by rw [Z1 h.box];rfl,by rw [Z1 h.box];rfl⟩
theorem ZJ.lt (h:ZJ w F lb L):lb < w.heap.size/\F lb:=by
 obtain ⟨v,h⟩:=h
 exact ⟨Z2 h.box,h.foot.1⟩
end
theorem Zjy (w:World) :
  Calls Tryz.prog 20 #[.int .u64 1] w fun e w'=>e=.returned (.tuple #[.pointer (some ⟨w.heap.size,0,none⟩),.int .i64 0])/\Quiet w w'/\ZJ w' (fun k=>w.heap.size <= k) w.heap.size []:=by
 go_enter Tryz.func20,Tryz.ntmps20
 go_wp2
 go_ret2
 exact ⟨rfl,(Z0.refl _ _).alloc _,.slice none 0 0,Z4 _ _,World.ownsRow_nil _ _ _ _,⟨Nat.le_refl _,fun k e=>by cases e⟩,fun x hx=>by simp at hx,by simp⟩
theorem Z4Y {F:Nat->Prop} {lb:Nat} {L:List Nat} {w:World} (h:ZJ w F lb L) :
  Calls Tryz.prog 49 #[.pointer (some ⟨lb,0,none⟩)] w fun e w'=>e=.returned (.int .u64 ((L.length:Int)+1))/\∃ n,w'=w.drewN n:=by
 obtain ⟨v,h⟩:=h
 obtain ⟨c0,c1,_⟩:=h.cells
 have hm:=h.most
 have e1:IntKind.u64.wrap (1+(L.length:Int))=(L.length:Int)+1:=by rw [IntKind.wrap_u64];omega
 clear h
 go_enter Tryz.func49,Tryz.ntmps49
 go_wp2
 go_quiet (fail)
 go_wp2
 go_ret
 exact ⟨rfl,_,rfl⟩
theorem Z9N {F:Nat->Prop} {lb i s:Nat} {L:List Nat} {v:Value} {w:World} (h:Z1V w F lb L v) (hi:i < L.length) (hs:s <= 3) :
  Calls Tryz.prog 50 #[.pointer (some ⟨lb,0,none⟩),.int .u64 ((i:Int)+1),.int .u8 (s:Int)] w fun e w'=>e=.returned (.tuple #[])/\Z0 F w w'/\Z1V w' F lb (L.set i s) v:=by
 obtain ⟨c0,c1,c2⟩:=h.cells
 have hm:=h.most
 have hl:=Z06 L
 obtain ⟨g,cap,rfl,hc,hcm⟩:∃ g cap,v=.slice (some ⟨g,0,none⟩) (Z0X L).length cap/\(Z0X L).length <= cap/\cap <= maxLen:=by
  rcases ZB h.row with ⟨_,e⟩ | x
  ·omega
  ·exact x
 have hg:w.cell? ⟨g,i / 4,none⟩=some (.int .u8 (Z0N L (i / 4):Nat)):=by
  have:=h.row.cells (by rfl) (i / 4) (.int .u8 (Z0N L (i / 4):Nat)) (by unfold Z9;rw [List.getElem?_map,Z1C _ (by omega)];rfl)
  rw [Zl,Nat.zero_add] at this
  exact this
 have hf:∀ o,w.frozen? ⟨g,o,none⟩=false:=by
  obtain ⟨c,hh⟩:=Zh h.row rfl
  exact Z7 hh
 have hb:=h.st.byte (i / 4)
 have hset:=Zg9 h.st hi s
 have hq:((i:Int) / 4).toNat=i / 4:=by omega
 obtain ⟨x,hx⟩:∃ x,Z0N L (i / 4)=x:=⟨_,rfl⟩
 rw [hx] at hb hset hg
 obtain ⟨n,hn⟩:∃ n,(Z0X L).length=n:=⟨_,rfl⟩
 rw [hn] at c2 hc hl
 unfold maxLen at hcm
 have hin:i / 4 < n:=by omega
 have H:=zh h
 clear h
 go_enter Tryz.func50,Tryz.ntmps50
 go_wp2
 rw [ZhV x s (i % 4) hb hs (Nat.mod_lt _ (by omega)),<- hset]
 go_end0
 have hst:=H.out.row.stored (i / 4) (.int .u8 ((Z0N (L.set i s) (i / 4):Nat):Int))
 have ho:Z0 (·=g) w (w.setCell ⟨g,i / 4,none⟩ (.int .u8 ((Z0N (L.set i s) (i / 4):Nat):Int))):=(Z0.refl (·=g) w).setCell (p:=⟨g,i / 4,none⟩) (fun _=>rfl) _
 refine ⟨rfl,ho.mono (fun k _ e=>by subst e;exact H.out.foot.2 _ rfl),?_,?_,H.out.foot,H.out.st.set i hs,by simpa using H.out.most⟩
 ·obtain ⟨c,hh⟩:=Zh H.out.row rfl
  rw [List.length_set]
  exact ho.get H.out.box (Zb H.out.box hh (by decide))
 ·rw [Zev hi,<- Zex,List.length_set]
  exact hst.1
theorem Z2P {F:Nat->Prop} {lb x:Nat} {L:List Nat} {w:World} (h:ZJ w F lb L) (hx:U64 x) :
  Calls Tryz.prog 70 #[.pointer (some ⟨lb,0,none⟩),.int .u64 (x:Int)] w fun e w'=>e=.returned (.int .i64 (stateL L x:Int))/\∃ n,w'=w.drewN n:=by
 have HNX:=zh (Z4Y h)
 obtain ⟨v,h⟩:=h
 obtain ⟨c0,c1,c2⟩:=h.cells
 have hm:=h.most
 unfold U64 at hx
 by_cases h1:x < 1
 ·have HS:Hid (stateL L x=0):=Z4I (Or.inl h1)
  clear h
  go_enter Tryz.func70,Tryz.ntmps70
  go_wp2
  go_ret
  exact ⟨by rw [HS.out];rfl,0,rfl⟩
 ·by_cases h2:L.length < x
  ·have HS:Hid (stateL L x=0):=Z4I (Or.inr h2)
   clear h
   have d1:decide ((L.length:Int)+1 <= x)=true:=decide_eq_true (by omega)
   go_enter Tryz.func70,Tryz.ntmps70
   go_wp2_with fail
   refine HNX.out.mono ?_
   rintro e w1 ⟨rfl,n,rfl⟩
   go_wp2
   go_ret
   exact ⟨by rw [HS.out];rfl,n,rfl⟩
  ·obtain ⟨i,rfl⟩:∃ i,x=i+1:=⟨x - 1,by omega⟩
   have hi:i < L.length:=by omega
   have HS:Hid (stateL L (i+1)=Z0N L (i / 4) / 4 ^ (i % 4) % 4):=by
    rw [Zaj h.st]
    unfold stateL
    rw [if_pos (by omega)]
    rfl
   have hl:=Z06 L
   obtain ⟨g,cap,rfl,hc,hcm⟩:∃ g cap,v=.slice (some ⟨g,0,none⟩) (Z0X L).length cap/\(Z0X L).length <= cap/\cap <= maxLen:=by
    rcases ZB h.row with ⟨_,e⟩ | x
    ·omega
    ·exact x
   have hg:w.cell? ⟨g,i / 4,none⟩=some (.int .u8 (Z0N L (i / 4):Nat)):=by
    have:=h.row.cells (by rfl) (i / 4) (.int .u8 (Z0N L (i / 4):Nat)) (by unfold Z9;rw [List.getElem?_map,Z1C _ (by omega)];rfl)
    rw [Zl,Nat.zero_add] at this
    exact this
   have hb:=h.st.byte (i / 4)
   have hq:((i:Int) / 4).toNat=i / 4:=by omega
   obtain ⟨y,hy⟩:∃ y,Z0N L (i / 4)=y:=⟨_,rfl⟩
   rw [hy] at hb hg HS
   obtain ⟨n,hn⟩:∃ n,(Z0X L).length=n:=⟨_,rfl⟩
   rw [hn] at c2 hc hl
   unfold maxLen at hcm
   have hin:i / 4 < n:=by omega
   have hpos:0 <= (y:Int):=by omega
   have HB:=zh (ZhW y (i % 4) hb (Nat.mod_lt _ (by omega)))
   have d1:decide ((L.length:Int)+1 <= (i:Int)+1)=false:=decide_eq_false (by omega)
   have d2:¬ ((L.length:Int)+1 <= (i:Int)+1):=by omega
   clear h hn hl hy
   go_enter Tryz.func70,Tryz.ntmps70
   go_wp2_with fail
   refine HNX.out.mono ?_
   rintro e w1 ⟨rfl,m,rfl⟩
   go_wp2
   rw [HB.out]
   have hlt:y / 4 ^ (i % 4) % 4 < 4:=Nat.mod_lt _ (by omega)
   have HW:Hid (wrap64 ((y / 4 ^ (i % 4) % 4:Nat):Int)=((y / 4 ^ (i % 4) % 4:Nat):Int)):=by
    generalize y / 4 ^ (i % 4) % 4=z at hlt
    show wrap64 (z:Int)=z
    unfold wrap64
    omega
   rw [HW.out]
   go_ret
   exact ⟨by rw [HS.out];rfl,m,rfl⟩
def Z2Q (L:List Nat) (x s:Nat):Nat × List Nat:=if stateL L x=1 then (0,L.set (x - 1) s) else (15,L)
def Z4Q (w:World) (F:Nat->Prop) (lb:Nat) (r:Nat × List Nat) (e:Ending) (w':World):Prop:=e=.returned (.int .i64 (r.1:Int))/\Z0 F w w'/\ZJ w' F lb r.2
theorem Zga {L:List Nat} {x:Nat} (h:stateL L x=1):1 <= x/\x <= L.length:=ZbS (Z6I.2 h)
theorem Zjz {F:Nat->Prop} {lb x s:Nat} {L:List Nat} {w:World} (h:ZJ w F lb L) (hx:U64 x) (hs:s <= 3) :
  Calls Tryz.prog 81 #[.pointer (some ⟨lb,0,none⟩),.int .u64 (x:Int),.int .u8 (s:Int)] w (Z4Q w F lb (Z2Q L x s)):=by
 have HST:=zh (Z2P h hx)
 by_cases h1:stateL L x=1
 ·obtain ⟨hx1,hx2⟩:=Zga h1
  have HR:Hid (Z2Q L x s=(0,L.set (x - 1) s)):=if_pos h1
  obtain ⟨v,h⟩:=h
  have HSET:Hid (∀ n,Calls Tryz.prog 50 #[.pointer (some ⟨lb,0,none⟩),.int .u64 (x:Int),.int .u8 (s:Int)] (w.drewN n) fun e w'=>e=.returned (.tuple #[])/\Z0 F (w.drewN n) w'/\Z1V w' F lb (L.set (x - 1) s) v):=fun n=>by
   have:=Z9N (i:=x - 1) (h.kept ((Z0.refl (fun _=>False) w).drewN n) (fun _ _ x=>x)) (by omega) hs
   rw [show ((x - 1:Nat):Int)+1=(x:Int) by omega] at this
   exact this
  rw [h1] at HST
  clear h h1 hx hx1 hx2
  go_enter Tryz.func81,Tryz.ntmps81
  go_wp2_with fail
  refine HST.out.mono ?_
  rintro e w1 ⟨rfl,n,rfl⟩
  go_wp2_with fail
  refine (HSET.out n).mono ?_
  rintro e w2 ⟨rfl,ho2,hl2⟩
  have HP:Hid (Z4Q w F lb (Z2Q L x s) (.returned (.int .i64 0)) w2):=by
   rw [HR.out]
   exact ⟨rfl,((Z0.refl F w).drewN n).trans ho2,v,hl2⟩
  clear ho2 hl2 HSET HST
  go_wp2
  go_ret
  exact HP.out
 ·have HP:Hid (∀ n,Z4Q w F lb (Z2Q L x s) (.returned (.int .i64 15)) (w.drewN n)):=fun n=>by
   unfold Z2Q
   rw [if_neg h1]
   exact ⟨rfl,(Z0.refl F w).drewN n,h.drewN n⟩
  have hne:¬ ((stateL L x:Nat):Int)=1:=by omega
  generalize stateL L x=st at HST hne
  clear h h1 hx
  go_enter Tryz.func81,Tryz.ntmps81
  go_wp2_with fail
  refine HST.out.mono ?_
  rintro e w1 ⟨rfl,n,rfl⟩
  go_wp2
  go_ret
  exact HP.out n
theorem Zey {F:Nat->Prop} {lb x:Nat} {L:List Nat} {w:World} (h:ZJ w F lb L) (hx:U64 x) :
  Calls Tryz.prog 41 #[.pointer (some ⟨lb,0,none⟩),.int .u64 (x:Int)] w (Z4Q w F lb (Z2Q L x 2)):=by
 have HE:=zh (Zjz (s:=2) h hx (by omega))
 obtain ⟨Z8,hP⟩:∃ P,Z4Q w F lb (Z2Q L x 2)=P:=⟨_,rfl⟩
 have HR:Hid (∀ e w',Z8 e w'->∃ v:Nat,e=.returned (.int .i64 (v:Int))):=by rw [<- hP];rintro e w' ⟨rfl,_⟩;exact ⟨_,rfl⟩
 rw [hP] at HE ⊢
 clear h hx hP
 go_enter Tryz.func41,Tryz.ntmps41
 go_wp2_with fail
 refine HE.out.mono ?_
 intro e w1 h1
 obtain ⟨v,rfl⟩:=HR.out e w1 h1
 have H1:=zh h1
 clear h1
 go_wp2
 exact H1.out
structure Z3N (w wr:World) (v:Value) (l:List Nat):Prop where
 quiet:Quiet w wr
 row:wr.ownsRow 0 34 1 v l.length (ZE l)
 own:∀ k,v.ownBlock=some k->w.heap.size <= k
theorem Z3S:Z0c Tryz.prog 74 34 1 8:=Z0c.mk' (.int .u64 0) Tryz.underlying74 (by kernel_rfl) rfl (by decide)
section
variable {w wr w':World} {v:Value} {l:List Nat}
theorem Z3N.start (h:Quiet w wr):Z3N w wr (.slice none 0 0) []:=⟨h,World.ownsRow_nil _ _ _ _,(fun _ x=>by cases x)⟩
theorem Z3N.quietly (h:Z3N w wr v l) (hq:Quiet wr w'):Z3N w w' v l:=⟨h.quiet.trans hq,Z5 h.row hq (fun _ _ x=>x),h.own⟩
theorem Z3N.step {w4:World} {v':Value} {o:Obj} {x:Nat} (h:Z3N w wr v l) (hg:ZT (wr.alloc o) w4 34 1 v v' (l.length+1) (ZE l ++ ZE [x])):Z3N w w4 v' (l ++ [x]):=by
 have hsz:=h.quiet.size
 refine ⟨(h.quiet.alloc _).trans' hg.only (fun k hk e=>by have:=h.own k e;omega),?_,fun k e=>?_⟩
 ·rw [List.length_append,show ZE (l ++ [x])=ZE l ++ ZE [x] by simp [ZE]]
  exact hg.own
 ·rcases hg.loc with y | y
  ·rw [y] at e;exact h.own k e
  ·rw [y] at e;injection e with e;simp only [World.size_alloc] at e;omega
end
def ZbU (w:World) (l:List Nat) (e:Ending) (w':World):Prop:=∃ v,e=.returned v/\Z3N w w' v l
theorem Ze6 (w:World) (x:Nat) (e:TypeId):Rd (w.alloc (.cells #[.int .u64 (x:Int)] e)) (fun _=>True) 1 (some ⟨w.heap.size,0,none⟩) 1 (ZE [x]):=Rd.new w 1 1 (ZE [x]) e _ rfl trivial
theorem ZjB {F:Nat->Prop} {lb:Nat} {L:List Nat} {w:World} (h:ZJ w F lb L) (hl:L.length <= 1000000) :
  Calls Tryz.prog 51 #[.pointer (some ⟨lb,0,none⟩)] w (ZbU w (Z3E L)):=by
 have HL:=zh h
 obtain ⟨v,h⟩:=h
 obtain ⟨c0,c1,_⟩:=h.cells
 clear h
 go_enter Tryz.func51,Tryz.ntmps51
 go_wp2
 go_loopw [3,11,4] (fun o c _ wr=>∃ (k:Nat) (v':Value),k <= L.length/\c=.int .u64 (k:Int)/\o=v'/\Z3N w wr v' (Z6a L k)) (fun _ c _ _=>L.length - (intOf c).toNat)
 case atStart=>exact ⟨0,_,Nat.zero_le _,rfl,rfl,Z3N.start (Z0.refl _ _)⟩
 case round =>
  obtain ⟨k,v',hk,rfl,rfl,hW⟩:=hrel
  have HW:=zh hW
  obtain ⟨q0,q1⟩:wr.cell? ⟨lb,0,none⟩=some (.int .u64 1)/\wr.cell? ⟨lb,1,none⟩=some (.int .u64 (L.length:Int)):=⟨hW.quiet.cell c0 (fun x=>x),hW.quiet.cell c1 (fun x=>x)⟩
  have hle:=Z6H L k
  clear hW
  by_cases hlt:k < L.length
  ·have HST:=zh (Z2P (x:=k+1) (HL.out.kept HW.out.quiet (fun _ _ x=>x)) (by unfold U64;omega))
   have HRK:=zh (Zew L k)
   have hsk:stateL L (k+1)=L.getD k 0:=by unfold stateL;rw [if_pos (by omega)];rfl
   rw [hsk,show ((k+1:Nat):Int)=1+(k:Int) by omega] at HST
   obtain ⟨st,hst⟩:∃ st,L.getD k 0=st:=⟨_,rfl⟩
   rw [hst] at HST HRK
   clear hsk hst
   by_cases h1:st=1
   ·subst h1
    rw [if_pos rfl] at HRK
    go_wp2_with fail
    refine HST.out.mono ?_
    rintro e w1 ⟨rfl,n,rfl⟩
    have HW1:=zh (HW.out.quietly ((Z0.refl (fun _=>False) wr).drewN n))
    clear HW HST q0 q1
    generalize wr.drewN n=wd at HW1 ⊢
    have q0:wd.cell? ⟨lb,0,none⟩=some (.int .u64 1):=HW1.out.quiet.cell c0 (fun x=>x)
    have HRD:Hid (Rd (wd.alloc (.cells #[.int .u64 (1+(k:Int))] 34)) (fun _=>True) 1 (some ⟨wd.heap.size,0,none⟩) 1 (ZE [k+1])):=by
     have:=Ze6 wd (k+1) 34
     rw [show ((k+1:Nat):Int)=1+(k:Int) by omega] at this
     exact this
    have HR1:=zh (Z5 HW1.out.row ((Z0.refl (fun _=>False) wd).alloc (.cells #[.int .u64 (1+(k:Int))] 34)) (fun _ _ x=>x))
    go_wp2_with (at_builtin;refine app Z3S rfl (.tmp 23) (.tmp 30) rfl rfl HR1.out rfl HRD.out (Z4P [k+1]) (by unfold maxLen;omega) (by omega) ?_)
    intro v4 w4 hg4
    have HST:=zh (HW1.out.step hg4)
    clear hg4 HR1 HRD HW1 q0
    go_wp2
    go_roundw
    case rel=>exact ⟨k+1,_,by omega,by go_num,rfl,by rw [HRK.out];exact HST.out⟩
    case measure=>simp [intOf];omega
   ·have hne:¬ ((st:Nat):Int)=1:=by omega
    rw [if_neg h1,List.append_nil] at HRK
    clear h1
    go_wp2_with fail
    refine HST.out.mono ?_
    rintro e w1 ⟨rfl,n,rfl⟩
    have HW1:=zh (HW.out.quietly ((Z0.refl (fun _=>False) wr).drewN n))
    clear HW HST
    go_wp2
    go_roundw
    case rel=>exact ⟨k+1,_,by omega,by go_num,rfl,by rw [HRK.out];exact HW1.out⟩
    case measure=>simp [intOf];omega
  ·obtain rfl:k=L.length:=by omega
   rw [Zak] at HW
   go_wp2
   go_ret
   exact ⟨_,rfl,HW.out⟩
def Z6K (w:World) (F:Nat->Prop) (lb:Nat) (L:List Nat) (e:Ending) (w':World):Prop :=
 e=.returned (.tuple #[.int .u64 ((L.length:Int)+1),.int .i64 0])/\Z0 F w w'/\ZJ w' (fun k=>F k ∨ w.heap.size <= k) lb (L ++ [1])
theorem ZjC (w:World) (e:TypeId):Rd (w.alloc (.cells #[.int .u8 0] e)) (fun _=>True) 1 (some ⟨w.heap.size,0,none⟩) 1 (Z9 [0]):=Rd.new w 1 1 (Z9 [0]) e _ rfl trivial
theorem Z1V.grow {w wd w4:World} {F:Nat->Prop} {lb:Nat} {L:List Nat} {v v4:Value} (h:Z1V w F lb L v) (hq:Quiet w wd) (h4:L.length % 4=0)
  (hg:ZT (wd.alloc (.cells #[.int .u8 0] 5)) w4 5 1 v v4 ((Z0X L).length+1) (Z9 (Z0X L) ++ Z9 [0])) (hm:L.length < 1099511627776) (z:Int) (hz:z=(L.length:Int)+1) :
  Z0 F w ((w4.setCell ⟨lb,2,none⟩ v4).setCell ⟨lb,1,none⟩ (.int .u64 z))/\Z1V ((w4.setCell ⟨lb,2,none⟩ v4).setCell ⟨lb,1,none⟩ (.int .u64 z)) (fun k=>F k ∨ w.heap.size <= k) lb (L ++ [0]) v4:=by
 subst hz
 have hne:∀ k,v.ownBlock=some k->k ≠ lb:=fun k e=>by
  obtain ⟨c,hh⟩:=Zh h.row e
  exact (Zb h.box hh (by decide)).symm
 have hl:=Z2 h.box
 have hsz:=hq.size
 have hqa:Quiet w (wd.alloc (.cells #[.int .u8 0] 5)):=hq.alloc _
 have b4:=hg.only.get (hqa.get h.box (fun x=>x)) (fun e=>hne lb e rfl)
 have ho2:Z0 (·=lb) w4 ((w4.setCell ⟨lb,2,none⟩ v4).setCell ⟨lb,1,none⟩ (.int .u64 ((L.length:Int)+1))):=((Z0.refl (·=lb) w4).setCell (p:=⟨lb,2,none⟩) (fun _=>rfl) v4).setCell (p:=⟨lb,1,none⟩) (fun _=>rfl) _
 have hv4:∀ k,v4.ownBlock=some k->k ≠ lb/\(F k ∨ w.heap.size <= k):=fun k e=>by
  rcases hg.loc with x | x
  ·rw [x] at e;exact ⟨hne k e,Or.inl (h.foot.2 k e)⟩
  ·rw [x] at e;injection e with e;simp only [World.size_alloc] at e;exact ⟨by omega,Or.inr (by omega)⟩
 refine ⟨((hqa.mono (T:=F) (fun _ _ x=>x.elim)).trans' hg.only (fun k _ e=>h.foot.2 k e)).trans' ho2 (fun k _ e=>by subst e;exact h.foot.1),?_,?_,⟨Or.inl h.foot.1,fun k e=>(hv4 k e).2⟩,h.st.snoc (by omega),by simp;omega⟩
 ·rw [Zg (Zg b4 2 _) 1 _]
  simp
 ·rw [Z6G]
  unfold Z7z
  rw [if_pos h4,List.length_append,show Z9 (Z0X L ++ [0])=Z9 (Z0X L) ++ Z9 [0] by simp [Z9]]
  exact Z5 hg.own ho2 (fun k e x=>(hv4 k e).1 x)
theorem Z1V.count {w wd:World} {F:Nat->Prop} {lb:Nat} {L:List Nat} {v:Value} (h:Z1V w F lb L v) (hq:Quiet w wd) (h4:¬ L.length % 4=0) (hm:L.length < 1099511627776) (z:Int) (hz:z=(L.length:Int)+1) :
  Z0 F w (wd.setCell ⟨lb,1,none⟩ (.int .u64 z))/\Z1V (wd.setCell ⟨lb,1,none⟩ (.int .u64 z)) (fun k=>F k ∨ w.heap.size <= k) lb (L ++ [0]) v:=by
 subst hz
 have hne:∀ k,v.ownBlock=some k->k ≠ lb:=fun k e=>by
  obtain ⟨c,hh⟩:=Zh h.row e
  exact (Zb h.box hh (by decide)).symm
 have bd:=hq.get h.box (fun x=>x)
 have ho2:Z0 (·=lb) wd (wd.setCell ⟨lb,1,none⟩ (.int .u64 ((L.length:Int)+1))):=(Z0.refl (·=lb) wd).setCell (p:=⟨lb,1,none⟩) (fun _=>rfl) _
 refine ⟨(hq.mono (T:=F) (fun _ _ x=>x.elim)).trans' ho2 (fun k _ e=>by subst e;exact h.foot.1),?_,?_,⟨Or.inl h.foot.1,fun k e=>Or.inl (h.foot.2 k e)⟩,h.st.snoc (by omega),by simp;omega⟩
 ·rw [Zg bd 1 _]
  simp
 ·rw [Z6G]
  unfold Z7z
  rw [if_neg h4]
  exact Z5 (Z5 h.row hq (fun _ _ x=>x)) ho2 (fun k e x=>hne k e x)
theorem Zgb {F:Nat->Prop} {lb:Nat} {L:List Nat} {w:World} (h:ZJ w F lb L) (hm:L.length < 1099511627776) :
  Calls Tryz.prog 22 #[.pointer (some ⟨lb,0,none⟩)] w (Z6K w F lb L):=by
 have HNX:=zh (Z4Y h)
 obtain ⟨v,h⟩:=h
 have HN2:Hid (∀ n,Calls Tryz.prog 49 #[.pointer (some ⟨lb,0,none⟩)] (w.drewN n) fun e w'=>e=.returned (.int .u64 ((L.length:Int)+1))/\∃ m,w'=(w.drewN n).drewN m):=fun n=>Z4Y ⟨v,h.kept ((Z0.refl (fun _=>False) w).drewN n) (fun _ _ x=>x)⟩
 have H:=zh h
 have d0:decide ((1099511627776:Int) < (L.length:Int)+1)=false:=decide_eq_false (by omega)
 have hsz:=Z2 h.box
 clear h
 go_enter Tryz.func22,Tryz.ntmps22
 go_wp2_with fail
 refine HNX.out.mono ?_
 rintro e w1 ⟨rfl,n,rfl⟩
 go_wp2_with fail
 refine (HN2.out n).mono ?_
 rintro e w2 ⟨rfl,m,rfl⟩
 have HQ:Hid (Quiet w ((w.drewN n).drewN m)):=((Z0.refl _ w).drewN n).drewN m
 generalize (w.drewN n).drewN m=wd at HQ ⊢
 obtain ⟨_,q1,q2⟩:=(H.out.kept HQ.out (fun _ _ x=>x)).cells
 have hf:∀ o,wd.frozen? ⟨lb,o,none⟩=false:=fun o=>Z7 (HQ.out.get H.out.box (fun x=>x)) o
 have hlw:lb < wd.heap.size:=Z2 (HQ.out.get H.out.box (fun x=>x))
 have e1:IntKind.u64.wrap ((L.length:Int)+1)=(L.length:Int)+1:=by rw [IntKind.wrap_u64];omega
 by_cases h4:L.length % 4=0
 ·have d4:(L.length:Int) % 4=0:=by omega
  have HROW:=zh (Z5 (Z5 H.out.row HQ.out (fun _ _ x=>x)) ((Z0.refl (fun _=>False) wd).alloc (.cells #[.int .u8 0] 5)) (fun _ _ x=>x))
  have HL:=zh (Z06 L)
  have HNE:Hid (∀ k,v.ownBlock=some k->k ≠ lb):=fun k e=>by
   obtain ⟨c,hh⟩:=Zh H.out.row e
   exact (Zb H.out.box hh (by decide)).symm
  go_wp2_with (at_builtin;refine app Z17 rfl (.tmp 24) (.tmp 25) rfl rfl HROW.out rfl (ZjC _ 5) (Z0A [0]) (by rw [HL.out];unfold maxLen;omega) (by rw [HL.out];omega) ?_)
  intro v4 w4 hg4
  have b4:=hg4.only.get ((HQ.out.alloc _).get H.out.box (fun x=>x)) (fun e=>HNE.out lb e rfl)
  obtain ⟨A4,c4,hv4,_,_,_⟩:=Za hg4.own
  subst hv4
  have s1:=Z1 b4 1
  have s2:=Z1 b4 2
  have s3:=fun o=>Z7 b4 o
  simp only [zGA,zGS,zGZ] at s1 s2
  have HG:=zh (H.out.grow HQ.out h4 hg4 hm _ rfl)
  clear hg4 b4 q1 q2 hf HROW HL HNX HN2
  go_wp2_with fail
  refine (Z9N (i:=L.length) (s:=1) HG.out.2 (by simp) (by omega)).mono ?_
  rintro e w5 ⟨rfl,ho5,hl5⟩
  rw [ZbR] at hl5
  have HP:Hid (Z6K w F lb L (.returned (.tuple #[.int .u64 ((L.length:Int)+1),.int .i64 0])) w5) :=
   ⟨rfl,HG.out.1.trans' ho5 (fun k hk x=>by rcases x with x | x;exact x;omega),_,hl5⟩
  clear ho5 hl5 HG
  go_wp2
  go_ret2
  exact HP.out
 ·have d4:¬ (L.length:Int) % 4=0:=by omega
  have HG:=zh (H.out.count HQ.out h4 hm _ rfl)
  clear HNX HN2 h4
  go_wp2_with fail
  refine (Z9N (i:=L.length) (s:=1) HG.out.2 (by simp) (by omega)).mono ?_
  rintro e w5 ⟨rfl,ho5,hl5⟩
  rw [ZbR] at hl5
  have HP:Hid (Z6K w F lb L (.returned (.tuple #[.int .u64 ((L.length:Int)+1),.int .i64 0])) w5) :=
   ⟨rfl,HG.out.1.trans' ho5 (fun k hk x=>by rcases x with x | x;exact x;omega),_,hl5⟩
  clear ho5 hl5 HG
  go_wp2
  go_ret2
  exact HP.out
end Go.Proofs.YtobhgnjblniphaaGreatDoor
namespace Go.Proofs.YtobhgnjblniphaaGreatDoor
open Go.RowKit Go.Lap Go.Maps
theorem ZhZ:laidOutB Tryz.prog=true:=by kernel_rfl
theorem ZjD:(48:TypeId) < Tryz.prog.types.size:=of_decide_eq_true (by kernel_rfl)
theorem Zi0:(match Tryz.prog.underlying 48 with | some (.array _ _) | some (.struct _)=>true | _=>false)=true:=by kernel_rfl
theorem keyed_tid:Keyed Tryz.prog 48:=Keyed.of_law (deep_law_laid ZhZ (m:=2) (by omega) ZjD (by kernel_rfl) Zi0)
def klT (p:Int × Int):Lit:=.string (keyBytes [.int .i64 p.1,.int .i64 p.2])
def Wf (p:Int × Int):Prop:=(Lit.int .i64 p.1).wf=true/\(Lit.int .i64 p.2).wf=true
theorem Z8O:Tryz.prog.cellsOf 48=2:=by kernel_rfl
theorem Zez:Tryz.prog.cellsOf 3=1:=by kernel_rfl
theorem Zde (d:Nat) {p:Int × Int} (h:Wf p):Tryz.prog.keyLits (d+2) 48 [.int .i64 p.1,.int .i64 p.2]=some [.int .i64 p.1,.int .i64 p.2]:=by
 obtain ⟨h1,h2⟩:=h
 have hu:=Tryz.underlying48
 have hi:=Tryz.underlying3
 unfold Program.keyLits
 simp only [hu]
 rw [if_pos ⟨by rw [Z8O];rfl,by kernel_rfl⟩]
 simp only [List.mapM_cons,List.mapM_nil,Zez]
 simp [Program.keyLits,hi,h1,h2]
theorem Z4g {p:Int × Int} (h:Wf p):keyOf Tryz.prog 48 (.agg #[.int .i64 p.1,.int .i64 p.2])=some (klT p):=by
 have hk:Tryz.prog.keyType 48=true:=by kernel_rfl
 have hu:=Tryz.underlying48
 obtain ⟨m,hm⟩:∃ m,Tryz.prog.types.size+1=m+2:=by
  have h1:1 <= Tryz.prog.types.size:=of_decide_eq_true (by kernel_rfl)
  generalize Tryz.prog.types.size=k at h1
  exact ⟨k - 1,by omega⟩
 unfold keyOf
 simp only [hu]
 rw [if_pos (by simp [hk,Value.formed,hu,Z8O]),hm]
 simp only [Value.cells]
 rw [Zde m h]
 rfl
theorem ZjE {p q:Int × Int} (hp:Wf p) (hq:Wf q) (h:klT p=klT q):p=q:=by
 have:=keyed_tid.inj (Z4g hp) (by rw [h];exact Z4g hq)
 injection this with this
 injection this with this
 simp at this
 exact Prod.ext this.1 this.2
theorem Z4h {P:Program} {e:TypeId} (he:P.underlying e=some .bool) {v:Value} {z:DataW Unit × List MemPlace} (h:plainElem P e v=some z):∃ a,v=.bool a/\z=(.lit (.bool a),[]):=by
 unfold plainElem at h
 rw [he] at h
 cases v <;> simp at h
 subst h
 exact ⟨_,rfl,rfl⟩
theorem Z8P (w:World):(zeroValue 4).run Tryz.prog w=.ok (.bool false) w:=by kernel_rfl
def Z1W (w:World) (m:Nat) (l:List (Int × Int)):Prop :=
 ∃ D:DataW Unit,w.ownsMap Tryz.prog 48 (plainElem Tryz.prog 4) m l.length D/\IsMap D/\∀ p,Wf p->D.atKey (klT p) (.lit (.bool false))=.lit (.bool (decide (p ∈ l)))
theorem Z1W.kept {S:Nat->Prop} {w w':World} {m:Nat} {l:List (Int × Int)} (h:Z1W w m l) (ho:Z0 S w w') (hn:¬ S m):Z1W w' m l:=by
 obtain ⟨D,⟨es,clock,h1,r⟩,h2⟩:=h
 exact ⟨D,⟨es,clock,ho.get h1 hn,r⟩,h2⟩
theorem Zgc (w:World):Z1W (w.alloc (.map #[] 0)) w.heap.size [] :=
 ⟨.map [],World.ownsMap_made _ _ _ _,isMap_empty,fun p _=>rfl⟩
theorem Z1W.lookup {w:World} {m:Nat} {l:List (Int × Int)} (h:Z1W w m l) {p:Int × Int} (hp:Wf p) :
  (Instr.lookup 279 (.map (some m)) (.agg #[.int .i64 p.1,.int .i64 p.2]) false).run Tryz.prog w=.ok (.bool (decide (p ∈ l))) w:=by
 obtain ⟨D,h1,_,h3⟩:=h
 obtain ⟨v,ps,hrun,hv⟩:=h1.lookup keyed_tid Tryz.underlying279 (Z8P w) (plainElem_bool Tryz.underlying4 false) (Z4g hp)
 rw [h3 p hp] at hv
 obtain ⟨a,rfl,hz⟩:=Z4h Tryz.underlying4 hv
 injection hz with hz _
 injection hz with hz
 injection hz with hz
 rw [hrun,hz]
theorem Z1W.update {w:World} {m:Nat} {l:List (Int × Int)} (h:Z1W w m l) {p:Int × Int} (hp:Wf p) (hl:l.length < maxLen) :
  ∃ w',(Instr.mapUpdate 279 (.map (some m)) (.agg #[.int .i64 p.1,.int .i64 p.2]) (.bool true)).run Tryz.prog w=.ok () w'/\Z1W w' m (l ++ [p])/\Z0 (·=m) w w':=by
 obtain ⟨D,h1,h2,h3⟩:=h
 obtain ⟨w',hrun,ho,hg⟩:=h1.update keyed_tid Tryz.underlying279 hl (Z4g hp) (plainElem_bool Tryz.underlying4 true)
 refine ⟨w',hrun,⟨_,by rw [List.length_append];exact ho,h2.put _ _,fun q hq=>?_⟩,(Z0.refl _ _).byMap hg (fun _=>rfl)⟩
 by_cases e:q=p
 ·subst e
  rw [atKey_put_same h2 (keyed_tid.key (Z4g hq))]
  simp
 ·rw [atKey_put_other (fun x=>e (ZjE hq hp x)),h3 q hq]
  simp [e]
section
variable {w:World} {ops:Array Oper} {rest:List Oper} {o:Oper} {a:Act} {Q:Exit->Act->World->Prop}
theorem Zal {b:Nat} {l:List (Int × Int)} {p:Int × Int} (hg:o.guard=none) (m x:Operand) (hop:o.op=Op.lookup 279 m x false) (hm:a.eval m=.map (some b)) (hx:a.eval x=.agg #[.int .i64 p.1,.int .i64 p.2])
  (h:Z1W w b l) (hp:Wf p) {r:Bool} (hr:decide (p ∈ l)=r) (hK:wpList Tryz.prog ops Q rest (a.put o.dst (.bool r)) w):wpList Tryz.prog ops Q (o :: rest) a w:=by
 refine wpList_plain hg fun K' hK'=>?_
 have hrun:=h.lookup hp
 rw [hr] at hrun
 unfold Oper.wp
 simp [execOp,hop,hm,hx,hrun,Result.andThen]
 exact hK' _ _ hK
theorem Zi1 {b:Nat} {l:List (Int × Int)} {p:Int × Int} (hg:o.guard=none) (m x v:Operand) (hop:o.op=Op.mapUpdate 279 m x v) (hm:a.eval m=.map (some b)) (hx:a.eval x=.agg #[.int .i64 p.1,.int .i64 p.2]) (hv:a.eval v=.bool true)
  (h:Z1W w b l) (hp:Wf p) (hl:l.length < maxLen) (hK:∀ w',Z1W w' b (l ++ [p])->Z0 (·=b) w w'->wpList Tryz.prog ops Q rest (a.put o.dst undef) w'):wpList Tryz.prog ops Q (o :: rest) a w:=by
 refine wpList_plain hg fun K' hK'=>?_
 obtain ⟨w',hrun,h1,h2⟩:=h.update hp hl
 unfold Oper.wp
 simp [execOp,hop,hm,hx,hv,hrun,Result.andThen]
 exact hK' _ _ (hK w' h1 h2)
end
end Go.Proofs.YtobhgnjblniphaaGreatDoor
namespace Go.Proofs.YtobhgnjblniphaaGreatDoor
open Go.RowKit Go.Lap
theorem Z7C (b N off n cap:Nat) (t:TypeId) (g:Nat->Nat) (w:World) (hb:Bk w b N t g) (hg:∀ i,g i < 256) (hn:n <= 8) (hN:off+n <= N) (hm:N <= 1000) :
  Calls Tryz.prog 136 #[.slice (some ⟨b,off,none⟩) n cap] w fun e w'=>e=.returned (.int .u64 (Zw g off n))/\w=w':=by
 have HB:=zh hb
 have HG:=zh hg
 clear hb hg
 go_enter Tryz.func136,Tryz.ntmps136
 go_wp2
 go_loop [3,4] (fun v i=>∃ k:Nat,k <= n/\i=.int .i64 ((k:Int) - 1)/\v=.int .u64 (Zw g (off+k) (n - k))) (fun _ i=>((intOf i)+1).toNat)
 case atStart=>exact ⟨n,Nat.le_refl _,by go_num,by simp [Zw]⟩
 case round =>
  obtain ⟨k,hk,rfl,rfl⟩:=hrel
  by_cases h0:0 < k
  ·have hc:=HB.out.cell (i:=off+(k - 1)) (by omega)
   have hlt:=Z8b HG.out (n - k) (off+k)
   have h8:=HG.out (off+(k - 1))
   obtain ⟨v,hv⟩:∃ v,v=Zw g (off+k) (n - k):=⟨_,rfl⟩
   obtain ⟨c,hcc⟩:∃ c,c=g (off+(k - 1)):=⟨_,rfl⟩
   rw [<- hcc] at hc h8
   rw [<- hv] at hlt ⊢
   have HV:=zh hv
   have HCC:=zh hcc
   have h56:v < 72057594037927936:=by
    have:256 ^ (n - k) <= 256 ^ 7:=Nat.pow_le_pow_right (by omega) (by omega)
    omega
   clear hv hcc hlt
   go_wp2
   go_round
   case rel =>
    refine ⟨k - 1,by omega,by rw [show ((k:Int) - 1 - 1)=((k - 1:Nat):Int) - 1 by omega],?_⟩
    rw [Zks v c h56 h8,ZeB h0 hk,<- HV.out,<- HCC.out]
   case measure=>simp [intOf];omega
  ·obtain rfl:k=0:=by omega
   go_wp2
   go_ret
   exact ⟨by simp,rfl⟩
def Zd8 (w wr:World) (b N off k x:Nat) (t:TypeId) (g:Nat->Nat):Prop:=Z0 (·=b) w wr/\Bk wr b N t (ZL g off k x)
theorem Zd8.next {w wr:World} {b N off k x:Nat} {t:TypeId} {g:Nat->Nat} (h:Zd8 w wr b N off k x t g) {c:Int} (hc:c=((x / 256 ^ k % 256:Nat):Int)):Zd8 w (wr.setCell ⟨b,off+k,none⟩ (.int .u8 c)) b N off (k+1) x t g:=by
 subst hc
 refine ⟨h.1.setCell (fun _=>rfl) _,(h.2.set _ _).ext (fun i _=>?_)⟩
 unfold ZL
 by_cases e:i=off+k
 ·subst e
  rw [if_pos rfl,if_pos (by omega),Nat.add_sub_cancel_left]
 ·rw [if_neg e]
  by_cases e2:off <= i/\i < off+k
  ·rw [if_pos e2,if_pos (by omega)]
  ·rw [if_neg e2,if_neg (by omega)]
theorem Z2X (b N off n cap x:Nat) (t:TypeId) (g:Nat->Nat) (w:World) (hb:Bk w b N t g) (hn:n <= 8) (hN:off+n <= N) (hm:N <= 1000) (hx:x < 18446744073709551616) :
  Calls Tryz.prog 128 #[.slice (some ⟨b,off,none⟩) n cap,.int .u64 x] w fun e w'=>e=.returned (.tuple #[])/\Z0 (·=b) w w'/\Bk w' b N t (ZL g off n x):=by
 have HB:Hid (Zd8 w w b N off 0 x t g):=⟨Z0.refl _ _,hb.ext (fun i _=>by unfold ZL;rw [if_neg (by omega)])⟩
 clear hb
 go_enter Tryz.func128,Tryz.ntmps128
 go_wp2
 go_loopw [7] (fun v wr=>∃ k:Nat,k <= n/\v=.int .i64 k/\Zd8 w wr b N off k x t g) (fun v _=>n - (intOf v).toNat)
 case atStart=>exact ⟨0,Nat.zero_le _,rfl,HB.out⟩
 case round =>
  obtain ⟨k,hk,rfl,hW⟩:=hrel
  have HW:=zh hW
  have hc:=hW.2.cell (i:=off+k)
  have hf:=hW.2.frozen (off+k)
  clear hW HB
  by_cases hlt:k < n
  ·have hc:=hc (by omega)
   go_wp2
   go_roundw
   case rel =>
    exact ⟨k+1,by omega,by go_num,HW.out.next (ZeA x k)⟩
   case measure=>simp [intOf];omega
  ·clear hc
   obtain rfl:k=n:=by omega
   go_wp2
   go_end0
   exact ⟨rfl,HW.out⟩
abbrev pageT:TypeId:=242
theorem Z7D {g:Nat->Nat} (hg:∀ i,g i < 256) (off:Nat):Zw g off 2 < 65536:=Z8b hg 2 off
theorem Z8R:Tryz.prog.arrayLen 240=512:=by kernel_rfl
theorem Zge:Tryz.prog.underlying 240=some (.array (Tryz.prog.arrayLen 240) (Tryz.prog.elem 240)):=by kernel_rfl
theorem Ze8 (w:World):(sizeOf (Tryz.prog.elem 240)).run Tryz.prog w=.ok 1 w:=by kernel_rfl
theorem Z3w (b l:Nat) (L:Int) (hL:L=l) (hl:l < 512) (w:World) :
  (Instr.sliceAt 240 (.pointer (some ⟨b,0,none⟩)) (some (.int .i64 L)) none none).run Tryz.prog w=.ok (.slice (some ⟨b,l,none⟩) (512 - l) (512 - l)) w:=by
 subst hL
 rw [run_sliceAt_array_l w _ _ Zge _ _ (by omega) (by rw [Z8R];omega),Ze8]
 simp only [Result.andThen_ok,slicedAt,Z8R,Int.toNat_natCast,if_neg (show ¬ 512=l by omega),Nat.mul_one,Zl,Nat.zero_add]
theorem Z6d (b l h:Nat) (L H:Int) (hL:L=l) (hH:H=h) (hl:l < 512) (hlh:l <= h) (hh:h <= 512) (w:World) :
  (Instr.sliceAt 240 (.pointer (some ⟨b,0,none⟩)) (some (.int .i64 L)) (some (.int .i64 H)) none).run Tryz.prog w=.ok (.slice (some ⟨b,l,none⟩) (h - l) (512 - l)) w:=by
 subst hL hH
 rw [run_sliceAt_array_lh w _ _ Zge _ _ _ _ (by omega) (by omega) (by rw [Z8R];omega),Ze8]
 simp only [Result.andThen_ok,slicedAt,Z8R,Int.toNat_natCast,if_neg (show ¬ 512=l by omega),Nat.mul_one,Zl,Nat.zero_add]
theorem Zan (b:Nat) (g:Nat->Nat) (w:World) (hb:Bk w b 512 pageT g) (hg:∀ i,g i < 256) :
  Calls Tryz.prog 134 #[.pointer (some ⟨b,0,none⟩)] w fun e w'=>e=.returned (.int .i64 (Zw g 0 2))/\w=w':=by
 have h16:=Z7D hg 0
 have HB:=zh hb
 have HG:=zh hg
 clear hb hg
 go_enter Tryz.func134,Tryz.ntmps134
 go_wp2_with fail
 refine (Z7C _ 512 _ _ _ pageT g _ HB.out HG.out (by omega) (by omega) (by omega)).mono ?_
 rintro e w' ⟨rfl,rfl⟩
 go_wp2
 go_ret
 exact ⟨rfl,rfl⟩
theorem Z6L (b:Nat) (g:Nat->Nat) (w:World) (hb:Bk w b 512 pageT g) (hg:∀ i,g i < 256) :
  Calls Tryz.prog 152 #[.pointer (some ⟨b,0,none⟩)] w fun e w'=>e=.returned (.int .i64 (Zw g 2 2))/\w=w':=by
 have h16:=Z7D hg 2
 have HB:=zh hb
 have HG:=zh hg
 clear hb hg
 go_enter Tryz.func152,Tryz.ntmps152
 go_wp2_with fail
 refine (Z7C _ 512 _ _ _ pageT g _ HB.out HG.out (by omega) (by omega) (by omega)).mono ?_
 rintro e w' ⟨rfl,rfl⟩
 go_wp2
 go_ret
 exact ⟨rfl,rfl⟩
theorem Z3U (b c s:Nat) (g:Nat->Nat) (w:World) (hb:Bk w b 512 pageT g) (hc:c < 65536) (hs:s < 65536) :
  Calls Tryz.prog 126 #[.pointer (some ⟨b,0,none⟩),.int .i64 c,.int .i64 s] w fun e w'=>e=.returned (.tuple #[])/\Z0 (·=b) w w'/\Bk w' b 512 pageT (ZL (ZL g 0 2 c) 2 2 s):=by
 have HB:=zh hb
 clear hb
 go_enter Tryz.func126,Tryz.ntmps126
 go_wp2_with fail
 refine (Z2X _ 512 _ _ _ c pageT g _ HB.out (by omega) (by omega) (by omega) (by omega)).mono ?_
 rintro e w1 ⟨rfl,ho1,hb1⟩
 have HO1:=zh ho1
 have HB1:=zh hb1
 clear ho1 hb1
 go_wp2_with fail
 refine (Z2X _ 512 _ _ _ s pageT _ _ HB1.out (by omega) (by omega) (by omega) (by omega)).mono ?_
 rintro e w2 ⟨rfl,ho2,hb2⟩
 have HO2:=zh (HO1.out.trans ho2)
 have HB2:=zh hb2
 clear ho2 hb2
 go_wp2_with fail
 go_end0
 exact ⟨rfl,HO2.out,HB2.out⟩
theorem Zgf (b i:Nat) (g:Nat->Nat) (w:World) (hb:Bk w b 512 pageT g) (hg:∀ i,g i < 256) (hi:8+4 * i <= 512) :
  Calls Tryz.prog 135 #[.pointer (some ⟨b,0,none⟩),.int .i64 i] w fun e w'=>e=.returned (.tuple #[.int .i64 (Zw g (4+4 * i) 2),.int .i64 (Zw g (4+4 * i+2) 2)])/\∃ n,w'=w.drewN n:=by
 have h1:=Z7D hg (4+4 * i)
 have h2:=Z7D hg (4+4 * i+2)
 have HB:=zh hb
 have HG:=zh hg
 clear hb hg
 have hsl:=fun w=>Z3w b (4+4 * i) (4+4 * (i:Int)) (by omega) (by omega) w
 go_enter Tryz.func135,Tryz.ntmps135
 go_wp2_with fail
 go_quiet ((go_at_call 136;exact Z4H (Z7C _ 512 _ _ _ pageT g _ HB.out HG.out (by omega) (by omega) (by omega))))
 go_wp2
 go_ret2
 exact ⟨rfl,_,rfl⟩
theorem Z5p (b i f s:Nat) (g:Nat->Nat) (w:World) (hb:Bk w b 512 pageT g) (hi:8+4 * i <= 512) (hc:f < 65536) (hs:s < 65536) :
  Calls Tryz.prog 154 #[.pointer (some ⟨b,0,none⟩),.int .i64 i,.int .i64 f,.int .i64 s] w fun e w'=>e=.returned (.tuple #[])/\Z0 (·=b) w w'/\Bk w' b 512 pageT (ZL (ZL g (4+4 * i) 2 f) (4+4 * i+2) 2 s):=by
 have HB:=zh hb
 clear hb
 have hsl:=fun w=>Z3w b (4+4 * i) (4+4 * (i:Int)) (by omega) (by omega) w
 go_enter Tryz.func154,Tryz.ntmps154
 go_wp2_with fail
 refine (Z2X _ 512 _ _ _ f pageT g _ HB.out (by omega) (by omega) (by omega) (by omega)).mono ?_
 rintro e w1 ⟨rfl,ho1,hb1⟩
 have HO1:=zh ho1
 have HB1:=zh hb1
 clear ho1 hb1
 go_wp2_with fail
 refine (Z2X _ 512 _ _ _ s pageT _ _ HB1.out (by omega) (by omega) (by omega) (by omega)).mono ?_
 rintro e w2 ⟨rfl,ho2,hb2⟩
 have HO2:=zh (HO1.out.trans ho2)
 have HB2:=zh hb2
 clear ho2 hb2
 go_wp2_with fail
 go_end0
 exact ⟨rfl,HO2.out,HB2.out⟩
def ZD (w:World) (b:Nat) (L:List Slot) (st:Nat):Prop:=∃ g,Bk w b 512 pageT g/\Pg g L st
theorem ZD.kept {S:Nat->Prop} {w w':World} {b st:Nat} {L:List Slot} (h:ZD w b L st) (ho:Z0 S w w') (hn:¬ S b):ZD w' b L st:=by
 obtain ⟨g,h1,h2⟩:=h
 exact ⟨g,h1.kept ho hn,h2⟩
theorem ZD.lt {w:World} {b st:Nat} {L:List Slot} (h:ZD w b L st):b < w.heap.size:=by
 obtain ⟨g,h1,h2⟩:=h
 exact h1.lt
theorem ZD.len {w:World} {b st:Nat} {L:List Slot} (h:ZD w b L st):L.length <= 127:=by
 obtain ⟨g,h1,h2⟩:=h
 have:=h2.fit
 have:=h2.le
 omega
theorem Z0E (b st:Nat) (L:List Slot) (w:World) (h:ZD w b L st) :
  Calls Tryz.prog 134 #[.pointer (some ⟨b,0,none⟩)] w fun e w'=>e=.returned (.int .i64 L.length)/\w=w':=by
 obtain ⟨g,h1,h2⟩:=h
 have:=Zan b g w h1 h2.lt
 rw [h2.cnt] at this
 exact this
theorem Z6e (b st:Nat) (L:List Slot) (w:World) (h:ZD w b L st) :
  Calls Tryz.prog 152 #[.pointer (some ⟨b,0,none⟩)] w fun e w'=>e=.returned (.int .i64 st)/\w=w':=by
 obtain ⟨g,h1,h2⟩:=h
 have:=Z6L b g w h1 h2.lt
 rw [h2.st] at this
 exact this
theorem Z6N:Tryz.zeroCells242=tab 512 (Z0q (fun _=>0)):=by
 apply Z8J
 ·kernel_rfl
 ·have h:(List.range 512).all (fun i=>match Tryz.zeroCells242[i]? with | some (.int .u8 0)=>true | _=>false)=true:=by kernel_rfl
  intro i hi
  have:=List.all_eq_true.1 h i (List.mem_range.2 hi)
  revert this
  split
  ·rename_i e;intro _;exact e
  ·intro x;cases x
theorem Zi3 (w:World) :
  Calls Tryz.prog 87 #[] w fun e w'=>e=.returned (.pointer (some ⟨w.heap.size,0,none⟩))/\Quiet w w'/\w.heap.size < w'.heap.size/\ZD w' w.heap.size [] 512:=by
 go_enter Tryz.func87,Tryz.ntmps87
 go_wp2_with fail
 refine (Z3U _ 0 512 (fun _=>0) _ (by unfold Bk;rw [Z4,Z6N]) (by omega) (by omega)).mono ?_
 rintro e w1 ⟨rfl,ho,hb⟩
 have HO:=zh ho
 have HB:=zh hb
 clear ho hb
 go_wp2
 go_ret
 refine ⟨rfl,((Z0.refl _ _).alloc _).trans' HO.out (fun k hk e=>by omega),by have:=HO.out.size;simp at this;omega,_,HB.out,Pg.new⟩
theorem Z7E (pg sl:Int) (w:World) :
  Calls Tryz.prog 127 #[.agg #[.int .i64 pg,.int .i64 sl]] w fun e w'=>e=.returned (.bool (Z0O pg sl))/\Quiet w w':=by
 have hq:Hid (Quiet w (w.alloc (.cells #[.int .i64 pg,.int .i64 sl] 48))):=(Z0.refl _ _).alloc _
 by_cases h1:pg=-1
 ·have hF:Z0O pg sl=(pg != sl):=by
   unfold Z0O;rw [if_pos (Or.inl h1)];rw [Bool.eq_iff_iff];simp
  rw [hF]
  have HF:=zh hF
  clear hF
  have hb:(pg == -1)=true:=by simp [h1]
  clear h1
  go_enter Tryz.func127,Tryz.ntmps127
  go_wp2
  go_ret
  exact ⟨rfl,hq.out⟩
 ·have hb:(pg == -1)=false:=by simp [h1]
  by_cases h2:sl=-1
  ·have hF:Z0O pg sl=(pg != sl):=by
    unfold Z0O;rw [if_pos (Or.inr h2)];rw [Bool.eq_iff_iff];simp
   rw [hF]
   clear hF
   have hb2:(sl == -1)=true:=by simp [h2]
   clear h1 h2
   go_enter Tryz.func127,Tryz.ntmps127
   go_wp2
   go_ret
   exact ⟨rfl,hq.out⟩
  ·have hF:Z0O pg sl=decide (pg < 0 ∨ 65536 <= pg ∨ sl < 0 ∨ 65535 <= sl):=by
    unfold Z0O;rw [if_neg (by omega)]
   have hb2:(sl == -1)=false:=by simp [h2]
   have HF:=zh hF
   clear h1 h2 hF
   by_cases a1:pg < 0
   ·have hT:Hid (Z0O pg sl=true):=by rw [HF.out];exact decide_eq_true (by omega)
    go_enter Tryz.func127,Tryz.ntmps127
    go_wp2
    go_ret
    rw [hT.out];exact ⟨rfl,hq.out⟩
   ·have d1:decide (pg < 0)=false:=decide_eq_false a1
    by_cases a2:65536 <= pg
    ·have hT:Hid (Z0O pg sl=true):=by rw [HF.out];exact decide_eq_true (by omega)
     go_enter Tryz.func127,Tryz.ntmps127
     go_wp2
     go_ret
     rw [hT.out];exact ⟨rfl,hq.out⟩
    ·have d2:decide (65536 <= pg)=false:=decide_eq_false a2
     by_cases a3:sl < 0
     ·have hT:Hid (Z0O pg sl=true):=by rw [HF.out];exact decide_eq_true (by omega)
      go_enter Tryz.func127,Tryz.ntmps127
      go_wp2
      go_ret
      rw [hT.out];exact ⟨rfl,hq.out⟩
     ·have d3:decide (sl < 0)=false:=decide_eq_false a3
      have hT:Hid (Z0O pg sl=decide (65535 <= sl)):=by rw [HF.out];simp only [decide_eq_decide];exact ⟨fun h=>by omega,fun h=>by omega⟩
      go_enter Tryz.func127,Tryz.ntmps127
      go_wp2
      go_ret
      rw [hT.out];exact ⟨rfl,hq.out⟩
def ZC (t:Tup) (A:Option Addr) (cap:Nat):Value:=.agg #[.int .u64 t.row,.int .u64 t.xmin,.int .u64 t.xmax,.int .i64 t.pg,.int .i64 t.sl,.slice A t.data.length cap]
def Z3F (row xmin xmax:Nat) (far:Bool) (n:Nat):Bool:=decide (max (max (row:Int) xmin) xmax <= 1099511627776) && (!far && decide ((n:Int) <= 200))
theorem Zgg (t:Tup):Z3F t.row t.xmin t.xmax (Z0O t.pg t.sl) t.data.length=t.rightB:=by
 unfold Z3F Tup.rightB
 rw [Bool.eq_iff_iff]
 simp only [Bool.and_eq_true,decide_eq_true_eq,Bool.not_eq_true']
 constructor
 ·rintro ⟨h1,h2,h3⟩
  exact ⟨by omega,by omega,by omega,h2,by omega⟩
 ·rintro ⟨h1,h2,h3,h4,h5⟩
  exact ⟨by omega,h4,by omega⟩
theorem ZeE (row xmin xmax n cap:Nat) (pg sl:Int) (A:Option Addr) (w:World) :
  Calls Tryz.prog 148 #[.agg #[.int .u64 row,.int .u64 xmin,.int .u64 xmax,.int .i64 pg,.int .i64 sl,.slice A n cap]] w fun e w'=>e=.returned (.bool (Z3F row xmin xmax (Z0O pg sl) n))/\Quiet w w':=by
 have HQ:Hid (Quiet w (w.alloc (.cells #[.int .u64 row,.int .u64 xmin,.int .u64 xmax,.int .i64 pg,.int .i64 sl,.slice A n cap] 96))):=(Z0.refl _ _).alloc _
 have hf:=Z7E pg sl
 generalize Z0O pg sl=fb at hf ⊢
 have HF:=zh hf
 clear hf
 by_cases h1:max (max (row:Int) xmin) xmax <= 1099511627776
 ·have e1:Hid (Z3F row xmin xmax fb n=(!fb && decide ((n:Int) <= 200))):=by unfold Z3F;rw [decide_eq_true h1];rfl
  cases fb
  ·all_goals
    have e2:Hid (Z3F row xmin xmax false n=decide ((n:Int) <= 200)):=e1.out
    go_enter Tryz.func148,Tryz.ntmps148
    go_wp2_with fail
    all_goals
     refine (HF.out _).mono ?_
     rintro e w1 ⟨rfl,hq1⟩
     have hblk:w1.heap[w.heap.size]?=_:=hq1.get (Z4 w _) (fun x=>x)
     have hc5:w1.cell? ⟨w.heap.size,5,none⟩=some (.slice A n cap):=by rw [Z1 hblk];rfl
     have HQ1:=zh (HQ.out.trans hq1)
     clear hblk hq1
     go_wp2
     go_ret
     rw [e2.out]
     exact ⟨rfl,HQ1.out⟩
  ·have e2:Hid (Z3F row xmin xmax true n=false):=e1.out
   go_enter Tryz.func148,Tryz.ntmps148
   go_wp2_with fail
   all_goals
    refine (HF.out _).mono ?_
    rintro e w1 ⟨rfl,hq1⟩
    have HQ1:=zh (HQ.out.trans hq1)
    clear hq1
    go_wp2
    go_ret
    rw [e2.out]
    exact ⟨rfl,HQ1.out⟩
 ·have e2:Hid (Z3F row xmin xmax fb n=false):=by unfold Z3F;rw [decide_eq_false h1];rfl
  have h3:(1099511627776:Int) < row ∨ (1099511627776:Int) < xmin ∨ (1099511627776:Int) < xmax:=by omega
  clear h1
  go_enter Tryz.func148,Tryz.ntmps148
  rcases h3 with h3 | h3 | h3
  all_goals
   go_wp2_with fail
   all_goals
    go_ret
    rw [e2.out]
    exact ⟨rfl,HQ.out⟩
theorem Z6O (t:Tup) (A:Option Addr) (cap:Nat) (w:World) :
  Calls Tryz.prog 148 #[ZC t A cap] w fun e w'=>e=.returned (.bool t.rightB)/\Quiet w w':=by
 rw [<- Zgg]
 exact ZeE t.row t.xmin t.xmax t.data.length cap t.pg t.sl A w
theorem Z6P (i:Int) (w:World) :
  Calls Tryz.prog 103 #[.pointer none,.int .i64 i] w fun e w'=>e=.returned (.slice none 0 0)/\∃ n,w'=w.drewN n:=by
 go_enter Tryz.func103,Tryz.ntmps103
 go_wp2
 go_ret
 exact ⟨rfl,0,rfl⟩
theorem Z1D (b st:Nat) (L:List Slot) (i:Int) (w:World) (h:ZD w b L st) (hi:Z0Y L i=none) :
  Calls Tryz.prog 103 #[.pointer (some ⟨b,0,none⟩),.int .i64 i] w fun e w'=>e=.returned (.slice none 0 0)/\∃ n,w'=w.drewN n:=by
 have HP:=zh h
 by_cases h0:i < 0
 ·clear hi h
  go_enter Tryz.func103,Tryz.ntmps103
  go_wp2
  go_ret
  exact ⟨rfl,0,rfl⟩
 ·obtain ⟨k,rfl⟩:=Int.eq_ofNat_of_zero_le (show 0 <= i by omega)
  have d0:decide ((k:Int) < 0)=false:=by simp
  rw [Z1b] at hi
  have hl:=h.len
  by_cases hk:k < L.length
  ·have hs:L[k]?=some none:=by
    rw [zg hk] at hi ⊢
    have:L[k]=none:=hi
    rw [this]
   obtain ⟨g,h1,h2⟩:=h
   have HA:=zh (Zgf b k g w h1 h2.lt (by omega))
   have hp:=h2.ptr k none hs
   rw [show 6+4 * k=4+4 * k+2 by omega] at hp
   have Hp:=zh hp
   clear hi hs hp h1 h2
   go_enter Tryz.func103,Tryz.ntmps103
   go_wp2_with fail
   refine (Z0E b st L _ HP.out).mono ?_
   rintro e w1 ⟨rfl,rfl⟩
   go_wp2_with fail
   refine HA.out.mono ?_
   rintro e w1 ⟨rfl,n,rfl⟩
   rw [Hp.out.1,Hp.out.2]
   go_wp2
   go_ret
   exact ⟨rfl,n,rfl⟩
  ·clear hi h
   go_enter Tryz.func103,Tryz.ntmps103
   go_wp2_with fail
   refine (Z0E b st L _ HP.out).mono ?_
   rintro e w1 ⟨rfl,rfl⟩
   go_wp2
   go_ret
   exact ⟨rfl,0,rfl⟩
theorem Z1E (b st f:Nat) (t:Tup) (L:List Slot) (i:Int) (w:World) (h:ZD w b L st) (hi:Z0Y L i=some (f,t)) :
  Calls Tryz.prog 103 #[.pointer (some ⟨b,0,none⟩),.int .i64 i] w fun e w'=>e=.returned (.slice (some ⟨b,f,none⟩) t.size (512 - f))/\∃ n,w'=w.drewN n:=by
 have HP:=zh h
 obtain ⟨k,rfl,hk,hs⟩:=Z47 hi
 have d0:decide ((k:Int) < 0)=false:=by simp
 have hl:=h.len
 obtain ⟨g,h1,h2⟩:=h
 have HA:=zh (Zgf b k g w h1 h2.lt (by omega))
 have hp:=h2.ptr k _ hs
 obtain ⟨v1,v2,v3,v4⟩:=h2.ver k f t hs
 rw [show 6+4 * k=4+4 * k+2 by omega] at hp
 have hp':Zw g (4+4 * k) 2=f/\Zw g (4+4 * k+2) 2=t.size:=hp
 have Hp:=zh hp'
 have hsz:=Tup.size_pos t
 obtain ⟨z,hz⟩:∃ z,z=t.size:=⟨_,rfl⟩
 rw [<- hz] at Hp hsz v2 ⊢
 have hsl:=fun w=>Z6d b f (f+z) (f:Int) ((f:Int)+z) rfl (by omega) (by omega) (by omega) (by omega) w
 rw [Nat.add_sub_cancel_left] at hsl
 have hz0:((z:Int) == 0)=false:=by simp;omega
 clear hi hs hp hp' h1 h2 v4 v3 hz
 go_enter Tryz.func103,Tryz.ntmps103
 go_wp2_with fail
 refine (Z0E b st L _ HP.out).mono ?_
 rintro e w1 ⟨rfl,rfl⟩
 go_wp2_with fail
 refine HA.out.mono ?_
 rintro e w1 ⟨rfl,n,rfl⟩
 rw [Hp.out.1,Hp.out.2]
 go_wp2
 go_ret
 exact ⟨rfl,n,rfl⟩
theorem Zi4 {L:List Slot} {k f:Nat} {t:Tup} (h:∀ j,j < k->∀ s,L[j]?=some s->s ≠ none) (hk:L[k]?=some (some (f,t))):∀ j,j < k+1->∀ s,L[j]?=some s->s ≠ none:=by
 intro j hj s hs
 by_cases e:j=k
 ·subst e;rw [hk] at hs;injection hs with hs;subst hs;simp
 ·exact h j (by omega) s hs
theorem Zao (b st:Nat) (L:List Slot) (w:World) (h:ZD w b L st) :
  Calls Tryz.prog 150 #[.pointer (some ⟨b,0,none⟩)] w fun e w'=>e=.returned (.int .i64 (freeIdx L))/\∃ n,w'=w.drewN n:=by
 have HP:=zh h
 have hl:=h.len
 clear h
 have heq:=fun (w:World) (a:Option Addr) (n c:Nat)=>Lib.run_eql_slice_nil (P:=Tryz.prog) w 22 _ a n c 0 0 Tryz.underlying22
 go_enter Tryz.func150,Tryz.ntmps150
 go_wp2_with fail
 refine (Z0E b st L _ (by exact HP.out)).mono ?_
 rintro e w1 ⟨rfl,rfl⟩
 go_wp2_with fail
 go_loopw [6] (fun v wr=>∃ k:Nat,k <= L.length/\v=.int .i64 k/\(∃ n,wr=w.drewN n)/\(∀ j,j < k->∀ s,L[j]?=some s->s ≠ none)) (fun v _=>L.length - (intOf v).toNat)
 case atStart=>exact ⟨0,Nat.zero_le _,rfl,⟨0,rfl⟩,fun j hj=>absurd hj (by omega)⟩
 case round =>
  obtain ⟨k,hk,rfl,⟨m,rfl⟩,hall⟩:=hrel
  have HA:=zh hall
  clear hall
  by_cases hlt:k < L.length
  ·rcases hs:L[k]? with _ | s
   ·rw [zg hlt] at hs;cases hs
   ·have HS:=zh hs
    clear hs
    rcases s with _ | ⟨f,t⟩
    ·have HE:=zh (ZeC HS.out HA.out)
     go_wp2_with fail
     refine (Z1D b st L _ _ (by exact HP.out) (by rw [Z1b,HS.out];rfl)).mono ?_
     rintro e w1 ⟨rfl,n,rfl⟩
     go_wp2
     go_ret
     rw [HE.out]
     exact ⟨rfl,_,rfl⟩
    ·go_wp2_with fail
     refine (Z1E b st f t L _ _ (by exact HP.out) (by rw [Z1b,HS.out];rfl)).mono ?_
     rintro e w1 ⟨rfl,n,rfl⟩
     go_wp2
     go_roundw
     case rel=>exact ⟨k+1,by omega,by go_num,⟨_,rfl⟩,Zi4 HA.out HS.out⟩
     case measure=>simp [intOf];omega
  ·obtain rfl:k=L.length:=by omega
   have HE:=zh (ZbV HA.out)
   go_wp2_with fail
   refine (Z0E b st L _ (by exact HP.out)).mono ?_
   rintro e w1 ⟨rfl,rfl⟩
   go_wp2
   go_ret
   rw [HE.out]
   exact ⟨rfl,_,rfl⟩
theorem Z7P {g:Nat->Nat} {L:List Slot} {st:Nat} (h:Pg g L st):∀ k,k <= L.length->Z1X (L.take k) <= 1000 * k
 | 0,_=>by simp [Z1X]
 | k+1,hk=>by
  have ih:=Z7P h k (by omega)
  have hs:L[k]?=some L[k]:=zg (by omega)
  rw [Z5q L k _ hs]
  have:Slot.size L[k] <= 512:=by
   rcases hx:L[k] with _ | ⟨f,t⟩
   ·simp [Slot.size]
   ·rw [hx] at hs
    have:=(h.ver k f t hs).2.1
    have:Slot.size (some (f,t))=t.size:=rfl
    omega
  omega
theorem Z6Q (b st:Nat) (L:List Slot) (w:World) (h:ZD w b L st) :
  Calls Tryz.prog 149 #[.pointer (some ⟨b,0,none⟩)] w fun e w'=>e=.returned (.int .i64 (Z22 L))/\∃ n,w'=w.drewN n:=by
 have HP:=zh h
 have hl:=h.len
 have HSB:Hid (∀ k,k <= L.length->Z1X (L.take k) <= 1000 * k):=by
  obtain ⟨g,_,h2⟩:=h
  exact Z7P h2
 clear h
 go_enter Tryz.func149,Tryz.ntmps149
 go_wp2_with fail
 refine (Z0E b st L _ HP.out).mono ?_
 rintro e w1 ⟨rfl,rfl⟩
 go_wp2_with fail
 go_loopw [3,9] (fun n v wr=>∃ k:Nat,k <= L.length/\v=.int .i64 k/\n=.int .i64 (478 - (Z1X (L.take k):Int))/\(∃ n,wr=w.drewN n)) (fun _ v _=>L.length - (intOf v).toNat)
 case atStart=>exact ⟨0,Nat.zero_le _,rfl,by simp [Z1X],⟨0,rfl⟩⟩
 case round =>
  obtain ⟨k,hk,rfl,rfl,⟨m,rfl⟩⟩:=hrel
  have hsb:=HSB.out k hk
  by_cases hlt:k < L.length
  ·have hsb1:=HSB.out (k+1) hlt
   rcases hs:L[k]? with _ | s
   ·rw [zg hlt] at hs;cases hs
   ·have HN:=zh (Z5q L k s hs)
    have HS:=zh hs
    clear hs
    rw [HN.out] at hsb1
    rcases s with _ | ⟨f,t⟩
    ·go_wp2_with fail
     refine (Z1D b st L _ _ (by exact HP.out) (by rw [Z1b,HS.out];rfl)).mono ?_
     rintro e w1 ⟨rfl,n,rfl⟩
     go_wp2
     go_roundw
     case rel=>exact ⟨k+1,by omega,by go_num,by rw [HN.out];simp only [Slot.size];congr 1;omega,⟨_,rfl⟩⟩
     case measure=>simp [intOf];omega
    ·obtain ⟨z,hz⟩:∃ z,z=t.size:=⟨_,rfl⟩
     have hz':Slot.size (some (f,t))=z:=hz.symm
     rw [hz'] at hsb1 HN
     go_wp2_with fail
     refine (Z1E b st f t L _ _ (by exact HP.out) (by rw [Z1b,HS.out];rfl)).mono ?_
     rintro e w1 ⟨rfl,n,rfl⟩
     rw [<- hz]
     clear hz hz'
     go_wp2
     go_roundw
     case rel=>exact ⟨k+1,by omega,by go_num,by rw [HN.out];congr 1;omega,⟨_,rfl⟩⟩
     case measure=>simp [intOf];omega
  ·obtain rfl:k=L.length:=by omega
   have hfi:=Z4J L
   obtain ⟨fi,Hfi⟩:∃ fi,Hid (fi=freeIdx L):=⟨_,rfl⟩
   obtain ⟨sp,Hsp⟩:∃ sp,Hid (sp=Z1X L):=⟨_,rfl⟩
   rw [List.take_length,<- Hsp.out] at hsb
   rw [List.take_length,<- Hsp.out]
   have HR:Hid (Z22 L=max (478 - (sp:Int) - (if fi=L.length then 4 else 0)) (-1)):=by unfold Z22;rw [Hsp.out,Hfi.out];rfl
   go_wp2_with fail
   refine (Zao b st L _ (by exact HP.out)).mono ?_
   rintro e w1 ⟨rfl,n1,rfl⟩
   rw [<- Hfi.out] at hfi
   rw [<- Hfi.out]
   go_wp2_with fail
   refine (Z0E b st L _ (by exact HP.out)).mono ?_
   rintro e w1 ⟨rfl,rfl⟩
   by_cases hfe:fi=L.length
   ·have hb:((fi:Int) == L.length)=true:=by simp [hfe]
    rw [if_pos hfe] at HR
    clear hfe
    go_wp2
    go_ret
    rw [HR.out]
    exact ⟨rfl,_,rfl⟩
   ·have hb:((fi:Int) == L.length)=false:=by simp;omega
    rw [if_neg hfe] at HR
    clear hfe
    go_wp2
    go_ret
    rw [HR.out]
    exact ⟨by simp,_,rfl⟩
theorem Z8S (b st:Nat) (L:List Slot) (w:World) (h:ZD w b L st) :
  Calls Tryz.prog 102 #[.pointer (some ⟨b,0,none⟩)] w fun e w'=>e=.returned (.int .i64 L.length)/\w=w':=by
 have HP:=zh h
 clear h
 go_enter Tryz.func102,Tryz.ntmps102
 go_wp2_with fail
 refine (Z0E b st L _ HP.out).mono ?_
 rintro e w1 ⟨rfl,rfl⟩
 go_wp2
 go_ret
 exact ⟨rfl,rfl⟩
theorem Zgh (b st:Nat) (L:List Slot) (w:World) (h:ZD w b L st) :
  Calls Tryz.prog 95 #[.pointer (some ⟨b,0,none⟩)] w fun e w'=>e=.returned (.int .i64 (Z4i L))/\∃ n,w'=w.drewN n:=by
 have HP:=zh h
 have hl:=h.len
 clear h
 have heq:=fun (w:World) (a:Option Addr) (n c:Nat)=>run_neq_slice_nil_any (P:=Tryz.prog) w 22 _ a n c 0 0 Tryz.underlying22
 go_enter Tryz.func95,Tryz.ntmps95
 go_wp2_with fail
 refine (Z8S b st L _ HP.out).mono ?_
 rintro e w1 ⟨rfl,rfl⟩
 go_wp2_with fail
 go_loopw [3,7] (fun n v wr=>∃ k:Nat,k <= L.length/\v=.int .i64 k/\n=.int .i64 (Z4i (L.take k))/\Z4i (L.take k) <= k/\(∃ n,wr=w.drewN n)) (fun _ v _=>L.length - (intOf v).toNat)
 case atStart=>exact ⟨0,Nat.zero_le _,rfl,rfl,Nat.zero_le _,⟨0,rfl⟩⟩
 case round =>
  obtain ⟨k,hk,rfl,rfl,hu,⟨m,rfl⟩⟩:=hrel
  by_cases hlt:k < L.length
  ·rcases hs:L[k]? with _ | s
   ·rw [zg hlt] at hs;cases hs
   ·have HN:=zh (Z8d L k s hs)
    have HS:=zh hs
    clear hs
    rcases s with _ | ⟨f,t⟩
    ·go_wp2_with fail
     refine (Z1D b st L _ _ (by exact HP.out) (by rw [Z1b,HS.out];rfl)).mono ?_
     rintro e w1 ⟨rfl,n,rfl⟩
     go_wp2
     go_roundw
     case rel=>exact ⟨k+1,by omega,by go_num,by rw [HN.out];rfl,by rw [HN.out];exact Nat.le_succ_of_le hu,⟨_,rfl⟩⟩
     case measure=>simp [intOf];omega
    ·go_wp2_with fail
     refine (Z1E b st f t L _ _ (by exact HP.out) (by rw [Z1b,HS.out];rfl)).mono ?_
     rintro e w1 ⟨rfl,n,rfl⟩
     go_wp2
     go_roundw
     case rel=>exact ⟨k+1,by omega,by go_num,by rw [HN.out];rfl,by rw [HN.out];exact Nat.succ_le_succ hu,⟨_,rfl⟩⟩
     case measure=>simp [intOf];omega
  ·obtain rfl:k=L.length:=by omega
   rw [List.take_length] at hu
   rw [List.take_length]
   go_wp2
   go_ret
   exact ⟨rfl,_,rfl⟩
theorem Zkt (w:World):(Instr.makeSlice 22 (.int .i64 30) (.int .i64 30)).run Tryz.prog w=.ok (.slice (some ⟨w.heap.size,0,none⟩) 30 30) (w.alloc (.cells (tab 30 (Z0q (fun _=>0))) 5)):=by kernel_rfl
structure Z1j (w W:World) (row xmin xmax:Nat) (pg sl:Int) (A:Option Addr) (n cap:Nat) (g:Nat->Nat):Prop where
 quiet:Quiet w W
 box:W.heap[w.heap.size]?=some (.cells #[.int .u64 row,.int .u64 xmin,.int .u64 xmax,.int .i64 pg,.int .i64 sl,.slice A n cap] 96 (0,0))
 out:Bk W (w.heap.size+1) 30 5 g
theorem Z1j.drew {w W:World} {row xmin xmax:Nat} {pg sl:Int} {A:Option Addr} {n cap:Nat} {g:Nat->Nat} (h:Z1j w W row xmin xmax pg sl A n cap g):Z1j w W.drew row xmin xmax pg sl A n cap g:=⟨h.quiet.drew,h.box,h.out⟩
theorem Z1j.put {w W W':World} {row xmin xmax:Nat} {pg sl:Int} {A:Option Addr} {n cap:Nat} {g g':Nat->Nat} (h:Z1j w W row xmin xmax pg sl A n cap g) (ho:Z0 (·=w.heap.size+1) W W') (hb:Bk W' (w.heap.size+1) 30 5 g'):Z1j w W' row xmin xmax pg sl A n cap g' :=
 ⟨h.quiet.trans' ho (fun k hk e=>by omega),ho.get h.box (fun e=>by omega),hb⟩
theorem Z1j.cell0 {w W:World} {row xmin xmax:Nat} {pg sl:Int} {A:Option Addr} {n cap:Nat} {g:Nat->Nat} (h:Z1j w W row xmin xmax pg sl A n cap g):W.cell? ⟨w.heap.size,0,none⟩=some (.int .u64 row):=by rw [Z1 h.box];rfl
theorem Z1j.cell1 {w W:World} {row xmin xmax:Nat} {pg sl:Int} {A:Option Addr} {n cap:Nat} {g:Nat->Nat} (h:Z1j w W row xmin xmax pg sl A n cap g):W.cell? ⟨w.heap.size,1,none⟩=some (.int .u64 xmin):=by rw [Z1 h.box];rfl
theorem Z1j.cell2 {w W:World} {row xmin xmax:Nat} {pg sl:Int} {A:Option Addr} {n cap:Nat} {g:Nat->Nat} (h:Z1j w W row xmin xmax pg sl A n cap g):W.cell? ⟨w.heap.size,2,none⟩=some (.int .u64 xmax):=by rw [Z1 h.box];rfl
theorem Z1j.cell3 {w W:World} {row xmin xmax:Nat} {pg sl:Int} {A:Option Addr} {n cap:Nat} {g:Nat->Nat} (h:Z1j w W row xmin xmax pg sl A n cap g):W.cell? ⟨w.heap.size,3,none⟩=some (.int .i64 pg):=by rw [Z1 h.box];rfl
theorem Z1j.cell4 {w W:World} {row xmin xmax:Nat} {pg sl:Int} {A:Option Addr} {n cap:Nat} {g:Nat->Nat} (h:Z1j w W row xmin xmax pg sl A n cap g):W.cell? ⟨w.heap.size,4,none⟩=some (.int .i64 sl):=by rw [Z1 h.box];rfl
theorem Z1j.cell5 {w W:World} {row xmin xmax:Nat} {pg sl:Int} {A:Option Addr} {n cap:Nat} {g:Nat->Nat} (h:Z1j w W row xmin xmax pg sl A n cap g):W.cell? ⟨w.heap.size,5,none⟩=some (.slice A n cap):=by rw [Z1 h.box];rfl
def Z0F (n:Nat) (g:Nat->Nat):List Value:=((List.range n).map g).map (fun x:Nat=>Value.int .u8 x)
theorem Z1j.owns {w W:World} {row xmin xmax:Nat} {pg sl:Int} {A:Option Addr} {n cap:Nat} {g:Nat->Nat} (h:Z1j w W row xmin xmax pg sl A n cap g):W.ownsRow 0 5 1 (.slice (some ⟨w.heap.size+1,0,none⟩) 30 30) 30 (Z0F 30 g):=by
 refine ⟨by simp [Z0F],Or.inr ⟨_,30,_,rfl,Nat.zero_le _,h.out,Nat.le_refl _,by decide,by simp [Z2r],?_⟩⟩
 apply List.ext_getElem?
 intro i
 rw [List.getElem?_take]
 by_cases hi:i < 30
 ·rw [if_pos (by omega),Array.getElem?_toList,Z2g hi]
  simp [Z0F,hi,Z0q]
 ·rw [if_neg (by omega)]
  simp [Z0F,hi]
theorem Z0y (w:World) (a o:Obj):((w.alloc a).alloc o).heap[w.heap.size+1]?=some o:=by
 have h:=Z4 (w.alloc a) o
 have e:(w.alloc a).heap.size=w.heap.size+1:=by simp
 rw [e] at h
 exact h
theorem Z8T (b N off n cap x:Nat) (y:Int) (t:TypeId) (g:Nat->Nat) (w:World) (hb:Bk w b N t g) (hn:n <= 8) (hN:off+n <= N) (hm:N <= 1000) (hy:y=x) (hx:x < 18446744073709551616) :
  Calls Tryz.prog 128 #[.slice (some ⟨b,off,none⟩) n cap,.int .u64 y] w fun e w'=>e=.returned (.tuple #[])/\Z0 (·=b) w w'/\Bk w' b N t (ZL g off n x):=by
 subst hy
 exact Z2X b N off n cap x t g w hb hn hN hm hx
theorem Z5r (x:Int) (h0:-1 <= x) (h1:x <= 65536):IntKind.u64.wrap (IntKind.i64.wrap (x+1))=((x+1).toNat:Int):=by
 rw [IntKind.wrap_i64,IntKind.wrap_u64]
 omega
def ZbW (w:World) (t:Tup) (e:Ending) (w':World):Prop :=
 ∃ v,e=.returned v/\Quiet w w'/\(∀ k,v.ownBlock=some k->w.heap.size <= k)/\w'.ownsRow 0 5 1 v t.size (Z0F t.size t.ver)
theorem ZeF (t:Tup):Z0F 30 t.hdr ++ Z9 t.data=Z0F t.size t.ver:=by
 unfold Z9 Z0F
 rw [<- List.map_append]
 congr 1
 unfold Tup.size
 apply List.ext_getElem?
 intro i
 rw [List.getElem?_append,List.length_map,List.length_range]
 by_cases hi:i < 30
 ·simp [hi,Tup.ver,show i < 30+t.data.length by omega]
 ·rw [if_neg hi]
  by_cases h2:i < 30+t.data.length
  ·simp [h2,Tup.ver,hi,List.getD_eq_getElem?_getD,show i - 30 < t.data.length by omega]
  ·simp [h2,show ¬ i - 30 < t.data.length by omega]
theorem Zi5 (t:Tup) (A:Option Addr) (cap:Nat) (S:Nat->Prop) (w:World) (ht:t.Ok) (hd:Rd w S 1 A t.data.length (Z9 t.data)) :
  Calls Tryz.prog 151 #[ZC t A cap] w (ZbW w t):=by
 have hmk:=Zkt
 have hbd:=ht.bounds
 have HD:=zh hd
 have HPB:=zh (ZeF t)
 obtain ⟨H,hH⟩:∃ H,H=t.hdr:=⟨_,rfl⟩
 have HH:=zh (show H=ZL (ZL (ZL (ZL (ZL (fun _=>0) 0 8 t.row) 8 8 t.xmin) 16 8 t.xmax) 24 4 (t.pg+1).toNat) 28 2 (t.sl+1).toNat from hH)
 rw [<- hH] at HPB
 clear hd hH
 unfold ZC
 obtain ⟨row,xmin,xmax,pg,sl,data⟩:=t
 dsimp only at hbd HD HH HPB ⊢
 obtain ⟨b1,b2,b3,b4,b5,b6,b7,b8⟩:=hbd
 have hn:∃ n,n=data.length:=⟨_,rfl⟩
 go_enter Tryz.func151,Tryz.ntmps151
 go_wp2_with fail
 have HW:Hid (Z1j w ((w.alloc (.cells #[.int .u64 row,.int .u64 xmin,.int .u64 xmax,.int .i64 pg,.int .i64 sl,.slice A data.length cap] 96)).alloc (.cells (tab 30 (Z0q (fun _=>0))) 5)) row xmin xmax pg sl A data.length cap (fun _=>0)) :=
  ⟨((Z0.refl _ _).alloc _).alloc _,Zd (Z4 _ _) _,Z0y _ _ _⟩
 generalize (w.alloc (.cells #[.int .u64 row,.int .u64 xmin,.int .u64 xmax,.int .i64 pg,.int .i64 sl,.slice A data.length cap] 96)).alloc (.cells (tab 30 (Z0q (fun _=>0))) 5)=W at HW ⊢
 have c0:=HW.out.cell0
 go_region_held3 (fun w'=>w'.cell? ⟨w.heap.size,0,none⟩=some (.int .u64 row)) (first | go_keep | exact H1.out.cell0 | fail)
  (first | (go_at_call 128;go_must (refine (Z2X _ 30 0 8 _ row 5 _ _ HW.out.drew.out (by omega) (by omega) (by omega) (by omega)).mono ?_;rintro e w1 ⟨rfl,ho,hb⟩;have H1:=zh (HW.out.drew.put ho hb);clear ho hb)) | fail)
 clear c0 HW
 go_wp2_with fail
 have c1:=H1.out.cell1
 go_region_held3 (fun w'=>w'.cell? ⟨w.heap.size,1,none⟩=some (.int .u64 xmin)) (first | go_keep | exact H2.out.cell1 | fail)
  (first | (go_at_call 128;go_must ((with_reducible refine (Z2X _ 30 8 8 _ xmin 5 _ _ H1.out.drew.out (by omega) (by omega) (by omega) (by omega)).mono ?_);rintro e w2 ⟨rfl,ho,hb⟩;have H2:=zh (H1.out.drew.put ho hb);clear ho hb)) | fail)
 clear c1 H1
 go_wp2_with fail
 have c2:=H2.out.cell2
 go_region_held3 (fun w'=>w'.cell? ⟨w.heap.size,2,none⟩=some (.int .u64 xmax)) (first | go_keep | exact H3.out.cell2 | fail)
  (first | (go_at_call 128;go_must ((with_reducible refine (Z2X _ 30 16 8 _ xmax 5 _ _ H2.out.drew.out (by omega) (by omega) (by omega) (by omega)).mono ?_);rintro e w3 ⟨rfl,ho,hb⟩;have H3:=zh (H2.out.drew.put ho hb);clear ho hb)) | fail)
 clear c2 H2
 go_wp2_with fail
 have c3:=H3.out.cell3
 go_region_held3 (fun w'=>w'.cell? ⟨w.heap.size,3,none⟩=some (.int .i64 pg)) (first | go_keep | exact H4.out.cell3 | fail)
  (first | (go_at_call 128;go_must ((with_reducible refine (Z8T _ 30 24 4 _ (pg+1).toNat _ 5 _ _ H3.out.drew.out (by omega) (by omega) (by omega) (Z5r pg b4 (by omega)) (by omega)).mono ?_);rintro e w4 ⟨rfl,ho,hb⟩;have H4:=zh (H3.out.drew.put ho hb);clear ho hb)) | fail)
 clear c3 H3
 go_wp2_with fail
 have c4:=H4.out.cell4
 go_region_held3 (fun w'=>w'.cell? ⟨w.heap.size,4,none⟩=some (.int .i64 sl)) (first | go_keep | exact H5.out.cell4 | fail)
  (first | (go_at_call 128;go_must ((with_reducible refine (Z8T _ 30 28 2 _ (sl+1).toNat _ 5 _ _ H4.out.drew.out (by omega) (by omega) (by omega) (Z5r sl b6 (by omega)) (by omega)).mono ?_);rintro e w5 ⟨rfl,ho,hb⟩;have H5:=zh (H4.out.drew.put ho hb);clear ho hb)) | fail)
 clear c4 H4
 have c5:=H5.out.cell5
 have HF:Hid (Z1j w w5 row xmin xmax pg sl A data.length cap H):=by
  have:=H5.out
  rw [HH.out]
  exact this
 have HDD:=zh (HD.out.kept HF.out.quiet (fun _ _ x=>x))
 clear H5
 go_wp2_with (at_builtin;refine app Z17 rfl (.tmp 36) (.tmp 38) rfl rfl HF.out.owns rfl HDD.out (Z0A _) (by unfold maxLen;omega) (by omega) ?_)
 intro v w6 hG
 have HG:=zh hG
 clear hG
 go_wp2
 go_ret
 refine ⟨v,rfl,HF.out.quiet.trans' HG.out.only (fun k hk e=>?_),fun k e=>?_,?_⟩
 ·simp [Value.ownBlock] at e;omega
 ·rcases HG.out.loc with x | x <;> rw [x] at e
  ·simp [Value.ownBlock] at e;omega
  ·injection e with e;have:=HF.out.quiet.size;omega
 ·have:=HG.out.own
  rw [HPB.out] at this
  exact this
def Z1c (w:World) (b N:Nat) (g:Nat->Nat):World:=w.setRow b (tab N (Z0q g))
theorem Z2o {w:World} {b N:Nat} {t:TypeId} {g:Nat->Nat} (h:Bk w b N t g) (g':Nat->Nat):Bk (Z1c w b N g') b N t g':=setRow_heap w b _ _ t _ h
theorem Z1M (w:World) (b N:Nat) (g:Nat->Nat):Z0 (·=b) w (Z1c w b N g) :=
 ⟨rfl,rfl,rfl,by simp [Z1c,World.setRow],fun k _ hn=>setRow_other w b k _ (fun e=>hn (by first | exact e | exact e.symm))⟩
theorem ZbX (N off n:Nat) (g f:Nat->Nat) (h:off+n <= N):((tab N (Z0q g)).toList.take off ++ Z0F n f ++ (tab N (Z0q g)).toList.drop (off+n)).toArray=tab N (Z0q (Z0u g off n f)):=by
 have hl:(tab N (Z0q g)).toList.length=N:=by simp [Z2r]
 have hf:(Z0F n f).length=n:=by simp [Z0F]
 apply Z8J
 ·simp [hl,hf,Z2r];omega
 ·intro i hi
  rw [List.getElem?_toArray,List.getElem?_append,List.getElem?_append,List.length_append,List.length_take,hl,hf]
  have hm:min off N=off:=by omega
  rw [hm]
  by_cases h1:i < off
  ·rw [if_pos (by omega),if_pos h1,List.getElem?_take,if_pos h1,Array.getElem?_toList,Z2g hi]
   unfold Z0q
   rw [Z2s (by omega)]
  ·by_cases h2:i < off+n
   ·rw [if_pos h2,if_neg h1]
    have e:i=off+(i - off):=by omega
    rw [show Z0q (Z0u g off n f) i=.int .u8 (f (i - off)) by unfold Z0q;rw [e,Z9O (by omega)];simp]
    simp [Z0F,show i - off < n by omega]
   ·rw [if_neg h2,List.getElem?_drop,Array.getElem?_toList,show off+n+(i - (off+n))=i by omega,Z2g hi]
    unfold Z0q
    rw [Z2s (by omega)]
theorem ZjF:(Tryz.prog.info? 5).map (·.size)=some 1:=by kernel_rfl
theorem ZjG (w:World):(zeroValue 5).run Tryz.prog w=.ok (.int .u8 0) w:=by kernel_rfl
theorem ZeG {n j:Nat} {f:Nat->Nat} {v:Value} (h:(Z0F n f)[j]?=some v):j < n/\v=.int .u8 (f j):=by
 unfold Z0F at h
 rw [List.getElem?_map,List.getElem?_map] at h
 by_cases hj:j < n
 ·simp [hj] at h
  exact ⟨hj,h.symm⟩
 ·simp [hj] at h
theorem Zap (n:Nat) (f:Nat->Nat):∀ v ∈ Z0F n f,v.oneCell'=true:=by
 intro u hu
 obtain ⟨x,_,rfl⟩:=List.mem_map.1 hu
 rfl
theorem Z8e (w:World) (b N off dl dc:Nat) (t:TypeId) (g:Nat->Nat) (hb:Bk w b N t g) (sb so n sc:Nat) (f:Nat->Nat) (hsrc:∀ j,j < n->w.cell? ⟨sb,so+j,none⟩=some (.int .u8 (f j))) (hn:n <= dl) (hN:off+n <= N) (ty:TypeId) :
  (Builtin.copy_ #[22,22] ty #[.slice (some ⟨b,off,none⟩) dl dc,.slice (some ⟨sb,so,none⟩) n sc]).run Tryz.prog w=.ok (.int .i64 n) (Z1c w b N (Z0u g off n f)):=by
 have hl:(Z0F n f).length=n:=by simp [Z0F]
 rw [run_copy_row _ w _ _ ty 5 b off dl dc ⟨sb,so,none⟩ n sc _ t (Z0F n f) Tryz.underlying22 ZjF hb (by rw [hl];exact (Nat.min_eq_left hn).symm)
   (fun j v hv=>by obtain ⟨hj,rfl⟩:=ZeG hv;rw [Zl];exact hsrc j hj) (by rw [hl,Z2r];exact hN) (Zap n f)]
 rw [hl,ZbX N off n g f hN]
 rfl
theorem Z5s (w:World) (b N off n c:Nat) (t:TypeId) (g:Nat->Nat) (hb:Bk w b N t g) (hN:off+n <= N) (ty:TypeId) :
  (Builtin.clear_ #[22] ty #[.slice (some ⟨b,off,none⟩) n c]).run Tryz.prog w=.ok (.tuple #[]) (Z1c w b N (Z0u g off n (fun _=>0))):=by
 have hl:(Z0F n (fun _=>0)).length=n:=by simp [Z0F]
 have hst:=run_storeCells_at Tryz.prog b off t (Z0F n (fun _=>0)) 0 _ w hb (by rw [hl,Z2r];omega) (Zap n _)
 rw [Nat.add_zero,hl,ZbX N off n g _ hN] at hst
 have hz:(Builtin.zeroCells (Value.cells (.int .u8 0)) n).toList=Z0F n (fun _=>0):=by
  simp [Builtin.zeroCells,Value.cells,Z0F]
  intro a _
  simp [Nat.mod_one]
 unfold Z1c
 rcases n with _ | m
 ·have e:w.setRow b (tab N (Z0q (Z0u g off 0 (fun _=>0))))=w:=by
   rw [Z7x (g:=Z0q g) (fun i _=>by unfold Z0q;rw [Z2s (by omega)])]
   exact setRow_self w b _ t (0,0) hb
  rw [e]
  simp [Builtin.clear_,run_underlying Tryz.underlying22]
 ·simp [Builtin.clear_,run_underlying Tryz.underlying22,ZjG,hz,hst]
theorem Z50 (k:Nat) (h:k <= 127):IntKind.i64.wrap (4+IntKind.i64.wrap (4 * (k:Int)))=((4+4 * k:Nat):Int):=by
 rw [IntKind.wrap_i64,IntKind.wrap_i64]
 omega
theorem Zgk {M:List Slot} {m:Nat} (h:∀ j s,m <= j->M[j]?=some s->s=none) (h0:0 < m) (hm:M[m - 1]?=some none):∀ j s,m - 1 <= j->M[j]?=some s->s=none:=by
 intro j s hj hs
 by_cases e:j=m - 1
 ·subst e;rw [hm] at hs;injection hs with hs;exact hs.symm
 ·exact h j s (by omega) hs
theorem Zar {M:List Slot} {m st:Nat} {g2:Nat->Nat} (h:Pg g2 M st) (hm:m <= M.length) (ha:∀ j s,m <= j->M[j]?=some s->s=none) (ht:trim M=M.take m) :
  Pg (ZL (ZL (Z0u g2 (4+4 * m) (4+4 * M.length - (4+4 * m)) (fun _=>0)) 0 2 m) 2 2 st) (trim M) st:=by
 have:=h.trim hm ha
 unfold Z6c at this
 rw [show 4 * (M.length - m)=4+4 * M.length - (4+4 * m) by omega] at this
 rw [ht]
 exact this
theorem Zbc (i:Int) (w:World) :
  Calls Tryz.prog 171 #[.pointer none,.int .i64 i] w fun e w'=>e=.returned (.int .i64 15)/\Quiet w w':=by
 have heq:=fun (w:World) (a:Option Addr) (n c:Nat)=>Lib.run_eql_slice_nil (P:=Tryz.prog) w 22 _ a n c 0 0 Tryz.underlying22
 go_enter Tryz.func171,Tryz.ntmps171
 go_wp2_with fail
 refine (Z6P i _).mono ?_
 rintro e w1 ⟨rfl,n,rfl⟩
 go_wp2
 go_ret
 exact ⟨rfl,(Z0.refl _ _).drewN n⟩
theorem Z9Q (b st:Nat) (L:List Slot) (i:Int) (w:World) (h:ZD w b L st) (hi:Z0Y L i=none) :
  Calls Tryz.prog 171 #[.pointer (some ⟨b,0,none⟩),.int .i64 i] w fun e w'=>e=.returned (.int .i64 15)/\Quiet w w':=by
 have heq:=fun (w:World) (a:Option Addr) (n c:Nat)=>Lib.run_eql_slice_nil (P:=Tryz.prog) w 22 _ a n c 0 0 Tryz.underlying22
 have HI:=zh hi
 have HP:=zh h
 clear hi h
 go_enter Tryz.func171,Tryz.ntmps171
 go_wp2_with fail
 refine (Z1D b st L i _ HP.out HI.out).mono ?_
 rintro e w1 ⟨rfl,n,rfl⟩
 go_wp2
 go_ret
 exact ⟨rfl,(Z0.refl _ _).drewN n⟩
theorem Z9R (b st f:Nat) (t:Tup) (L:List Slot) (i:Int) (w:World) (h:ZD w b L st) (hi:Z0Y L i=some (f,t)) :
  Calls Tryz.prog 171 #[.pointer (some ⟨b,0,none⟩),.int .i64 i] w fun e w'=>e=.returned (.int .i64 0)/\Z0 (·=b) w w'/\ZD w' b (trim (L.set i.toNat none)) st:=by
 have heq:=fun (w:World) (a:Option Addr) (n c:Nat)=>Lib.run_eql_slice_nil (P:=Tryz.prog) w 22 _ a n c 0 0 Tryz.underlying22
 have HB:=zh (Z1E b st f t L i w h hi)
 obtain ⟨k,rfl,hk,hs⟩:=Z47 hi
 rw [Int.toNat_natCast]
 have hl:=h.len
 obtain ⟨M,HM⟩:∃ M,Hid (M=L.set k none):=⟨_,rfl⟩
 rw [<- HM.out]
 obtain ⟨g,h1,h2⟩:=h
 have hfit:=h2.fit
 have hle:=h2.le
 obtain ⟨v1,v2,v3,v4⟩:=h2.ver k f t hs
 have HF:=zh (h2.free hs)
 have HG:=zh h1
 have hts:=Tup.size_pos t
 clear hi hs h1 h2 v3 v4
 go_enter Tryz.func171,Tryz.ntmps171
 go_wp2_with fail
 refine HB.out.mono ?_
 rintro e w1 ⟨rfl,n,rfl⟩
 have hclr:=fun ty=>Z5s (w.drewN n) b 512 f t.size (512 - f) pageT g HG.out v2 ty
 go_wp2_with fail
 refine (Z5p b k 0 0 _ _ (Z2o (by exact HG.out) _) (by omega) (by omega) (by omega)).mono ?_
 rintro e w2 ⟨rfl,ho,hb⟩
 have HO:=zh (((Z0.refl (·=b) w).drewN n).trans ((Z1M _ _ _ _).trans ho))
 have HP:Hid (ZD w2 b (L.set k none) st):=⟨_,hb,by have:=HF.out;unfold Z7A at this;rw [show 6+4 * k=4+4 * k+2 by omega] at this;exact this⟩
 clear ho hb hclr HB HF HG
 rw [<- HM.out] at HP
 clear HM
 have hl2:M.length <= 127:=HP.out.len
 go_wp2_with fail
 refine (Z0E b st M _ HP.out).mono ?_
 rintro e w3 ⟨rfl,rfl⟩
 go_wp2_with fail
 go_loopw [6] (fun v wr=>∃ m:Nat,m <= M.length/\v=.int .i64 m/\(∃ n,wr=w2.drewN n)/\(∀ j s,m <= j->M[j]?=some s->s=none)) (fun v _=>(intOf v).toNat)
 case atStart=>exact ⟨M.length,Nat.le_refl _,rfl,⟨0,rfl⟩,fun j s hj hs=>absurd (zi.1 hs).1 (by omega)⟩
 case round =>
  obtain ⟨m,hm,rfl,⟨n1,rfl⟩,hall⟩:=hrel
  have HA:=zh hall
  clear hall
  obtain ⟨g2,hg2,hp2⟩:=HP.out
  have hfit2:=hp2.fit
  have HG2:=zh hg2
  have HP2:=zh hp2
  clear hg2 hp2
  by_cases h0:0 < m
  ·have hb0:decide ((0:Int) < m)=true:=by simp;omega
   rcases hs:M[m - 1]? with _ | s
   ·rw [zg (by omega)] at hs;cases hs
   ·have HS:=zh hs
    clear hs
    rcases s with _ | ⟨f',t'⟩
    ·go_wp2_with fail
     refine (Z1D b st M _ _ (by exact HP.out) (by rw [show ((m:Int) - 1)=((m - 1:Nat):Int) by omega,Z1b,HS.out];rfl)).mono ?_
     rintro e w4 ⟨rfl,n2,rfl⟩
     go_wp2
     go_roundw
     case rel=>exact ⟨m - 1,by omega,by go_num,⟨_,rfl⟩,Zgk HA.out h0 HS.out⟩
     case measure=>simp [intOf];omega
    ·have HT:=zh (Zaq M m hm HA.out (fun _=>⟨_,HS.out⟩))
     have hm2:4+4 * m < 512:=by have:=HP2.out.ver _ _ _ HS.out;have:=Tup.size_pos t';omega
     go_wp2_with fail
     refine (Z1E b st f' t' M _ _ (by exact HP.out) (by rw [show ((m:Int) - 1)=((m - 1:Nat):Int) by omega,Z1b,HS.out];rfl)).mono ?_
     rintro e w4 ⟨rfl,n2,rfl⟩
     go_wp2_with fail
     have hsl:=fun W=>Z6d b (4+4 * m) (4+4 * M.length) _ _ (Z50 m (by omega)) (Z50 M.length (by omega)) (by omega) (by omega) (by omega) W
     have hclr:=fun ty=>Z5s (w2.drewN (n1+n2+1)) b 512 (4+4 * m) (4+4 * M.length - (4+4 * m)) (512 - (4+4 * m)) pageT g2 HG2.out (by omega) ty
     go_region_held3 (fun _=>True) (trivial)
      (first | (go_at_call 134;go_must (refine (Z0E b st M _ (by exact HP.out)).mono ?_;rintro e w4 ⟨rfl,rfl⟩)) | fail)
     clear hclr hsl
     have HG3:Hid (Bk (Z1c (w2.drewN (n1+n2+1)) b 512 (Z0u g2 (4+4 * m) (4+4 * M.length - (4+4 * m)) (fun _=>0))) b 512 pageT (Z0u g2 (4+4 * m) (4+4 * M.length - (4+4 * m)) (fun _=>0))):=Z2o (by exact HG2.out) _
     have HO3:Hid (Z0 (·=b) w (Z1c (w2.drewN (n1+n2+1)) b 512 (Z0u g2 (4+4 * m) (4+4 * M.length - (4+4 * m)) (fun _=>0)))):=(HO.out.drewN _).trans (Z1M _ _ _ _)
     have HF:=zh (Zar HP2.out hm HA.out HT.out)
     generalize Z1c (w2.drewN (n1+n2+1)) b 512 (Z0u g2 (4+4 * m) (4+4 * M.length - (4+4 * m)) (fun _=>0))=w5 at HG3 HO3 ⊢
     have HL3:=zh (Z3T HP2.out.lt (4+4 * m) (4+4 * M.length - (4+4 * m)) (f:=fun _=>0) (fun _ _=>by omega))
     have HS3:Hid (Zw (Z0u g2 (4+4 * m) (4+4 * M.length - (4+4 * m)) (fun _=>0)) 2 2=st):=by rw [Z2W (by omega)];exact HP2.out.st
     generalize Z0u g2 (4+4 * m) (4+4 * M.length - (4+4 * m)) (fun _=>0)=g3 at HG3 HL3 HS3 HF
     go_wp2_with fail
     refine (Z6L b g3 _ HG3.out HL3.out).mono ?_
     rintro e w6 ⟨rfl,rfl⟩
     rw [HS3.out]
     go_wp2_with fail
     refine (Z3U b m st g3 _ HG3.out (by omega) (by omega)).mono ?_
     rintro e w6 ⟨rfl,ho6,hb6⟩
     have HO6:=zh (HO3.out.trans ho6)
     have HB6:=zh hb6
     clear ho6 hb6
     go_wp2
     go_ret
     exact ⟨rfl,HO6.out,_,HB6.out,HF.out⟩
  ·have hm0:m=0:=by omega
   have HT:=zh (Zaq M m hm HA.out (fun h=>absurd h h0))
   have hb0:decide ((0:Int) < m)=false:=by simp;omega
   have hm2:4+4 * m < 512:=by omega
   clear hm0
   go_wp2_with fail
   have hsl:=fun W=>Z6d b (4+4 * m) (4+4 * M.length) _ _ (Z50 m (by omega)) (Z50 M.length (by omega)) (by omega) (by omega) (by omega) W
   have hclr:=fun ty=>Z5s (w2.drewN (n1+1)) b 512 (4+4 * m) (4+4 * M.length - (4+4 * m)) (512 - (4+4 * m)) pageT g2 HG2.out (by omega) ty
   go_region_held3 (fun _=>True) (trivial)
    (first | (go_at_call 134;go_must (refine (Z0E b st M _ (by exact HP.out)).mono ?_;rintro e w4 ⟨rfl,rfl⟩)) | fail)
   clear hclr hsl
   have HG3:Hid (Bk (Z1c (w2.drewN (n1+1)) b 512 (Z0u g2 (4+4 * m) (4+4 * M.length - (4+4 * m)) (fun _=>0))) b 512 pageT (Z0u g2 (4+4 * m) (4+4 * M.length - (4+4 * m)) (fun _=>0))):=Z2o (by exact HG2.out) _
   have HO3:Hid (Z0 (·=b) w (Z1c (w2.drewN (n1+1)) b 512 (Z0u g2 (4+4 * m) (4+4 * M.length - (4+4 * m)) (fun _=>0)))):=(HO.out.drewN _).trans (Z1M _ _ _ _)
   have HF:=zh (Zar HP2.out hm HA.out HT.out)
   generalize Z1c (w2.drewN (n1+1)) b 512 (Z0u g2 (4+4 * m) (4+4 * M.length - (4+4 * m)) (fun _=>0))=w5 at HG3 HO3 ⊢
   have HL3:=zh (Z3T HP2.out.lt (4+4 * m) (4+4 * M.length - (4+4 * m)) (f:=fun _=>0) (fun _ _=>by omega))
   have HS3:Hid (Zw (Z0u g2 (4+4 * m) (4+4 * M.length - (4+4 * m)) (fun _=>0)) 2 2=st):=by rw [Z2W (by omega)];exact HP2.out.st
   generalize Z0u g2 (4+4 * m) (4+4 * M.length - (4+4 * m)) (fun _=>0)=g3 at HG3 HL3 HS3 HF
   go_wp2_with fail
   refine (Z6L b g3 _ HG3.out HL3.out).mono ?_
   rintro e w6 ⟨rfl,rfl⟩
   rw [HS3.out]
   go_wp2_with fail
   refine (Z3U b m st g3 _ HG3.out (by omega) (by omega)).mono ?_
   rintro e w6 ⟨rfl,ho6,hb6⟩
   have HO6:=zh (HO3.out.trans ho6)
   have HB6:=zh hb6
   clear ho6 hb6
   go_wp2
   go_ret
   exact ⟨rfl,HO6.out,_,HB6.out,HF.out⟩
theorem Zas:(Tryz.prog.info? 242).map (·.size)=some 512:=by kernel_rfl
theorem ZjH (N:Nat) (g:Nat->Nat):(tab N (Z0q g)).all (·.oneCell')=true:=by
 rw [Array.all_eq_true_iff_forall_mem]
 intro x hx
 obtain ⟨i,hi,rfl⟩:=Array.mem_iff_getElem.1 hx
 simp [tab,Z0q,Value.oneCell']
theorem Zgl {w:World} {ops:Array Oper} {rest:List Oper} {o:Oper} {a:Act} {Q:Exit->Act->World->Prop} (hgd:o.guard=none) (x:Operand) (ho:o.op=.load 242 x)
  (b:Nat) (hx:a.eval x=.pointer (some ⟨b,0,none⟩)) (g:Nat->Nat) (hb:Bk w b 512 pageT g)
  (h:wpList Tryz.prog ops Q rest (a.put o.dst (.agg (tab 512 (Z0q g)))) w):wpList Tryz.prog ops Q (o :: rest) a w :=
 wpList_load_row hgd 242 x ho b hx pageT _ (0,0) _ hb Tryz.underlying242 rfl (by rw [Z2r];exact Zas) h
theorem ZeH {w:World} {ops:Array Oper} {rest:List Oper} {o:Oper} {a:Act} {Q:Exit->Act->World->Prop} (hgd:o.guard=none) (x y:Operand) (ho:o.op=.store 242 x y)
  (b:Nat) (hx:a.eval x=.pointer (some ⟨b,0,none⟩)) (g g0:Nat->Nat) (hy:a.eval y=.agg (tab 512 (Z0q g))) (hb:Bk w b 512 pageT g0)
  (h:wpList Tryz.prog ops Q rest (a.put o.dst undef) (Z1c w b 512 g)):wpList Tryz.prog ops Q (o :: rest) a w :=
 wpList_store_row hgd 242 x y ho b _ hx hy pageT _ hb (by rw [Z2r];exact Zas) (by simp [Z2r]) (ZjH _ _) h
structure Z4F (w wr:World) (b n i:Nat) (g0:Nat->Nat) (L:List Slot):Prop where
 only:Z0 (·=b) w wr
 old:Bk wr w.heap.size 512 pageT g0
 mv:∃ g,Bk wr b 512 pageT g/\Mv g g0 n i (Z08 (L.take i)).1 (Z08 (L.take i)).2
theorem Z4F.drewN {w wr:World} {b n i:Nat} {g0:Nat->Nat} {L:List Slot} (h:Z4F w wr b n i g0 L) (k:Nat):Z4F w (wr.drewN k) b n i g0 L:=⟨h.only.drewN k,h.old,h.mv⟩
theorem Z4j {L:List Slot} {i:Nat} {s:Slot} (h:L[i]?=some s):L.take (i+1)=L.take i ++ [s]:=by rw [List.take_add_one,h];rfl
theorem Zi6 {L:List Slot} {i:Nat} (h:L[i]?=some none):(Z08 (L.take (i+1))).2=(Z08 (L.take i)).2:=by rw [Z4j h,Z2u];rfl
theorem Zi7 {L:List Slot} {i f:Nat} {t:Tup} (h:L[i]?=some (some (f,t))):(Z08 (L.take (i+1))).2=(Z08 (L.take i)).2 - t.size:=by rw [Z4j h,Z2u];rfl
theorem Z8f:∀ (L:List Slot),(Z08 L).2=512 - Z3l L:=by
 intro L
 induction hn:L.length generalizing L with
 | zero =>
  have:L=[]:=List.eq_nil_of_length_eq_zero hn
  subst this
  rfl
 | succ n ih =>
  have hne:L ≠ []:=fun e=>by subst e;simp at hn
  obtain ⟨M,s,rfl⟩:∃ M s,L=M ++ [s]:=⟨L.dropLast,L.getLast hne,(List.dropLast_concat_getLast hne).symm⟩
  have hM:M.length=n:=by simpa using hn
  have:=ih M hM
  rw [Z2u,Zam]
  rcases s with _ | ⟨f,t⟩
  ·show (Z08 M).2=_
   rw [this];rfl
  ·show (Z08 M).2 - t.size=_
   rw [this]
   have:Slot.size (some (f,t))=t.size:=rfl
   omega
theorem ZbY (L:List Slot) (i:Nat):Z3l (L.take i) <= Z3l L:=by
 conv=>rhs;rw [<- List.take_append_drop i L]
 unfold Z3l
 rw [List.map_append,List.sum_append]
 omega
theorem Zgm {L:List Slot} {i f:Nat} {t:Tup} (h:L[i]?=some (some (f,t))) (hr:4+4 * L.length+Z3l L <= 512):4+4 * L.length+t.size <= (Z08 (L.take i)).2/\(Z08 (L.take i)).2 <= 512:=by
 have h1:=ZbY L (i+1)
 rw [Z4j h,Zam] at h1
 have:Slot.size (some (f,t))=t.size:=rfl
 rw [Z8f]
 omega
theorem Z4F.none {w wr:World} {b i st:Nat} {g0:Nat->Nat} {L:List Slot} (h:Z4F w wr b L.length i g0 L) (hp:Pg g0 L st) (hi:L[i]?=some Option.none):Z4F w wr b L.length (i+1) g0 L:=by
 obtain ⟨h1,h2,g,h3,h4⟩:=h
 refine ⟨h1,h2,g,h3,?_⟩
 rw [Z4j hi,Z2u]
 have:=hp.ptr i _ hi
 exact h4.none (zi.1 hi).1 this
theorem Z4F.some {w wr w2 w3:World} {b i f at_ st:Nat} {t:Tup} {g0 gc:Nat->Nat} {L:List Slot} (h:Z4F w wr b L.length i g0 L) (hb:b < w.heap.size) (hp:Pg g0 L st) (hi:L[i]?=some (Option.some (f,t))) (ha:(Z08 (L.take i)).2=at_) (hr:4+4 * L.length+Z3l L <= 512)
  (hm:Mv gc g0 L.length i (Z08 (L.take i)).1 (Z08 (L.take i)).2) (o1:Z0 (·=b) wr w2) (o2:Z0 (·=b) w2 w3) (hb3:Bk w3 b 512 pageT (ZL (ZL (Z0u gc (at_ - t.size) t.size t.ver) (4+4 * i) 2 (at_ - t.size)) (4+4 * i+2) 2 t.size)) :
  Z4F w w3 b L.length (i+1) g0 L:=by
 subst ha
 have hat:=Zgm hi hr
 refine ⟨h.only.trans (o1.trans o2),(h.old.kept o1 (fun e=>by omega)).kept o2 (fun e=>by omega),_,hb3,?_⟩
 rw [Z4j hi,Z2u]
 have:=hm.some (zi.1 hi).1 (hp.ver i f t hi).2.2.1 hat.1
 unfold Z9P at this
 rw [show 6+4 * i=4+4 * i+2 by omega] at this
 exact this
theorem Zgn (b st:Nat) (L:List Slot) (w:World) (h:ZD w b L st) (hr:4+4 * L.length+Z3l L <= 512) (hl:L.length <= 126) :
  Calls Tryz.prog 153 #[.pointer (some ⟨b,0,none⟩)] w fun e w'=>e=.returned (.tuple #[])/\Z0 (·=b) w w'/\ZD w' b (Z08 L).1 (Z08 L).2:=by
 obtain ⟨g,hg,hp⟩:=h
 have heq:=fun (w:World) (a:Option Addr) (n c:Nat)=>Lib.run_eql_slice_nil (P:=Tryz.prog) w 22 _ a n c 0 0 Tryz.underlying22
 have hbl:=hg.lt
 have HG:=zh hg
 have HP:=zh hp
 clear hg hp
 go_enter Tryz.func153,Tryz.ntmps153
 go_wp2_with (first
   | (with_reducible refine Zgl rfl (.tmp 7) rfl b rfl g HG.out ?_)
   | (with_reducible refine ZeH rfl (.tmp 2) (.tmp 8) rfl w.heap.size rfl g (fun _=>0) rfl (by unfold Bk;rw [Z4,Z6N]) ?_)
   | fail)
 have HW0:Hid (Quiet w (Z1c (w.alloc (.cells Tryz.zeroCells242 242)) w.heap.size 512 g)/\Bk (Z1c (w.alloc (.cells Tryz.zeroCells242 242)) w.heap.size 512 g) w.heap.size 512 pageT g/\Bk (Z1c (w.alloc (.cells Tryz.zeroCells242 242)) w.heap.size 512 g) b 512 pageT g):=by
  have o1:Z0 (·=w.heap.size) (w.alloc (.cells Tryz.zeroCells242 242)) _:=Z1M (w.alloc (.cells Tryz.zeroCells242 242)) w.heap.size 512 g
  exact ⟨((Z0.refl _ _).alloc _).trans' o1 (fun k hk e=>by omega),Z2o (g:=fun _=>0) (by unfold Bk;rw [Z4,Z6N]) _,Bk.kept (Zd HG.out _) o1 (fun e=>by omega)⟩
 generalize Z1c (w.alloc (.cells Tryz.zeroCells242 242)) w.heap.size 512 g=W0 at HW0 ⊢
 obtain ⟨hq0,hold0,hpg0⟩:=HW0.out
 have HQ0:=zh hq0
 have HOLD0:=zh hold0
 have HPG0:=zh hpg0
 clear hq0 hold0 hpg0 HW0
 have hsl:=fun W=>Z3w b (4+4 * L.length) _ (Z50 L.length (by omega)) (by omega) W
 have hclr:=fun ty=>Z5s W0.drew b 512 (4+4 * L.length) (512 - (4+4 * L.length)) (512 - (4+4 * L.length)) pageT g HPG0.out (by omega) ty
 go_region_held3 (fun _=>True) (trivial)
  (first | (go_at_call 134;go_must (refine (Z0E b st L _ ⟨g,by exact HPG0.out,HP.out⟩).mono ?_;rintro e w4 ⟨rfl,rfl⟩)) | fail)
 have HS:Hid (Z4F w (Z1c W0.drew b 512 (Z0u g (4+4 * L.length) (512 - (4+4 * L.length)) (fun _=>0))) b L.length 0 g L):=by
  have o1:=Z1M W0.drew b 512 (Z0u g (4+4 * L.length) (512 - (4+4 * L.length)) (fun _=>0))
  exact ⟨(HQ0.out.drew.mono (fun _ _ x=>x.elim)).trans o1,Bk.kept (w:=W0.drew) HOLD0.out o1 (fun e=>by omega),_,Z2o (by exact HPG0.out) _,Mv.start HP.out.lt (by omega)⟩
 generalize Z1c W0.drew b 512 (Z0u g (4+4 * L.length) (512 - (4+4 * L.length)) (fun _=>0))=W1 at HS ⊢
 clear hsl hclr HQ0 HOLD0 HPG0 HG
 go_wp2_with fail
 refine (Z0E _ st L _ ⟨g,HS.out.old,HP.out⟩).mono ?_
 rintro e w4 ⟨rfl,rfl⟩
 go_wp2_with fail
 go_loopw [3,18] (fun a v wr=>∃ i:Nat,i <= L.length/\v=.int .i64 i/\a=.int .i64 (Z08 (L.take i)).2/\Z4F w wr b L.length i g L) (fun _ v _=>L.length - (intOf v).toNat)
 case atStart=>exact ⟨0,Nat.zero_le _,rfl,rfl,HS.out⟩
 case round =>
  obtain ⟨i,hi,rfl,rfl,hW⟩:=hrel
  have HW:=zh hW
  clear hW HS
  by_cases hlt:i < L.length
  ·rcases hs:L[i]? with _ | s
   ·rw [zg hlt] at hs;cases hs
   ·have HE:=zh hs
    clear hs
    rcases s with _ | ⟨f,t⟩
    ·go_wp2_with fail
     refine (Z1D _ st L _ _ ⟨g,HW.out.old,HP.out⟩ (by rw [Z1b,HE.out];rfl)).mono ?_
     rintro e w4 ⟨rfl,n2,rfl⟩
     go_wp2
     go_roundw
     case rel=>exact ⟨i+1,by omega,by go_num,by rw [Zi6 HE.out],(HW.out.drewN _).none HP.out HE.out⟩
     case measure=>simp [intOf];omega
    ·obtain ⟨v1,v2,v3,v4⟩:=HP.out.ver i f t HE.out
     have ha:=Zgm HE.out hr
     have HV:=zh v4
     have HV3:=zh v3
     have hts:=Tup.size_pos t
     obtain ⟨A,HA⟩:∃ A,Hid ((Z08 (L.take i)).2=A):=⟨_,rfl⟩
     rw [HA.out] at ha ⊢
     have HN:=zh (Zi7 HE.out)
     rw [HA.out] at HN
     obtain ⟨z,Hz⟩:∃ z,Hid (t.size=z):=⟨_,rfl⟩
     have h63:A <= 512:=ha.2
     have hz1:4+4 * L.length+z <= A:=by rw [<- Hz.out];exact ha.1
     have hz2:f+z <= 512:=by rw [<- Hz.out];exact v2
     have hz3:30 <= z:=by rw [<- Hz.out];exact hts
     clear v3 v4 ha hts v2
     go_wp2_with fail
     refine (Z1E _ st f t L _ _ ⟨g,HW.out.old,HP.out⟩ (by rw [Z1b,HE.out];rfl)).mono ?_
     rintro e w4 ⟨rfl,n2,rfl⟩
     rw [Hz.out]
     obtain ⟨gc,hgc,hmv⟩:=(HW.out.drewN n2).mv
     have HGC:=zh hgc
     have HMV:=zh hmv
     clear hgc hmv
     have hsl:=fun W=>Z3w b (A - z) ((A:Int) - z) (by omega) (by omega) W
     have hcp:=fun ty=>Z8e (wr.drewN n2) b 512 (A - z) (512 - (A - z)) (512 - (A - z)) pageT gc HGC.out w.heap.size f z (512 - f) t.ver (fun j hj=>by rw [(HW.out.drewN n2).old.cell (by omega)];rw [HV.out j (by rw [Hz.out];exact hj)]) (by omega) (by omega) ty
     go_wp2_with fail
     rw [show ((A:Int) - (z:Int))=((A - z:Nat):Int) by omega]
     refine (Z5p b i (A - z) z _ _ (Z2o (by exact HGC.out) _) (by omega) (by omega) (by omega)).mono ?_
     rintro e w5 ⟨rfl,ho,hb⟩
     have HX:Hid (Z4F w w5 b L.length (i+1) g L):=(HW.out.drewN n2).some hbl HP.out HE.out HA.out hr HMV.out (Z1M _ _ _ _) ho (by rw [Hz.out];exact hb)
     clear ho hb hcp hsl HGC HMV
     go_wp2
     go_roundw
     case rel=>exact ⟨i+1,by omega,by go_num,by rw [HN.out,Hz.out],HX.out⟩
     case measure=>simp [intOf];omega
  ·obtain rfl:i=L.length:=by omega
   obtain ⟨gc,hgc,hmv⟩:=HW.out.mv
   rw [List.take_length] at hmv
   have hat:=Z8f L
   have HGC:=zh hgc
   have HMV:=zh hmv
   have HC:Hid (Zw gc 0 2=L.length):=by rw [ZI (g':=g) _ _ (fun x h1 h2=>hmv.same x (by omega))];exact HP.out.cnt
   rw [List.take_length]
   obtain ⟨A,HA⟩:∃ A,Hid ((Z08 L).2=A):=⟨_,rfl⟩
   have hA:A <= 512:=by rw [<- HA.out];exact hmv.hi
   clear hgc hmv hat
   go_wp2_with fail
   refine (Zan b gc _ HGC.out HMV.out.lt).mono ?_
   rintro e w4 ⟨rfl,rfl⟩
   rw [HC.out,HA.out]
   go_wp2_with fail
   refine (Z3U b L.length A gc _ HGC.out (by omega) (by omega)).mono ?_
   rintro e w5 ⟨rfl,ho,hb⟩
   have HX:Hid (Z0 (·=b) w w5/\ZD w5 b (Z08 L).1 (Z08 L).2):=⟨HW.out.only.trans ho,_,hb,by have:=HMV.out.done;rw [HA.out] at this ⊢;exact this⟩
   clear ho hb
   go_wp2
   go_end0
   exact ⟨rfl,HX.out⟩
theorem ZjI {w:World} {e:TypeId} {v:Value} {n:Nat} {xs:List Value} (h:w.ownsRow 0 e 1 v n xs) (hn:0 < n) :
  ∃ g cap,v=.slice (some ⟨g,0,none⟩) n cap/\n <= cap/\cap <= maxLen/\g < w.heap.size/\∀ j u,xs[j]?=some u->w.cell? ⟨g,j,none⟩=some u:=by
 rcases h.2 with ⟨_,rfl⟩ | ⟨g,cap,cur,rfl,_,hh,r1,r2,_⟩
 ·omega
 ·exact ⟨g,cap,rfl,r1,r2,Z2 hh,fun j u hu=>by have:=h.cells rfl j u hu;rw [Zl,Nat.zero_add] at this;exact this⟩
theorem Zat {w:World} {b st S1 z c fi:Nat} {L L1:List Slot} {g4:Nat->Nat} {t:Tup} (hp:Pg g4 L1 S1) (hl:L1.length=L.length) (ht:t.Ok) (hfi:freeIdx L=fi) (hfr:∀ s,L1[freeIdx L]?=some s->s=none) (hz:t.size=z) (hc:Z3V L=c)
  (hto:Z1F L st t=(Z4w L1 fi (some (S1 - z,t)),S1 - z)) (hS:z+(4+4 * c) <= S1) (hb:Bk w b 512 pageT (ZL (ZL (Z0u (ZL (ZL g4 0 2 c) 2 2 (S1 - z)) (S1 - z) z t.ver) (4+4 * fi) 2 (S1 - z)) (4+4 * fi+2) 2 z)) :
  ZD w b (Z1F L st t).1 (Z1F L st t).2:=by
 subst hz hfi
 have hle:=Z4J L
 have hcc:max L1.length (freeIdx L+1)=c:=by rw [hl];exact hc
 have:=hp.insert (slot:=freeIdx L) (t:=t) (by omega) hfr ht (by rw [hcc];omega)
 rw [hcc] at this
 unfold Z6b at this
 rw [show 6+4 * freeIdx L=4+4 * freeIdx L+2 by omega] at this
 rw [hto]
 exact ⟨_,hb,this⟩
theorem Z0n {w:World} {k:Nat} {row xmin xmax:Nat} {pg sl:Int} {A:Option Addr} {n cap:Nat} {t:TypeId} {fr:Nat × Nat} (h:w.heap[k]?=some (.cells #[.int .u64 row,.int .u64 xmin,.int .u64 xmax,.int .i64 pg,.int .i64 sl,.slice A n cap] t fr)) :
  w.cell? ⟨k,0,none⟩=some (.int .u64 row)/\w.cell? ⟨k,1,none⟩=some (.int .u64 xmin)/\w.cell? ⟨k,2,none⟩=some (.int .u64 xmax)/\w.cell? ⟨k,3,none⟩=some (.int .i64 pg)/\w.cell? ⟨k,4,none⟩=some (.int .i64 sl)/\w.cell? ⟨k,5,none⟩=some (.slice A n cap) :=
 ⟨by rw [Z1 h];rfl,by rw [Z1 h];rfl,by rw [Z1 h];rfl,by rw [Z1 h];rfl,by rw [Z1 h];rfl,by rw [Z1 h];rfl⟩
theorem Z9S (b st:Nat) (L:List Slot) (t:Tup) (A:Option Addr) (cap:Nat) (S:Nat->Prop) (w:World) (h:ZD w b L st) (ht:t.Ok) (hd:Rd w S 1 A t.data.length (Z9 t.data)) (hroom:¬ Z22 L < t.data.length) :
  Calls Tryz.prog 118 #[.pointer (some ⟨b,0,none⟩),ZC t A cap] w fun e w'=>e=.returned (.tuple #[.int .i64 (freeIdx L),.int .i64 0])/\Z0 (·=b) w w'/\ZD w' b (Z1F L st t).1 (Z1F L st t).2:=by
 have hbd:=ht.bounds
 have hfit:=Zi8 hroom
 have hfi:=Z4J L
 have hl:=h.len
 have hbl:=h.lt
 have HD:=zh hd
 have HP:=zh h
 have HT:=zh ht
 have HR:=zh (Z6O t A cap)
 rw [ht.right] at HR
 have HK:Hid (∀ W,Quiet w W->Calls Tryz.prog 151 #[ZC t A cap] W (ZbW W t)):=fun W x=>Zi5 t A cap S W ht (hd.kept x (fun _ _ x=>x))
 have hroom':((t.data.length:Int)) <= Z22 L:=by omega
 clear hd h ht hroom
 unfold ZC at HR HK ⊢
 obtain ⟨R,HRM⟩:∃ R,Hid (Z22 L=R):=⟨_,rfl⟩
 rw [HRM.out] at hroom'
 obtain ⟨fi,HFI⟩:∃ fi,Hid (freeIdx L=fi):=⟨_,rfl⟩
 rw [HFI.out] at hfi ⊢
 go_enter Tryz.func118,Tryz.ntmps118
 go_wp2_with fail
 refine (HR.out _).mono ?_
 rintro e w1 ⟨rfl,hq1⟩
 have hbox:w1.heap[w.heap.size]?=_:=hq1.get (Z4 w _) (fun x=>x)
 obtain ⟨c0,c1,c2,c3,c4,c5⟩:=Z0n hbox
 have HBX:=zh hbox
 have HQ1:Hid (Quiet w w1):=((Z0.refl _ _).alloc _).trans hq1
 have hsz1:w.heap.size < w1.heap.size:=by have:=hq1.size;simp at this;omega
 have HP1:Hid (ZD w1 b L st):=HP.out.kept HQ1.out (fun x=>x)
 have HROM:Hid (∀ n:Nat,Calls Tryz.prog 149 #[.pointer (some ⟨b,0,none⟩)] (w1.drewN n) fun e w'=>e=.returned (.int .i64 R)/\∃ k,w'=(w1.drewN n).drewN k):=fun n=>by have:=Z6Q b st L (w1.drewN n) HP1.out;rw [HRM.out] at this;exact this
 have HFREE:Hid (∀ n:Nat,Calls Tryz.prog 150 #[.pointer (some ⟨b,0,none⟩)] (w1.drewN n) fun e w'=>e=.returned (.int .i64 fi)/\∃ k,w'=(w1.drewN n).drewN k):=fun n=>by have:=Zao b st L (w1.drewN n) HP1.out;rw [HFI.out] at this;exact this
 clear hq1 hbox
 go_wp2_with fail
 go_quiet ((go_at_call 149;exact Calls.quiet_of (HROM.out _)))
 go_wp2_with fail
 go_region_held3 (fun w'=>w'.cell? ⟨w.heap.size,0,none⟩=some (.int .u64 t.row)/\w'.cell? ⟨w.heap.size,1,none⟩=some (.int .u64 t.xmin)/\w'.cell? ⟨w.heap.size,2,none⟩=some (.int .u64 t.xmax)/\w'.cell? ⟨w.heap.size,3,none⟩=some (.int .i64 t.pg)/\w'.cell? ⟨w.heap.size,4,none⟩=some (.int .i64 t.sl)/\w'.cell? ⟨w.heap.size,5,none⟩=some (.slice A t.data.length cap))
  (first | go_keep | exact Z0n (HQ2.out.get HBX.out (fun x=>x)) | fail)
  (first
    | (go_at_call 150;go_must ((with_reducible refine (HFREE.out _).mono ?_);rintro e w2 ⟨rfl,n3,rfl⟩))
    | (go_at_call 151;go_must ((with_reducible refine (HK.out _ (HQ1.out.drewN _)).mono ?_);rintro e w3 ⟨v,rfl,hq3,hv,hown⟩;have HQ2:=zh hq3;have HV:=zh hv;have HOWN:=zh hown;clear hq3 hv hown))
    | fail)
 obtain ⟨z,Hz⟩:∃ z,Hid (t.size=z):=⟨_,rfl⟩
 have hz:z <= 30+t.data.length/\30+t.data.length <= z:=by rw [<- Hz.out];exact ⟨Nat.le_refl _,Nat.le_refl _⟩
 have hown:=HOWN.out
 rw [Hz.out] at hown
 obtain ⟨gb,vc,hv,hvc,hvm,hvl,hvs⟩:=ZjI hown (by omega)
 have hgb:¬ gb=b:=by
  have:=HV.out gb (by rw [hv];rfl)
  have:w1.heap.size <= gb:=this
  omega
 have HSRC:Hid (∀ j,j < z->w3.cell? ⟨gb,0+j,none⟩=some (.int .u8 (t.ver j))):=fun j hj=>by rw [Nat.zero_add];exact hvs j _ (by simp [Z0F,hj])
 have HP3:Hid (ZD w3 b L st):=ZD.kept (S:=fun _=>False) (w:=w1.drewN (nq+1+n3)) HP1.out HQ2.out (fun x=>x)
 have HO3:Hid (Z0 (·=b) w w3):=(((HQ1.out.drewN _).trans HQ2.out).mono (fun _ _ x=>x.elim))
 unfold maxLen at hvm
 subst hv
 obtain ⟨c,Hc⟩:∃ c,Hid (Z3V L=c):=⟨_,rfl⟩
 rw [Hc.out] at hfit
 have hcm:max (L.length:Int) ((fi:Int)+1)=c:=by have:=Hc.out;unfold Z3V at this;rw [HFI.out] at this;omega
 have hlc:L.length <= c/\fi < c:=by omega
 have Hcm:=zh hcm
 have hst:=HP3.out
 obtain ⟨_,_,hpp⟩:=hst
 have hst1:=hpp.le
 clear hpp hcm hown hvs HOWN HV HQ2 HK HR HFREE HROM HBX c0 c1 c2 c3 c4 c5
 go_wp2_with fail
 refine (Z0E b st L _ HP3.out).mono ?_
 rintro e w7 ⟨rfl,rfl⟩
 go_wp2_with fail
 rw [Hcm.out]
 refine (Z6e b st L _ HP3.out).mono ?_
 rintro e w7 ⟨rfl,rfl⟩
 by_cases hmv:st < z+(4+4 * c)
 ·have HTO:Hid (Z1F L st t=(Z4w (Z08 L).1 fi (some ((Z08 L).2 - z,t)),(Z08 L).2 - z)):=by unfold Z1F;rw [Hc.out,Hz.out,HFI.out,if_pos hmv];rfl
  have hd:decide ((st:Int) - z < 4+4 * c)=true:=by simp;omega
  go_wp2_with fail
  refine (Zgn b st L _ HP3.out (by omega) (by omega)).mono ?_
  rintro e w4 ⟨rfl,ho4,hp4⟩
  have HO4:=zh (HO3.out.trans ho4)
  have HSRC4:Hid (∀ j,j < z->w4.cell? ⟨gb,0+j,none⟩=some (.int .u8 (t.ver j))):=fun j hj=>ho4.cell (HSRC.out j hj) hgb
  have HL1:=zh (ZbZ L)
  have HFR:=zh (ZeI L)
  have hat:=Z8f L
  obtain ⟨L1,HLL⟩:∃ L1,Hid ((Z08 L).1=L1):=⟨_,rfl⟩
  obtain ⟨S1,HSS⟩:∃ S1,Hid ((Z08 L).2=S1):=⟨_,rfl⟩
  rw [HLL.out,HSS.out] at hp4 HTO
  rw [HLL.out] at HL1 HFR
  rw [HSS.out] at hat
  have HP4:=zh hp4
  have hS:z+(4+4 * c) <= S1:=by omega
  clear hat ho4 hp4 HP3 HSRC HLL HSS
  go_wp2_with fail
  refine (Z6e b S1 L1 _ HP4.out).mono ?_
  rintro e w8 ⟨rfl,rfl⟩
  obtain ⟨g4,hg4,hp4⟩:=HP4.out
  have HG4:=zh hg4
  have HPG4:=zh hp4
  have hst4:=hp4.le
  clear hg4 hp4
  have hsl:=fun W=>Z3w b (S1 - z) ((S1:Int) - z) (by omega) (by omega) W
  go_wp2_with fail
  rw [show ((S1:Int) - (z:Int))=((S1 - z:Nat):Int) by omega] at hsl ⊢
  refine (Z3U b c (S1 - z) g4 _ HG4.out (by omega) (by omega)).mono ?_
  rintro e w5 ⟨rfl,ho5,hb5⟩
  have HO5:=zh (HO4.out.trans ho5)
  have HB5:=zh hb5
  have HSRC5:Hid (∀ j,j < z->w5.cell? ⟨gb,0+j,none⟩=some (.int .u8 (t.ver j))):=fun j hj=>ho5.cell (HSRC4.out j hj) hgb
  clear ho5 hb5
  have hcp:=fun ty=>Z8e w5 b 512 (S1 - z) (512 - (S1 - z)) (512 - (S1 - z)) pageT _ HB5.out gb 0 z vc t.ver HSRC5.out (by omega) (by omega) ty
  go_wp2_with fail
  refine (Z5p b fi (S1 - z) z _ _ (Z2o (by exact HB5.out) _) (by omega) (by omega) (by omega)).mono ?_
  rintro e w6 ⟨rfl,ho6,hb6⟩
  have HX:Hid (Z0 (·=b) w w6/\ZD w6 b (Z1F L st t).1 (Z1F L st t).2):=⟨HO5.out.trans ((Z1M _ _ _ _).trans ho6),Zat HPG4.out HL1.out HT.out HFI.out HFR.out Hz.out Hc.out HTO.out (by omega) hb6⟩
  clear ho6 hb6 hcp hsl
  go_wp2
  go_ret2
  exact ⟨rfl,HX.out⟩
 ·have HTO:Hid (Z1F L st t=(Z4w L fi (some (st - z,t)),st - z)):=by unfold Z1F;rw [Hc.out,Hz.out,HFI.out,if_neg hmv];rfl
  have hd:decide ((st:Int) - z < 4+4 * c)=false:=by simp;omega
  have HO4:=HO3
  have HSRC4:=HSRC
  have HFR:=zh (Z6M L)
  have HP4:=HP3
  have hS:z+(4+4 * c) <= st:=by omega
  clear HP3 HSRC
  go_wp2_with fail
  refine (Z6e b st L _ HP4.out).mono ?_
  rintro e w8 ⟨rfl,rfl⟩
  obtain ⟨g4,hg4,hp4⟩:=HP4.out
  have HG4:=zh hg4
  have HPG4:=zh hp4
  have hst4:=hp4.le
  clear hg4 hp4
  have hsl:=fun W=>Z3w b (st - z) ((st:Int) - z) (by omega) (by omega) W
  go_wp2_with fail
  rw [show ((st:Int) - (z:Int))=((st - z:Nat):Int) by omega] at hsl ⊢
  refine (Z3U b c (st - z) g4 _ HG4.out (by omega) (by omega)).mono ?_
  rintro e w5 ⟨rfl,ho5,hb5⟩
  have HO5:=zh (HO4.out.trans ho5)
  have HB5:=zh hb5
  have HSRC5:Hid (∀ j,j < z->w5.cell? ⟨gb,0+j,none⟩=some (.int .u8 (t.ver j))):=fun j hj=>ho5.cell (HSRC4.out j hj) hgb
  clear ho5 hb5
  have hcp:=fun ty=>Z8e w5 b 512 (st - z) (512 - (st - z)) (512 - (st - z)) pageT _ HB5.out gb 0 z vc t.ver HSRC5.out (by omega) (by omega) ty
  go_wp2_with fail
  refine (Z5p b fi (st - z) z _ _ (Z2o (by exact HB5.out) _) (by omega) (by omega) (by omega)).mono ?_
  rintro e w6 ⟨rfl,ho6,hb6⟩
  have HX:Hid (Z0 (·=b) w w6/\ZD w6 b (Z1F L st t).1 (Z1F L st t).2):=⟨HO5.out.trans ((Z1M _ _ _ _).trans ho6),Zat HPG4.out rfl HT.out HFI.out HFR.out Hz.out Hc.out HTO.out (by omega) hb6⟩
  clear ho6 hb6 hcp hsl
  go_wp2
  go_ret2
  exact ⟨rfl,HX.out⟩
theorem Z8g (b:Nat) (t:Tup) (A:Option Addr) (cap:Nat) (w:World) (ht:t.rightB=false) :
  Calls Tryz.prog 118 #[.pointer (some ⟨b,0,none⟩),ZC t A cap] w fun e w'=>e=.returned (.tuple #[.int .i64 0,.int .i64 3])/\Quiet w w':=by
 have HR:=zh (Z6O t A cap)
 rw [ht] at HR
 unfold ZC at HR ⊢
 clear ht
 go_enter Tryz.func118,Tryz.ntmps118
 go_wp2_with fail
 refine (HR.out _).mono ?_
 rintro e w1 ⟨rfl,hq1⟩
 have HQ1:Hid (Quiet w w1):=((Z0.refl _ _).alloc _).trans hq1
 clear hq1
 go_wp2
 go_ret2
 exact ⟨rfl,HQ1.out⟩
theorem Z8h (b st:Nat) (L:List Slot) (t:Tup) (A:Option Addr) (cap:Nat) (w:World) (h:ZD w b L st) (ht:t.rightB=true) (hroom:Z22 L < t.data.length) :
  Calls Tryz.prog 118 #[.pointer (some ⟨b,0,none⟩),ZC t A cap] w fun e w'=>e=.returned (.tuple #[.int .i64 0,.int .i64 12])/\Quiet w w':=by
 have HR:=zh (Z6O t A cap)
 rw [ht] at HR
 have HP:=zh h
 unfold ZC at HR ⊢
 clear ht h
 obtain ⟨R,HRM⟩:∃ R,Hid (Z22 L=R):=⟨_,rfl⟩
 rw [HRM.out] at hroom
 go_enter Tryz.func118,Tryz.ntmps118
 go_wp2_with fail
 refine (HR.out _).mono ?_
 rintro e w1 ⟨rfl,hq1⟩
 have hbox:w1.heap[w.heap.size]?=_:=hq1.get (Z4 w _) (fun x=>x)
 obtain ⟨c0,c1,c2,c3,c4,c5⟩:=Z0n hbox
 have HQ1:Hid (Quiet w w1):=((Z0.refl _ _).alloc _).trans hq1
 have HP1:Hid (ZD w1 b L st):=HP.out.kept HQ1.out (fun x=>x)
 have HROM:Hid (∀ n:Nat,Calls Tryz.prog 149 #[.pointer (some ⟨b,0,none⟩)] (w1.drewN n) fun e w'=>e=.returned (.int .i64 R)/\∃ k,w'=(w1.drewN n).drewN k):=fun n=>by have:=Z6Q b st L (w1.drewN n) HP1.out;rw [HRM.out] at this;exact this
 clear hq1 hbox c0 c1 c2 c3 c4
 go_wp2_with fail
 go_quiet ((go_at_call 149;exact Calls.quiet_of (HROM.out _)))
 go_wp2
 go_ret2
 exact ⟨rfl,HQ1.out.drewN _⟩
theorem Zdg (b st:Nat) (L:List Slot) (t:Tup) (A:Option Addr) (cap:Nat) (S:Nat->Prop) (w:World) (h:ZD w b L st) (hby:∀ x ∈ t.data,x < 256) (hd:Rd w S 1 A t.data.length (Z9 t.data)) :
  Calls Tryz.prog 118 #[.pointer (some ⟨b,0,none⟩),ZC t A cap] w fun e w'=>e=.returned (.tuple #[.int .i64 (Z3W L st t).1,.int .i64 (Z3W L st t).2.1])/\Z0 (·=b) w w'/\ZD w' b (Z3W L st t).2.2.1 (Z3W L st t).2.2.2:=by
 rcases ht:t.rightB with _ | _
 ·refine (Z8g b t A cap w ht).mono ?_
  rintro e w' ⟨rfl,hq⟩
  rw [show Z3W L st t=(0,3,L,st) from if_pos ht]
  exact ⟨rfl,hq.mono (fun _ _ x=>x.elim),h.kept hq (fun x=>x)⟩
 ·by_cases hr:Z22 L < t.data.length
  ·refine (Z8h b st L t A cap w h ht hr).mono ?_
   rintro e w' ⟨rfl,hq⟩
   rw [show Z3W L st t=(0,12,L,st) by unfold Z3W;rw [if_neg (by simp [ht]),if_pos hr]]
   exact ⟨rfl,hq.mono (fun _ _ x=>x.elim),h.kept hq (fun x=>x)⟩
  ·refine (Z9S b st L t A cap S w h ⟨ht,hby⟩ hd hr).mono ?_
   rintro e w' ⟨rfl,ho,hp⟩
   rw [show Z3W L st t=((freeIdx L:Int),0,(Z1F L st t).1,(Z1F L st t).2) by unfold Z3W;rw [if_neg (by simp [ht]),if_neg hr]]
   exact ⟨rfl,ho,hp⟩
def Z0t (w:World) (b:Nat) (T:List (Option Tup)):Prop:=∃ L st,ZD w b L st/\Z0v L=T
theorem Z0t.kept {S:Nat->Prop} {w w':World} {b:Nat} {T:List (Option Tup)} (h:Z0t w b T) (ho:Z0 S w w') (hn:¬ S b):Z0t w' b T:=by
 obtain ⟨L,st,h1,h2⟩:=h
 exact ⟨L,st,h1.kept ho hn,h2⟩
theorem Z0t.lt {w:World} {b:Nat} {T:List (Option Tup)} (h:Z0t w b T):b < w.heap.size:=by
 obtain ⟨L,st,h1,h2⟩:=h
 exact h1.lt
theorem Z0t.len {w:World} {b:Nat} {T:List (Option Tup)} (h:Z0t w b T):T.length <= 127:=by
 obtain ⟨L,st,h1,h2⟩:=h
 rw [<- h2,Z48];exact h1.len
theorem Z3x (w:World) :
  Calls Tryz.prog 87 #[] w fun e w'=>e=.returned (.pointer (some ⟨w.heap.size,0,none⟩))/\Quiet w w'/\w.heap.size < w'.heap.size/\Z0t w' w.heap.size [] :=
 (Zi3 w).mono fun _ _ ⟨a,b,c,d⟩=>⟨a,b,c,[],512,d,rfl⟩
theorem ZeM (b:Nat) (T:List (Option Tup)) (w:World) (h:Z0t w b T) :
  Calls Tryz.prog 149 #[.pointer (some ⟨b,0,none⟩)] w fun e w'=>e=.returned (.int .i64 (ZP T))/\∃ n,w'=w.drewN n:=by
 obtain ⟨L,st,h1,rfl⟩:=h
 rw [Zau]
 exact Z6Q b st L w h1
theorem Zdh (b:Nat) (T:List (Option Tup)) (w:World) (h:Z0t w b T) :
  Calls Tryz.prog 102 #[.pointer (some ⟨b,0,none⟩)] w fun e w'=>e=.returned (.int .i64 T.length)/\w=w':=by
 obtain ⟨L,st,h1,rfl⟩:=h
 rw [Z48]
 exact Z8S b st L w h1
theorem ZeN (b:Nat) (T:List (Option Tup)) (w:World) (h:Z0t w b T) :
  Calls Tryz.prog 95 #[.pointer (some ⟨b,0,none⟩)] w fun e w'=>e=.returned (.int .i64 (Z0r T))/\∃ n,w'=w.drewN n:=by
 obtain ⟨L,st,h1,rfl⟩:=h
 rw [Zgp]
 exact Zgh b st L w h1
theorem Z8U (b:Nat) (t:Tup) (T:List (Option Tup)) (i:Int) (w:World) (h:Z0t w b T) (hi:ZY T i=some t) :
  Calls Tryz.prog 171 #[.pointer (some ⟨b,0,none⟩),.int .i64 i] w fun e w'=>e=.returned (.int .i64 0)/\Z0 (·=b) w w'/\Z0t w' b (Z0d (T.set i.toNat none)):=by
 obtain ⟨L,st,h1,rfl⟩:=h
 rw [Z4k] at hi
 rcases hs:Z0Y L i with _ | ⟨f,t'⟩
 ·rw [hs] at hi;cases hi
 ·refine (Z9R b st f t' L i w h1 hs).mono ?_
  rintro e w' ⟨rfl,ho,hp⟩
  exact ⟨rfl,ho,_,_,hp,by rw [<- Zgq,Zib]⟩
theorem Z8V (b:Nat) (T:List (Option Tup)) (i:Int) (w:World) (h:Z0t w b T) (hi:ZY T i=none) :
  Calls Tryz.prog 171 #[.pointer (some ⟨b,0,none⟩),.int .i64 i] w fun e w'=>e=.returned (.int .i64 15)/\Quiet w w':=by
 obtain ⟨L,st,h1,rfl⟩:=h
 rw [Z4k] at hi
 refine Z9Q b st L i w h1 ?_
 rcases hs:Z0Y L i with _ | x
 ·rfl
 ·rw [hs] at hi;cases hi
theorem Z51 (b:Nat) (T:List (Option Tup)) (t:Tup) (A:Option Addr) (cap:Nat) (S:Nat->Prop) (w:World) (h:Z0t w b T) (hby:∀ x ∈ t.data,x < 256) (hd:Rd w S 1 A t.data.length (Z9 t.data)) :
  Calls Tryz.prog 118 #[.pointer (some ⟨b,0,none⟩),ZC t A cap] w fun e w'=>e=.returned (.tuple #[.int .i64 (Z2J T t).1,.int .i64 (Z2J T t).2.1])/\Z0 (·=b) w w'/\Z0t w' b (Z2J T t).2.2:=by
 obtain ⟨L,st,h1,rfl⟩:=h
 refine (Zdg b st L t A cap S w h1 hby hd).mono ?_
 rintro e w' ⟨rfl,ho,hp⟩
 have e1:(Z2J (Z0v L) t).1=(Z3W L st t).1/\(Z2J (Z0v L) t).2.1=(Z3W L st t).2.1/\Z0v (Z3W L st t).2.2.1=(Z2J (Z0v L) t).2.2:=by
  unfold Z2J Z3W
  rw [Zau,Z6R]
  split
  ·exact ⟨rfl,rfl,rfl⟩
  ·split
   ·exact ⟨rfl,rfl,rfl⟩
   ·exact ⟨rfl,rfl,ZeL L st t⟩
 rw [e1.1,e1.2.1]
 exact ⟨rfl,ho,_,_,hp,e1.2.2⟩
theorem Zjr {W w:World} (h:Quiet W w):(∀ b o,b < W.heap.size->w.cell? ⟨b,o,none⟩=W.cell? ⟨b,o,none⟩)/\(∀ b o,b < W.heap.size->w.frozen? ⟨b,o,none⟩=W.frozen? ⟨b,o,none⟩) :=
 ⟨fun b o hb=>World.cell?_of_block (h.block b hb (fun x=>x)),fun b o hb=>World.frozen?_of_block (h.block b hb (fun x=>x))⟩
theorem Rd.one (w:World) (v:Value) (e:TypeId) (fr:Nat × Nat) {S:Nat->Prop} (hS:S w.heap.size):Rd (w.alloc (.cells #[v] e fr)) S 1 (some ⟨w.heap.size,0,none⟩) 1 [v]:=by
 refine ⟨rfl,fun _=>⟨w.heap.size,0,rfl,hS,fun j u hu=>?_⟩⟩
 rw [Z1 (Z4 w _)]
 simpa using hu
theorem Zic (k:Nat):madeCells (Value.cells (.int .u8 0)) k=tab k (Z0q (fun _=>0)):=by
 apply Z8J
 ·simp [madeCells]
 ·intro i hi
  simp [madeCells,hi,Value.cells,Z0q,Nat.mod_one]
abbrev sixSet (w:World) (b:Nat) (v0 v1 v2 v3 v4 v5:Value):World :=
 (((((w.setCell ⟨b,0,none⟩ v0).setCell ⟨b,1,none⟩ v1).setCell ⟨b,2,none⟩ v2).setCell ⟨b,3,none⟩ v3).setCell ⟨b,4,none⟩ v4).setCell ⟨b,5,none⟩ v5
theorem Z1a {w:World} {b:Nat} {c0 c1 c2 c3 c4 c5:Value} {t:TypeId} (h:w.heap[b]?=some (.cells #[c0,c1,c2,c3,c4,c5] t (0,0))) (v0 v1 v2 v3 v4 v5:Value) :
  (sixSet w b v0 v1 v2 v3 v4 v5).heap[b]?=some (.cells #[v0,v1,v2,v3,v4,v5] t (0,0)):=by
 unfold sixSet
 rw [Zg (Zg (Zg (Zg (Zg (Zg h _ _) _ _) _ _) _ _) _ _) _ _]
 rfl
theorem Z0L (w:World) (b:Nat) (v0 v1 v2 v3 v4 v5:Value):Z0 (·=b) w (sixSet w b v0 v1 v2 v3 v4 v5) :=
 ((((((Z0.refl (·=b) w).setCell (p:=⟨b,0,none⟩) (fun _=>rfl) v0).setCell (p:=⟨b,1,none⟩) (fun _=>rfl) v1).setCell (p:=⟨b,2,none⟩) (fun _=>rfl) v2).setCell (p:=⟨b,3,none⟩) (fun _=>rfl) v3).setCell (p:=⟨b,4,none⟩) (fun _=>rfl) v4).setCell (p:=⟨b,5,none⟩) (fun _=>rfl) v5
section
variable {w1 w2:World} {k:Nat} {v0 v1 v2 v3 v4 c0 c1 c2 c3 c4 c5:Value}
end
def Z9T (w:World) (t:Tup) (e:Ending) (w':World):Prop :=
 ∃ A c,e=.returned (ZC t A c)/\ZH w w' (.slice A t.data.length c) t.data
theorem Zaw (n:Nat) (x:Int) (h:n=(x+1).toNat) (h0:-1 <= x) (h1:x <= 65536):IntKind.i64.wrap (IntKind.i64.wrap (n:Int) - 1)=x:=by
 rw [IntKind.wrap_i64,IntKind.wrap_i64]
 omega
theorem ZjJ {w:World} {b f:Nat} {t:Tup} {g:Nat->Nat} (hb:Bk w b 512 pageT g) (hv:∀ j,j < t.size->g (f+j)=t.ver j) (hf:f+t.size <= 512):Rd w (·=b) 1 (some ⟨b,f+30,none⟩) t.data.length (Z9 t.data):=by
 refine ⟨by simp [Z9],fun _=>⟨b,f+30,rfl,rfl,fun j u hu=>?_⟩⟩
 unfold Z9 at hu
 rw [List.getElem?_map] at hu
 rcases hx:t.data[j]? with _ | x
 ·rw [hx] at hu;cases hu
 ·have hj:j < t.data.length:=(zi.1 hx).1
  have hts:t.size=30+t.data.length:=rfl
  rw [hx] at hu
  rw [hb.cell (by omega),show f+30+j=f+(30+j) by omega,hv (30+j) (by omega),Tup.ver,if_neg (by omega),Nat.add_sub_cancel_left,List.getD_eq_getElem?_getD,hx]
  exact hu
theorem Zdi {w w5 W6:World} {o:Obj} {v:Value} {l:List Nat} (h:ZH (w.alloc o).drew w5 v l) (ho:Z0 (·=w.heap.size) w5 W6):ZH w W6 v l:=by
 refine ⟨((((Z0.refl _ _).alloc o).drew).trans h.quiet).trans' ho (fun k hk e=>by omega),fun k e=>?_,Z5 h.own ho (fun k e x=>?_)⟩
 ·have:=h.new k e
  simp at this
  omega
 ·have:=h.new k e
  simp at this
  omega
theorem ZeO {w W:World} {t:Tup} {A:Option Addr} {c:Nat} (h:ZH w W (.slice A t.data.length c) t.data) :
  Z9T w t (.returned (.agg #[.int .u64 t.row,.int .u64 t.xmin,.int .u64 t.xmax,.int .i64 t.pg,.int .i64 t.sl,.slice A t.data.length c])) W:=⟨A,c,rfl,h⟩
theorem Z3m:(Tryz.prog.info? 96).map (·.size)=some 6:=by kernel_rfl
theorem Zax:Tryz.prog.underlying 22=some (.slice (Tryz.prog.elem 22)):=by kernel_rfl
theorem Z5t (w:World):(sizeOf (Tryz.prog.elem 22)).run Tryz.prog w=.ok 1 w:=by kernel_rfl
theorem ZjK (b f dl C:Nat) (hC:¬ C=30) (w:World) :
  (Instr.slice 22 (.slice (some ⟨b,f,none⟩) (30+dl) C) (some (.int .i64 30)) none none).run Tryz.prog w=.ok (.slice (some ⟨b,f+30,none⟩) dl (C - 30)) w:=by
 rw [run_slice_l w _ _ _ _ Zax _ _ (by omega) (by omega),Z5t]
 simp [sliced,hC,Zl]
theorem Zid (b f dl:Nat) (w:World) :
  (Instr.slice 22 (.slice (some ⟨b,f,none⟩) (30+dl) 30) (some (.int .i64 30)) none none).run Tryz.prog w=.ok (.slice (some ⟨b,f,none⟩) dl 0) w:=by
 rw [run_slice_l w _ _ _ _ Zax _ _ (by omega) (by omega),Z5t]
 simp [sliced]
theorem ZeP (b f C:Nat) (t:Tup) (g:Nat->Nat) (w:World) (hb:Bk w b 512 pageT g) (hg:∀ i,g i < 256) (ht:t.Ok) (hv:∀ j,j < t.size->g (f+j)=t.ver j) (hf:f+t.size <= 512) (hC:30+t.data.length <= C) :
  Calls Tryz.prog 104 #[.slice (some ⟨b,f,none⟩) (30+t.data.length) C] w (Z9T w t):=by
 have hbd:=ht.bounds
 have hts:30+t.data.length+f <= 512:=by have:t.size=30+t.data.length:=rfl;omega
 have HRD:=zh (Tup.read ht hv)
 have HG:=zh hg
 have HDT:=zh (ZjJ hb hv hf)
 have HB:=zh hb
 clear hb hg hv hf ht
 have b1:(8:Int) <= C:=by omega
 have b2:(16:Int) <= C:=by omega
 have b3:(24:Int) <= C:=by omega
 have b4:(28:Int) <= C:=by omega
 have b5:(30:Int) <= C:=by omega
 have n1:¬ C=8:=by omega
 have n2:¬ C=16:=by omega
 have n3:¬ C=24:=by omega
 have n4:¬ C=28:=by omega
 obtain ⟨fo,hs30,HDO⟩:∃ fo,(∀ W:World,(Instr.slice 22 (.slice (some ⟨b,f,none⟩) (30+t.data.length) C) (some (.int .i64 30)) none none).run Tryz.prog W=.ok (.slice (some ⟨b,fo,none⟩) t.data.length (C - 30)) W)/\Hid (Rd w (·=b) 1 (some ⟨b,fo,none⟩) t.data.length (Z9 t.data)):=by
  by_cases h30:C=30
  ·subst h30
   have hd0:t.data=[]:=List.eq_nil_of_length_eq_zero (by omega)
   exact ⟨f,fun W=>Zid b f _ W,by rw [hd0];exact Rd.nil _ _ _ _⟩
  ·exact ⟨f+30,fun W=>ZjK b f _ C h30 W,HDT.out⟩
 clear HDT
 ·have hnum:∀ (off n c:Nat) (W:World),Bk W b 512 pageT g->n <= 8->off+n <= 512->Calls Tryz.prog 136 #[.slice (some ⟨b,off,none⟩) n c] W fun e w'=>e=.returned (.int .u64 (Zw g off n))/\W=w':=fun off n c W h1 h2 h3=>Z7C b 512 off n c pageT g W h1 HG.out h2 h3 (by omega)
  have HN:=zh hnum
  clear hnum
  go_enter Tryz.func104,Tryz.ntmps104
  go_wp2_with fail
  go_region_held3 (fun _=>True) (trivial)
   (first
     | (go_at_call 136;go_must ((with_reducible refine (HN.out _ _ _ _ ?_ ?_ ?_).mono ?_);(exact Zd HB.out _);omega;omega;rintro e w4 ⟨rfl,rfl⟩))
     | (go_at_call 111;go_must ((with_reducible refine (Zai _ _ t.data (·=b) _ ?_ ?_).mono ?_);(exact (HDO.out.kept (((Z0.refl (fun _=>False) w).alloc _).drew) (fun _ _ x=>x)));omega;rintro e w5 ⟨v,rfl,hfr⟩;obtain ⟨A',c',hv',_⟩:=Za hfr.own;subst hv';obtain ⟨hc2,hf2⟩:=Zjr hfr.quiet;have HFR:=zh hfr;clear hfr))
     | fail)
  rw [HRD.out.1,HRD.out.2.1,HRD.out.2.2.1,Zaw _ t.pg HRD.out.2.2.2.1 (by omega) (by omega),Zaw _ t.sl HRD.out.2.2.2.2 (by omega) (by omega)]
  have hres:w5.heap[w.heap.size]?=_:=HFR.out.quiet.get (Z4 w _) (fun x=>x)
  have HX:=zh (Z1a hres (.int .u64 t.row) (.int .u64 t.xmin) (.int .u64 t.xmax) (.int .i64 t.pg) (.int .i64 t.sl) (.slice A' t.data.length c'))
  have HF6:=zh (Zdi HFR.out (Z0L w5 w.heap.size (.int .u64 t.row) (.int .u64 t.xmin) (.int .u64 t.xmax) (.int .i64 t.pg) (.int .i64 t.sl) (.slice A' t.data.length c')))
  clear hc2 hf2 hres HFR
  unfold sixSet at HX HF6
  generalize (((((w5.setCell ⟨w.heap.size,0,none⟩ (.int .u64 t.row)).setCell ⟨w.heap.size,1,none⟩ (.int .u64 t.xmin)).setCell ⟨w.heap.size,2,none⟩ (.int .u64 t.xmax)).setCell ⟨w.heap.size,3,none⟩ (.int .i64 t.pg)).setCell ⟨w.heap.size,4,none⟩ (.int .i64 t.sl)).setCell ⟨w.heap.size,5,none⟩ (.slice A' t.data.length c')=W6 at HX HF6 ⊢
  go_wp2
  exact bodyPost_ret (results_cell_row Tryz.results104 _ _ w.heap.size _ _ (0,0) _ (by rfl) HX.out Tryz.underlying96 rfl Z3m) (by rfl) (ZeO HF6.out)
section
variable {P:Program}
theorem ZG {fn:Func} {p q:Tmp} {ty:TypeId} (h:fn.results=#[.cell p ty,.tmp q]) (tmps:Array Value) (w:World) (g:Nat) (t:TypeId) (cs:Array Value) (fr:Nat × Nat) (d:TypeDesc)
  (hp:tmps.getD p undef=.pointer (some ⟨g,0,none⟩)) (hg:w.heap[g]?=some (.cells cs t fr))
  (hu:P.underlying ty=some d) (hd:(match d with | .struct _ | .array _ _=>true | _=>false)=true) (hi:(P.info? ty).map (·.size)=some cs.size) :
  (results fn tmps).run P w=.ok (.tuple #[.agg cs,tmps.getD q undef]) w:=by
 have hp':tmps[p]?.getD undef=.pointer (some ⟨g,0,none⟩):=by simpa using hp
 simp [results,h,hp',asAddr,run_loadVar_row w g t ty cs fr d hg hu hd hi]
end
theorem Zc2 (w:World) (n:Nat):((((((((w.alloc (.cells #[.int .u64 0,.int .u64 0,.int .u64 0,.int .i64 0,.int .i64 0,.slice none 0 0] 96)).drewN n).setCell ⟨w.heap.size,0,none⟩ (.int .u64 0)).setCell ⟨w.heap.size,1,none⟩ (.int .u64 0)).setCell ⟨w.heap.size,2,none⟩ (.int .u64 0)).setCell ⟨w.heap.size,3,none⟩ (.int .i64 0)).setCell ⟨w.heap.size,4,none⟩ (.int .i64 0)).setCell ⟨w.heap.size,5,none⟩ (.slice none 0 0)).heap[w.heap.size]?=some (.cells #[.int .u64 0,.int .u64 0,.int .u64 0,.int .i64 0,.int .i64 0,.slice none 0 0] 96 (0,0))/\Quiet w ((((((((w.alloc (.cells #[.int .u64 0,.int .u64 0,.int .u64 0,.int .i64 0,.int .i64 0,.slice none 0 0] 96)).drewN n).setCell ⟨w.heap.size,0,none⟩ (.int .u64 0)).setCell ⟨w.heap.size,1,none⟩ (.int .u64 0)).setCell ⟨w.heap.size,2,none⟩ (.int .u64 0)).setCell ⟨w.heap.size,3,none⟩ (.int .i64 0)).setCell ⟨w.heap.size,4,none⟩ (.int .i64 0)).setCell ⟨w.heap.size,5,none⟩ (.slice none 0 0)) :=
 ⟨Z1a (w:=(w.alloc (.cells #[.int .u64 0,.int .u64 0,.int .u64 0,.int .i64 0,.int .i64 0,.slice none 0 0] 96)).drewN n) (Z4 w _) _ _ _ _ _ _,(((Z0.refl (fun _=>False) w).alloc (.cells #[.int .u64 0,.int .u64 0,.int .u64 0,.int .i64 0,.int .i64 0,.slice none 0 0] 96)).drewN n).trans' (Z0L ((w.alloc (.cells #[.int .u64 0,.int .u64 0,.int .u64 0,.int .i64 0,.int .i64 0,.slice none 0 0] 96)).drewN n) w.heap.size _ _ _ _ _ _) (fun k hk e=>by omega)⟩
theorem Zie {w W1 w5 W6:World} {v:Value} {l:List Nat} (hq:Quiet w W1) (hs:w.heap.size < W1.heap.size) (h:ZH W1 w5 v l) (ho:Z0 (·=w.heap.size) w5 W6):ZH w W6 v l:=by
 refine ⟨(hq.trans h.quiet).trans' ho (fun k hk e=>by omega),fun k e=>?_,Z5 h.own ho (fun k e x=>?_)⟩
 ·have:=h.new k e
  omega
 ·have:=h.new k e
  omega
def Z3X (w:World) (e:Ending) (w':World):Prop :=
 e=.returned (.tuple #[.agg #[.int .u64 0,.int .u64 0,.int .u64 0,.int .i64 0,.int .i64 0,.slice none 0 0],.bool false])/\Quiet w w'
def Z2G (w:World) (t:Tup) (e:Ending) (w':World):Prop :=
 ∃ A c,e=.returned (.tuple #[ZC t A c,.bool true])/\ZH w w' (.slice A t.data.length c) t.data
theorem Z8W {w W:World} {t:Tup} {A:Option Addr} {c:Nat} (h:ZH w W (.slice A t.data.length c) t.data) :
  Z2G w t (.returned (.tuple #[.agg #[.int .u64 t.row,.int .u64 t.xmin,.int .u64 t.xmax,.int .i64 t.pg,.int .i64 t.sl,.slice A t.data.length c],.bool true])) W:=⟨A,c,rfl,h⟩
theorem Zc3 (i:Int) (w:World):Calls Tryz.prog 69 #[.pointer none,.int .i64 i] w (Z3X w):=by
 have heq:=fun (w:World) (a:Option Addr) (n c:Nat)=>Lib.run_eql_slice_nil (P:=Tryz.prog) w 22 _ a n c 0 0 Tryz.underlying22
 go_enter Tryz.func69,Tryz.ntmps69
 go_wp2_with fail
 refine (Z6P i _).mono ?_
 rintro e w1 ⟨rfl,n,rfl⟩
 go_wp2
 have HZ:=zh (Zc2 w n)
 generalize (((((((w.alloc (.cells #[.int .u64 0,.int .u64 0,.int .u64 0,.int .i64 0,.int .i64 0,.slice none 0 0] 96)).drewN n).setCell ⟨w.heap.size,0,none⟩ (.int .u64 0)).setCell ⟨w.heap.size,1,none⟩ (.int .u64 0)).setCell ⟨w.heap.size,2,none⟩ (.int .u64 0)).setCell ⟨w.heap.size,3,none⟩ (.int .i64 0)).setCell ⟨w.heap.size,4,none⟩ (.int .i64 0)).setCell ⟨w.heap.size,5,none⟩ (.slice none 0 0)=W6 at HZ ⊢
 exact bodyPost_ret (ZG Tryz.results69 _ _ w.heap.size _ _ (0,0) _ (by rfl) HZ.out.1 Tryz.underlying96 rfl Z3m) (by rfl) ⟨rfl,HZ.out.2⟩
theorem Zbd (b st:Nat) (L:List Slot) (i:Int) (w:World) (h:ZD w b L st) (hi:Z0Y L i=none):Calls Tryz.prog 69 #[.pointer (some ⟨b,0,none⟩),.int .i64 i] w (Z3X w):=by
 have heq:=fun (w:World) (a:Option Addr) (n c:Nat)=>Lib.run_eql_slice_nil (P:=Tryz.prog) w 22 _ a n c 0 0 Tryz.underlying22
 have HP:=zh (h.kept ((Z0.refl (fun _=>False) w).alloc (.cells #[.int .u64 0,.int .u64 0,.int .u64 0,.int .i64 0,.int .i64 0,.slice none 0 0] 96)) (fun x=>x))
 have HI:=zh hi
 clear h hi
 go_enter Tryz.func69,Tryz.ntmps69
 go_wp2_with fail
 refine (Z1D b st L i _ HP.out HI.out).mono ?_
 rintro e w1 ⟨rfl,n,rfl⟩
 go_wp2
 have HZ:=zh (Zc2 w n)
 generalize (((((((w.alloc (.cells #[.int .u64 0,.int .u64 0,.int .u64 0,.int .i64 0,.int .i64 0,.slice none 0 0] 96)).drewN n).setCell ⟨w.heap.size,0,none⟩ (.int .u64 0)).setCell ⟨w.heap.size,1,none⟩ (.int .u64 0)).setCell ⟨w.heap.size,2,none⟩ (.int .u64 0)).setCell ⟨w.heap.size,3,none⟩ (.int .i64 0)).setCell ⟨w.heap.size,4,none⟩ (.int .i64 0)).setCell ⟨w.heap.size,5,none⟩ (.slice none 0 0)=W6 at HZ ⊢
 exact bodyPost_ret (ZG Tryz.results69 _ _ w.heap.size _ _ (0,0) _ (by rfl) HZ.out.1 Tryz.underlying96 rfl Z3m) (by rfl) ⟨rfl,HZ.out.2⟩
theorem Zbe (b st f:Nat) (t:Tup) (L:List Slot) (i:Int) (w:World) (h:ZD w b L st) (hi:Z0Y L i=some (f,t)):Calls Tryz.prog 69 #[.pointer (some ⟨b,0,none⟩),.int .i64 i] w (Z2G w t):=by
 have heq:=fun (w:World) (a:Option Addr) (n c:Nat)=>Lib.run_eql_slice_nil (P:=Tryz.prog) w 22 _ a n c 0 0 Tryz.underlying22
 have HP:=zh (h.kept ((Z0.refl (fun _=>False) w).alloc (.cells #[.int .u64 0,.int .u64 0,.int .u64 0,.int .i64 0,.int .i64 0,.slice none 0 0] 96)) (fun x=>x))
 have HI:=zh hi
 obtain ⟨k,rfl,hk,hs⟩:=Z47 hi
 obtain ⟨g,hg,hp⟩:=HP.out
 obtain ⟨v1,v2,v3,v4⟩:=hp.ver k f t hs
 have HU:Hid (∀ n,Calls Tryz.prog 104 #[.slice (some ⟨b,f,none⟩) (30+t.data.length) (512 - f)] ((w.alloc (.cells #[.int .u64 0,.int .u64 0,.int .u64 0,.int .i64 0,.int .i64 0,.slice none 0 0] 96)).drewN n) (Z9T ((w.alloc (.cells #[.int .u64 0,.int .u64 0,.int .u64 0,.int .i64 0,.int .i64 0,.slice none 0 0] 96)).drewN n) t)):=fun n=>ZeP b f (512 - f) t g _ hg hp.lt v3 v4 v2 (by have:t.size=30+t.data.length:=rfl;omega)
 clear h hi hs hg hp v1 v2 v3 v4 hk
 go_enter Tryz.func69,Tryz.ntmps69
 go_wp2_with fail
 refine (Z1E b st f t L _ _ HP.out HI.out).mono ?_
 rintro e w1 ⟨rfl,n,rfl⟩
 go_wp2_with fail
 rw [show t.size=30+t.data.length from rfl]
 refine (HU.out n).mono ?_
 rintro e w2 ⟨A',c',rfl,hfr⟩
 have hres:w2.heap[w.heap.size]?=_:=hfr.quiet.get (Z4 w _) (fun x=>x)
 have HX:=zh (Z1a hres (.int .u64 t.row) (.int .u64 t.xmin) (.int .u64 t.xmax) (.int .i64 t.pg) (.int .i64 t.sl) (.slice A' t.data.length c'))
 have HF6:=zh (Zie (((Z0.refl (fun _=>False) w).alloc (.cells #[.int .u64 0,.int .u64 0,.int .u64 0,.int .i64 0,.int .i64 0,.slice none 0 0] 96)).drewN n) (by show w.heap.size < (w.alloc _).heap.size;simp) hfr (Z0L w2 w.heap.size (.int .u64 t.row) (.int .u64 t.xmin) (.int .u64 t.xmax) (.int .i64 t.pg) (.int .i64 t.sl) (.slice A' t.data.length c')))
 obtain ⟨hc2,hf2⟩:=Zjr hfr.quiet
 clear hfr HU hres
 unfold ZC
 go_wp2
 clear hc2 hf2
 unfold sixSet at HX HF6
 generalize ((((((w2).setCell ⟨w.heap.size,0,none⟩ (.int .u64 t.row)).setCell ⟨w.heap.size,1,none⟩ (.int .u64 t.xmin)).setCell ⟨w.heap.size,2,none⟩ (.int .u64 t.xmax)).setCell ⟨w.heap.size,3,none⟩ (.int .i64 t.pg)).setCell ⟨w.heap.size,4,none⟩ (.int .i64 t.sl)).setCell ⟨w.heap.size,5,none⟩ (.slice A' t.data.length c')=W6 at HX HF6 ⊢
 exact bodyPost_ret (ZG Tryz.results69 _ _ w.heap.size _ _ (0,0) _ (by rfl) HX.out Tryz.underlying96 rfl Z3m) (by rfl) (Z8W HF6.out)
theorem ZjL (i:Int) (xmax:Nat) (pg sl:Int) (w:World) :
  Calls Tryz.prog 88 #[.pointer none,.int .i64 i,.int .u64 xmax,.agg #[.int .i64 pg,.int .i64 sl]] w fun e w'=>e=.returned (.int .i64 15)/\Quiet w w':=by
 go_enter Tryz.func88,Tryz.ntmps88
 go_wp2_with fail
 refine (Z6P i _).mono ?_
 rintro e w1 ⟨rfl,n,rfl⟩
 go_wp2
 go_ret
 exact ⟨rfl,((Z0.refl _ _).alloc _).drewN n⟩
theorem Zgr (b st:Nat) (L:List Slot) (i:Int) (w:World) (h:ZD w b L st):∃ A n c,(∀ m:Nat,Calls Tryz.prog 103 #[.pointer (some ⟨b,0,none⟩),.int .i64 i] (w.drewN m) fun e w'=>e=.returned (.slice A n c)/\∃ k,w'=(w.drewN m).drewN k)/\(A.isNone=(Z0Y L i).isNone):=by
 rcases hs:Z0Y L i with _ | ⟨f,t⟩
 ·exact ⟨none,0,0,fun m=>Z1D b st L i _ h hs,rfl⟩
 ·exact ⟨_,_,_,fun m=>Z1E b st f t L i _ h hs,rfl⟩
theorem Z8X (b st:Nat) (L:List Slot) (i:Int) (xmax:Nat) (pg sl:Int) (w:World) (h:ZD w b L st) (hx:1099511627776 < xmax ∨ Z0O pg sl=true) :
  Calls Tryz.prog 88 #[.pointer (some ⟨b,0,none⟩),.int .i64 i,.int .u64 xmax,.agg #[.int .i64 pg,.int .i64 sl]] w fun e w'=>e=.returned (.int .i64 3)/\Quiet w w':=by
 have HP:=zh (h.kept ((Z0.refl (fun _=>False) w).alloc (.cells #[.int .i64 pg,.int .i64 sl] 48)) (fun x=>x))
 obtain ⟨A,n,c,hA,_⟩:=Zgr b st L i _ HP.out
 have HA:=zh (hA 0)
 have HF:=zh (Z7E pg sl)
 have hx':1099511627776 < xmax ∨ (¬ 1099511627776 < xmax/\Z0O pg sl=true):=by
  by_cases h1:1099511627776 < xmax
  ·exact Or.inl h1
  ·exact Or.inr ⟨h1,hx.resolve_left h1⟩
 clear h hA hx
 rcases hx' with h1 | ⟨h1,h2⟩
 ·go_enter Tryz.func88,Tryz.ntmps88
  go_wp2_with fail
  refine HA.out.mono ?_
  rintro e w1 ⟨rfl,k,rfl⟩
  go_wp2
  go_ret
  exact ⟨rfl,((Z0.refl _ _).alloc _).drewN _⟩
 ·rw [h2] at HF
  have d1:decide ((1099511627776:Int) < xmax)=false:=by simp;omega
  clear h2
  go_enter Tryz.func88,Tryz.ntmps88
  go_wp2_with fail
  refine HA.out.mono ?_
  rintro e w1 ⟨rfl,k,rfl⟩
  go_wp2_with fail
  refine (HF.out _).mono ?_
  rintro e w2 ⟨rfl,hq⟩
  have HQ:Hid (Quiet w w2):=(((Z0.refl (fun _=>False) w).alloc _).drewN _).trans hq
  clear hq
  go_wp2
  go_ret
  exact ⟨rfl,HQ.out⟩
theorem Z8Y (b st:Nat) (L:List Slot) (i:Int) (xmax:Nat) (pg sl:Int) (w:World) (h:ZD w b L st) (hx:xmax <= 1099511627776) (hf:Z0O pg sl=false) (hi:Z0Y L i=none) :
  Calls Tryz.prog 88 #[.pointer (some ⟨b,0,none⟩),.int .i64 i,.int .u64 xmax,.agg #[.int .i64 pg,.int .i64 sl]] w fun e w'=>e=.returned (.int .i64 15)/\Quiet w w':=by
 have heq:=fun (w:World) (a:Option Addr) (n c:Nat)=>Lib.run_eql_slice_nil (P:=Tryz.prog) w 22 _ a n c 0 0 Tryz.underlying22
 have HP:=zh (h.kept ((Z0.refl (fun _=>False) w).alloc (.cells #[.int .i64 pg,.int .i64 sl] 48)) (fun x=>x))
 have HI:=zh hi
 have HF:=zh (Z7E pg sl)
 rw [hf] at HF
 have d1:decide ((1099511627776:Int) < xmax)=false:=by simp;omega
 clear h hi hf
 go_enter Tryz.func88,Tryz.ntmps88
 go_wp2_with fail
 refine (Z1D b st L i _ HP.out HI.out).mono ?_
 rintro e w1 ⟨rfl,k,rfl⟩
 go_wp2_with fail
 refine (HF.out _).mono ?_
 rintro e w2 ⟨rfl,hq⟩
 have HQ:Hid (Quiet w w2):=(((Z0.refl (fun _=>False) w).alloc _).drewN _).trans hq
 clear hq
 go_wp2
 go_ret
 exact ⟨rfl,HQ.out⟩
structure Z2V (w W:World) (b:Nat) (pg sl:Int) (g:Nat->Nat):Prop where
 only:Z0 (·=b) w W
 box:W.heap[w.heap.size]?=some (.cells #[.int .i64 pg,.int .i64 sl] 48 (0,0))
 bk:Bk W b 512 pageT g
theorem Z2V.drew {w W:World} {b:Nat} {pg sl:Int} {g:Nat->Nat} (h:Z2V w W b pg sl g):Z2V w W.drew b pg sl g:=⟨h.only.drew,h.box,h.bk⟩
theorem Z2V.put {w W W':World} {b:Nat} {pg sl:Int} {g g':Nat->Nat} (h:Z2V w W b pg sl g) (hb:b < w.heap.size) (ho:Z0 (·=b) W W') (hk:Bk W' b 512 pageT g'):Z2V w W' b pg sl g' :=
 ⟨h.only.trans ho,ho.get h.box (fun e=>by omega),hk⟩
theorem Z2V.cell0 {w W:World} {b:Nat} {pg sl:Int} {g:Nat->Nat} (h:Z2V w W b pg sl g):W.cell? ⟨w.heap.size,0,none⟩=some (.int .i64 pg):=by rw [Z1 h.box];rfl
theorem Z2V.cell1 {w W:World} {b:Nat} {pg sl:Int} {g:Nat->Nat} (h:Z2V w W b pg sl g):W.cell? ⟨w.heap.size,1,none⟩=some (.int .i64 sl):=by rw [Z1 h.box];rfl
theorem Z8Z (b st f:Nat) (t:Tup) (L:List Slot) (i:Int) (xmax:Nat) (pg sl:Int) (w:World) (h:ZD w b L st) (hx:xmax <= 1099511627776) (hf:Z0O pg sl=false) (hi:Z0Y L i=some (f,t)) :
  Calls Tryz.prog 88 #[.pointer (some ⟨b,0,none⟩),.int .i64 i,.int .u64 xmax,.agg #[.int .i64 pg,.int .i64 sl]] w fun e w'=>e=.returned (.int .i64 0)/\Z0 (·=b) w w'/\ZD w' b (L.set i.toNat (some (f,t.stamp xmax pg sl))) st:=by
 have heq:=fun (w:World) (a:Option Addr) (n c:Nat)=>Lib.run_eql_slice_nil (P:=Tryz.prog) w 22 _ a n c 0 0 Tryz.underlying22
 have hq0:Quiet w (w.alloc (.cells #[.int .i64 pg,.int .i64 sl] 48)):=(Z0.refl (fun _=>False) w).alloc (.cells #[.int .i64 pg,.int .i64 sl] 48)
 have HP:=zh (h.kept hq0 (fun x=>x))
 have hbl:=h.lt
 have HF:=zh (Z7E pg sl)
 rw [hf] at HF
 have hfb:=Tup.far_bounds hf
 have d1:decide ((1099511627776:Int) < xmax)=false:=by simp;omega
 obtain ⟨k,rfl,hk,hs⟩:=Z47 hi
 rw [Int.toNat_natCast]
 have HBY:=zh (Z1E b st f t L k _ HP.out hi)
 obtain ⟨g,hg,hp⟩:=HP.out
 have HST:=zh (hp.stamp hs hx hf)
 obtain ⟨v1,v2,v3,v4⟩:=hp.ver k f t hs
 have hts:=Tup.size_pos t
 obtain ⟨z,Hz⟩:∃ z,Hid (t.size=z):=⟨_,rfl⟩
 rw [Hz.out] at v2 hts HBY
 obtain ⟨C,HC⟩:∃ C,Hid (512 - f=C):=⟨_,rfl⟩
 have hC:z <= C:=by rw [<- HC.out];show z <= 512 - f;omega
 rw [HC.out] at HBY
 have b3:(24:Int) <= C:=by omega
 have b4:(28:Int) <= C:=by omega
 have b5:(30:Int) <= C:=by omega
 have n2:¬ C=16:=by omega
 have n3:¬ C=24:=by omega
 have n4:¬ C=28:=by omega
 have HG:=zh hg
 clear h hi hf hg hp hs v3 v4 hq0 HP
 go_enter Tryz.func88,Tryz.ntmps88
 go_wp2_with fail
 refine HBY.out.mono ?_
 rintro e w1 ⟨rfl,n1,rfl⟩
 go_wp2_with fail
 refine (HF.out _).mono ?_
 rintro e w2 ⟨rfl,hq⟩
 have H2:Hid (Z2V w w2 b pg sl g):=⟨((((Z0.refl (fun _=>False) w).alloc _).drewN _).trans hq).mono (fun _ _ x=>x.elim),hq.get (Z4 w _) (fun x=>x),Bk.kept (S:=fun _=>False) (w:=(w.alloc (.cells #[.int .i64 pg,.int .i64 sl] 48)).drewN n1) HG.out hq (fun x=>x)⟩
 clear hq HF HBY
 go_wp2_with fail
 refine (Z2X b 512 (f+16) 8 _ xmax pageT g _ H2.out.bk (by omega) (by omega) (by omega) (by omega)).mono ?_
 rintro e w3 ⟨rfl,ho,hb⟩
 have H3:=zh (H2.out.put hbl ho hb)
 clear ho hb H2
 have c0:=H3.out.cell0
 go_wp2_with fail
 go_region_held3 (fun w'=>w'.cell? ⟨w.heap.size,0,none⟩=some (.int .i64 pg)) (first | go_keep | exact H4.out.cell0 | fail)
  (first | (go_at_call 128;go_must ((with_reducible refine (Z8T b 512 (f+24) 4 _ (pg+1).toNat _ pageT _ _ H3.out.drew.bk (by omega) (by omega) (by omega) (Z5r pg (by omega) (by omega)) (by omega)).mono ?_);rintro e w4 ⟨rfl,ho,hb⟩;have H4:=zh (H3.out.drew.put hbl ho hb);clear ho hb)) | fail)
 clear c0 H3
 go_wp2_with fail
 have c1:=H4.out.cell1
 go_region_held3 (fun w'=>w'.cell? ⟨w.heap.size,1,none⟩=some (.int .i64 sl)) (first | go_keep | exact H5.out.cell1 | fail)
  (first | (go_at_call 128;go_must ((with_reducible refine (Z8T b 512 (f+28) 2 _ (sl+1).toNat _ pageT _ _ H4.out.drew.bk (by omega) (by omega) (by omega) (Z5r sl (by omega) (by omega)) (by omega)).mono ?_);rintro e w5 ⟨rfl,ho,hb⟩;have H5:=zh (H4.out.drew.put hbl ho hb);clear ho hb)) | fail)
 go_wp2
 go_ret
 exact ⟨rfl,H5.out.only,_,H5.out.bk,HST.out⟩
theorem Zbf (L:List Slot) (i f:Nat) (t:Tup):Z0v (L.set i (some (f,t)))=(Z0v L).set i (some t):=by
 unfold Z0v
 rw [List.map_set];rfl
theorem Z7R (b:Nat) (T:List (Option Tup)) (i:Int) (xmax:Nat) (pg sl:Int) (w:World) (h:Z0t w b T) :
  Calls Tryz.prog 88 #[.pointer (some ⟨b,0,none⟩),.int .i64 i,.int .u64 xmax,.agg #[.int .i64 pg,.int .i64 sl]] w fun e w'=>e=.returned (.int .i64 (Z02 T i xmax pg sl).1)/\Z0 (·=b) w w'/\Z0t w' b (Z02 T i xmax pg sl).2:=by
 obtain ⟨L,st,h1,rfl⟩:=h
 by_cases hx:1099511627776 < xmax ∨ Z0O pg sl=true
 ·rw [show Z02 (Z0v L) i xmax pg sl=(3,Z0v L) from if_pos hx]
  refine (Z8X b st L i xmax pg sl w h1 hx).mono ?_
  rintro e w' ⟨rfl,hq⟩
  exact ⟨rfl,hq.mono (fun _ _ x=>x.elim),L,st,h1.kept hq (fun x=>x),rfl⟩
 ·have hx1:xmax <= 1099511627776:=by
   rcases Nat.lt_or_ge 1099511627776 xmax with x | x
   ·exact absurd (Or.inl x) hx
   ·exact x
  have hx2:Z0O pg sl=false:=by
   rcases hh:Z0O pg sl with _ | _
   ·rfl
   ·exact absurd (Or.inr hh) hx
  unfold Z02
  rw [if_neg hx,Z4k]
  rcases hs:Z0Y L i with _ | ⟨f,t⟩
  ·refine (Z8Y b st L i xmax pg sl w h1 hx1 hx2 hs).mono ?_
   rintro e w' ⟨rfl,hq⟩
   exact ⟨rfl,hq.mono (fun _ _ x=>x.elim),L,st,h1.kept hq (fun x=>x),rfl⟩
  ·refine (Z8Z b st f t L i xmax pg sl w h1 hx1 hx2 hs).mono ?_
   rintro e w' ⟨rfl,ho,hp⟩
   exact ⟨rfl,ho,_,_,hp,Zbf _ _ _ _⟩
theorem Z5S (b:Nat) (T:List (Option Tup)) (i:Int) (w:World) (h:Z0t w b T) (hi:ZY T i=none):Calls Tryz.prog 69 #[.pointer (some ⟨b,0,none⟩),.int .i64 i] w (Z3X w):=by
 obtain ⟨L,st,h1,rfl⟩:=h
 rw [Z4k] at hi
 refine Zbd b st L i w h1 ?_
 rcases hs:Z0Y L i with _ | x
 ·rfl
 ·rw [hs] at hi;cases hi
theorem Z5T (b:Nat) (t:Tup) (T:List (Option Tup)) (i:Int) (w:World) (h:Z0t w b T) (hi:ZY T i=some t):Calls Tryz.prog 69 #[.pointer (some ⟨b,0,none⟩),.int .i64 i] w (Z2G w t):=by
 obtain ⟨L,st,h1,rfl⟩:=h
 rw [Z4k] at hi
 rcases hs:Z0Y L i with _ | ⟨f,t'⟩
 ·rw [hs] at hi;cases hi
 ·rw [hs] at hi
  have:t'=t:=by injection hi
  subst this
  exact Zbe b st f t' L i w h1 hs
def Z2K (t:Nat->Int) (n:Nat) (i:Nat):Value:=if i=512 then .int .i64 n else .int .i64 (t i)
theorem Z7F (t:Nat->Int) (n i:Nat) (h:i < 512):Z2K t n i=.int .i64 (t i):=by
 unfold Z2K;rw [if_neg (by omega)]
theorem ZjM (t:Nat->Int) (n:Nat):Z2K t n 512=.int .i64 n:=by simp [Z2K]
structure Z1m (w:World) (b:Nat) (l t:Nat->Int) (n:Nat):Prop where
 blk:w.heap[b]?=some (.cells (tab 513 (Z2K t n)) 211 (0,0))
 tree:Z3O l t
 low:∀ i,-1 <= l i
 high:∀ i,l i <= 512
 out:∀ i,n <= i->l i=-1
 most:n <= 256
theorem Z1m.cell {w:World} {b:Nat} {l t:Nat->Int} {n:Nat} (h:Z1m w b l t n) (i:Nat) (hi:i < 512):w.cell? ⟨b,i,none⟩=some (.int .i64 (t i)):=by
 rw [Z1 h.blk,Z2g (by omega),Z7F _ _ _ hi]
theorem Z1m.count {w:World} {b:Nat} {l t:Nat->Int} {n:Nat} (h:Z1m w b l t n):w.cell? ⟨b,512,none⟩=some (.int .i64 n):=by
 rw [Z1 h.blk,Z2g (by omega),ZjM]
theorem Zgs (b:Nat) (l t:Nat->Int) (n:Nat) (w:World) (need:Int) (hr:Z1m w b l t n) (hn:∀ j,j < 256->l j < max need 0) :
  Calls Tryz.prog 119 #[.pointer (some ⟨b,0,none⟩),.int .i64 need] w fun e w'=>e=.returned (.tuple #[.int .i64 0,.bool false])/\w=w':=by
 have hc:=hr.cell 1 (by omega)
 have h1:=hr.tree.none hn
 clear hr hn
 go_enter Tryz.func119,Tryz.ntmps119
 go_wp2
 all_goals
  go_ret2
  exact ⟨rfl,rfl⟩
theorem Zgt (b:Nat) (l t:Nat->Int) (n:Nat) (w:World) (need:Int) (k:Nat) (hr:Z1m w b l t n) (hk:k < 256) (hl:max need 0 <= l k) (hn:∀ j,j < k->l j < max need 0) :
  Calls Tryz.prog 119 #[.pointer (some ⟨b,0,none⟩),.int .i64 need] w fun e w'=>e=.returned (.tuple #[.int .i64 k,.bool true])/\w=w':=by
 have hc:=hr.cell 1 (by omega)
 have h1:=hr.tree.some hk hl
 have HR:=zh hr
 have HN:=zh hn
 clear hr hn
 go_enter Tryz.func119,Tryz.ntmps119
 go_wp2
 go_loop [6] (fun v=>∃ i h:Nat,h <= 8/\Z3P l t (max need 0) k i h/\v=.int .i64 i) (fun v=>512 - (intOf v).toNat)
 case atStart=>exact ⟨1,8,by omega,Z3P.top hk,rfl⟩
 case round =>
  obtain ⟨i,h,hh,hD,rfl⟩:=hrel
  cases h with
  | zero =>
   have hi:=hD.end_
   have HI:=zh hi
   have:256 <= i:=by omega
   have:i < 512:=by omega
   clear hi hD
   go_wp2
   go_ret2
   exact ⟨by rw [HI.out];simp;omega,rfl⟩
  | succ h =>
   have hi:=hD.inner
   have h1:1 <= i:=hD.1
   have hcell:=HR.out.cell (i * 2) (by omega)
   have HD:=zh hD
   clear hD
   by_cases ht:t (i * 2) < max need 0
   ·have HDn:=zh (HD.out.right HR.out.tree hk hl (by rw [Nat.mul_comm 2 i];exact ht))
    go_wp2
    go_round
    case rel=>exact ⟨2 * i+1,h,by omega,HDn.out,by go_num⟩
    case measure=>simp [intOf];omega
   ·have HDn:=zh (HD.out.left HR.out.tree hk hl HN.out (by rw [Nat.mul_comm 2 i];exact ht))
    go_wp2
    go_round
    case rel=>exact ⟨2 * i,h,by omega,HDn.out,by go_num⟩
    case measure=>simp [intOf];omega
structure Z3j (w wr:World) (b:Nat) (l:Nat->Int) (n i:Nat):Prop where
 lim:1 <= i/\i < 512
 only:Z0 (·=b) w wr
 blk:∃ t,wr.heap[b]?=some (.cells (tab 513 (Z2K t n)) 211 (0,0))/\Z34 l t i
structure ZkV (w wr:World) (b:Nat) (l t:Nat->Int) (n i:Nat):Prop where
 c1:wr.cell? ⟨b,2 * (i / 2),none⟩=some (.int .i64 (t (2 * (i / 2))))
 c2:wr.cell? ⟨b,2 * (i / 2)+1,none⟩=some (.int .i64 (t (2 * (i / 2)+1)))
 c3:wr.cell? ⟨b,i / 2,none⟩=some (.int .i64 (t (i / 2)))
 c4:wr.frozen? ⟨b,i / 2,none⟩=false
 next:Z3j w (wr.setCell ⟨b,i / 2,none⟩ (.int .i64 (max (t (2 * (i / 2))) (t (2 * (i / 2)+1))))) b l n (i / 2)
theorem Zay (t:Nat->Int) (n i:Nat) (v:Int) (h:i < 512):(fun j=>if j=i then Value.int .i64 v else Z2K t n j)=Z2K (upd t i v) n:=by
 funext j
 unfold Z2K upd
 by_cases e:j=i
 ·subst e;simp [show ¬ j=512 by omega]
 ·simp [e]
theorem Z3j.step {w wr:World} {b:Nat} {l:Nat->Int} {n i:Nat} (h:Z3j w wr b l n i) (hi:1 < i):∃ t,ZkV w wr b l t n i:=by
 obtain ⟨hl,ho,t,hb,ht⟩:=h
 refine ⟨t,?_,?_,?_,Z7 hb _,⟨by omega,ho.setCell (fun _=>rfl) _,upd t (i / 2) (max (t (2 * (i / 2))) (t (2 * (i / 2)+1))),?_,ht.step hi (by omega)⟩⟩
 ·rw [Z1 hb,Z2g (by omega),Z7F _ _ _ (by omega)]
 ·rw [Z1 hb,Z2g (by omega),Z7F _ _ _ (by omega)]
 ·rw [Z1 hb,Z2g (by omega),Z7F _ _ _ (by omega)]
 ·rw [Zg hb,Z5Q,Zay _ _ _ _ (by omega)]
theorem Z3j.start {w:World} {b:Nat} {l t:Nat->Int} {n p:Nat} (hr:Z1m w b l t n) (hp:p <= n) (hp':p < 256) (v m:Int) (hm:m=((max n (p+1):Nat):Int)) :
  Z3j w ((w.setCell ⟨b,512,none⟩ (.int .i64 m)).setCell ⟨b,256+p,none⟩ (.int .i64 v)) b (upd l p v) (max n (p+1)) (256+p):=by
 have ho:Z0 (·=b) w w:=Z0.refl _ _
 refine ⟨by omega,(ho.setCell (p:=⟨b,512,none⟩) (fun _=>rfl) _).setCell (p:=⟨b,256+p,none⟩) (fun _=>rfl) _,upd t (256+p) v,?_,Z34.start hr.tree hp' v⟩
 have e:(fun j=>if j=512 then Value.int .i64 m else Z2K t n j)=Z2K t (max n (p+1)):=by
  funext j
  unfold Z2K
  by_cases e:j=512
  ·simp [e,hm]
  ·simp [e]
 rw [Zg (Zg hr.blk _ _),Z5Q,e,Z5Q,Zay _ _ _ _ (by omega)]
theorem Z3j.drew {w wr:World} {b:Nat} {l:Nat->Int} {n i:Nat} (h:Z3j w wr b l n i):Z3j w wr.drew b l n i:=⟨h.lim,h.only.drew,h.blk⟩
theorem Z3j.done {w wr:World} {b:Nat} {l t:Nat->Int} {n p i:Nat} {v:Int} (h:Z3j w wr b (upd l p v) (max n (p+1)) i) (hi:¬ 1 < i) (hr:Z1m w b l t n) (hp':p < 256)
  (h1:-1 <= v) (h2:v <= 512):Z0 (·=b) w wr/\∃ t',Z1m wr b (upd l p v) t' (max n (p+1)):=by
 obtain ⟨hl,ho,t,hb,ht⟩:=h
 refine ⟨ho,t,hb,ht.done (by omega),fun j=>?_,fun j=>?_,fun j hj=>?_,?_⟩
 ·by_cases e:j=p
  ·subst e;rw [Z1S];exact h1
  ·rw [ZX _ _ e];exact hr.low j
 ·by_cases e:j=p
  ·subst e;rw [Z1S];exact h2
  ·rw [ZX _ _ e];exact hr.high j
 ·rw [ZX _ _ (by omega)];exact hr.out j (by omega)
 ·have:=hr.most;omega
theorem Zku (b:Nat) (l t:Nat->Int) (n:Nat) (w:World) (p:Nat) (r:Int) (hr:Z1m w b l t n) (hp:p <= n) (hp':p < 256) :
  Calls Tryz.prog 155 #[.pointer (some ⟨b,0,none⟩),.int .i64 p,.int .i64 r] w fun e w'=>e=.returned (.int .i64 0)/\Z0 (·=b) w w' ∧
   ∃ t',Z1m w' b (upd l p (min (max r (-1)) 512)) t' (max n (p+1)):=by
 have hc:=hr.count
 have hc':=hr.cell (256+p) (by omega)
 have hf:=Z7 hr.blk 512
 have hf':=Z7 hr.blk (256+p)
 have hne:¬ 256+p=512:=by omega
 have d1:decide ((p:Int) < 0)=false:=by simp
 have d2:decide ((256:Int) <= p)=false:=by simp;omega
 have d3:decide (n < p)=false:=by simp;omega
 have HS:=zh (Z3j.start hr hp hp' (min (max r (-1)) 512) (max (n:Int) (p+1)) (by omega))
 have hb:=Z2 hr.blk
 have HR:=zh hr
 clear hr
 go_enter Tryz.func155,Tryz.ntmps155
 go_wp2
 go_loopw [7] (fun v wr=>∃ i:Nat,v=.int .i64 i/\Z3j w wr b (upd l p (min (max r (-1)) 512)) (max n (p+1)) i) (fun v _=>(intOf v).toNat)
 case atStart=>exact ⟨256+p,by go_num,HS.out⟩
 case round =>
  obtain ⟨i,rfl,hW⟩:=hrel
  have hi5:=hW.lim
  by_cases hi:1 < i
  ·obtain ⟨t1,hT⟩:=hW.step hi
   have c1:=hT.c1
   have c2:=hT.c2
   have c3:=hT.c3
   have c4:=hT.c4
   have HW:=zh hT.next
   clear hW hT
   go_wp2
   go_region
   go_roundw
   case rel=>((repeat apply Exists.intro);exact ⟨⟨i / 2,by go_num,HW.out.drew⟩,rfl⟩)
   case measure=>simp [intOf];omega
  ·have HW:=zh hW
   clear hW
   go_wp2
   go_ret
   exact ⟨rfl,HW.out.done hi HR.out hp' (by omega) (by omega)⟩
theorem ZjN (b:Nat) (w:World) (p r:Int) (hp:p < 0 ∨ 256 <= p) :
  Calls Tryz.prog 155 #[.pointer (some ⟨b,0,none⟩),.int .i64 p,.int .i64 r] w fun e w'=>e=.returned (.int .i64 1)/\w=w':=by
 rcases hp with hi | hi
 ·go_enter Tryz.func155,Tryz.ntmps155
  go_wp2
  go_ret
  exact ⟨rfl,rfl⟩
 ·have h0:¬ p < 0:=by omega
  go_enter Tryz.func155,Tryz.ntmps155
  go_wp2
  go_ret
  exact ⟨rfl,rfl⟩
theorem Zif (b:Nat) (l t:Nat->Int) (n:Nat) (w:World) (p:Nat) (r:Int) (hr:Z1m w b l t n) (hp:n < p) (hp':p < 256) :
  Calls Tryz.prog 155 #[.pointer (some ⟨b,0,none⟩),.int .i64 p,.int .i64 r] w fun e w'=>e=.returned (.int .i64 3)/\w=w':=by
 have hc:=hr.count
 clear hr
 go_enter Tryz.func155,Tryz.ntmps155
 go_wp2
 go_ret
 exact ⟨rfl,rfl⟩
theorem Zgu:Tryz.zeroCells211=tab 513 (fun _=>.int .i64 0):=by
 apply Z8J
 ·kernel_rfl
 ·have h:(List.range 513).all (fun i=>match Tryz.zeroCells211[i]? with | some (.int .i64 0)=>true | _=>false)=true:=by kernel_rfl
  intro i hi
  have:=List.all_eq_true.1 h i (List.mem_range.2 hi)
  revert this
  split
  ·rename_i e;intro _;exact e
  ·intro x;cases x
def Z5G (k:Nat) (i:Nat):Value:=if i < k then .int .i64 (-1) else .int .i64 0
theorem Zig {wr:World} {b i:Nat} (h:wr.heap[b]?=some (.cells (tab 513 (Z5G i)) 211 (0,0))) :
  (wr.setCell ⟨b,i,none⟩ (.int .i64 (-1))).heap[b]?=some (.cells (tab 513 (Z5G (i+1))) 211 (0,0)):=by
 rw [Zg h,Z5Q]
 have e:(fun j=>if j=i then Value.int .i64 (-1) else Z5G i j)=Z5G (i+1):=by
  funext j
  unfold Z5G
  by_cases e:j=i
  ·subst e;simp
  ·by_cases e':j < i
   ·simp [e,e',show j < i+1 by omega]
   ·simp [e,e',show ¬ j < i+1 by omega]
 rw [e]
theorem Zih {wr:World} {b i:Nat} (h:wr.heap[b]?=some (.cells (tab 513 (Z5G i)) 211 (0,0))) (hi:i=512) :
  Z1m wr b (fun _=>-1) (fun _=>-1) 0:=by
 refine ⟨?_,Z3O.empty,fun _=>by simp,fun _=>by simp,fun _ _=>rfl,by omega⟩
 have e:tab 513 (Z5G i)=tab 513 (Z2K (fun _=>-1) 0):=by
  apply Z7x
  intro j hj
  unfold Z5G Z2K
  by_cases e:j=512
  ·simp [e,hi]
  ·simp [e,show j < i by omega]
 rw [<- e];exact h
theorem Zii (w:World) :
  Calls Tryz.prog 57 #[] w fun e w'=>e=.returned (.pointer (some ⟨w.heap.size,0,none⟩))/\Below w.heap.size w w' ∧
   w.heap.size < w'.heap.size/\Z1m w' w.heap.size (fun _=>-1) (fun _=>-1) 0:=by
 go_enter Tryz.func57,Tryz.ntmps57
 go_wp2
 go_loopw [5,2] (fun v _ wr=>∃ i:Nat,v=.int .i64 i/\i <= 512/\wr.heap[w.heap.size]?=some (.cells (tab 513 (Z5G i)) 211 (0,0))/\Below w.heap.size w wr/\w.heap.size < wr.heap.size) (fun v _ _=>512 - (intOf v).toNat)
 case atStart=>exact ⟨0,by go_num,by omega,by rw [Z4,Zgu];rfl,(Below.refl _ _).alloc (Nat.le_refl _) _,by simp⟩
 case round =>
  obtain ⟨i,rfl,hi,hb,hB,hs⟩:=hrel
  have hc:i < 512->wr.cell? ⟨w.heap.size,i,none⟩=some (.int .i64 0):=fun h=>by rw [Z1 hb,Z2g (by omega)];simp [Z5G]
  have hf:=Z7 hb i
  have HB:=zh hb
  have HL:=zh hB
  clear hb hB
  by_cases h:i < 512
  ·have hc:=hc h
   go_wp2
   go_roundw
   case rel =>
    refine ⟨i+1,by go_num,by omega,?_,HL.out.setCell (Nat.le_refl _) _,by simpa [World.setCell] using hs⟩
    exact Zig HB.out
   case measure=>simp [intOf];omega
  ·go_wp2
   go_ret
   exact ⟨rfl,HL.out,hs,Zih HB.out (by omega)⟩
theorem Z1m.kept {S:Nat->Prop} {w w':World} {b:Nat} {l t:Nat->Int} {n:Nat} (h:Z1m w b l t n) (ho:Z0 S w w') (hn:¬ S b):Z1m w' b l t n :=
 ⟨ho.get h.blk hn,h.tree,h.low,h.high,h.out,h.most⟩
end Go.Proofs.YtobhgnjblniphaaGreatDoor
