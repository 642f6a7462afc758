/- The contracts of package room and of its document's answer, whole: each function once, at every argument, told by the list of rooms. Package heap: what a heap in memory is, told by its pages' versions; how its parts turn. The contracts of package heap: NewPool, Left, New, page, told, Pages, Used, Drop. The contracts of package heap: Insert. The contracts of package heap: Insert whole, Free, Get, Stamp. The plain facts behind PageFills: a page of versions of one size. What the laws on heaps share: wide, awake; a heap in a law's world. No condition. -/
import Derived.Test.YtobhgnjblniphaaGreatDoorBs1
import Derived.Deep.RegionLawGrows
import Derived.Shelf.SlIter.Collect
import Derived.BigFrameIn
import Derived.StillTailTactics
import Derived.Laws.RangeAny
import Derived.Lib.Bytealg
import Derived.BigQuiet
import Derived.Lib.AppendZerosOnto
import Derived.Lib.Overlaps
import Derived.Laws.IdiomCopy
set_option linter.unusedVariables false
set_option linter.unusedSimpArgs false
set_option maxRecDepth 100000
set_option maxHeartbeats 8000000
namespace Go.Lap
theorem Z8i {α:Type} (l:List α) (d:α) {i:Nat} (h:l.length <= i):l.getD i d=d:=by
 rw [List.getD_eq_getElem?_getD,List.getElem?_eq_none h];rfl
def rooms (l:List Int) (i:Nat):Int:=l.getD i (-1)
def Z90 (r:Int):Int:=min (max r (-1)) 512
def Z4x (l:List Int) (p:Nat) (c:Int):List Int:=if p=l.length then l ++ [c] else l.set p c
def Z6S (l:List Int) (p r:Int):Int × List Int :=
 if p < 0 ∨ 256 <= p then (1,l) else if (l.length:Int) < p then (3,l) else (0,Z4x l p.toNat (Z90 r))
def Z5u (l:List Int) (need:Int):Int × Bool :=
 match l.findIdx? (fun r=>decide (max need 0 <= r)) with
 | some i=>(i,true)
 | none=>(0,false)
theorem Zij {l:List Int} {p r:Int} (h:p < 0 ∨ 256 <= p):Z6S l p r=(1,l):=if_pos h
theorem Zgv {l:List Int} {p r:Int} (h:¬ (p < 0 ∨ 256 <= p)) (h2:(l.length:Int) < p):Z6S l p r=(3,l):=by rw [Z6S,if_neg h,if_pos h2]
theorem Ze9 {l:List Int} {p r:Int} (h:¬ (p < 0 ∨ 256 <= p)) (h2:¬ (l.length:Int) < p):Z6S l p r=(0,Z4x l p.toNat (Z90 r)):=by rw [Z6S,if_neg h,if_neg h2]
theorem Zgw (l:List Int) (p:Nat) (c:Int) (hp:p <= l.length):upd (rooms l) p c=rooms (Z4x l p c):=by
 funext j
 unfold upd rooms Z4x
 by_cases e:p=l.length
 ·rw [if_pos e]
  subst e
  by_cases h:j=l.length
  ·subst h;simp
  ·rw [if_neg h]
   rcases Nat.lt_or_ge j l.length with x | x
   ·simp [List.getD_eq_getElem?_getD,List.getElem?_append,x]
   ·rw [Z8i _ _ x,Z8i _ _ (by simp;omega)]
 ·rw [if_neg e]
  simp only [List.getD_eq_getElem?_getD,List.getElem?_set]
  by_cases h:j=p
  ·subst h;simp [show j < l.length by omega]
  ·simp [h,show ¬ p=j by omega]
theorem Zdj (l:List Int) (p:Nat) (c:Int) (hp:p <= l.length):(Z4x l p c).length=max l.length (p+1):=by
 unfold Z4x
 by_cases e:p=l.length
 ·rw [if_pos e];simp;omega
 ·rw [if_neg e];simp;omega
theorem Zgx (T:List (Option Tup)):-1 <= ZP T:=by unfold ZP;omega
theorem ZeQ (T:List (Option Tup)):ZP T <= 474:=by
 unfold ZP
 split
 ·omega
 ·rename_i h
  have hl:T ≠ []:=by
   intro e
   subst e
   exact h rfl
  have:4 <= Z2B T:=by
   rcases T with _ | ⟨s,T⟩
   ·exact absurd rfl hl
   ·unfold Z2B
    rw [List.map_cons,List.sum_cons]
    omega
  omega
theorem ZeR (T:List (Option Tup)):Z90 (ZP T)=ZP T:=by
 have:=Zgx T
 have:=ZeQ T
 unfold Z90
 omega
def Z1p (H:List (List (Option Tup))) (n:Nat):Option Nat:=H.findIdx? (fun T=>decide ((n:Int) <= ZP T))
def Z12 (H:List (List (Option Tup))) (left:Nat) (t:Tup):(Int × Int × Int) × List (List (Option Tup)) × Nat :=
 if t.rightB=false then ((0,0,3),H,left) else
  match Z1p H t.data.length with
  | some i=>((i,freeT (H.getD i []),0),H.set i (Z1v (H.getD i []) t),left)
  | none=>if left=0 then ((0,0,12),H,left) else ((H.length,0,0),H ++ [[some t]],left - 1)
theorem Z6f (H:List (List (Option Tup))) (n:Nat):Z5u (H.map ZP) (n:Int)=match Z1p H n with | some i=>((i:Int),true) | none=>(0,false):=by
 unfold Z5u Z1p
 rw [List.findIdx?_map]
 rw [show max (n:Int) 0=n by omega]
 rfl
theorem Z6g {H:List (List (Option Tup))} {n i:Nat} (h:Z1p H n=some i):∃ T,H[i]?=some T/\(n:Int) <= ZP T:=by
 unfold Z1p at h
 rw [List.findIdx?_eq_some_iff_getElem] at h
 obtain ⟨hi,h1,_⟩:=h
 exact ⟨H[i],zg hi,of_decide_eq_true h1⟩
def ZM (H:List (List (Option Tup))) (pg sl:Int):Option Tup:=if pg < 0 then none else ZY (H.getD pg.toNat []) sl
def Z1q (H:List (List (Option Tup))) (pg sl:Int):Int × List (List (Option Tup)) :=
 match ZM H pg sl with
 | none=>(15,H)
 | some _=>(0,H.set pg.toNat (Z0d ((H.getD pg.toNat []).set sl.toNat none)))
def Z1l (H:List (List (Option Tup))) (pg sl:Int) (xmax:Nat) (npg nsl:Int):Int × List (List (Option Tup)) :=
 if pg < 0 ∨ (H.length:Int) <= pg then ((Z02 [] sl xmax npg nsl).1,H) else ((Z02 (H.getD pg.toNat []) sl xmax npg nsl).1,H.set pg.toNat (Z02 (H.getD pg.toNat []) sl xmax npg nsl).2)
theorem ZgB (i:Int):ZY [] i=none:=by
 unfold ZY
 split <;> rfl
theorem Z13 {H:List (List (Option Tup))} {pg sl:Int} (h:pg < 0 ∨ (H.length:Int) <= pg):ZM H pg sl=none:=by
 unfold ZM
 split
 ·rfl
 ·rw [List.getD_eq_getElem?_getD,List.getElem?_eq_none (by omega)]
  exact ZgB sl
theorem Z1f {H:List (List (Option Tup))} {k:Nat} {T:List (Option Tup)} (sl:Int) (h:H[k]?=some T):ZM H (k:Int) sl=ZY T sl:=by
 unfold ZM
 rw [if_neg (by omega),Int.toNat_natCast,List.getD_eq_getElem?_getD,h]
 rfl
theorem Z7G {H:List (List (Option Tup))} {k:Nat} {T:List (Option Tup)} (h:H[k]?=some T):H.getD k []=T:=by
 rw [List.getD_eq_getElem?_getD,h];rfl
theorem Zc4 (T:List (Option Tup)) (i:Nat) (t u:Tup) (h:T[i]?=some (some t)):freeT (T.set i (some u))=freeT T:=by
 have e:(T.set i (some u)).map (fun s=>s.isNone)=T.map (fun s=>s.isNone):=by
  rw [List.map_set]
  apply List.ext_getElem?
  intro j
  rw [List.getElem?_set]
  by_cases x:i=j
  ·subst x
   have hl:i < T.length:=(zi.1 h).1
   rw [if_pos rfl,if_pos (by simpa using hl),List.getElem?_map,h]
   rfl
  ·rw [if_neg x]
 have f:∀ L:List (Option Tup),freeT L=((L.map (fun s=>s.isNone)).findIdx? (fun b=>b)).getD L.length:=by
  intro L
  unfold freeT
  rw [List.findIdx?_map]
  rfl
 rw [f,f T,e,List.length_set]
theorem Zc5 {α:Type} (f:α->Nat) (T:List α) (i:Nat) (a b:α) (h:T[i]?=some a) (hf:f b=f a):((T.set i b).map f).sum=(T.map f).sum:=by
 have e:(T.set i b).map f=T.map f:=by
  rw [List.map_set]
  apply List.ext_getElem?
  intro j
  rw [List.getElem?_set]
  by_cases x:i=j
  ·subst x
   have hl:i < T.length:=(zi.1 h).1
   rw [if_pos rfl,if_pos (by simpa using hl),List.getElem?_map,h,Option.map_some,hf]
  ·rw [if_neg x]
 rw [e]
theorem Z2Y {T:List (Option Tup)} {i:Int} {t:Tup} (h:ZY T i=some t):0 <= i/\T[i.toNat]?=some (some t):=by
 unfold ZY at h
 split at h
 ·cases h
 ·refine ⟨by omega,?_⟩
  rcases hx:T[i.toNat]? with _ | s
  ·rw [hx] at h;cases h
  ·rw [hx] at h
   have:s=some t:=h
   rw [this]
theorem Zdk (T:List (Option Tup)) (i:Int) (x:Nat) (pg sl:Int):ZP (Z02 T i x pg sl).2=ZP T:=by
 unfold Z02
 split
 ·rfl
 ·rcases h:ZY T i with _ | t
  ·rfl
  ·obtain ⟨h0,h1⟩:=Z2Y h
   show ZP (T.set i.toNat (some (t.stamp x pg sl)))=ZP T
   unfold ZP Z2B
   rw [Zc4 T _ t _ h1,List.length_set,Zc5 (fun s=>4+Z0T s) T _ (some t) (some (t.stamp x pg sl)) h1 rfl]
theorem ZeU (T:List (Option Tup)) (t:Tup):Z0d (T ++ [some t])=T ++ [some t]:=by simp [Z0d]
theorem ZeV (T:List (Option Tup)):Z0d (T ++ [none])=Z0d T:=by simp [Z0d]
theorem Z1g (T:List (Option Tup)) (n:Nat):ZY T (n:Int)=(T[n]?).join:=by
 unfold ZY
 rw [if_neg (by omega),Int.toNat_natCast]
theorem Z2R (T:List (Option Tup)) {i:Int} (h:i < 0):ZY T i=none:=by
 unfold ZY
 rw [if_pos h]
theorem Z53 (T:List (Option Tup)):freeT T <= T.length:=by
 unfold freeT
 rcases h:T.findIdx? (fun s=>s.isNone) with _ | i
 ·rw [h];exact Nat.le_refl _
 ·rw [h]
  rw [List.findIdx?_eq_some_iff_getElem] at h
  obtain ⟨hi,_⟩:=h
  exact Nat.le_of_lt hi
theorem Z7S {T:List (Option Tup)} {i:Nat} (h:T[i]?=some none):freeT T <= i:=by
 unfold freeT
 rcases hf:T.findIdx? (fun s=>s.isNone) with _ | j
 ·rw [List.findIdx?_eq_none_iff] at hf
  have:=hf none (List.mem_of_getElem? h)
  simp at this
 ·rw [hf]
  rw [List.findIdx?_eq_some_iff_getElem] at hf
  obtain ⟨hj,_,h2⟩:=hf
  show j <= i
  rcases Nat.lt_or_ge i j with x | x
  ·have hi:i < T.length:=(zi.1 h).1
   have:=h2 i x
   rw [zg hi] at h
   injection h with h
   rw [h] at this
   simp at this
  ·exact x
theorem Z93 (T:List (Option Tup)):(T[freeT T]?).join=none:=by
 unfold freeT
 rcases h:T.findIdx? (fun s=>s.isNone) with _ | i
 ·rw [h]
  show (T[T.length]?).join=none
  rw [List.getElem?_eq_none (Nat.le_refl _)]
  rfl
 ·rw [h]
  rw [List.findIdx?_eq_some_iff_getElem] at h
  obtain ⟨hi,h1,_⟩:=h
  show (T[i]?).join=none
  rw [zg hi]
  have:T[i]=none:=by simpa using h1
  rw [this]
  rfl
theorem ZgD (T:List (Option Tup)) (t:Tup) (s:Int):ZY (Z1v T t) s=if s=freeT T then some t else ZY T s:=by
 have hf:=Z53 T
 rcases Int.lt_or_le s 0 with h | h
 ·rw [Z2R _ h,Z2R _ h,if_neg (by omega)]
 ·obtain ⟨n,rfl⟩:=Int.eq_ofNat_of_zero_le h
  rw [Z1g,Z1g]
  unfold Z1v
  by_cases e:freeT T=T.length
  ·rw [if_pos e,e]
   by_cases x:n=T.length
   ·subst x
    rw [if_pos rfl]
    simp
   ·rw [if_neg (by omega)]
    rcases Nat.lt_or_ge n T.length with y | y
    ·rw [List.getElem?_append_left y]
    ·rw [List.getElem?_eq_none (by simp;omega),List.getElem?_eq_none y]
  ·rw [if_neg e,List.getElem?_set]
   by_cases x:freeT T=n
   ·rw [if_pos x,if_pos (by omega),if_pos (by omega)]
    rfl
   ·rw [if_neg x,if_neg (by omega)]
theorem Z6V (T:List (Option Tup)) (i:Nat) (hi:i < T.length) (u:Option Tup) (s:Int):ZY (T.set i u) s=if s=i then u else ZY T s:=by
 rcases Int.lt_or_le s 0 with h | h
 ·rw [Z2R _ h,Z2R _ h,if_neg (by omega)]
 ·obtain ⟨n,rfl⟩:=Int.eq_ofNat_of_zero_le h
  rw [Z1g,Z1g,List.getElem?_set]
  by_cases x:i=n
  ·rw [if_pos x,if_pos hi,if_pos (by omega)]
   rfl
  ·rw [if_neg x,if_neg (by omega)]
theorem Z5v (T:List (Option Tup)):∃ k,T=Z0d T ++ List.replicate k none:=by
 induction hn:T.length generalizing T with
 | zero =>
  have:T=[]:=List.eq_nil_of_length_eq_zero hn
  subst this
  exact ⟨0,rfl⟩
 | succ n ih =>
  have hne:T ≠ []:=fun e=>by subst e;simp at hn
  obtain ⟨M,s,rfl⟩:∃ M s,T=M ++ [s]:=⟨T.dropLast,T.getLast hne,(List.dropLast_concat_getLast hne).symm⟩
  have hM:M.length=n:=by simpa using hn
  rcases s with _ | t
  ·obtain ⟨k,hk⟩:=ih M hM
   refine ⟨k+1,?_⟩
   rw [ZeV,List.replicate_succ',<- List.append_assoc,<- hk]
  ·exact ⟨0,by rw [ZeU];simp⟩
theorem Z94 (T:List (Option Tup)) (s:Int):ZY (Z0d T) s=ZY T s:=by
 obtain ⟨k,hk⟩:=Z5v T
 rcases Int.lt_or_le s 0 with h | h
 ·rw [Z2R _ h,Z2R _ h]
 ·obtain ⟨n,rfl⟩:=Int.eq_ofNat_of_zero_le h
  rw [Z1g,Z1g]
  conv=>rhs;rw [hk]
  rcases Nat.lt_or_ge n (Z0d T).length with x | x
  ·rw [List.getElem?_append_left x]
  ·rw [List.getElem?_eq_none x,List.getElem?_append_right x,List.getElem?_replicate]
   split <;> rfl
theorem Z5H (A B:List (Option Tup)):Z0r (A ++ B)=Z0r A+Z0r B:=by simp [Z0r]
theorem ZgE (k:Nat):Z0r (List.replicate k none)=0:=by simp [Z0r]
theorem ZgF (T:List (Option Tup)):Z0r (Z0d T)=Z0r T:=by
 obtain ⟨k,hk⟩:=Z5v T
 conv=>rhs;rw [hk]
 rw [Z5H,ZgE,Nat.add_zero]
theorem Z7T (T:List (Option Tup)):Z0r T=(T.map (fun s=>if s.isSome then 1 else 0)).sum:=by
 induction T with
 | nil=>rfl
 | cons s T ih =>
  rw [List.map_cons,List.sum_cons,<- ih]
  rcases s with _ | t
  ·simp [Z0r]
  ·simp [Z0r];omega
theorem Z5U {α:Type} (f:α->Nat) (T:List α) (i:Nat) (a b:α) (h:T[i]?=some a):((T.set i b).map f).sum+f a=(T.map f).sum+f b:=by
 induction T generalizing i with
 | nil=>simp at h
 | cons x T ih =>
  rcases i with _ | i
  ·simp at h
   subst h
   simp
   omega
  ·rw [List.getElem?_cons_succ] at h
   have:=ih i h
   simp only [List.set_cons_succ,List.map_cons,List.sum_cons]
   omega
theorem Z8m {T:List (Option Tup)} {i:Nat} {s u:Option Tup} (h:T[i]?=some s):Z0r (T.set i u)+(if s.isSome then 1 else 0)=Z0r T+(if u.isSome then 1 else 0):=by
 rw [Z7T,Z7T]
 exact Z5U _ T i s u h
theorem Zc6 {T:List (Option Tup)} (h:¬ freeT T=T.length):T[freeT T]?=some none:=by
 have hl:=Z53 T
 have:=Z93 T
 rw [zg (show freeT T < T.length by omega)] at this ⊢
 have h2:T[freeT T]=none:=this
 rw [h2]
theorem Zip (T:List (Option Tup)) (t:Tup):Z0r (Z1v T t)=Z0r T+1:=by
 unfold Z1v
 by_cases e:freeT T=T.length
 ·rw [if_pos e,Z5H];rfl
 ·rw [if_neg e]
  have:=Z8m (u:=some t) (Zc6 e)
  simpa using this
def Fits (T:List (Option Tup)):Prop:=4+4 * T.length+(T.map Z0T).sum <= 512
theorem Z95 (T:List (Option Tup)) (t:Tup):(Z1v T t).length=max T.length (freeT T+1):=by
 have:=Z53 T
 unfold Z1v
 by_cases e:freeT T=T.length
 ·rw [if_pos e];simp;omega
 ·rw [if_neg e];simp;omega
theorem ZgG (T:List (Option Tup)) (t:Tup):((Z1v T t).map Z0T).sum=(T.map Z0T).sum+t.size:=by
 unfold Z1v
 by_cases e:freeT T=T.length
 ·rw [if_pos e];simp [Z0T]
 ·rw [if_neg e]
  have:=Z5U Z0T T _ _ (some t) (Zc6 e)
  simpa [Z0T] using this
theorem Fits.ins {T:List (Option Tup)} {t:Tup} (hr:(t.data.length:Int) <= ZP T):Fits (Z1v T t):=by
 have:=(Zc1 T t.data.length).1 (by omega)
 unfold Fits
 rw [Z95,ZgG]
 have:t.size=30+t.data.length:=rfl
 omega
theorem ZeW (T:List (Option Tup)):((Z0d T).map Z0T).sum=(T.map Z0T).sum:=by
 obtain ⟨k,hk⟩:=Z5v T
 conv=>rhs;rw [hk]
 simp [Z0T]
theorem Zdm (T:List (Option Tup)):(Z0d T).length <= T.length:=by
 obtain ⟨k,hk⟩:=Z5v T
 have:=congrArg List.length hk
 simp at this
 omega
theorem ZeX {T:List (Option Tup)} {i:Nat} {t:Tup} (h:T[i]?=some (some t)):((Z0d (T.set i none)).map Z0T).sum+t.size=(T.map Z0T).sum:=by
 rw [ZeW]
 have:=Z5U Z0T T i _ none h
 simpa [Z0T] using this
theorem Ziq (T:List (Option Tup)) (i:Nat) (hi:i < T.length):max (Z0d (T.set i none)).length (freeT (Z0d (T.set i none))+1) <= T.length:=by
 have h1:=Zdm (T.set i none)
 rw [List.length_set] at h1
 have h2:=Z53 (Z0d (T.set i none))
 rcases Nat.lt_or_ge i (Z0d (T.set i none)).length with x | x
 ·have:(Z0d (T.set i none))[i]?=some none:=by
   have h3:=Z94 (T.set i none) i
   rw [Z6V T i hi,if_pos rfl,Z1g] at h3
   rw [zg x] at h3 ⊢
   have h4:(Z0d (T.set i none))[i]=none:=h3
   rw [h4]
  have:=Z7S this
  omega
 ·omega
theorem Fits.free {T:List (Option Tup)} {i:Nat} {t:Tup} (hf:Fits T) (h:T[i]?=some (some t)):Fits (Z0d (T.set i none))/\(t.data.length:Int) <= ZP (Z0d (T.set i none)):=by
 have hi:i < T.length:=(zi.1 h).1
 have h1:=ZeX h
 have h2:=Ziq T i hi
 have h3:t.size=30+t.data.length:=rfl
 unfold Fits at hf ⊢
 refine ⟨by omega,?_⟩
 have:=(Zc1 (Z0d (T.set i none)) t.data.length).2 (by omega)
 omega
theorem Zc7 (H:List (List (Option Tup))) (n:Nat) (s:Int):ZM H (n:Int) s=ZY (H.getD n []) s:=by
 unfold ZM
 rw [if_neg (by omega),Int.toNat_natCast]
theorem Z8n (H:List (List (Option Tup))) (i:Nat) (hi:i < H.length) (T:List (Option Tup)) (p s:Int):ZM (H.set i T) p s=if p=i then ZY T s else ZM H p s:=by
 rcases Int.lt_or_le p 0 with h | h
 ·rw [Z13 (Or.inl h),Z13 (Or.inl h),if_neg (by omega)]
 ·obtain ⟨n,rfl⟩:=Int.eq_ofNat_of_zero_le h
  rw [Zc7,Zc7,List.getD_eq_getElem?_getD,List.getElem?_set]
  by_cases x:i=n
  ·rw [if_pos x,if_pos hi,if_pos (by omega)];rfl
  ·rw [if_neg x,if_neg (by omega),List.getD_eq_getElem?_getD]
theorem ZgH (H:List (List (Option Tup))) (T:List (Option Tup)) (p s:Int):ZM (H ++ [T]) p s=if p=H.length then ZY T s else ZM H p s:=by
 rcases Int.lt_or_le p 0 with h | h
 ·rw [Z13 (Or.inl h),Z13 (Or.inl h),if_neg (by omega)]
 ·obtain ⟨n,rfl⟩:=Int.eq_ofNat_of_zero_le h
  by_cases x:n=H.length
  ·subst x
   rw [if_pos rfl]
   exact Z1f s (by simp)
  ·rw [if_neg (by omega)]
   rcases Nat.lt_or_ge n H.length with y | y
   ·rw [Z1f s (T:=H[n]) (by rw [List.getElem?_append_left y,zg y]),Z1f s (zg y)]
   ·rw [Z13 (Or.inr (by simp;omega)),Z13 (Or.inr (by omega))]
def ZU (l:List (Int × Int)):List Value:=l.flatMap (fun p=>[.int .i64 p.1,.int .i64 p.2])
theorem Zf1 (p:Int × Int) (l:List (Int × Int)):ZU (p :: l)=.int .i64 p.1 :: .int .i64 p.2 :: ZU l:=rfl
theorem Z54 (l m:List (Int × Int)):ZU (l ++ m)=ZU l ++ ZU m:=by simp [ZU]
theorem ZaD {l:List (Int × Int)} {j:Nat} {p:Int × Int} (h:l[j]?=some p):(ZU l)[j * 2]?=some (.int .i64 p.1)/\(ZU l)[j * 2+1]?=some (.int .i64 p.2):=by
 induction l generalizing j with
 | nil=>simp at h
 | cons q l ih =>
  rcases j with _ | j
  ·simp at h
   subst h
   exact ⟨rfl,rfl⟩
  ·rw [List.getElem?_cons_succ] at h
   obtain ⟨h1,h2⟩:=ih h
   rw [Zf1,show (j+1) * 2=j * 2+1+1 by omega]
   exact ⟨h1,h2⟩
theorem Z55 (l:List (Int × Int)):∀ u ∈ ZU l,u.oneCell'=true:=by
 intro u hu
 unfold ZU at hu
 rw [List.mem_flatMap] at hu
 obtain ⟨p,_,hp⟩:=hu
 simp at hp
 rcases hp with rfl | rfl <;> rfl
def Zk (pg:Int) (T:List (Option Tup)) (k:Nat):List (Int × Int):=(List.range k).filterMap (fun s:Nat=>if ((T[s]?).join).isSome then some (pg,(s:Int)) else none)
theorem Z6y {pg:Int} {T:List (Option Tup)} {k:Nat} (h:(T[k]?).join=none):Zk pg T (k+1)=Zk pg T k:=by
 unfold Zk
 rw [List.range_succ,List.filterMap_append]
 simp [h]
theorem Z6z {pg:Int} {T:List (Option Tup)} {k:Nat} {t:Tup} (h:(T[k]?).join=some t):Zk pg T (k+1)=Zk pg T k ++ [(pg,(k:Int))]:=by
 unfold Zk
 rw [List.range_succ,List.filterMap_append]
 simp [h]
theorem Z97 (pg:Int) (T:List (Option Tup)) (k:Nat):(Zk pg T k).length <= k:=by
 unfold Zk
 exact Nat.le_trans (List.length_filterMap_le _ _) (by simp)
theorem Zc9 {pg:Int} {T:List (Option Tup)} {k:Nat} {p:Int × Int} (h:p ∈ Zk pg T k):p.1=pg/\∃ t,ZY T p.2=some t:=by
 unfold Zk at h
 rw [List.mem_filterMap] at h
 obtain ⟨s,_,hs⟩:=h
 split at hs
 ·rename_i h2
  injection hs with hs
  subst hs
  obtain ⟨t,ht⟩:=Option.isSome_iff_exists.1 h2
  exact ⟨rfl,t,by rw [Z1g];exact ht⟩
 ·cases hs
def takeK (own n:Nat) (R:List Nat) (k:Nat):Nat × List Nat:=(leastR own n (R.take k),others own (R.take k))
theorem Zf4 {own n k x:Nat} {R:List Nat} (h:R[k]?=some x):takeK own n R (k+1)=if x=own then takeK own n R k else (min (takeK own n R k).1 x,(takeK own n R k).2 ++ [x]):=by
 unfold takeK leastR others
 rw [List.take_add_one,h]
 by_cases e:x=own
 ·rw [if_pos e];simp [e]
 ·rw [if_neg e];simp [e]
theorem ZgP (own n:Nat) (R:List Nat) (k:Nat):(takeK own n R k).2.length <= k:=by
 unfold takeK others
 exact Nat.le_trans (List.length_filter_le _ _) (List.length_take_le _ _)
theorem Zdn (own n:Nat) (R:List Nat) (k:Nat):(takeK own n R k).1 <= n:=by
 unfold takeK leastR
 generalize R.take k=M
 show List.foldl _ n M <= n
 have key:∀ (M:List Nat) (a:Nat),List.foldl (fun m x=>if x=own then m else min m x) a M <= a:=by
  intro M
  induction M with
  | nil=>intro a;exact Nat.le_refl _
  | cons y M ih =>
   intro a
   rw [List.foldl_cons]
   refine Nat.le_trans (ih _) ?_
   split <;> omega
 exact key M n
theorem ZgQ (own n:Nat) (R:List Nat):takeK own n R R.length=(leastR own n R,others own R):=by
 unfold takeK
 rw [List.take_length]
section
open Go.RowKit Go.Maps
structure Z7r (f:Nat->Option Value) (vs:List Value):Prop where
 each:∀ v ∈ vs,∃ x,f x=some v
 all:∀ x v,f x=some v->v ∈ vs
structure Z46 (f:Nat->Option Value) (D:DataW Value) (left:Lit->Bool) (vs:List Value):Prop where
 each:∀ v ∈ vs,∃ x,f x=some v
 rest:∀ (x:Nat) v,f x=some v->left (.int .u64 (x:Int))=true ∨ v ∈ vs
 has:∀ kl,left kl=true->Maps.has D kl=true
theorem Z46.step {f:Nat->Option Value} {D:DataW Value} {left:Lit->Bool} {vs:List Value} {x:Nat} {v:Value} (h:Z46 f D left vs) (hx:f x=some v) :
  Z46 f D (fun z=>left z && !z.sameKey (.int .u64 (x:Int))) (vs ++ [v]):=by
 refine ⟨fun u hu=>?_,fun y u hy=>?_,fun kl hk=>?_⟩
 ·rcases List.mem_append.1 hu with a | a
  ·exact h.each u a
  ·simp at a
   subst a
   exact ⟨x,hx⟩
 ·rcases h.rest y u hy with a | a
  ·by_cases e:y=x
   ·subst e
    rw [hx] at hy
    injection hy with hy
    subst hy
    exact Or.inr (by simp)
   ·refine Or.inl ?_
    show (left (.int .u64 (y:Int)) && !(Lit.int .u64 (y:Int)).sameKey (.int .u64 (x:Int)))=true
    rw [a]
    simp [Lit.sameKey]
    omega
  ·exact Or.inr (List.mem_append_left _ a)
 ·simp at hk
  exact h.has kl hk.1
theorem Z46.done {f:Nat->Option Value} {D:DataW Value} {left:Lit->Bool} {vs:List Value} (h:Z46 f D left vs) (hl:∀ kl,left kl=false):Z7r f vs :=
 ⟨h.each,fun x v hx=>by
   rcases h.rest x v hx with a | a
   · rw [hl] at a;cases a
   · exact a⟩
end
structure TE where
 id:Nat
 name:ByteArray
 cols:List (ByteArray × Nat)
 xmin:Nat
 xmax:Nat
structure IE where
 id:Nat
 name:ByteArray
 table:Nat
 column:Nat
 xmin:Nat
 xmax:Nat
def ZZ (l:List (ByteArray × Nat)):List Value:=l.flatMap (fun c=>[.string c.1,.int .u8 (c.2:Int)])
theorem ZaH (l:List (ByteArray × Nat)):(ZZ l).length=l.length * 2:=by
 induction l with
 | nil=>rfl
 | cons p l ih =>
  have:ZZ (p :: l)=.string p.1 :: .int .u8 (p.2:Int) :: ZZ l:=rfl
  rw [this,List.length_cons,List.length_cons,ih,List.length_cons];omega
theorem ZaI {l:List (ByteArray × Nat)} {j:Nat} {p:ByteArray × Nat} (h:l[j]?=some p):(ZZ l)[j * 2]?=some (.string p.1)/\(ZZ l)[j * 2+1]?=some (.int .u8 (p.2:Int)):=by
 induction l generalizing j with
 | nil=>simp at h
 | cons q l ih =>
  have e:ZZ (q :: l)=.string q.1 :: .int .u8 (q.2:Int) :: ZZ l:=rfl
  rcases j with _ | j
  ·simp at h
   subst h
   exact ⟨rfl,rfl⟩
  ·rw [List.getElem?_cons_succ] at h
   obtain ⟨h1,h2⟩:=ih h
   rw [e,show (j+1) * 2=j * 2+1+1 by omega]
   exact ⟨h1,h2⟩
theorem Zit (l:List (ByteArray × Nat)):∀ u ∈ ZZ l,u.oneCell'=true:=by
 intro u hu
 unfold ZZ at hu
 rw [List.mem_flatMap] at hu
 obtain ⟨p,_,hp⟩:=hu
 simp at hp
 rcases hp with rfl | rfl <;> rfl
def Z8q (xmin xmax:Nat):Tup:=⟨0,xmin,xmax,0,0,[]⟩
def Z0Q:List Nat->List Nat->Int
 | [],[]=>0
 | [],_ :: _=>-1
 | _ :: _,[]=>1
 | a :: xs,b :: ys=>if a < b then -1 else if b < a then 1 else Z0Q xs ys
theorem ZaK:∀ a b,Z0Q b a=- Z0Q a b
 | [],[]=>rfl
 | [],_ :: _=>rfl
 | _ :: _,[]=>rfl
 | a :: xs,b :: ys=>by
  have ih:=ZaK xs ys
  unfold Z0Q
  by_cases x:a < b
  ·rw [if_pos x,if_neg (by omega),if_pos x];rfl
  ·by_cases y:b < a
   ·rw [if_pos y,if_neg x,if_pos y]
   ·rw [if_neg y,if_neg x,if_neg x,if_neg y,ih]
theorem Z4n:∀ a b,Z0Q a b=0 ↔ a=b
 | [],[]=>by simp [Z0Q]
 | [],_ :: _=>by simp [Z0Q]
 | _ :: _,[]=>by simp [Z0Q]
 | a :: xs,b :: ys=>by
  have ih:=Z4n xs ys
  unfold Z0Q
  rw [List.cons.injEq]
  split
  ·constructor
   ·intro h;omega
   ·rintro ⟨h,_⟩;omega
  ·split
   ·constructor
    ·intro h;omega
    ·rintro ⟨h,_⟩;omega
   ·rw [ih]
    constructor
    ·intro h;exact ⟨by omega,h⟩
    ·exact fun h=>h.2
theorem ZgV (a:List Nat):Z0Q a a=0:=(Z4n a a).2 rfl
theorem Z9h:∀ a b c,Z0Q a b < 0->Z0Q b c < 0->Z0Q a c < 0
 | [],[],_,h,_=>by simp [Z0Q] at h
 | [],_ :: _,[],_,h=>by simp [Z0Q] at h
 | [],_ :: _,_ :: _,_,_=>by simp [Z0Q]
 | _ :: _,[],_,h,_=>by simp [Z0Q] at h
 | _ :: _,_ :: _,[],_,h=>by simp [Z0Q] at h
 | a :: xs,b :: ys,c :: zs,h1,h2=>by
  have ih:=Z9h xs ys zs
  unfold Z0Q at h1 h2 ⊢
  by_cases x:a < b
  ·by_cases y:b < c
   ·rw [if_pos (by omega)];omega
   ·rw [if_neg y] at h2
    split at h2
    ·omega
    ·rw [if_pos (by omega)];omega
  ·rw [if_neg x] at h1
   split at h1
   ·omega
   ·by_cases y:b < c
    ·rw [if_pos (by omega)];omega
    ·rw [if_neg y] at h2
     split at h2
     ·omega
     ·rw [if_neg (by omega),if_neg (by omega)]
      exact ih h1 h2
theorem Z9i:∀ (a b:List Nat),(∀ x ∈ a,x < 256)->(∀ x ∈ b,x < 256)->Lib.compareBytes (a.map UInt8.ofNat) (b.map UInt8.ofNat)=Z0Q a b
 | [],[],_,_=>rfl
 | [],_ :: _,_,_=>rfl
 | _ :: _,[],_,_=>rfl
 | x :: a,y :: b,ha,hb=>by
  have ih:=Z9i a b (fun z hz=>ha z (by simp [hz])) (fun z hz=>hb z (by simp [hz]))
  have hx:=ha x (by simp)
  have hy:=hb y (by simp)
  have key:∀ u v:Nat,u < 256->v < 256->(UInt8.ofNat u < UInt8.ofNat v ↔ u < v):=by
   intro u v hu hv
   rw [UInt8.lt_iff_toNat_lt]
   simp [Nat.mod_eq_of_lt hu,Nat.mod_eq_of_lt hv]
  simp only [List.map_cons]
  unfold Lib.compareBytes Z0Q
  rw [ih]
  simp only [key x y hx hy,key y x hy hx]
def Z1H (x y:Int):Int:=if x < y then -1 else if y < x then 1 else 0
structure Ent where
 key:List Nat
 pg:Int
 sl:Int
theorem Ent.ext' {a b:Ent} (h1:a.key=b.key) (h2:a.pg=b.pg) (h3:a.sl=b.sl):a=b:=by
 obtain ⟨_,_,_⟩:=a
 obtain ⟨_,_,_⟩:=b
 simp_all
instance:DecidableEq Ent:=fun a b =>
 if h1:a.key=b.key then
  if h2:a.pg=b.pg then
   if h3:a.sl=b.sl then isTrue (Ent.ext' h1 h2 h3) else isFalse (fun e=>h3 (by rw [e]))
  else isFalse (fun e=>h2 (by rw [e]))
 else isFalse (fun e=>h1 (by rw [e]))
def cmpE (a b:Ent):Int:=if Z0Q a.key b.key ≠ 0 then Z0Q a.key b.key else if Z1H a.pg b.pg ≠ 0 then Z1H a.pg b.pg else Z1H a.sl b.sl
theorem Z5w (a b:Ent):cmpE a b=0 ↔ a=b:=by
 unfold cmpE
 by_cases h1:Z0Q a.key b.key=0
 ·rw [if_neg (by simp [h1])]
  by_cases h2:Z1H a.pg b.pg=0
  ·rw [if_neg (by simp [h2])]
   constructor
   ·intro h3
    refine Ent.ext' ((Z4n _ _).1 h1) ?_ ?_
    ·unfold Z1H at h2;split at h2;omega;split at h2 <;> omega
    ·unfold Z1H at h3;split at h3;omega;split at h3 <;> omega
   ·rintro rfl;simp [Z1H]
  ·rw [if_pos h2]
   constructor
   ·exact fun h=>absurd h h2
   ·rintro rfl;simp [Z1H]
 ·rw [if_pos h1]
  constructor
  ·exact fun h=>absurd h h1
  ·rintro rfl;exact ZgV _
theorem Z3y (a:Ent):cmpE a a=0:=(Z5w a a).2 rfl
theorem ZaL (x y:Int):Z1H y x=- Z1H x y:=by
 unfold Z1H
 split <;> split <;> first | omega | (split <;> omega)
theorem ZaM (a b:Ent):cmpE b a=- cmpE a b:=by
 unfold cmpE
 have k1:=ZaK a.key b.key
 have k2:=ZaL a.pg b.pg
 have k3:=ZaL a.sl b.sl
 by_cases h1:Z0Q a.key b.key=0
 ·rw [if_neg (show ¬ Z0Q b.key a.key ≠ 0 by omega),if_neg (show ¬ Z0Q a.key b.key ≠ 0 by omega)]
  by_cases h2:Z1H a.pg b.pg=0
  ·rw [if_neg (show ¬ Z1H b.pg a.pg ≠ 0 by omega),if_neg (show ¬ Z1H a.pg b.pg ≠ 0 by omega)]
   exact k3
  ·rw [if_pos (show Z1H b.pg a.pg ≠ 0 by omega),if_pos h2]
   exact k2
 ·rw [if_pos (show Z0Q b.key a.key ≠ 0 by omega),if_pos h1]
  exact k1
theorem Zeb {x y:Int}:Z1H x y < 0 ↔ x < y:=by
 unfold Z1H
 split
 ·constructor <;> intro <;> omega
 ·split <;> constructor <;> intro <;> omega
theorem ZaN {x y:Int}:Z1H x y=0 ↔ x=y:=by
 unfold Z1H
 split
 ·constructor <;> intro <;> omega
 ·split <;> constructor <;> intro <;> omega
theorem ZjS (a b:Ent):cmpE a b < 0 ↔ Z0Q a.key b.key < 0 ∨ (a.key=b.key/\(a.pg < b.pg ∨ (a.pg=b.pg/\a.sl < b.sl))):=by
 unfold cmpE
 by_cases h1:Z0Q a.key b.key=0
 ·rw [if_neg (by simp [h1]),h1]
  have e:=(Z4n _ _).1 h1
  by_cases h2:Z1H a.pg b.pg=0
  ·rw [if_neg (by simp [h2]),Zeb]
   have e2:=ZaN.1 h2
   simp [e,e2]
  ·rw [if_pos h2,Zeb]
   have e2:¬ a.pg=b.pg:=fun h=>h2 (ZaN.2 h)
   simp [e,e2]
 ·rw [if_pos h1]
  have e:¬ a.key=b.key:=fun h=>h1 ((Z4n _ _).2 h)
  simp [e]
theorem Z23 {a b c:Ent} (h1:cmpE a b < 0) (h2:cmpE b c < 0):cmpE a c < 0:=by
 rw [ZjS] at *
 rcases h1 with h1 | ⟨e1,h1⟩
 ·rcases h2 with h2 | ⟨e2,h2⟩
  ·exact Or.inl (Z9h _ _ _ h1 h2)
  ·rw [<- e2];exact Or.inl h1
 ·rcases h2 with h2 | ⟨e2,h2⟩
  ·rw [e1];exact Or.inl h2
  ·exact Or.inr ⟨e1.trans e2,by omega⟩
def ZS (l:List Ent):Prop:=l.Pairwise (fun a b=>cmpE a b < 0)
def ZO (e:Ent):List Ent->Nat
 | []=>0
 | x :: l=>if cmpE x e < 0 then ZO e l+1 else 0
def insE (e:Ent):List Ent->List Ent
 | []=>[e]
 | x :: l=>if cmpE x e < 0 then x :: insE e l else e :: x :: l
theorem Z4o (e x:Ent) (l:List Ent):ZO e (x :: l)=if cmpE x e < 0 then ZO e l+1 else 0:=rfl
theorem Z4R (e:Ent) (l:List Ent):ZO e l <= l.length:=by
 induction l with
 | nil=>exact Nat.le_refl _
 | cons x l ih =>
  unfold ZO
  split
  ·simp;omega
  ·exact Nat.zero_le _
theorem ZaO {e:Ent}:∀ {l:List Ent} {i:Nat},i <= l.length->(∀ j x,j < i->l[j]?=some x->cmpE x e < 0)->(∀ x,l[i]?=some x->¬ cmpE x e < 0)->i=ZO e l
 | [],i,h,_,_=>by simp at h;subst h;rfl
 | x :: l,0,_,_,h2=>by
  unfold ZO
  rw [if_neg (h2 x rfl)]
 | x :: l,i+1,h0,h1,h2=>by
  unfold ZO
  rw [if_pos (h1 0 x (by omega) rfl)]
  have:=ZaO (e:=e) (l:=l) (i:=i) (by simpa using h0) (fun j y hj hy=>h1 (j+1) y (by omega) (by simpa using hy)) (fun y hy=>h2 y (by simpa using hy))
  omega
theorem Z49 {e:Ent}:∀ {l:List Ent} {j:Nat} {x:Ent},j < ZO e l->l[j]?=some x->cmpE x e < 0
 | [],_,_,h,_=>by simp [ZO] at h
 | y :: l,j,x,h,hx=>by
  rw [Z4o] at h
  by_cases hy:cmpE y e < 0
  ·rw [if_pos hy] at h
   rcases j with _ | j
   ·simp at hx;subst hx;exact hy
   ·exact Z49 (l:=l) (j:=j) (by omega) (by simpa using hx)
  ·rw [if_neg hy] at h;omega
theorem Z9Y {e:Ent}:∀ {l:List Ent} {x:Ent},l[ZO e l]?=some x->¬ cmpE x e < 0
 | [],_,h=>by simp at h
 | y :: l,x,h=>by
  unfold ZO at h
  split at h
  ·exact Z9Y (l:=l) (by simpa using h)
  ·simp at h;subst h;assumption
theorem Z7J (e:Ent) (l:List Ent):insE e l=l.take (ZO e l) ++ e :: l.drop (ZO e l):=by
 induction l with
 | nil=>rfl
 | cons x l ih =>
  unfold insE ZO
  split
  ·rw [ih];rfl
  ·rfl
theorem ZS.nil:ZS []:=List.Pairwise.nil
theorem ZS.get {l:List Ent} (h:ZS l) {i j:Nat} {x y:Ent} (hij:i < j) (hi:l[i]?=some x) (hj:l[j]?=some y):cmpE x y < 0:=by
 obtain ⟨h1,rfl⟩:=zi.1 hi
 obtain ⟨h2,rfl⟩:=zi.1 hj
 exact List.pairwise_iff_getElem.1 h i j h1 h2 hij
theorem Z7X {e:Ent} {l:List Ent} (h:ZS l) (hn:e ∉ l) {j:Nat} {x:Ent} (hj:ZO e l <= j) (hx:l[j]?=some x):cmpE e x < 0:=by
 have hjl:=(zi.1 hx).1
 obtain ⟨y,hy⟩:∃ y,l[ZO e l]?=some y:=⟨_,zg (by omega)⟩
 have h1:=Z9Y hy
 have h2:cmpE y e ≠ 0:=fun z=>hn ((Z5w _ _).1 z ▸ List.mem_of_getElem? hy)
 have h3:cmpE e y < 0:=by rw [ZaM y e];omega
 rcases Nat.lt_or_ge (ZO e l) j with z | z
 ·exact Z23 h3 (h.get z hy hx)
 ·have:ZO e l=j:=by omega
  subst this
  rw [hy] at hx
  injection hx with hx
  subst hx
  exact h3
theorem Z8r {e:Ent} {l:List Ent} (h:ZS l):e ∈ l ↔ l[ZO e l]?=some e:=by
 constructor
 ·intro hm
  obtain ⟨j,hj⟩:=List.mem_iff_getElem?.1 hm
  have hjl:=(zi.1 hj).1
  have h1:¬ j < ZO e l:=fun z=>by have:=Z49 z hj;rw [Z3y] at this;omega
  rcases Nat.lt_or_ge (ZO e l) j with z | z
  ·obtain ⟨y,hy⟩:∃ y,l[ZO e l]?=some y:=⟨_,zg (by omega)⟩
   exact absurd (h.get z hy hj) (Z9Y hy)
  ·have:ZO e l=j:=by omega
   rw [this];exact hj
 ·exact List.mem_of_getElem?
theorem Ziy {e x:Ent} {l:List Ent}:x ∈ insE e l ↔ x=e ∨ x ∈ l:=by
 rw [Z7J,List.mem_append,List.mem_cons]
 constructor
 ·rintro (h | h | h)
  ·exact Or.inr (List.mem_of_mem_take h)
  ·exact Or.inl h
  ·exact Or.inr (List.mem_of_mem_drop h)
 ·rintro (h | h)
  ·exact Or.inr (Or.inl h)
  ·rw [<- List.take_append_drop (ZO e l) l,List.mem_append] at h
   rcases h with h | h
   ·exact Or.inl h
   ·exact Or.inr (Or.inr h)
theorem Zdq (e:Ent) (l:List Ent):(insE e l).length=l.length+1:=by
 have:=Z4R e l
 rw [Z7J]
 simp
 omega
theorem ZS.ins {e:Ent} {l:List Ent} (h:ZS l) (hn:e ∉ l):ZS (insE e l):=by
 rw [Z7J]
 unfold ZS
 rw [List.pairwise_append,List.pairwise_cons]
 have ht:∀ a ∈ l.take (ZO e l),cmpE a e < 0:=by
  intro a ha
  obtain ⟨i,hi⟩:=List.mem_iff_getElem?.1 ha
  rw [List.getElem?_take] at hi
  split at hi
  ·exact Z49 (by assumption) hi
  ·cases hi
 have hd:∀ a ∈ l.drop (ZO e l),cmpE e a < 0:=by
  intro a ha
  obtain ⟨i,hi⟩:=List.mem_iff_getElem?.1 ha
  rw [List.getElem?_drop] at hi
  exact Z7X h hn (by omega) hi
 refine ⟨h.sublist (List.take_sublist _ _),⟨hd,h.sublist (List.drop_sublist _ _)⟩,fun a ha b hb=>?_⟩
 rcases List.mem_cons.1 hb with rfl | hb
 ·exact ht a ha
 ·exact Z23 (ht a ha) (hd b hb)
section
open Go.RowKit
theorem Zbj {P:Program} (w:World) (dT sT ty elem:TypeId) (k g o dLen dCap:Nat) (a:Addr) (sLen sCap:Nat) (cur:Array Value) (t:TypeId) (cs:List Value)
  (hu:P.underlying dT=some (.slice elem)) (hs:(P.info? elem).map (·.size)=some k)
  (hg:w.heap[g]?=some (.cells cur t (0,0))) (hn:cs.length=Nat.min sLen dLen * k)
  (hsrc:∀ j v,cs[j]?=some v->w.cell? (a.add j)=some v) (hfit:o+cs.length <= cur.size) (h1:∀ v ∈ cs,v.oneCell'=true) :
  (Builtin.copy_ #[dT,sT] ty #[.slice (some ⟨g,o,none⟩) dLen dCap,.slice (some a) sLen sCap]).run P w =
   .ok (goInt (Nat.min sLen dLen)) (w.setRow g (cur.toList.take o ++ cs ++ cur.toList.drop (o+cs.length)).toArray):=by
 have hl:=run_loadCells_list (P:=P) w a cs hsrc
 have hst:=run_storeCells_at P g o t cs 0 cur w hg (by simpa using hfit) h1
 cases hq:P.info? elem with
 | none=>simp [hq] at hs
 | some i =>
  have hi:i.size=k:=by simpa [hq] using hs
  simp [Builtin.copy_,run_underlying hu,Builtin.lenOf,Builtin.firstCells,sizeOf,typeInfo,hq,hi,<- hn,hl,hst]
theorem Z0.setRow {S:Nat->Prop} {a w:World} (h:Z0 S a w) (g:Nat) (cs:Array Value) (hg:g < a.heap.size->S g):Z0 S a (w.setRow g cs) :=
 h.trans' (T:=(·=g)) ⟨rfl,rfl,rfl,by simp [World.setRow],fun k _ hn=>setRow_other w g k cs hn⟩ (fun k hk e=>by subst e;exact hg hk)
structure EV where
 e:Ent
 A:Option Addr
 c:Nat
def EV.cells (x:EV):List Value:=[.slice x.A x.e.key.length x.c,.int .i64 x.e.pg,.int .i64 x.e.sl]
def Z01 (xs:List EV):List Value:=xs.flatMap EV.cells
theorem Z2S (x:EV) (xs:List EV):Z01 (x :: xs)=.slice x.A x.e.key.length x.c :: .int .i64 x.e.pg :: .int .i64 x.e.sl :: Z01 xs:=rfl
theorem Z2a (xs ys:List EV):Z01 (xs ++ ys)=Z01 xs ++ Z01 ys:=by simp [Z01]
theorem Z59 (x:EV):Z01 [x]=x.cells:=by simp [Z01]
theorem Z5I (xs:List EV):(Z01 xs).length=xs.length * 3:=by
 induction xs with
 | nil=>rfl
 | cons x xs ih=>rw [Z2S];simp only [List.length_cons,ih];omega
theorem Zcm {xs:List EV} {j:Nat} {x:EV} (h:xs[j]?=some x):(Z01 xs)[j * 3]?=some (.slice x.A x.e.key.length x.c)/\(Z01 xs)[j * 3+1]?=some (.int .i64 x.e.pg)/\(Z01 xs)[j * 3+2]?=some (.int .i64 x.e.sl):=by
 induction xs generalizing j with
 | nil=>simp at h
 | cons y xs ih =>
  rcases j with _ | j
  ·simp at h
   subst h
   exact ⟨rfl,rfl,rfl⟩
  ·rw [List.getElem?_cons_succ] at h
   rw [Z2S,show (j+1) * 3=j * 3+1+1+1 by omega]
   exact ih h
theorem Z4p (xs:List EV) (k:Nat):Z01 (xs.take k)=(Z01 xs).take (k * 3):=by
 induction xs generalizing k with
 | nil=>simp [Z01]
 | cons x xs ih =>
  rcases k with _ | k
  ·rfl
  ·rw [List.take_succ_cons,Z2S,Z2S,ih,show (k+1) * 3=k * 3+1+1+1 by omega];rfl
theorem Z4q (xs:List EV) (k:Nat):Z01 (xs.drop k)=(Z01 xs).drop (k * 3):=by
 induction xs generalizing k with
 | nil=>simp [Z01]
 | cons x xs ih =>
  rcases k with _ | k
  ·rfl
  ·rw [List.drop_succ_cons,Z2S,ih,show (k+1) * 3=k * 3+1+1+1 by omega];rfl
theorem ZiA (xs:List EV) (j:Nat) (x:EV):(((Z01 xs).set (j * 3) (.slice x.A x.e.key.length x.c)).set (j * 3+1) (.int .i64 x.e.pg)).set (j * 3+2) (.int .i64 x.e.sl)=Z01 (xs.set j x):=by
 induction xs generalizing j with
 | nil=>rfl
 | cons y xs ih =>
  rcases j with _ | j
  ·rfl
  ·rw [Z2S,show (j+1) * 3=j * 3+1+1+1 by omega]
   simp only [show j * 3+1+1+1+1=(j * 3+1)+1+1+1 by omega,show j * 3+1+1+1+2=(j * 3+2)+1+1+1 by omega,List.set_cons_succ]
   rw [ih,Z2S]
theorem Z20 (xs:List EV):∀ u ∈ Z01 xs,u.oneCell'=true:=by
 intro u hu
 unfold Z01 at hu
 rw [List.mem_flatMap] at hu
 obtain ⟨x,_,hx⟩:=hu
 simp [EV.cells] at hx
 rcases hx with rfl | rfl | rfl <;> rfl
theorem Rd.drop {w:World} {S:Nat->Prop} {size n b off k:Nat} {xs:List Value} (h:Rd w S size (some ⟨b,off,none⟩) n xs) (hk:k <= n):Rd w S size (some ⟨b,off+k * size,none⟩) (n - k) (xs.drop (k * size)):=by
 have hl:=h.len
 refine ⟨by rw [List.length_drop,hl,Nat.sub_mul],fun h0=>?_⟩
 rw [List.length_drop] at h0
 obtain ⟨b',off',e,hb,hc⟩:=h.cells (by omega)
 injection e with e
 injection e with e1 e2 _
 subst e1 e2
 exact ⟨b,off+k * size,rfl,hb,fun j u hu=>by
   rw [List.getElem?_drop] at hu
   rw [Nat.add_assoc]
   exact hc _ u hu⟩
theorem Rd.takeK {w:World} {S:Nat->Prop} {size n k:Nat} {A:Option Addr} {xs:List Value} (h:Rd w S size A n xs) (hk:k <= n):Rd w S size A k (xs.take (k * size)):=by
 have hl:=h.len
 have hm:k * size <= n * size:=Nat.mul_le_mul_right _ hk
 refine ⟨by rw [List.length_take,hl];omega,fun h0=>?_⟩
 rw [List.length_take] at h0
 obtain ⟨b,off,e,hb,hc⟩:=h.cells (by omega)
 exact ⟨b,off,e,hb,fun j u hu=>hc j u (by rw [List.getElem?_take] at hu;split at hu <;> first | exact hu | cases hu)⟩
end
end Go.Lap
namespace Go.Proofs.YtobhgnjblniphaaGreatDoor
open Go.RowKit Go.Lap
def Z10 (w:World) (b:Nat) (l:List Int):Prop:=∃ t,Z1m w b (rooms l) t l.length
theorem Z10.kept {S:Nat->Prop} {w w':World} {b:Nat} {l:List Int} (h:Z10 w b l) (ho:Z0 S w w') (hn:¬ S b):Z10 w' b l:=by
 obtain ⟨t,h⟩:=h
 exact ⟨t,h.kept ho hn⟩
theorem Z10.lt {w:World} {b:Nat} {l:List Int} (h:Z10 w b l):b < w.heap.size:=by
 obtain ⟨t,h⟩:=h
 exact Z2 h.blk
theorem Z10.most {w:World} {b:Nat} {l:List Int} (h:Z10 w b l):l.length <= 256:=by
 obtain ⟨t,h⟩:=h
 exact h.most
theorem Zik (b:Nat) (l:List Int) (w:World) (p r:Int) (hr:Z10 w b l) :
  Calls Tryz.prog 155 #[.pointer (some ⟨b,0,none⟩),.int .i64 p,.int .i64 r] w fun e w'=>e=.returned (.int .i64 (Z6S l p r).1)/\Z0 (·=b) w w'/\Z10 w' b (Z6S l p r).2:=by
 have hr0:=hr
 obtain ⟨t,hr⟩:=hr
 by_cases h1:p < 0 ∨ 256 <= p
 ·refine (ZjN b w p r h1).mono ?_
  rintro e w' ⟨rfl,rfl⟩
  rw [Zij h1]
  exact ⟨rfl,Z0.refl _ _,hr0⟩
 ·obtain ⟨k,rfl⟩:=Int.eq_ofNat_of_zero_le (show 0 <= p by omega)
  by_cases h2:(l.length:Int) < k
  ·refine (Zif b _ t l.length w k r hr (by omega) (by omega)).mono ?_
   rintro e w' ⟨rfl,rfl⟩
   rw [Zgv h1 h2]
   exact ⟨rfl,Z0.refl _ _,hr0⟩
  ·refine (Zku b _ t l.length w k r hr (by omega) (by omega)).mono ?_
   rintro e w' ⟨rfl,ho,t',hx⟩
   rw [Ze9 h1 h2]
   refine ⟨rfl,ho,t',?_⟩
   rw [Zgw _ _ _ (by omega)] at hx
   rw [Int.toNat_natCast,Zdj _ _ _ (by omega)]
   exact hx
theorem Z6T (b:Nat) (l:List Int) (w:World) (need:Int) (hr:Z10 w b l) :
  Calls Tryz.prog 119 #[.pointer (some ⟨b,0,none⟩),.int .i64 need] w fun e w'=>e=.returned (.tuple #[.int .i64 (Z5u l need).1,.bool (Z5u l need).2])/\w=w':=by
 obtain ⟨t,hr⟩:=hr
 rcases hf:l.findIdx? (fun r=>decide (max need 0 <= r)) with _ | i
 ·rw [List.findIdx?_eq_none_iff] at hf
  refine (Zgs b _ t l.length w need hr (fun j _=>?_)).mono ?_
  ·rcases Nat.lt_or_ge j l.length with x | x
   ·have:=hf l[j] (List.getElem_mem x)
    have e:rooms l j=l[j]:=by simp [rooms,List.getD_eq_getElem?_getD,x]
    rw [e]
    have:=of_decide_eq_false this
    omega
   ·have:rooms l j=-1:=Z8i _ _ x
    omega
  ·rintro e w' ⟨rfl,rfl⟩
   rw [<- List.findIdx?_eq_none_iff] at hf
   have e:Z5u l need=(0,false):=by simp only [Z5u,hf]
   rw [e]
   exact ⟨rfl,rfl⟩
 ·have hf':=hf
  rw [List.findIdx?_eq_some_iff_getElem] at hf
  obtain ⟨hi,h1,h2⟩:=hf
  have hm:=hr.most
  refine (Zgt b _ t l.length w need i hr (by omega) ?_ (fun j hj=>?_)).mono ?_
  ·have e:rooms l i=l[i]:=by simp [rooms,List.getD_eq_getElem?_getD,hi]
   rw [e];exact of_decide_eq_true h1
  ·have e:rooms l j=l[j]:=by simp [rooms,List.getD_eq_getElem?_getD,show j < l.length by omega]
   rw [e]
   have:=h2 j hj
   simpa using this
  ·rintro e w' ⟨rfl,rfl⟩
   have e:Z5u l need=((i:Int),true):=by simp only [Z5u,hf']
   rw [e]
   exact ⟨rfl,rfl⟩
theorem Zaz (w:World) :
  Calls Tryz.prog 57 #[] w fun e w'=>e=.returned (.pointer (some ⟨w.heap.size,0,none⟩))/\Below w.heap.size w w'/\w.heap.size < w'.heap.size/\Z10 w' w.heap.size []:=by
 refine (Zii w).mono ?_
 rintro e w' ⟨rfl,h1,h2,h3⟩
 exact ⟨rfl,h1,h2,_,h3⟩
theorem Z10.blk {w:World} {b:Nat} {l:List Int} (h:Z10 w b l):∃ c,w.heap[b]?=some (.cells c 211 (0,0)):=by
 obtain ⟨t,h⟩:=h
 exact ⟨_,h.blk⟩
theorem Z10.drewN {w:World} {b:Nat} {l:List Int} (h:Z10 w b l) (n:Nat):Z10 (w.drewN n) b l:=h.kept ((Z0.refl (fun _=>False) w).drewN n) (fun x=>x)
theorem Z0t.blk {w:World} {b:Nat} {T:List (Option Tup)} (h:Z0t w b T):∃ c,w.heap[b]?=some (.cells c 242 (0,0)):=by
 obtain ⟨L,st,⟨g,h1,h2⟩,h3⟩:=h
 exact ⟨_,h1⟩
def ZR (w:World) (pb n:Nat):Prop:=w.heap[pb]?=some (.cells #[.int .i64 (n:Int)] 126 (0,0))
theorem ZR.kept {S:Nat->Prop} {w w':World} {pb n:Nat} (h:ZR w pb n) (ho:Z0 S w w') (hn:¬ S pb):ZR w' pb n:=ho.get h hn
theorem ZR.cell {w:World} {pb n:Nat} (h:ZR w pb n):w.cell? ⟨pb,0,none⟩=some (.int .i64 (n:Int)):=by rw [Z1 h];rfl
theorem ZR.lt {w:World} {pb n:Nat} (h:ZR w pb n):pb < w.heap.size:=Z2 h
theorem ZR.set {w:World} {pb n m:Nat} {z:Int} (h:ZR w pb n) (hz:z=m):ZR (w.setCell ⟨pb,0,none⟩ (.int .i64 z)) pb m:=by
 subst hz
 unfold ZR
 rw [Zg h]
 rfl
structure Zz (w:World) (hb pb:Nat) (F:Nat->Prop) (H:List (List (Option Tup))) (R:List Int) (v:Value) (ps:List Nat) (rb:Nat):Prop where
 box:w.heap[hb]?=some (.cells #[.pointer (some ⟨pb,0,none⟩),v,.pointer (some ⟨rb,0,none⟩)] 149 (0,0))
 row:w.ownsRow 0 172 1 v H.length (ps.map ptrV)
 room:Z10 w rb R
 pg:∀ (i:Nat) T,H[i]?=some T->∃ p,ps[i]?=some p/\Z0t w p T
 nd:ps.Nodup
 foot:F hb/\F rb/\(∀ p ∈ ps,F p)/\(∀ k,v.ownBlock=some k->F k)
section
variable {w w':World} {hb pb:Nat} {F:Nat->Prop} {H:List (List (Option Tup))} {R:List Int} {v:Value} {ps:List Nat} {rb:Nat}
theorem Zz.kept {S:Nat->Prop} (h:Zz w hb pb F H R v ps rb) (ho:Z0 S w w') (hn:∀ k,F k->¬ S k):Zz w' hb pb F H R v ps rb :=
 ⟨ho.get h.box (hn _ h.foot.1),Z5 h.row ho (fun k e=>hn k (h.foot.2.2.2 k e)),h.room.kept ho (hn _ h.foot.2.1),
   fun i T hi=>by obtain ⟨p,h1,h2⟩:=h.pg i T hi;exact ⟨p,h1,h2.kept ho (hn _ (h.foot.2.2.1 p (List.mem_of_getElem? h1)))⟩,h.nd,h.foot⟩
theorem Zz.drewN (h:Zz w hb pb F H R v ps rb) (n:Nat):Zz (w.drewN n) hb pb F H R v ps rb:=h.kept ((Z0.refl (fun _=>False) w).drewN n) (fun _ _ x=>x)
theorem Zz.mono {G:Nat->Prop} (h:Zz w hb pb F H R v ps rb) (hg:∀ k,F k->G k):Zz w hb pb G H R v ps rb :=
 ⟨h.box,h.row,h.room,h.pg,h.nd,hg _ h.foot.1,hg _ h.foot.2.1,fun p hp=>hg _ (h.foot.2.2.1 p hp),fun k e=>hg _ (h.foot.2.2.2 k e)⟩
theorem Zz.plen (h:Zz w hb pb F H R v ps rb):ps.length=H.length:=by
 have:=h.row.1
 simpa using this
theorem Zz.page (h:Zz w hb pb F H R v ps rb) {i p:Nat} (hi:ps[i]?=some p):∃ T,H[i]?=some T/\Z0t w p T:=by
 have hl:i < H.length:=by rw [<- h.plen];exact (zi.1 hi).1
 obtain ⟨p',h1,h2⟩:=h.pg i H[i] (zg hl)
 rw [hi] at h1
 injection h1 with h1
 subst h1
 exact ⟨_,zg hl,h2⟩
theorem Zz.pblk (h:Zz w hb pb F H R v ps rb) {p:Nat} (hp:p ∈ ps):∃ c,w.heap[p]?=some (.cells c 242 (0,0)):=by
 obtain ⟨i,hi⟩:=List.mem_iff_getElem?.1 hp
 obtain ⟨T,_,h2⟩:=h.page hi
 exact h2.blk
theorem Zz.lim (h:Zz w hb pb F H R v ps rb):Zz w hb pb (fun k=>F k/\k < w.heap.size) H R v ps rb :=
 ⟨h.box,h.row,h.room,h.pg,h.nd,⟨h.foot.1,Z2 h.box⟩,⟨h.foot.2.1,h.room.lt⟩,fun p hp=>⟨h.foot.2.2.1 p hp,by obtain ⟨c,hc⟩:=h.pblk hp;exact Z2 hc⟩,fun k e=>⟨h.foot.2.2.2 k e,(h.row.lt k e).2⟩⟩
structure ZkW (hb:Nat) (v:Value) (ps:List Nat) (rb:Nat):Prop where
 rh:rb ≠ hb
 ph:∀ p ∈ ps,p ≠ hb
 pr:∀ p ∈ ps,p ≠ rb
 vh:∀ k,v.ownBlock=some k->k ≠ hb
 vr:∀ k,v.ownBlock=some k->k ≠ rb
 vp:∀ k,v.ownBlock=some k->∀ p ∈ ps,k ≠ p
theorem Zz.apart (h:Zz w hb pb F H R v ps rb):ZkW hb v ps rb:=by
 obtain ⟨c,hr⟩:=h.room.blk
 exact ⟨Zb hr h.box (by decide),fun p hp=>by obtain ⟨c,hc⟩:=h.pblk hp;exact Zb hc h.box (by decide),fun p hp=>by obtain ⟨c,hc⟩:=h.pblk hp;exact Zb hc hr (by decide),
   fun k e=>by obtain ⟨c,hc⟩:=Zh h.row e;exact Zb hc h.box (by decide),fun k e=>by obtain ⟨c,hc⟩:=Zh h.row e;exact Zb hc hr (by decide),
   fun k e p hp=>by obtain ⟨c,hc⟩:=Zh h.row e;obtain ⟨d,hd⟩:=h.pblk hp;exact Zb hc hd (by decide)⟩
theorem Zz.pool (h:Zz w hb pb F H R v ps rb) {n q:Nat} (hq:ZR w q n):q ≠ hb/\q ≠ rb/\(∀ p ∈ ps,q ≠ p)/\(∀ k,v.ownBlock=some k->q ≠ k):=by
 obtain ⟨c,hr⟩:=h.room.blk
 exact ⟨Zb hq h.box (by decide),Zb hq hr (by decide),fun p hp=>by obtain ⟨c,hc⟩:=h.pblk hp;exact Zb hq hc (by decide),fun k e=>by obtain ⟨c,hc⟩:=Zh h.row e;exact Zb hq hc (by decide)⟩
theorem Zz.lim2 (h:Zz w hb pb F H R v ps rb) {n q:Nat} (hq:ZR w q n):Zz w hb pb (fun k=>F k/\k < w.heap.size/\k ≠ q) H R v ps rb:=by
 have hp:=h.pool hq
 have hl:=h.lim.foot
 exact ⟨h.box,h.row,h.room,h.pg,h.nd,⟨hl.1.1,hl.1.2,hp.1.symm⟩,⟨hl.2.1.1,hl.2.1.2,hp.2.1.symm⟩,fun p hp'=>⟨(hl.2.2.1 p hp').1,(hl.2.2.1 p hp').2,(hp.2.2.1 p hp').symm⟩,fun k e=>⟨(hl.2.2.2 k e).1,(hl.2.2.2 k e).2,(hp.2.2.2 k e).symm⟩⟩
theorem Zz.turn {i p:Nat} {T':List (Option Tup)} (h:Zz w hb pb F H R v ps rb) (hi:ps[i]?=some p) (ho:Z0 (·=p) w w') (hp:Z0t w' p T'):Zz w' hb pb F (H.set i T') R v ps rb:=by
 have ha:=h.apart
 have hm:p ∈ ps:=List.mem_of_getElem? hi
 refine ⟨ho.get h.box (fun e=>ha.ph p hm e.symm),?_,h.room.kept ho (fun e=>ha.pr p hm e.symm),fun j T hj=>?_,h.nd,h.foot⟩
 ·rw [List.length_set]
  exact Z5 h.row ho (fun k e x=>ha.vp k e p hm x)
 ·have hil:i < H.length:=by rw [<- h.plen];exact (zi.1 hi).1
  rw [List.getElem?_set] at hj
  by_cases e:i=j
  ·subst e
   rw [if_pos rfl,if_pos hil] at hj
   injection hj with hj
   subst hj
   exact ⟨p,hi,hp⟩
  ·rw [if_neg e] at hj
   obtain ⟨q,h1,h2⟩:=h.pg j T hj
   refine ⟨q,h1,h2.kept ho (fun x=>?_)⟩
   subst x
   exact e ((List.getElem?_inj (zi.1 hi).1 h.nd).1 (hi.trans h1.symm))
theorem Zz.rooms {R':List Int} (h:Zz w hb pb F H R v ps rb) (ho:Z0 (·=rb) w w') (hr:Z10 w' rb R'):Zz w' hb pb F H R' v ps rb:=by
 have ha:=h.apart
 exact ⟨ho.get h.box (fun e=>ha.rh e.symm),Z5 h.row ho (fun k e x=>ha.vr k e x),hr,fun i T hi=>by obtain ⟨p,h1,h2⟩:=h.pg i T hi;exact ⟨p,h1,h2.kept ho (fun x=>ha.pr p (List.mem_of_getElem? h1) x)⟩,h.nd,h.foot⟩
theorem Zz.grow {w1 w2:World} {v':Value} {q:Nat} (h:Zz w hb pb F H R v ps rb) (hq:Quiet w w1) (hp:Z0t w1 q []) (hn:w.heap.size <= q)
  (hg:ZT (w1.alloc (.cells #[ptrV q] 172)) w2 172 1 v v' (H.length+1) (ps.map ptrV ++ [ptrV q])) :
  Zz (w2.setCell ⟨hb,1,none⟩ v') hb pb (fun k=>F k ∨ w.heap.size <= k) (H ++ [[]]) R v' (ps ++ [q]) rb/\Z0 (fun k=>F k) w (w2.setCell ⟨hb,1,none⟩ v'):=by
 have ha:=h.apart
 have hl:=Z2 h.box
 have hqa:Quiet w (w1.alloc (.cells #[ptrV q] 172)):=hq.alloc _
 have hsz:=hq.size
 have hql:=hp.lt
 have hf:=h.foot
 have hrl:=h.room.lt
 have hvl:∀ k,v.ownBlock=some k->k < w.heap.size:=fun k e=>(h.row.lt k e).2
 have hnew:∀ k,v'.ownBlock=some k->k ≠ hb/\k ≠ rb/\k ≠ q/\(∀ p ∈ ps,k ≠ p):=by
  intro k e
  have hpl:∀ p ∈ ps,p < w.heap.size:=fun p hp=>by obtain ⟨c,hc⟩:=h.pblk hp;exact Z2 hc
  rcases hg.loc with x | x
  ·rw [x] at e
   have:=hvl k e
   exact ⟨ha.vh k e,ha.vr k e,by omega,ha.vp k e⟩
  ·rw [x] at e
   injection e with e
   simp at e
   exact ⟨by omega,by omega,by omega,fun p hp=>by have:=hpl p hp;omega⟩
 have box2:=hg.only.get (hqa.get h.box (fun x=>x)) (fun e=>ha.vh hb e rfl)
 have ho3:Z0 (·=hb) w2 (w2.setCell ⟨hb,1,none⟩ v'):=(Z0.refl (·=hb) w2).setCell (p:=⟨hb,1,none⟩) (fun _=>rfl) v'
 refine ⟨⟨?_,?_,?_,fun i T hi=>?_,?_,Or.inl hf.1,Or.inl hf.2.1,fun p hp=>?_,fun k e=>?_⟩,?_⟩
 ·rw [Zg box2];rfl
 ·rw [List.length_append,List.map_append]
  exact Z5 hg.own ho3 (fun k e x=>(hnew k e).1 x)
 ·exact (Z10.kept (S:=fun k=>v.ownBlock=some k) (h.room.kept hqa (fun x=>x)) hg.only (fun e=>ha.vr rb e rfl)).kept ho3 ha.rh
 ·have hpl:=h.plen
  rcases Z29 hi with ⟨_,h1⟩ | ⟨h1,h2⟩
  ·obtain ⟨p,h3,h4⟩:=h.pg i T h1
   have hpm:=List.mem_of_getElem? h3
   exact ⟨p,Z8c h3,(Z0t.kept (S:=fun k=>v.ownBlock=some k) (h4.kept hqa (fun x=>x)) hg.only (fun e=>ha.vp p e p hpm rfl)).kept ho3 (ha.ph p hpm)⟩
  ·subst h2
   refine ⟨q,by rw [h1,<- hpl];simp,?_⟩
   exact (Z0t.kept (S:=fun k=>v.ownBlock=some k) (hp.kept ((Z0.refl (fun _=>False) w1).alloc _) (fun x=>x)) hg.only (fun e=>by have:=hvl q e;omega)).kept ho3 (by omega)
 ·rw [List.nodup_append]
  refine ⟨h.nd,by simp,fun a ha' b hb'=>?_⟩
  obtain ⟨c,hc⟩:=h.pblk ha'
  have:=Z2 hc
  simp at hb'
  omega
 ·rcases List.mem_append.1 hp with x | x
  ·exact Or.inl (hf.2.2.1 p x)
  ·simp at x;subst x;exact Or.inr hn
 ·rcases hg.loc with x | x
  ·rw [x] at e;exact Or.inl (hf.2.2.2 k e)
  ·rw [x] at e;injection e with e;simp at e;exact Or.inr (by omega)
 ·exact (((hqa.mono (T:=F) (fun _ _ x=>x.elim)).trans' hg.only (fun k hk e=>hf.2.2.2 k e)).trans' ho3 (fun k hk e=>by subst e;exact hf.1))
end
def Zo (w:World) (hb pb:Nat) (F:Nat->Prop) (H:List (List (Option Tup))):Prop:=∃ v ps rb,Zz w hb pb F H (H.map ZP) v ps rb
section
variable {w w':World} {hb pb:Nat} {F:Nat->Prop} {H:List (List (Option Tup))}
theorem Zo.kept {S:Nat->Prop} (h:Zo w hb pb F H) (ho:Z0 S w w') (hn:∀ k,F k->¬ S k):Zo w' hb pb F H:=by
 obtain ⟨v,ps,rb,h⟩:=h
 exact ⟨v,ps,rb,h.kept ho hn⟩
theorem Zo.mono {G:Nat->Prop} (h:Zo w hb pb F H) (hg:∀ k,F k->G k):Zo w hb pb G H:=by
 obtain ⟨v,ps,rb,h⟩:=h
 exact ⟨v,ps,rb,h.mono hg⟩
theorem Zo.lim (h:Zo w hb pb F H):Zo w hb pb (fun k=>F k/\k < w.heap.size) H:=by
 obtain ⟨v,ps,rb,h⟩:=h
 exact ⟨v,ps,rb,h.lim⟩
theorem Zo.most (h:Zo w hb pb F H):H.length <= 256:=by
 obtain ⟨v,ps,rb,h⟩:=h
 simpa using h.room.most
end
theorem Zil (n:Nat) (hn:n <= 256) (w:World) :
  Calls Tryz.prog 19 #[.int .i64 (n:Int)] w fun e w'=>e=.returned (.tuple #[.pointer (some ⟨w.heap.size,0,none⟩),.int .i64 0])/\Quiet w w'/\ZR w' w.heap.size n:=by
 have d0:decide ((n:Int) < 0)=false:=by simp
 have d1:decide ((256:Int) < n)=false:=by simp;omega
 go_enter Tryz.func19,Tryz.ntmps19
 go_wp2
 go_ret2
 exact ⟨rfl,(Z0.refl _ _).alloc _,Z4 _ _⟩
theorem ZaA (pb n:Nat) (w:World) (h:ZR w pb n) :
  Calls Tryz.prog 120 #[.pointer (some ⟨pb,0,none⟩)] w fun e w'=>e=.returned (.int .i64 (n:Int))/\w=w':=by
 have hc:=h.cell
 clear h
 go_enter Tryz.func120,Tryz.ntmps120
 go_wp2
 go_ret
 exact ⟨rfl,rfl⟩
theorem ZeS {w w1:World} {pb:Nat} (hq:Below w.heap.size w w1) (hs:w.heap.size < w1.heap.size) (hr:Z10 w1 w.heap.size []) :
  Zo (w1.alloc (.cells #[.pointer (some ⟨pb,0,none⟩),.slice none 0 0,.pointer (some ⟨w.heap.size,0,none⟩)] 149)) w1.heap.size pb (fun k=>w.heap.size <= k) [] :=
 ⟨_,[],_,Z4 _ _,World.ownsRow_nil _ _ _ _,hr.kept ((Z0.refl (fun _=>False) w1).alloc _) (fun x=>x),fun i T hi=>by simp at hi,List.nodup_nil,Nat.le_of_lt hs,Nat.le_refl _,fun p hp=>by simp at hp,fun k e=>by cases e⟩
theorem Zim (pb:Nat) (w:World) :
  Calls Tryz.prog 26 #[.pointer (some ⟨pb,0,none⟩)] w fun e w'=>∃ hb,e=.returned (.pointer (some ⟨hb,0,none⟩))/\Quiet w w'/\Zo w' hb pb (fun k=>w.heap.size <= k) []:=by
 go_enter Tryz.func26,Tryz.ntmps26
 go_wp2_with fail
 refine (Zaz w).mono ?_
 rintro e w1 ⟨rfl,hB,hs,hr⟩
 have HH:=zh (ZeS (pb:=pb) hB hs hr)
 have HQ:Hid (Quiet w w1):=Z0.ofBelow' hB
 clear hB hs hr
 go_wp2
 go_ret
 exact ⟨_,rfl,HQ.out.alloc _,HH.out⟩
theorem Zz.cells {w:World} {hb pb:Nat} {F:Nat->Prop} {H:List (List (Option Tup))} {R:List Int} {v:Value} {ps:List Nat} {rb:Nat} (h:Zz w hb pb F H R v ps rb) :
  w.cell? ⟨hb,0,none⟩=some (.pointer (some ⟨pb,0,none⟩))/\w.cell? ⟨hb,1,none⟩=some v/\w.cell? ⟨hb,2,none⟩=some (.pointer (some ⟨rb,0,none⟩)) :=
 ⟨by rw [Z1 h.box];rfl,by rw [Z1 h.box];rfl,by rw [Z1 h.box];rfl⟩
theorem Zz.rowForm {w:World} {hb pb:Nat} {F:Nat->Prop} {H:List (List (Option Tup))} {R:List Int} {v:Value} {ps:List Nat} {rb:Nat} (h:Zz w hb pb F H R v ps rb) :
  ∃ A c,v=.slice A H.length c/\H.length <= c/\c <= maxLen/\∀ (i p:Nat),ps[i]?=some p->∃ g,A=some ⟨g,0,none⟩/\w.cell? ⟨g,i,none⟩=some (ptrV p):=by
 rcases h.row.2 with ⟨e1,e2⟩ | ⟨g,cap,cur,e1,_,hh,r1,r2,_⟩
 ·refine ⟨none,0,by rw [e2];exact e1,by omega,Nat.zero_le _,fun i p hi=>?_⟩
  have:=h.plen
  have:=(zi.1 hi).1
  omega
 ·refine ⟨_,cap,e1,r1,r2,fun i p hi=>⟨g,rfl,?_⟩⟩
  have:=h.row.cells (by rw [e1];rfl) i (ptrV p) (by rw [List.getElem?_map,hi];rfl)
  rw [Zl,Nat.zero_add] at this
  exact this
section
variable {w:World} {hb pb:Nat} {F:Nat->Prop} {H:List (List (Option Tup))} {R:List Int} {v:Value} {ps:List Nat} {rb:Nat}
theorem Z3Y (n:Int) (h:Zz w hb pb F H R v ps rb) (hn:n < 0 ∨ (H.length:Int) <= n) :
  Calls Tryz.prog 68 #[.pointer (some ⟨hb,0,none⟩),.int .i64 n] w fun e w'=>e=.returned (.pointer none)/\w=w':=by
 obtain ⟨A,c,rfl,_,_,_⟩:=h.rowForm
 obtain ⟨_,c1,_⟩:=h.cells
 clear h
 rcases hn with hn | hn
 ·go_enter Tryz.func68,Tryz.ntmps68
  go_wp2
  go_ret
  exact ⟨rfl,rfl⟩
 ·have h0:¬ n < 0:=by omega
  go_enter Tryz.func68,Tryz.ntmps68
  go_wp2
  go_ret
  exact ⟨rfl,rfl⟩
theorem Z1R (n p:Nat) (h:Zz w hb pb F H R v ps rb) (hn:ps[n]?=some p) :
  Calls Tryz.prog 68 #[.pointer (some ⟨hb,0,none⟩),.int .i64 (n:Int)] w fun e w'=>e=.returned (.pointer (some ⟨p,0,none⟩))/\w=w':=by
 obtain ⟨A,c,rfl,hc,hm,hr⟩:=h.rowForm
 obtain ⟨_,c1,_⟩:=h.cells
 have hl:n < H.length:=by rw [<- h.plen];exact (zi.1 hn).1
 obtain ⟨g,rfl,hg⟩:=hr n p hn
 have d0:decide ((n:Int) < 0)=false:=by simp
 have d1:decide ((H.length:Int) <= n)=false:=by simp;omega
 unfold maxLen at hm
 clear h hr hn
 go_enter Tryz.func68,Tryz.ntmps68
 go_wp2
 go_ret
 exact ⟨rfl,rfl⟩
theorem Z6U (n p:Nat) (T:List (Option Tup)) (h:Zz w hb pb F H R v ps rb) (hn:ps[n]?=some p) (hT:H[n]?=some T) (hR:n <= R.length) (h256:n < 256) :
  Calls Tryz.prog 121 #[.pointer (some ⟨hb,0,none⟩),.int .i64 (n:Int)] w fun e w'=>e=.returned (.tuple #[])/\Z0 (·=rb) w w'/\Zz w' hb pb F H (Z4x R n (ZP T)) v ps rb:=by
 have HH:=zh h
 obtain ⟨A,c,rfl,hc,hm,hr⟩:=h.rowForm
 obtain ⟨_,c1,c2⟩:=h.cells
 have hl:n < H.length:=by rw [<- h.plen];exact (zi.1 hn).1
 obtain ⟨T',hT',hpt⟩:=h.page hn
 obtain rfl:T=T':=by rw [hT] at hT';injection hT'
 obtain ⟨g,rfl,hg⟩:=hr n p hn
 have HPT:=zh hpt
 have hset:Z6S R (n:Int) (ZP T)=(0,Z4x R n (ZP T)):=by
  rw [Ze9 (by omega) (by omega),Int.toNat_natCast,ZeR]
 have HSET:=zh hset
 have HNE:Hid ((¬ hb=rb)/\¬ g=rb):=⟨fun e=>h.apart.rh e.symm,fun e=>h.apart.vr g rfl e⟩
 have d0:decide ((n:Int) < 0)=false:=by simp
 have d1:decide ((H.length:Int) <= n)=false:=by simp;omega
 unfold maxLen at hm
 clear h hr hn hT hT' hset hpt
 go_enter Tryz.func121,Tryz.ntmps121
 go_wp2_with fail
 go_region_held3 (fun w'=>w'.cell? ⟨hb,1,none⟩=some (.slice (some ⟨g,0,none⟩) H.length c)/\w'.cell? ⟨hb,2,none⟩=some (.pointer (some ⟨rb,0,none⟩))/\w'.cell? ⟨g,n,none⟩=some (ptrV p))
  (first | go_keep | exact ⟨ho3.cell (by exact c1) HNE.out.1,ho3.cell (by exact c2) HNE.out.1,ho3.cell (by exact hg) HNE.out.2⟩ | fail)
  (first
    | (go_at_call 149;go_must (refine (ZeM p T _ (by exact HPT.out)).mono ?_;rintro e w2 ⟨rfl,n3,rfl⟩))
    | (go_at_call 155;go_must (refine (Zik rb R _ (n:Int) (ZP T) (HH.out.room.drewN _)).mono ?_;rintro e w3 ⟨rfl,ho3,hr3⟩))
    | fail)
 go_wp2
 go_end0
 rw [HSET.out] at hr3
 exact ⟨rfl,((Z0.refl _ _).drewN _).trans ho3,(HH.out.drewN _).rooms ho3 hr3⟩
theorem Z91 (h:Zo w hb pb F H) :
  Calls Tryz.prog 66 #[.pointer (some ⟨hb,0,none⟩)] w fun e w'=>e=.returned (.int .i64 (H.length:Int))/\w=w':=by
 obtain ⟨v,ps,rb,h⟩:=h
 obtain ⟨A,c,rfl,hc,hm,hr⟩:=h.rowForm
 obtain ⟨_,c1,_⟩:=h.cells
 clear h hr
 go_enter Tryz.func66,Tryz.ntmps66
 go_wp2
 go_ret
 exact ⟨rfl,rfl⟩
def usedH (H:List (List (Option Tup))):Nat:=(H.map Z0r).sum
theorem Zin (T:List (Option Tup)):Z0r T <= T.length:=List.length_filter_le _ _
theorem Z92 {H:List (List (Option Tup))} {k:Nat} {T:List (Option Tup)} (h:H[k]?=some T):usedH (H.take (k+1))=usedH (H.take k)+Z0r T:=by
 unfold usedH
 rw [List.take_add_one,h]
 simp
theorem Zgy (h:Zo w hb pb F H) :
  Calls Tryz.prog 47 #[.pointer (some ⟨hb,0,none⟩)] w fun e w'=>e=.returned (.int .i64 (usedH H:Int))/\∃ n,w'=w.drewN n:=by
 have h256:=h.most
 obtain ⟨v,ps,rb,h⟩:=h
 have HH:=zh h
 obtain ⟨A,c,rfl,hc,hm,hr⟩:=h.rowForm
 obtain ⟨_,c1,_⟩:=h.cells
 have HR:=zh hr
 unfold maxLen at hm
 clear h hr
 go_enter Tryz.func47,Tryz.ntmps47
 go_wp2
 go_loopw [3,13,5] (fun n v _ wr=>∃ k:Nat,k <= H.length/\v=.int .i64 (k:Int)/\n=.int .i64 (usedH (H.take k):Int)/\usedH (H.take k) <= 127 * k/\(∃ n,wr=w.drewN n)) (fun _ v _ _=>H.length - (intOf v).toNat)
 case atStart=>exact ⟨0,Nat.zero_le _,rfl,rfl,Nat.zero_le _,⟨0,rfl⟩⟩
 case round =>
  obtain ⟨k,hk,rfl,rfl,hu,⟨m,rfl⟩⟩:=hrel
  by_cases hlt:k < H.length
  ·obtain ⟨p,hp,hpt⟩:=HH.out.pg k _ (zg hlt)
   obtain ⟨g,rfl,hg⟩:=HR.out k p hp
   obtain ⟨T,hT⟩:∃ T,H[k]=T:=⟨_,rfl⟩
   rw [hT] at hpt
   have HN:=zh (Z92 (zg hlt))
   rw [hT] at HN
   have HPT:=zh hpt
   have hle:=hpt.len
   have hle2:=Zin T
   clear hp hpt hT
   go_wp2_with fail
   refine (ZeN p T _ (by exact HPT.out)).mono ?_
   rintro e w1 ⟨rfl,n,rfl⟩
   go_wp2
   go_roundw
   case rel=>exact ⟨k+1,by omega,by go_num,by rw [HN.out];go_num,by rw [HN.out];omega,⟨_,rfl⟩⟩
   case measure=>simp [intOf];omega
  ·obtain rfl:k=H.length:=by omega
   rw [List.take_length]
   clear hu
   go_wp2
   go_ret
   exact ⟨rfl,_,rfl⟩
theorem ZeT {w1:World} {n k:Nat} {z:Int} (h:Zz w hb pb F H R v ps rb) (hp:ZR w pb n) (hz:z=((n+k:Nat):Int))
  (hB:Below (w.setCell ⟨pb,0,none⟩ (.int .i64 z)).heap.size (w.setCell ⟨pb,0,none⟩ (.int .i64 z)) w1) (hr:Z10 w1 (w.setCell ⟨pb,0,none⟩ (.int .i64 z)).heap.size []) :
  Z0 (fun k=>F k ∨ k=pb) w ((w1.setCell ⟨hb,1,none⟩ (.slice none 0 0)).setCell ⟨hb,2,none⟩ (.pointer (some ⟨w.heap.size,0,none⟩))) ∧
  ZR ((w1.setCell ⟨hb,1,none⟩ (.slice none 0 0)).setCell ⟨hb,2,none⟩ (.pointer (some ⟨w.heap.size,0,none⟩))) pb (n+k) ∧
  Zo ((w1.setCell ⟨hb,1,none⟩ (.slice none 0 0)).setCell ⟨hb,2,none⟩ (.pointer (some ⟨w.heap.size,0,none⟩))) hb pb (fun k=>F k ∨ w.heap.size <= k) []:=by
 have hsz:(w.setCell ⟨pb,0,none⟩ (.int .i64 z)).heap.size=w.heap.size:=by simp [World.setCell]
 have hpool:=h.pool hp
 have hl:=Z2 h.box
 have hpl:=hp.lt
 have o1:Z0 (fun k=>F k ∨ k=pb) w (w.setCell ⟨pb,0,none⟩ (.int .i64 z)):=(Z0.refl _ w).setCell (p:=⟨pb,0,none⟩) (fun _=>Or.inr rfl) _
 have q1:Quiet (w.setCell ⟨pb,0,none⟩ (.int .i64 z)) w1:=Z0.ofBelow' hB
 have hp1:ZR w1 pb (n+k):=(hp.set hz).kept q1 (fun x=>x)
 have b0:=Z6E h.box 0 (.int .i64 z) (fun e=>hpool.1 e.symm)
 have b1:=q1.get b0 (fun x=>x)
 have hrl:=hr.lt
 rw [hsz] at hr hrl
 have o3:Z0 (·=hb) w1 ((w1.setCell ⟨hb,1,none⟩ (.slice none 0 0)).setCell ⟨hb,2,none⟩ (.pointer (some ⟨w.heap.size,0,none⟩))) :=
  ((Z0.refl (·=hb) w1).setCell (p:=⟨hb,1,none⟩) (fun _=>rfl) _).setCell (p:=⟨hb,2,none⟩) (fun _=>rfl) _
 refine ⟨(o1.trans' q1 (fun _ _ x=>x.elim)).trans' o3 (fun k _ e=>by subst e;exact Or.inl h.foot.1),hp1.kept o3 hpool.1,_,[],w.heap.size,?_,World.ownsRow_nil _ _ _ _,hr.kept o3 (by omega),fun i T hi=>by simp at hi,List.nodup_nil,Or.inl h.foot.1,Or.inr (Nat.le_refl _),fun p hp=>by simp at hp,fun k e=>by cases e⟩
 rw [Zg (Zg b1 _ _)]
 rfl
theorem Zgz (n:Nat) (h:Zo w hb pb F H) (hp:ZR w pb n) (hn:n <= 256) :
  Calls Tryz.prog 168 #[.pointer (some ⟨hb,0,none⟩)] w fun e w'=>e=.returned (.int .i64 (H.length:Int))/\Z0 (fun k=>F k ∨ k=pb) w w'/\ZR w' pb (n+H.length)/\Zo w' hb pb (fun k=>F k ∨ w.heap.size <= k) []:=by
 have h256:=h.most
 obtain ⟨v,ps,rb,h⟩:=h
 have HH:=zh h
 have HP:=zh hp
 obtain ⟨A,c,rfl,hc,hm,hr⟩:=h.rowForm
 obtain ⟨c0,c1,_⟩:=h.cells
 have hpc:=hp.cell
 have hpf:=Z7 hp 0
 have hne:¬ hb=pb:=fun e=>(h.pool hp).1 e.symm
 have hne':¬ pb=hb:=fun e=>hne e.symm
 clear h hr hp
 go_enter Tryz.func168,Tryz.ntmps168
 go_wp2_with fail
 refine (Zaz _).mono ?_
 rintro e w1 ⟨rfl,hB,hs,hr⟩
 have HF:=zh (ZeT (k:=H.length) HH.out HP.out (by omega) hB hr)
 have hb1:w1.heap[hb]?=_:=(Z0.ofBelow' (S:=fun _=>False) hB).get (Z6E HH.out.box 0 _ hne) (fun x=>x)
 obtain ⟨k1,k2⟩:(∃ x,w1.cell? ⟨hb,1,none⟩=some x)/\∃ x,w1.cell? ⟨hb,2,none⟩=some x:=⟨⟨_,by rw [Z1 hb1];rfl⟩,⟨_,by rw [Z1 hb1];rfl⟩⟩
 obtain ⟨x1,k1⟩:=k1
 obtain ⟨x2,k2⟩:=k2
 have hf1:=fun o=>Z7 hb1 o
 clear hB hs hr hb1
 go_wp2
 go_ret
 exact ⟨rfl,HF.out⟩
end
theorem ZgA:Z0c Tryz.prog 147 172 1 8:=Z0c.mk' (.pointer none) Tryz.underlying147 (by kernel_rfl) rfl (by decide)
theorem Z52:(Tryz.prog.info? 48).map (·.size)=some 2:=by kernel_rfl
theorem Z3Z {W:World} {b:Nat} {c0 c1:Value} {t:TypeId} (h:W.heap[b]?=some (.cells #[c0,c1] t (0,0))) (x y:Value):((W.setCell ⟨b,0,none⟩ x).setCell ⟨b,1,none⟩ y).heap[b]?=some (.cells #[x,y] t (0,0)):=by
 rw [Zg (Zg h _ _)]
 rfl
theorem Z3n (W:World) (b:Nat) (x y:Value):Z0 (·=b) W ((W.setCell ⟨b,0,none⟩ x).setCell ⟨b,1,none⟩ y) :=
 ((Z0.refl (·=b) W).setCell (p:=⟨b,0,none⟩) (fun _=>rfl) x).setCell (p:=⟨b,1,none⟩) (fun _=>rfl) y
structure Z16 (G:Nat->Prop) (w W:World) (t:Tup) (A:Option Addr) (cap:Nat):Prop where
 only:Z0 G w W
 box:W.heap[w.heap.size]?=some (.cells #[.int .u64 t.row,.int .u64 t.xmin,.int .u64 t.xmax,.int .i64 t.pg,.int .i64 t.sl,.slice A t.data.length cap] 96 (0,0))
 tid:W.heap[w.heap.size+1]?=some (.cells #[.int .i64 0,.int .i64 0] 48 (0,0))
section
variable {G:Nat->Prop} {w W W':World} {t:Tup} {A:Option Addr} {cap:Nat}
theorem Z16.start (w:World) (t:Tup) (A:Option Addr) (cap:Nat):Z16 (fun _=>False) w ((w.alloc (.cells #[.int .u64 t.row,.int .u64 t.xmin,.int .u64 t.xmax,.int .i64 t.pg,.int .i64 t.sl,.slice A t.data.length cap] 96)).alloc (.cells #[.int .i64 0,.int .i64 0] 48)) t A cap :=
 ⟨((Z0.refl _ _).alloc _).alloc _,Zd (Z4 _ _) _,Z0y _ _ _⟩
theorem Z16.on {S:Nat->Prop} (h:Z16 G w W t A cap) (ho:Z0 S W W') (h1:∀ k,k < w.heap.size->S k->G k) (h2:∀ k,w.heap.size <= k->k < w.heap.size+2->¬ S k):Z16 G w W' t A cap :=
 ⟨h.only.trans' ho h1,ho.get h.box (h2 _ (by omega) (by omega)),ho.get h.tid (h2 _ (by omega) (by omega))⟩
theorem Z16.mono {G':Nat->Prop} (h:Z16 G w W t A cap) (hg:∀ k,G k->G' k):Z16 G' w W t A cap:=⟨h.only.mono (fun k _ x=>hg k x),h.box,h.tid⟩
theorem Z16.quietly (h:Z16 G w W t A cap) (hq:Quiet W W'):Z16 G w W' t A cap:=h.on hq (fun _ _ x=>x.elim) (fun _ _ _ x=>x)
theorem Z16.drew (h:Z16 G w W t A cap):Z16 G w W.drew t A cap:=⟨h.only.drew,h.box,h.tid⟩
theorem Z16.drewN (h:Z16 G w W t A cap) (n:Nat):Z16 G w (W.drewN n) t A cap:=⟨h.only.drewN n,h.box,h.tid⟩
theorem Z16.lt (h:Z16 G w W t A cap):w.heap.size+1 < W.heap.size:=Z2 h.tid
theorem Z16.cells (h:Z16 G w W t A cap):W.cell? ⟨w.heap.size+1,0,none⟩=some (.int .i64 0)/\W.cell? ⟨w.heap.size+1,1,none⟩=some (.int .i64 0)/\∀ o,W.frozen? ⟨w.heap.size+1,o,none⟩=false :=
 ⟨by rw [Z1 h.tid];rfl,by rw [Z1 h.tid];rfl,fun o=>Z7 h.tid o⟩
theorem Z16.end_ (h:Z16 G w W t A cap) (x y:Value):Z0 G w ((W.setCell ⟨w.heap.size+1,0,none⟩ x).setCell ⟨w.heap.size+1,1,none⟩ y) :=
 h.only.trans' (Z3n W _ x y) (fun k hk e=>by omega)
theorem Z6h (t:Tup) (A:Option Addr) (cap:Nat) (S:Nat->Prop) (hby:∀ x ∈ t.data,x < 256) (hd:Rd w S 1 A t.data.length (Z9 t.data)) (W w1:World) (q:Nat) (h:Z16 (fun _=>False) w W t A cap) (hq:Quiet W.drew w1) (hp:Z0t w1 q []) (hq':w.heap.size+2 <= q) :
  Calls Tryz.prog 118 #[.pointer (some ⟨q,0,none⟩),ZC t A cap] w1 fun e w'=>e=.returned (.tuple #[.int .i64 0,.int .i64 (if t.rightB then 0 else 3)])/\Z16 (fun _=>False) w w' t A cap:=by
 have h1:=h.drew.quietly hq
 have:=Z51 q [] t A cap _ w1 hp hby (hd.kept h1.only (fun _ _ x=>x))
 have hr:(Z2J [] t).1=0/\(Z2J [] t).2.1=if t.rightB then 0 else 3:=by
  unfold Z2J
  rcases e:t.rightB with _ | _
  ·exact ⟨rfl,rfl⟩
  ·rw [if_neg (by simp),if_neg (by
      have:t.data.length <= 200:=(of_decide_eq_true e).2.2.2.2
      have:ZP []=474:=by decide
      omega)]
   exact ⟨rfl,rfl⟩
 rw [hr.1,hr.2] at this
 exact this.mono fun e w' ⟨a,b,c⟩=>⟨a,h1.on b (fun k hk e=>by omega) (fun k h1 h2 e=>by omega)⟩
end
theorem Z8j (hb:Nat) (t:Tup) (A:Option Addr) (cap:Nat) (S:Nat->Prop) (w:World) (ht:t.rightB=false) (hby:∀ x ∈ t.data,x < 256) (hd:Rd w S 1 A t.data.length (Z9 t.data)) :
  Calls Tryz.prog 79 #[.pointer (some ⟨hb,0,none⟩),ZC t A cap] w fun e w'=>e=.returned (.tuple #[.agg #[.int .i64 0,.int .i64 0],.int .i64 3])/\Quiet w w':=by
 have HI:=zh (Z6h t A cap S hby hd)
 have H0:=zh (Z16.start w t A cap)
 simp only [ht,Bool.false_eq_true,if_false,if_true] at HI
 unfold ZC at HI ⊢
 clear ht hby hd
 go_enter Tryz.func79,Tryz.ntmps79
 go_wp2_with fail
 go_region_held3 (fun w'=>w'.cell? ⟨w.heap.size,0,none⟩=some (.int .u64 t.row)/\w'.cell? ⟨w.heap.size,1,none⟩=some (.int .u64 t.xmin)/\w'.cell? ⟨w.heap.size,2,none⟩=some (.int .u64 t.xmax)/\w'.cell? ⟨w.heap.size,3,none⟩=some (.int .i64 t.pg)/\w'.cell? ⟨w.heap.size,4,none⟩=some (.int .i64 t.sl)/\w'.cell? ⟨w.heap.size,5,none⟩=some (.slice A t.data.length cap))
  (first | go_keep | exact Z0n H2.out.box | exact Z0n H1.out.box | fail)
  (first
    | (go_at_call 87;go_must (refine (Z3x _).mono ?_;rintro e w1 ⟨rfl,hq1,hs1,hp1⟩;have H1:=zh (H0.out.drew.quietly hq1);have HQ1:=zh hq1;simp only [World.size_drew,World.size_alloc] at hp1;have HP1:=zh hp1;clear hq1 hp1 hs1))
    | (go_at_call 118;go_must (refine (HI.out _ _ _ H0.out HQ1.out HP1.out (by omega)).mono ?_;rintro e w2 ⟨rfl,h2⟩;have H2:=zh h2;clear h2))
    | fail)
 clear HI H0 HQ1 HP1 H1
 obtain ⟨t0,t1,tf⟩:=H2.out.cells
 go_wp2_with fail
 exact bodyPost_ret (ZG Tryz.results79 _ _ (w.heap.size+1) _ _ (0,0) _ (by rfl) (Z3Z H2.out.tid _ _) Tryz.underlying48 rfl Z52) (by rfl) ⟨rfl,H2.out.end_ _ _⟩
theorem ZaB (H:List (List (Option Tup))) (i:Nat) (T:List (Option Tup)) (hi:i < H.length):Z4x (H.map ZP) i (ZP T)=(H.set i T).map ZP:=by
 unfold Z4x
 rw [if_neg (by simp;omega),List.map_set]
theorem ZjO (t:Tup) (ht:t.rightB=true):Z2J [] t=(0,0,[some t]):=by
 unfold Z2J
 rw [if_neg (by simp [ht]),if_neg (by
   have:t.data.length <= 200:=(of_decide_eq_true ht).2.2.2.2
   have:ZP []=474:=by decide
   omega)]
 rfl
theorem Zio {T:List (Option Tup)} {t:Tup} (ht:t.rightB=true) (hr:(t.data.length:Int) <= ZP T):Z2J T t=((freeT T:Int),0,Z1v T t):=by
 unfold Z2J
 rw [if_neg (by simp [ht]),if_neg (by omega)]
theorem Z7N (hb pb:Nat) (F:Nat->Prop) (H:List (List (Option Tup))) (T:List (Option Tup)) (i:Nat) (t:Tup) (A:Option Addr) (cap:Nat) (S:Nat->Prop) (w:World) (h:Zo w hb pb F H) (ht:t.rightB=true) (hf:Z1p H t.data.length=some i) (hT:H[i]?=some T)
  (hby:∀ x ∈ t.data,x < 256) (hd:Rd w S 1 A t.data.length (Z9 t.data)) :
  Calls Tryz.prog 79 #[.pointer (some ⟨hb,0,none⟩),ZC t A cap] w fun e w'=>e=.returned (.tuple #[.agg #[.int .i64 (i:Int),.int .i64 (freeT T:Int)],.int .i64 0])/\Z0 F w w'/\Zo w' hb pb F (H.set i (Z1v T t)):=by
 have HI:=zh (Z6h t A cap S hby hd)
 have H0:=zh (Z16.start w t A cap)
 simp only [ht,Bool.false_eq_true,if_false,if_true] at HI
 have h256:=h.most
 obtain ⟨v,ps,rb,h⟩:=h.lim
 have hfr:=Z6f H t.data.length
 rw [hf] at hfr
 have hil:i < H.length:=(zi.1 hT).1
 obtain ⟨p,hp,hpt⟩:=h.pg i T hT
 obtain ⟨T',hT',hrm⟩:=Z6g hf
 obtain rfl:T=T':=by rw [hT] at hT';injection hT'
 have HIN:Hid (∀ w1,Quiet w w1->Calls Tryz.prog 118 #[.pointer (some ⟨p,0,none⟩),ZC t A cap] w1 fun e w'=>e=.returned (.tuple #[.int .i64 (freeT T:Int),.int .i64 0])/\Z0 (·=p) w1 w'/\Z0t w' p (Z1v T t)):=fun w1 hq=>by
  have:=Z51 p T t A cap _ w1 (hpt.kept hq (fun x=>x)) hby (hd.kept hq (fun _ _ x=>x))
  rw [Zio ht hrm] at this
  exact this
 obtain ⟨B,c,hv,hc,hm,hr⟩:=h.rowForm
 obtain ⟨g,rfl,hg⟩:=hr i p hp
 have hall:=h.cells
 rw [hv] at hall
 obtain ⟨c0,c1,c2⟩:=hall
 have hl1:=Z2 h.box
 have hl2:=Zf hg
 have HH:=zh h
 have HFR:=zh hfr
 have HHP:=zh hp
 have HV:=zh hv
 unfold maxLen at hm
 unfold ZC at HI HIN ⊢
 clear ht hby hd hf h hfr hr hpt hT' hrm hp hv
 go_enter Tryz.func79,Tryz.ntmps79
 go_wp2_with fail
 go_region_held3 (fun w'=>w'.cell? ⟨w.heap.size,0,none⟩=some (.int .u64 t.row)/\w'.cell? ⟨w.heap.size,1,none⟩=some (.int .u64 t.xmin)/\w'.cell? ⟨w.heap.size,2,none⟩=some (.int .u64 t.xmax)/\w'.cell? ⟨w.heap.size,3,none⟩=some (.int .i64 t.pg)/\w'.cell? ⟨w.heap.size,4,none⟩=some (.int .i64 t.sl)/\w'.cell? ⟨w.heap.size,5,none⟩=some (.slice A t.data.length cap))
  (first | go_keep | exact Z0n H2.out.box | exact Z0n H1.out.box | fail)
  (first
    | (go_at_call 87;go_must (refine (Z3x _).mono ?_;rintro e w1 ⟨rfl,hq1,hs1,hp1⟩;have H1:=zh (H0.out.drew.quietly hq1);have HQ1:=zh hq1;simp only [World.size_drew,World.size_alloc] at hp1;have HP1:=zh hp1;clear hq1 hp1 hs1))
    | (go_at_call 118;go_must (refine (HI.out _ _ _ H0.out HQ1.out HP1.out (by omega)).mono ?_;rintro e w2 ⟨rfl,h2⟩;have H2:=zh h2;clear h2))
    | fail)
 clear HI H0 HQ1 HP1 H1
 have HH2:=zh (HH.out.kept H2.out.only (fun _ _ x=>x))
 obtain ⟨b0,b1,b2,b3,b4,b5⟩:=Z0n H2.out.box
 have k1:=H2.out.only.cell c1 (fun x=>x)
 have k2:=H2.out.only.cell c2 (fun x=>x)
 have kg:=H2.out.only.cell hg (fun x=>x)
 have d0:decide ((i:Int) < 0)=false:=by simp
 have d1:decide ((H.length:Int) <= i)=false:=by simp;omega
 clear c0 c1 c2 hg
 go_wp2_with fail
 go_quiet ((go_at_call 119;exact Z4H (Z6T rb _ _ _ (HH2.out.room.drewN _))))
 rw [HFR.out]
 go_wp2_with fail
 have HNE:Hid ((¬ hb=p)/\(¬ g=p)/\p < w.heap.size):=⟨fun e=>HH.out.apart.ph p (List.mem_of_getElem? HHP.out) e.symm,fun e=>HH.out.apart.vp g (by rw [HV.out];rfl) p (List.mem_of_getElem? HHP.out) e,by obtain ⟨d,hd⟩:=HH.out.pblk (List.mem_of_getElem? HHP.out);exact Z2 hd⟩
 go_region_held3 (fun w'=>w'.cell? ⟨hb,1,none⟩=some (.slice (some ⟨g,0,none⟩) H.length c)/\w'.cell? ⟨g,i,none⟩=some (ptrV p)/\w'.cell? ⟨w.heap.size,0,none⟩=some (.int .u64 t.row)/\w'.cell? ⟨w.heap.size,1,none⟩=some (.int .u64 t.xmin)/\w'.cell? ⟨w.heap.size,2,none⟩=some (.int .u64 t.xmax)/\w'.cell? ⟨w.heap.size,3,none⟩=some (.int .i64 t.pg)/\w'.cell? ⟨w.heap.size,4,none⟩=some (.int .i64 t.sl)/\w'.cell? ⟨w.heap.size,5,none⟩=some (.slice A t.data.length cap))
  (first | go_keep | exact ⟨ho4.cell (by exact k1) HNE.out.1,ho4.cell (by exact kg) HNE.out.2.1,Z0n (ho4.get (by exact H2.out.box) (by have:=HNE.out.2.2;omega))⟩ | fail)
  (first
    | (go_at_call 118;go_must (refine (HIN.out _ (H2.out.only.drewN _)).mono ?_;rintro e w4 ⟨rfl,ho4,hp4⟩))
    | fail)
 have HH4:=zh ((HH2.out.drewN _).turn HHP.out ho4 hp4)
 have H4:Hid (Z16 F w w4 t A cap):=((H2.out.drewN _).mono (fun _ x=>x.elim)).on ho4 (fun k _ e=>by subst e;exact (HH.out.foot.2.2.1 k (List.mem_of_getElem? HHP.out)).1) (fun k h1 h2 e=>by have:=HNE.out.2.2;omega)
 clear ho4 hp4 HH2 H2 HIN HFR k1 k2 kg b0 b1 b2 b3 b4 b5
 go_wp2_with fail
 refine (Z6U i p (Z1v T t) HH4.out HHP.out (by rw [List.getElem?_set_self hil]) (by simp;omega) (by omega)).mono ?_
 rintro e w5 ⟨rfl,ho5,hh5⟩
 rw [ZaB H i _ hil] at hh5
 have HH5:=zh hh5
 have H5:=zh (H4.out.on ho5 (fun k _ e=>by subst e;exact HH.out.foot.2.1.1) (fun k h1 h2 e=>by have:=HH.out.room.lt;omega))
 clear ho5 hh5 HH4 H4
 obtain ⟨t0,t1,tf⟩:=H5.out.cells
 go_wp2_with fail
 exact bodyPost_ret (ZG Tryz.results79 _ _ (w.heap.size+1) _ _ (0,0) _ (by rfl) (Z3Z H5.out.tid _ _) Tryz.underlying48 rfl Z52) (by rfl) ⟨rfl,H5.out.end_ _ _,_,_,_,(HH5.out.kept (Z3n _ _ _ _) (fun k hk e=>by have:=hk.2;omega)).mono (fun _ x=>x.1)⟩
theorem Z8k (hb pb:Nat) (F:Nat->Prop) (H:List (List (Option Tup))) (t:Tup) (A:Option Addr) (cap:Nat) (S:Nat->Prop) (w:World) (h:Zo w hb pb F H) (hpo:ZR w pb 0) (ht:t.rightB=true) (hf:Z1p H t.data.length=none)
  (hby:∀ x ∈ t.data,x < 256) (hd:Rd w S 1 A t.data.length (Z9 t.data)) :
  Calls Tryz.prog 79 #[.pointer (some ⟨hb,0,none⟩),ZC t A cap] w fun e w'=>e=.returned (.tuple #[.agg #[.int .i64 0,.int .i64 0],.int .i64 12])/\Quiet w w':=by
 have HI:=zh (Z6h t A cap S hby hd)
 have H0:=zh (Z16.start w t A cap)
 simp only [ht,Bool.false_eq_true,if_false,if_true] at HI
 have h256:=h.most
 obtain ⟨v,ps,rb,h⟩:=h.lim
 have hfr:=Z6f H t.data.length
 rw [hf] at hfr
 obtain ⟨B,c,hv,hc,hm,hr⟩:=h.rowForm
 have hall:=h.cells
 rw [hv] at hall
 obtain ⟨c0,c1,c2⟩:=hall
 have hl1:=Z2 h.box
 have HH:=zh h
 have HFR:=zh hfr
 have HV:=zh hv
 have HPO:=zh hpo
 unfold maxLen at hm
 unfold ZC at HI ⊢
 clear ht hf h hfr hr hv
 clear hby hd hpo
 go_enter Tryz.func79,Tryz.ntmps79
 go_wp2_with fail
 go_region_held3 (fun w'=>w'.cell? ⟨w.heap.size,0,none⟩=some (.int .u64 t.row)/\w'.cell? ⟨w.heap.size,1,none⟩=some (.int .u64 t.xmin)/\w'.cell? ⟨w.heap.size,2,none⟩=some (.int .u64 t.xmax)/\w'.cell? ⟨w.heap.size,3,none⟩=some (.int .i64 t.pg)/\w'.cell? ⟨w.heap.size,4,none⟩=some (.int .i64 t.sl)/\w'.cell? ⟨w.heap.size,5,none⟩=some (.slice A t.data.length cap))
  (first | go_keep | exact Z0n H2.out.box | exact Z0n H1.out.box | fail)
  (first
    | (go_at_call 87;go_must (refine (Z3x _).mono ?_;rintro e w1 ⟨rfl,hq1,hs1,hp1⟩;have H1:=zh (H0.out.drew.quietly hq1);have HQ1:=zh hq1;simp only [World.size_drew,World.size_alloc] at hp1;have HP1:=zh hp1;clear hq1 hp1 hs1))
    | (go_at_call 118;go_must (refine (HI.out _ _ _ H0.out HQ1.out HP1.out (by omega)).mono ?_;rintro e w2 ⟨rfl,h2⟩;have H2:=zh h2;clear h2))
    | fail)
 clear HI H0 HQ1 HP1 H1
 have HH2:=zh (HH.out.kept H2.out.only (fun _ _ x=>x))
 have HPO2:=zh (HPO.out.kept H2.out.only (fun x=>x))
 obtain ⟨b0,b1,b2,b3,b4,b5⟩:=Z0n H2.out.box
 have k0:=H2.out.only.cell c0 (fun x=>x)
 have k1:=H2.out.only.cell c1 (fun x=>x)
 have k2:=H2.out.only.cell c2 (fun x=>x)
 clear c0 c1 c2
 go_wp2_with fail
 go_quiet ((go_at_call 119;exact Z4H (Z6T rb _ _ _ (HH2.out.room.drewN _))))
 rw [HFR.out]
 go_wp2_with fail
 refine (ZaA pb 0 _ (by exact HPO2.out)).mono ?_
 rintro e w3 ⟨rfl,rfl⟩
 obtain ⟨t0,t1,tf⟩:=H2.out.cells
 go_wp2_with fail
 exact bodyPost_ret (ZG Tryz.results79 _ _ (w.heap.size+1) _ _ (0,0) _ (by rfl) (Z3Z (H2.out.drewN _).tid _ _) Tryz.underlying48 rfl Z52) (by rfl) ⟨rfl,(H2.out.drewN _).end_ _ _⟩
theorem Z8l (hb pb left:Nat) (F:Nat->Prop) (H:List (List (Option Tup))) (t:Tup) (A:Option Addr) (cap:Nat) (S:Nat->Prop) (w:World) (h:Zo w hb pb F H) (hpo:ZR w pb (left+1)) (ht:t.rightB=true) (hf:Z1p H t.data.length=none) (hle:H.length+(left+1) <= 256)
  (hby:∀ x ∈ t.data,x < 256) (hd:Rd w S 1 A t.data.length (Z9 t.data)) (hS:∀ k,S k->¬ F k/\k ≠ pb) :
  Calls Tryz.prog 79 #[.pointer (some ⟨hb,0,none⟩),ZC t A cap] w fun e w'=>e=.returned (.tuple #[.agg #[.int .i64 (H.length:Int),.int .i64 0],.int .i64 0])/\Z0 (fun k=>F k ∨ k=pb) w w'/\ZR w' pb left/\Zo w' hb pb (fun k=>F k ∨ w.heap.size <= k) (H ++ [[some t]]):=by
 have HI:=zh (Z6h t A cap S hby hd)
 have H0:=zh (Z16.start w t A cap)
 simp only [ht,Bool.false_eq_true,if_false,if_true] at HI
 have h256:=h.most
 obtain ⟨v,ps,rb,h⟩:=h
 replace h:=h.lim2 hpo
 have hfr:=Z6f H t.data.length
 rw [hf] at hfr
 obtain ⟨B,c,hv,hc,hm,hr⟩:=h.rowForm
 have hall:=h.cells
 rw [hv] at hall
 obtain ⟨c0,c1,c2⟩:=hall
 have hl1:=Z2 h.box
 have HH:=zh h
 have HFR:=zh hfr
 have HV:=zh hv
 have HPO:=zh hpo
 have HT:=zh ht
 unfold maxLen at hm
 unfold ZC at HI ⊢
 clear ht hf h hfr hr hv
 have hne:¬ hb=pb:=fun e=>(HH.out.pool hpo).1 e.symm
 have hne':¬ pb=hb:=fun e=>hne e.symm
 have hl0:¬ ((left:Int)+1=0):=by omega
 have HD:=zh hd
 have HBY:=zh hby
 have HS:=zh hS
 clear hby hd hpo hS
 go_enter Tryz.func79,Tryz.ntmps79
 go_wp2_with fail
 go_region_held3 (fun w'=>w'.cell? ⟨w.heap.size,0,none⟩=some (.int .u64 t.row)/\w'.cell? ⟨w.heap.size,1,none⟩=some (.int .u64 t.xmin)/\w'.cell? ⟨w.heap.size,2,none⟩=some (.int .u64 t.xmax)/\w'.cell? ⟨w.heap.size,3,none⟩=some (.int .i64 t.pg)/\w'.cell? ⟨w.heap.size,4,none⟩=some (.int .i64 t.sl)/\w'.cell? ⟨w.heap.size,5,none⟩=some (.slice A t.data.length cap))
  (first | go_keep | exact Z0n H2.out.box | exact Z0n H1.out.box | fail)
  (first
    | (go_at_call 87;go_must (refine (Z3x _).mono ?_;rintro e w1 ⟨rfl,hq1,hs1,hp1⟩;have H1:=zh (H0.out.drew.quietly hq1);have HQ1:=zh hq1;simp only [World.size_drew,World.size_alloc] at hp1;have HP1:=zh hp1;clear hq1 hp1 hs1))
    | (go_at_call 118;go_must (refine (HI.out _ _ _ H0.out HQ1.out HP1.out (by omega)).mono ?_;rintro e w2 ⟨rfl,h2⟩;have H2:=zh h2;clear h2))
    | fail)
 clear HI H0 HQ1 HP1 H1
 have HH2:=zh (HH.out.kept H2.out.only (fun _ _ x=>x))
 have HPO2:=zh (HPO.out.kept H2.out.only (fun x=>x))
 obtain ⟨b0,b1,b2,b3,b4,b5⟩:=Z0n H2.out.box
 have k0:=H2.out.only.cell c0 (fun x=>x)
 have k1:=H2.out.only.cell c1 (fun x=>x)
 have k2:=H2.out.only.cell c2 (fun x=>x)
 clear c0 c1 c2
 go_wp2_with fail
 go_quiet ((go_at_call 119;exact Z4H (Z6T rb _ _ _ (HH2.out.room.drewN _))))
 rw [HFR.out]
 go_wp2_with fail
 refine (ZaA pb _ _ (by exact HPO2.out)).mono ?_
 rintro e w3 ⟨rfl,rfl⟩
 have hpc:=HPO2.out.cell
 have hpf:=Z7 HPO2.out 0
 go_upto_region 12 with fail
 have HO3:Hid (Z0 (·=pb) w2 ((w2.drewN nq).setCell ⟨pb,0,none⟩ (.int .i64 (left:Int)))):=((Z0.refl (·=pb) w2).drewN nq).setCell (p:=⟨pb,0,none⟩) (fun _=>rfl) _
 have HH3:=zh (HH2.out.kept HO3.out (fun k hk e=>hk.2.2 e))
 have H3:=zh ((H2.out.mono (G':=fun k=>k=pb) (fun _ x=>x.elim)).on HO3.out (fun _ _ e=>e) (fun k h1 h2 e=>by have:=HPO.out.lt;omega))
 have HPO3:Hid (ZR ((w2.drewN nq).setCell ⟨pb,0,none⟩ (.int .i64 (left:Int))) pb left):=ZR.set (w:=w2.drewN nq) HPO2.out rfl
 clear HPO2 HH2 H2 HO3 HFR b0 b1 b2 b3 b4 b5 k0 k1 k2 hpc hpf
 generalize (w2.drewN nq).setCell ⟨pb,0,none⟩ (.int .i64 (left:Int))=w3 at HH3 H3 HPO3 ⊢
 have k1:w3.cell? ⟨hb,1,none⟩=some (.slice B H.length c):=by rw [<- HV.out];exact HH3.out.cells.2.1
 go_cut [] (fun wx=>∃ q v',w3.heap.size <= q/\Zz wx hb pb (fun k=>(F k/\k < w.heap.size/\k ≠ pb) ∨ w3.heap.size <= k) (H ++ [[]]) (H.map ZP) v' (ps ++ [q]) rb/\Z0 (fun k=>F k/\k < w.heap.size/\k ≠ pb) w3 wx)
 case first =>
  have HROW:Hid (w3.ownsRow 0 172 1 (.slice B H.length c) H.length (ps.map ptrV)):=by rw [<- HV.out];exact HH3.out.row
  have HNB:Hid (∀ k,(Value.slice B H.length c).ownBlock=some k->k ≠ hb):=by rw [<- HV.out];exact HH3.out.apart.vh
  go_region_law (first
    | (go_simp;go_at_call 87;refine (Z3x _).mono ?_;rintro e w4 ⟨rfl,hq4,hs4,hp4⟩;have k4:w4.cell? ⟨hb,1,none⟩=some (.slice B H.length c):=hq4.cell (by exact k1) (fun x=>x);have hl4:hb < w4.heap.size:=Zf k4;have hn4:¬ hb=w4.heap.size:=by omega)
    | (refine Z0B ZgA rfl (.tmp 63) (.tmp 65) rfl rfl (Z5 (Z5 (by exact HROW.out) hq4 (fun _ _ x=>x)) ((Z0.refl (fun _=>False) w4).alloc _) (fun _ _ x=>x)) rfl (Rd.one w4 (ptrV w3.heap.size) 172 (0,0) (S:=fun _=>True) trivial) (Z3v [w3.heap.size]) (by unfold maxLen;omega) (by omega) ?_;intro v5 w5 hg5;have hb5:=hg5.only.get (Zd (hq4.get (by exact HH3.out.box) (fun x=>x)) _) (fun e=>HNB.out hb e rfl);obtain ⟨A5,c5,hv5,_,_,_⟩:=Za hg5.own;subst hv5;have s1:=Z1 hb5 1;have s2:=fun o=>Z7 hb5 o;simp only [zGA,zGS,zGZ] at s1)
    | fail)
  all_goals
   go_wp2_with fail
   go_meet
   have hq:Quiet w3 w4:=((Z0.refl _ _).drew).trans hq4
   have hgr:=HH3.out.grow hq hp4 (Nat.le_refl _) (by rw [HV.out];exact hg5)
   exact ⟨_,_,Nat.le_refl _,hgr.1,hgr.2⟩
 case rest =>
  obtain ⟨q,v',hq3,hh4,ho4⟩:=hcut
  have hpl:ps.length=H.length:=HH.out.plen
  have hw3:=H3.out.lt
  have HHP:Hid ((ps ++ [q])[H.length]?=some q):=by show (ps ++ [q])[H.length]?=some q;rw [<- hpl];simp
  have H4:Hid (Z16 (fun k=>F k ∨ k=pb) w wc t A cap):=(H3.out.mono (fun _ x=>Or.inr x)).on ho4 (fun _ _ x=>Or.inl x.1) (fun k h1 h2 x=>by have:=x.2.1;omega)
  have HPO4:Hid (ZR wc pb left):=HPO3.out.kept ho4 (fun x=>x.2.2 rfl)
  have HD4:Hid (Rd wc S 1 A t.data.length (Z9 t.data)):=HD.out.kept H4.out.only (fun k hk x=>by rcases x with x | x;exact (HS.out k hk).1 x;exact (HS.out k hk).2 x)
  obtain ⟨B4,c4,hv4,hc4,hm4,hr4⟩:=hh4.rowForm
  obtain ⟨g,rfl,hg⟩:=hr4 H.length q HHP.out
  obtain ⟨T',hT',hpt⟩:=hh4.page HHP.out
  have hT0:T'=[]:=by simp at hT';exact hT'
  subst hT0
  have hk1:=hh4.cells.2.1
  rw [hv4] at hk1
  obtain ⟨b0,b1,b2,b3,b4,b5⟩:=Z0n H4.out.box
  have HIN:=zh (fun n=>Z51 q [] t A cap S (wc.drewN n) (by exact hpt) HBY.out (HD4.out.kept ((Z0.refl (fun _=>False) wc).drewN n) (fun _ _ x=>x)))
  rw [ZjO t HT.out] at HIN
  unfold ZC at HIN
  rw [List.length_append,List.length_singleton] at hv4 hk1 hc4
  have HH4:=zh hh4
  have HV4:=zh hv4
  have HNE:Hid ((¬ hb=q)/\(¬ g=q)/\(¬ w.heap.size=q)/\(¬ w.heap.size+1=q)/\¬ pb=q):=by
   have ha:=hh4.apart
   have hm:q ∈ ps ++ [q]:=by simp
   obtain ⟨d,hd⟩:=hh4.pblk hm
   refine ⟨fun e=>ha.ph q hm e.symm,fun e=>ha.vp g (by rw [hv4];rfl) q hm e,Zb H4.out.box hd (by decide),Zb H4.out.tid hd (by decide),Zb HPO4.out hd (by decide)⟩
  have d0:decide ((H.length:Int) < 0)=false:=by simp
  have d1:decide ((H.length:Int)+1 <= H.length)=false:=decide_eq_false (by omega)
  have d2:¬ (H.length:Int)+1 <= H.length:=by omega
  have d3:(H.length:Int) < H.length+1:=by omega
  unfold maxLen at hm4
  clear hh4 ho4 hr4 hT' hpt hv4 HD4 HD HS HBY H3 HH3 HPO3 k1
  go_wp2_with fail
  go_region_held3 (fun w'=>w'.cell? ⟨hb,1,none⟩=some (.slice (some ⟨g,0,none⟩) (H.length+1) c4)/\w'.cell? ⟨g,H.length,none⟩=some (ptrV q)/\w'.cell? ⟨w.heap.size,0,none⟩=some (.int .u64 t.row)/\w'.cell? ⟨w.heap.size,1,none⟩=some (.int .u64 t.xmin)/\w'.cell? ⟨w.heap.size,2,none⟩=some (.int .u64 t.xmax)/\w'.cell? ⟨w.heap.size,3,none⟩=some (.int .i64 t.pg)/\w'.cell? ⟨w.heap.size,4,none⟩=some (.int .i64 t.sl)/\w'.cell? ⟨w.heap.size,5,none⟩=some (.slice A t.data.length cap))
   (first | go_keep | exact ⟨ho5.cell (by exact hk1) HNE.out.1,ho5.cell (by exact hg) HNE.out.2.1,Z0n (ho5.get (by exact H4.out.box) HNE.out.2.2.1)⟩ | fail)
   (first
     | (go_at_call 118;go_must (refine (HIN.out 1).mono ?_;rintro e w5 ⟨rfl,ho5,hp5⟩))
     | fail)
  have hh5:=(HH4.out.drewN 1).turn HHP.out ho5 hp5
  rw [show (H ++ [([]:List (Option Tup))]).set H.length [some t]=H ++ [[some t]] by simp] at hh5
  have HH5:=zh hh5
  have hw4:w.heap.size <= wc.heap.size:=H4.out.only.size
  have hql:w.heap.size <= q:=by omega
  have H5:=zh ((H4.out.drewN 1).on ho5 (fun k h1 e=>by omega) (fun k h1 h2 e=>by have:=HNE.out;omega))
  have HPO5:Hid (ZR w5 pb left):=ZR.kept (w:=wc.drewN 1) HPO4.out ho5 HNE.out.2.2.2.2
  clear ho5 hp5 hh5 HH4 H4 HIN HPO4 hk1 hg b0 b1 b2 b3 b4 b5
  go_wp2_with fail
  refine (Z6U H.length q [some t] HH5.out HHP.out (by simp) (by simp) (by omega)).mono ?_
  rintro e w6 ⟨rfl,ho6,hh6⟩
  rw [show Z4x (H.map ZP) H.length (ZP [some t])=(H ++ [[some t]]).map ZP by unfold Z4x;rw [if_pos (by simp)];simp] at hh6
  have HH6:=zh hh6
  have hrl:=HH.out.room.lt
  have H6:=zh (H5.out.on ho6 (fun k _ e=>by subst e;exact Or.inl HH.out.foot.2.1.1) (fun k h1 h2 e=>by omega))
  have HPO6:Hid (ZR w6 pb left):=HPO5.out.kept ho6 (fun e=>(HH.out.pool HPO.out).2.1 e)
  clear ho6 hh6 HH5 H5 HPO5
  obtain ⟨t0,t1,tf⟩:=H6.out.cells
  go_wp2_with fail
  exact bodyPost_ret (ZG Tryz.results79 _ _ (w.heap.size+1) _ _ (0,0) _ (by rfl) (Z3Z H6.out.tid _ _) Tryz.underlying48 rfl Z52) (by rfl) ⟨rfl,H6.out.end_ _ _,HPO6.out.kept (Z3n _ _ _ _) (by have:=HPO.out.lt;omega),_,_,_,(HH6.out.kept (Z3n _ _ _ _) (fun k hk e=>by rcases hk with x | x;have:=x.2.1;omega;omega)).mono (fun k x=>by rcases x with x | x;exact Or.inl x.1;exact Or.inr (by omega))⟩
section
variable {w:World} {hb pb:Nat} {F:Nat->Prop} {H:List (List (Option Tup))}
theorem Zo.lim2 {n q:Nat} (h:Zo w hb pb F H) (hq:ZR w q n):Zo w hb pb (fun k=>F k/\k < w.heap.size/\k ≠ q) H:=by
 obtain ⟨v,ps,rb,h⟩:=h
 exact ⟨v,ps,rb,h.lim2 hq⟩
theorem Zdl (left:Nat) (t:Tup) (A:Option Addr) (cap:Nat) (S:Nat->Prop) (h:Zo w hb pb F H) (hpo:ZR w pb left) (hle:H.length+left <= 256)
  (hby:∀ x ∈ t.data,x < 256) (hd:Rd w S 1 A t.data.length (Z9 t.data)) (hS:∀ k,S k->¬ F k/\k ≠ pb) :
  Calls Tryz.prog 79 #[.pointer (some ⟨hb,0,none⟩),ZC t A cap] w fun e w'=>e=.returned (.tuple #[.agg #[.int .i64 (Z12 H left t).1.1,.int .i64 (Z12 H left t).1.2.1],.int .i64 (Z12 H left t).1.2.2])/\Z0 (fun k=>F k ∨ k=pb) w w'/\ZR w' pb (Z12 H left t).2.2/\Zo w' hb pb (fun k=>F k ∨ w.heap.size <= k) (Z12 H left t).2.1:=by
 rcases ht:t.rightB with _ | _
 ·have e:Z12 H left t=((0,0,3),H,left):=by unfold Z12;rw [if_pos ht]
  rw [e]
  refine (Z8j hb t A cap S w ht hby hd).mono ?_
  rintro e w' ⟨rfl,hq⟩
  exact ⟨rfl,hq.mono (fun _ _ x=>x.elim),hpo.kept hq (fun x=>x),(h.kept hq (fun _ _ x=>x)).mono (fun _ x=>Or.inl x)⟩
 ·rcases hf:Z1p H t.data.length with _ | i
  ·rcases left with _ | left
   ·have e:Z12 H 0 t=((0,0,12),H,0):=by unfold Z12;rw [if_neg (by simp [ht]),hf];rfl
    rw [e]
    refine (Z8k hb pb F H t A cap S w h hpo ht hf hby hd).mono ?_
    rintro e w' ⟨rfl,hq⟩
    exact ⟨rfl,hq.mono (fun _ _ x=>x.elim),hpo.kept hq (fun x=>x),(h.kept hq (fun _ _ x=>x)).mono (fun _ x=>Or.inl x)⟩
   ·have e:Z12 H (left+1) t=(((H.length:Int),0,0),H ++ [[some t]],left):=by unfold Z12;rw [if_neg (by simp [ht]),hf];rfl
    rw [e]
    exact Z8l hb pb left F H t A cap S w h hpo ht hf hle hby hd hS
  ·obtain ⟨T,hT,_⟩:=Z6g hf
   have e:Z12 H left t=(((i:Int),(freeT T:Int),0),H.set i (Z1v T t),left):=by
    unfold Z12
    rw [if_neg (by simp [ht]),hf]
    show (((i:Int),(freeT (H.getD i []):Int),(0:Int)),H.set i (Z1v (H.getD i []) t),left)=_
    rw [Z7G hT]
   rw [e]
   refine (Z7N hb pb _ H T i t A cap S w (h.lim2 hpo) ht hf hT hby hd).mono ?_
   rintro e w' ⟨rfl,ho,hh⟩
   exact ⟨rfl,ho.mono (fun _ _ x=>Or.inl x.1),hpo.kept ho (fun x=>x.2.2 rfl),hh.mono (fun _ x=>Or.inl x.1)⟩
theorem Z4l {S:Nat->Prop} {W W':World} {b:Nat} {pg sl:Int} (h:W.heap[b]?=some (.cells #[.int .i64 pg,.int .i64 sl] 48 (0,0))) (ho:Z0 S W W') (hn:¬ S b):W'.cell? ⟨b,0,none⟩=some (.int .i64 pg)/\W'.cell? ⟨b,1,none⟩=some (.int .i64 sl):=by
 have:=ho.get h hn
 exact ⟨by rw [Z1 this];rfl,by rw [Z1 this];rfl⟩
theorem Zbg (hp:Option Addr) (pg sl:Int) (w:World) (hpg:∀ W:World,Quiet w W->Calls Tryz.prog 68 #[.pointer hp,.int .i64 pg] W fun e w'=>e=.returned (.pointer none)/\W=w') :
  Calls Tryz.prog 132 #[.pointer hp,.agg #[.int .i64 pg,.int .i64 sl]] w fun e w'=>e=.returned (.int .i64 15)/\Quiet w w':=by
 have HPG:=zh hpg
 have HT:=zh (Z4 w (.cells #[.int .i64 pg,.int .i64 sl] 48))
 have HQ:Hid (Quiet w (w.alloc (.cells #[.int .i64 pg,.int .i64 sl] 48))):=(Z0.refl _ _).alloc _
 clear hpg
 go_enter Tryz.func132,Tryz.ntmps132
 go_wp2_with fail
 go_region_held3 (fun w'=>w'.cell? ⟨w.heap.size,0,none⟩=some (.int .i64 pg)/\w'.cell? ⟨w.heap.size,1,none⟩=some (.int .i64 sl))
  (first | go_keep | exact Z4l (by exact HT.out) ho3 (fun x=>x) | fail)
  (first
    | (go_at_call 68;go_must (refine (HPG.out _ (HQ.out.drew)).mono ?_;rintro e w2 ⟨rfl,rfl⟩))
    | (go_at_call 171;go_must (refine (Zbc sl _).mono ?_;rintro e w3 ⟨rfl,ho3⟩))
    | fail)
 go_wp2
 go_ret
 exact ⟨rfl,(HQ.out.drew).trans ho3⟩
theorem Z9U (k:Nat) (sl:Int) (T:List (Option Tup)) (h:Zo w hb pb F H) (hT:H[k]?=some T) (hs:ZY T sl=none) :
  Calls Tryz.prog 132 #[.pointer (some ⟨hb,0,none⟩),.agg #[.int .i64 (k:Int),.int .i64 sl]] w fun e w'=>e=.returned (.int .i64 15)/\Quiet w w':=by
 obtain ⟨v,ps,rb,h⟩:=h
 obtain ⟨p,hp,hpt⟩:=h.pg k T hT
 have HQ:Hid (Quiet w (w.alloc (.cells #[.int .i64 (k:Int),.int .i64 sl] 48))):=(Z0.refl _ _).alloc _
 have HT:=zh (Z4 w (.cells #[.int .i64 (k:Int),.int .i64 sl] 48))
 have HPG:Hid (∀ W:World,Quiet w W->Calls Tryz.prog 68 #[.pointer (some ⟨hb,0,none⟩),.int .i64 (k:Int)] W fun e w'=>e=.returned (.pointer (some ⟨p,0,none⟩))/\W=w'):=fun W hq=>Z1R k p (h.kept hq (fun _ _ x=>x)) hp
 have HFR:Hid (∀ W:World,Quiet w W->Calls Tryz.prog 171 #[.pointer (some ⟨p,0,none⟩),.int .i64 sl] W fun e w'=>e=.returned (.int .i64 15)/\Quiet W w'):=fun W hq=>Z8V p T sl W (hpt.kept hq (fun x=>x)) hs
 clear h hp hpt hT hs
 go_enter Tryz.func132,Tryz.ntmps132
 go_wp2_with fail
 go_region_held3 (fun w'=>w'.cell? ⟨w.heap.size,0,none⟩=some (.int .i64 (k:Int))/\w'.cell? ⟨w.heap.size,1,none⟩=some (.int .i64 sl))
  (first | go_keep | exact Z4l (by exact HT.out) ho3 (fun x=>x) | fail)
  (first
    | (go_at_call 68;go_must (refine (HPG.out _ (HQ.out.drew)).mono ?_;rintro e w2 ⟨rfl,rfl⟩))
    | (go_at_call 171;go_must (refine (HFR.out _ (HQ.out.drew)).mono ?_;rintro e w3 ⟨rfl,ho3⟩))
    | fail)
 go_wp2
 go_ret
 exact ⟨rfl,(HQ.out.drew).trans ho3⟩
theorem Z9V (k:Nat) (sl:Int) (T:List (Option Tup)) (t:Tup) (h:Zo w hb pb F H) (hT:H[k]?=some T) (hs:ZY T sl=some t) :
  Calls Tryz.prog 132 #[.pointer (some ⟨hb,0,none⟩),.agg #[.int .i64 (k:Int),.int .i64 sl]] w fun e w'=>e=.returned (.int .i64 0)/\Z0 F w w'/\Zo w' hb pb F (H.set k (Z0d (T.set sl.toNat none))):=by
 have h256:=h.most
 obtain ⟨v,ps,rb,h⟩:=h.lim
 obtain ⟨p,hp,hpt⟩:=h.pg k T hT
 have hkl:k < H.length:=(zi.1 hT).1
 have HQ:Hid (Quiet w (w.alloc (.cells #[.int .i64 (k:Int),.int .i64 sl] 48))):=(Z0.refl _ _).alloc _
 have HT:=zh (Z4 w (.cells #[.int .i64 (k:Int),.int .i64 sl] 48))
 have HPG:Hid (∀ W:World,Quiet w W->Calls Tryz.prog 68 #[.pointer (some ⟨hb,0,none⟩),.int .i64 (k:Int)] W fun e w'=>e=.returned (.pointer (some ⟨p,0,none⟩))/\W=w'):=fun W hq=>Z1R k p (h.kept hq (fun _ _ x=>x)) hp
 have HFR:Hid (∀ W:World,Quiet w W->Calls Tryz.prog 171 #[.pointer (some ⟨p,0,none⟩),.int .i64 sl] W fun e w'=>e=.returned (.int .i64 0)/\Z0 (·=p) W w'/\Z0t w' p (Z0d (T.set sl.toNat none))):=fun W hq=>Z8U p t T sl W (hpt.kept hq (fun x=>x)) hs
 have HH:=zh h
 have HHP:=zh hp
 have HPL:Hid (p < w.heap.size):=hpt.lt
 clear h hp hpt hT hs
 go_enter Tryz.func132,Tryz.ntmps132
 go_wp2_with fail
 go_region_held3 (fun w'=>w'.cell? ⟨w.heap.size,0,none⟩=some (.int .i64 (k:Int))/\w'.cell? ⟨w.heap.size,1,none⟩=some (.int .i64 sl))
  (first | go_keep | exact Z4l (by exact HT.out) ho3 (by have:=HPL.out;omega) | fail)
  (first
    | (go_at_call 68;go_must (refine (HPG.out _ (HQ.out.drew)).mono ?_;rintro e w2 ⟨rfl,rfl⟩))
    | (go_at_call 171;go_must (refine (HFR.out _ (HQ.out.drew)).mono ?_;rintro e w3 ⟨rfl,ho3,hp3⟩))
    | fail)
 have HH3:=zh ((HH.out.kept HQ.out.drew (fun _ _ x=>x)).turn HHP.out ho3 hp3)
 have HO3:Hid (Z0 F w w3):=((HQ.out.drew).mono (T:=F) (fun _ _ x=>x.elim)).trans' ho3 (fun j _ e=>by subst e;exact (HH.out.foot.2.2.1 j (List.mem_of_getElem? HHP.out)).1)
 obtain ⟨t0,t1⟩:=Z4l (by exact HT.out) ho3 (by have:=HPL.out;omega)
 clear ho3 hp3 HPG HFR
 go_wp2_with fail
 refine (Z6U k p _ HH3.out HHP.out (by rw [List.getElem?_set_self hkl]) (by simp;omega) (by omega)).mono ?_
 rintro e w5 ⟨rfl,ho5,hh5⟩
 rw [ZaB H k _ hkl] at hh5
 have HH5:=zh hh5
 have HO5:Hid (Z0 F w w5):=HO3.out.trans' ho5 (fun j _ e=>by subst e;exact HH.out.foot.2.1.1)
 clear ho5 hh5
 go_wp2
 go_ret
 exact ⟨rfl,HO5.out,_,_,_,HH5.out.mono (fun _ x=>x.1)⟩
theorem ZgC (pg sl:Int) (h:Zo w hb pb F H) :
  Calls Tryz.prog 132 #[.pointer (some ⟨hb,0,none⟩),.agg #[.int .i64 pg,.int .i64 sl]] w fun e w'=>e=.returned (.int .i64 (Z1q H pg sl).1)/\Z0 F w w'/\Zo w' hb pb F (Z1q H pg sl).2:=by
 by_cases hn:pg < 0 ∨ (H.length:Int) <= pg
 ·have e:Z1q H pg sl=(15,H):=by unfold Z1q;rw [Z13 hn]
  rw [e]
  refine (Zbg (some ⟨hb,0,none⟩) pg sl w (fun W hq=>?_)).mono ?_
  ·obtain ⟨v,ps,rb,h⟩:=h
   exact Z3Y pg (h.kept hq (fun _ _ x=>x)) hn
  ·rintro e w' ⟨rfl,hq⟩
   exact ⟨rfl,hq.mono (fun _ _ x=>x.elim),h.kept hq (fun _ _ x=>x)⟩
 ·obtain ⟨k,rfl⟩:=Int.eq_ofNat_of_zero_le (show 0 <= pg by omega)
  have hT:H[k]?=some (H.getD k []):=by
   rw [List.getD_eq_getElem?_getD,zg (show k < H.length by omega)];rfl
  have hg:=Z1f sl hT
  rcases hs:ZY (H.getD k []) sl with _ | t
  ·have e:Z1q H (k:Int) sl=(15,H):=by unfold Z1q;rw [hg,hs]
   rw [e]
   refine (Z9U k sl _ h hT hs).mono ?_
   rintro e w' ⟨rfl,hq⟩
   exact ⟨rfl,hq.mono (fun _ _ x=>x.elim),h.kept hq (fun _ _ x=>x)⟩
  ·have e:Z1q H (k:Int) sl=(0,H.set k (Z0d ((H.getD k []).set sl.toNat none))):=by unfold Z1q;rw [hg,hs];rfl
   rw [e]
   exact Z9V k sl _ t h hT hs
end
section
variable {w W W':World} {K K':Nat->Prop} {hb pb:Nat} {H:List (List (Option Tup))} {left:Nat}
end
theorem Z6W {H:List (List (Option Tup))} {i:Nat} {T T':List (Option Tup)} (h:H[i]?=some T):usedH (H.set i T')+Z0r T=usedH H+Z0r T':=Z5U Z0r H i T T' h
theorem ZgI (t:Tup) (s:Int):ZY [some t] s=if s=0 then some t else none:=by
 rcases Int.lt_or_le s 0 with h | h
 ·rw [Z2R _ h,if_neg (by omega)]
 ·obtain ⟨n,rfl⟩:=Int.eq_ofNat_of_zero_le h
  rw [Z1g]
  rcases n with _ | n
  ·rfl
  ·rw [if_neg (by omega)];rfl
structure ZbO (H H':List (List (Option Tup))) (pg sl:Int) (t:Tup):Prop where
 get:∀ p s,ZM H' p s=if p=pg/\s=sl then some t else ZM H p s
 was:ZM H pg sl=none
 used:usedH H'=usedH H+1
 fit:∀ T ∈ H',Fits T
 pos:0 <= pg/\0 <= sl
 len:H'.length <= H.length+1
theorem ZgJ {H:List (List (Option Tup))} {left i:Nat} {t:Tup} {T:List (Option Tup)} (hr:t.rightB=true) (hf:Z1p H t.data.length=some i) (hT:H[i]?=some T):Z12 H left t=(((i:Int),(freeT T:Int),0),H.set i (Z1v T t),left):=by
 unfold Z12
 rw [if_neg (by simp [hr]),hf]
 show (((i:Int),(freeT (H.getD i []):Int),(0:Int)),H.set i (Z1v (H.getD i []) t),left)=_
 rw [Z7G hT]
theorem ZgK {H:List (List (Option Tup))} {left:Nat} {t:Tup} (hr:t.rightB=true) (hf:Z1p H t.data.length=none):Z12 H (left+1) t=(((H.length:Int),0,0),H ++ [[some t]],left):=by
 unfold Z12
 rw [if_neg (by simp [hr]),hf]
 rfl
theorem ZgL {t:Tup} (hr:t.rightB=true):t.data.length <= 200:=(of_decide_eq_true hr).2.2.2.2
theorem ZeY {H:List (List (Option Tup))} {i:Nat} {t:Tup} {T:List (Option Tup)} (hfit:∀ T ∈ H,Fits T) (hT:H[i]?=some T) (hrm:(t.data.length:Int) <= ZP T):ZbO H (H.set i (Z1v T t)) (i:Int) (freeT T:Int) t:=by
 have hi:i < H.length:=(zi.1 hT).1
 refine ⟨fun p s=>?_,?_,?_,fun T' hT'=>?_,⟨by omega,by omega⟩,by simp⟩
 ·rw [Z8n H i hi,ZgD]
  by_cases x:p=i
  ·subst x
   rw [if_pos rfl]
   by_cases y:s=freeT T
   ·rw [if_pos y,if_pos ⟨rfl,y⟩]
   ·rw [if_neg y,if_neg (fun z=>y z.2),Z1f s hT]
  ·rw [if_neg x,if_neg (fun z=>x z.1)]
 ·rw [Z1f _ hT,Z1g]
  exact Z93 T
 ·have:=Z6W (T':=Z1v T t) hT
  rw [Zip] at this
  omega
 ·rcases List.mem_or_eq_of_mem_set hT' with x | x
  ·exact hfit T' x
  ·rw [x];exact Fits.ins hrm
theorem ZeZ {H:List (List (Option Tup))} {t:Tup} (hfit:∀ T ∈ H,Fits T) (hr:t.rightB=true):ZbO H (H ++ [[some t]]) (H.length:Int) 0 t:=by
 refine ⟨fun p s=>?_,Z13 (Or.inr (Int.le_refl _)),?_,fun T' hT'=>?_,⟨by omega,by omega⟩,by simp⟩
 ·rw [ZgH,ZgI]
  by_cases x:p=H.length
  ·subst x
   rw [if_pos rfl]
   by_cases y:s=0
   ·rw [if_pos y,if_pos ⟨rfl,y⟩]
   ·rw [if_neg y,if_neg (fun z=>y z.2),Z13 (Or.inr (Int.le_refl _))]
  ·rw [if_neg x,if_neg (fun z=>x z.1)]
 ·unfold usedH
  rw [List.map_append,List.sum_append]
  rfl
 ·rcases List.mem_append.1 hT' with x | x
  ·exact hfit T' x
  ·simp at x
   subst x
   have:=ZgL hr
   unfold Fits
   simp [Z0T,Tup.size]
   omega
theorem ZaC {H:List (List (Option Tup))} {left:Nat} {t:Tup} (hfit:∀ T ∈ H,Fits T) (hr:t.rightB=true) (h:0 < left ∨ (Z1p H t.data.length).isSome=true) :
  ∃ pg sl H' left',Z12 H left t=((pg,sl,0),H',left')/\ZbO H H' pg sl t/\((Z1p H t.data.length).isSome=true->H'.length=H.length/\left'=left)/\H'.length+left'=H.length+left:=by
 rcases hf:Z1p H t.data.length with _ | i
 ·rw [hf] at h
  obtain ⟨left,rfl⟩:∃ l,left=l+1:=⟨left - 1,by rcases h with h | h;omega;simp at h⟩
  exact ⟨_,_,_,_,ZgK hr hf,ZeZ hfit hr,fun x=>by simp at x,by simp;omega⟩
 ·obtain ⟨T,hT,hrm⟩:=Z6g hf
  exact ⟨_,_,_,_,ZgJ hr hf hT,ZeY hfit hT hrm,fun _=>⟨by simp,rfl⟩,by simp⟩
structure ZkO (H H':List (List (Option Tup))) (pg sl:Int) (t:Tup):Prop where
 get:∀ p s,ZM H' p s=if p=pg/\s=sl then none else ZM H p s
 used:usedH H'+1=usedH H
 fit:∀ T ∈ H',Fits T
 len:H'.length=H.length
 room:(Z1p H' t.data.length).isSome=true
theorem Zf0 {H:List (List (Option Tup))} {pg sl:Int} {t:Tup} (hfit:∀ T ∈ H,Fits T) (h:ZM H pg sl=some t):∃ H',Z1q H pg sl=(0,H')/\ZkO H H' pg sl t:=by
 have h0:¬ (pg < 0 ∨ (H.length:Int) <= pg):=fun x=>by rw [Z13 x] at h;cases h
 obtain ⟨k,rfl⟩:=Int.eq_ofNat_of_zero_le (show 0 <= pg by omega)
 have hk:k < H.length:=by omega
 obtain ⟨T,hT⟩:∃ T,H[k]?=some T:=⟨_,zg hk⟩
 have hg:ZY T sl=some t:=by rw [<- Z1f sl hT];exact h
 obtain ⟨s0,hs⟩:=Z2Y hg
 obtain ⟨j,rfl⟩:=Int.eq_ofNat_of_zero_le s0
 rw [Int.toNat_natCast] at hs
 have hj:j < T.length:=(zi.1 hs).1
 have hF:=Fits.free (hfit T (List.mem_of_getElem? hT)) hs
 refine ⟨H.set k (Z0d (T.set j none)),?_,fun p s=>?_,?_,fun T' hT'=>?_,by simp,?_⟩
 ·unfold Z1q
  rw [h]
  show ((0:Int),H.set (k:Int).toNat (Z0d ((H.getD (k:Int).toNat []).set (j:Int).toNat none)))=_
  rw [Int.toNat_natCast,Int.toNat_natCast,Z7G hT]
 ·rw [Z8n H k hk,Z94,Z6V T j hj]
  by_cases x:p=k
  ·subst x
   rw [if_pos rfl]
   by_cases y:s=j
   ·rw [if_pos y,if_pos ⟨rfl,y⟩]
   ·rw [if_neg y,if_neg (fun z=>y z.2),Z1f s hT]
  ·rw [if_neg x,if_neg (fun z=>x z.1)]
 ·have h1:=Z6W (T':=Z0d (T.set j none)) hT
  rw [ZgF] at h1
  have h2:=Z8m (u:=none) hs
  simp at h2
  omega
 ·rcases List.mem_or_eq_of_mem_set hT' with x | x
  ·exact hfit T' x
  ·rw [x];exact hF.1
 ·unfold Z1p
  rcases hx:(H.set k (Z0d (T.set j none))).findIdx? (fun T=>decide ((t.data.length:Int) <= ZP T)) with _ | i
  ·rw [List.findIdx?_eq_none_iff] at hx
   have:=hx (Z0d (T.set j none)) (by
     rw [List.mem_iff_getElem?]
     exact ⟨k,by rw [List.getElem?_set_self hk]⟩)
   rw [decide_eq_false_iff_not] at this
   exact absurd hF.2 this
  ·rfl
structure Inv (H:List (List (Option Tup))) (l:List ((Int × Int) × Tup)):Prop where
 used:usedH H=l.length
 nd:(l.map (·.1)).Nodup
 got:∀ x ∈ l,ZM H x.1.1 x.1.2=some x.2
 fit:∀ T ∈ H,Fits T
theorem Inv.start:Inv [] []:=⟨rfl,List.nodup_nil,fun x hx=>by simp at hx,fun T hT=>by simp at hT⟩
theorem Inv.ins {H H':List (List (Option Tup))} {l:List ((Int × Int) × Tup)} {pg sl:Int} {t:Tup} (h:Inv H l) (hi:ZbO H H' pg sl t):Inv H' (l ++ [((pg,sl),t)]):=by
 have hne:∀ x ∈ l,x.1 ≠ (pg,sl):=fun x hx e=>by
  have:=h.got x hx
  rw [e,hi.was] at this
  cases this
 refine ⟨by rw [hi.used,h.used];simp,?_,fun x hx=>?_,hi.fit⟩
 ·rw [List.map_append,List.nodup_append]
  refine ⟨h.nd,by simp,fun a ha b hb=>?_⟩
  obtain ⟨x,hx,rfl⟩:=List.mem_map.1 ha
  simp at hb
  subst hb
  exact hne x hx
 ·rw [hi.get]
  rcases List.mem_append.1 hx with y | y
  ·rw [if_neg (fun z=>hne x y (by rw [<- z.1,<- z.2]))]
   exact h.got x y
  ·simp at y
   subst y
   rw [if_pos ⟨rfl,rfl⟩]
theorem Z56:Z0c Tryz.prog 93 48 2 16:=Z0c.mk' (.agg #[.int .i64 0,.int .i64 0]) Tryz.underlying93 (by kernel_rfl) rfl (by decide)
abbrev TidsAt (w:World) (v:Value) (l:List (Int × Int)):Prop:=w.ownsRow 0 48 2 v l.length (ZU l)
theorem Zir (w:World) (p:Int × Int):Rd (w.alloc (.cells #[.int .i64 p.1,.int .i64 p.2] 48)) (fun _=>True) 2 (some ⟨w.heap.size,0,none⟩) 1 (ZU [p]):=Rd.new w 2 1 (ZU [p]) _ _ rfl trivial
section
variable {w W W':World} {K K':Nat->Prop} {hb pb:Nat} {H:List (List (Option Tup))} {left:Nat}
end
theorem Z96 {w:World} {b:Nat} {t:TypeId} {fr:Nat × Nat} (h:w.heap[b]?=some (.cells #[.int .u64 0,.int .u64 0,.int .u64 0,.int .i64 0,.int .i64 0,.slice none 0 0] t fr)) :
  w.cell? ⟨b,0,none⟩=some (.int .u64 0)/\w.cell? ⟨b,1,none⟩=some (.int .u64 0)/\w.cell? ⟨b,2,none⟩=some (.int .u64 0)/\w.cell? ⟨b,3,none⟩=some (.int .i64 0)/\w.cell? ⟨b,4,none⟩=some (.int .i64 0)/\w.cell? ⟨b,5,none⟩=some (.slice none 0 0) :=
 ⟨by rw [Z1 h];rfl,by rw [Z1 h];rfl,by rw [Z1 h];rfl,by rw [Z1 h];rfl,by rw [Z1 h];rfl,by rw [Z1 h];rfl⟩
theorem ZaE (w:World) (pg sl:Int):Quiet w ((w.alloc (.cells #[.int .i64 pg,.int .i64 sl] 48)).alloc (.cells #[.int .u64 0,.int .u64 0,.int .u64 0,.int .i64 0,.int .i64 0,.slice none 0 0] 96)) ∧
  ((w.alloc (.cells #[.int .i64 pg,.int .i64 sl] 48)).alloc (.cells #[.int .u64 0,.int .u64 0,.int .u64 0,.int .i64 0,.int .i64 0,.slice none 0 0] 96)).heap[w.heap.size]?=some (.cells #[.int .i64 pg,.int .i64 sl] 48 (0,0)) ∧
  ((w.alloc (.cells #[.int .i64 pg,.int .i64 sl] 48)).alloc (.cells #[.int .u64 0,.int .u64 0,.int .u64 0,.int .i64 0,.int .i64 0,.slice none 0 0] 96)).heap[w.heap.size+1]?=some (.cells #[.int .u64 0,.int .u64 0,.int .u64 0,.int .i64 0,.int .i64 0,.slice none 0 0] 96 (0,0)) :=
 ⟨((Z0.refl _ _).alloc _).alloc _,Zd (Z4 _ _) _,Z0y _ _ _⟩
theorem Z7U (h0 pp:Option Addr) (pg sl:Int) (w:World) (hpg:∀ W:World,Quiet w W->Calls Tryz.prog 68 #[.pointer h0,.int .i64 pg] W fun e w'=>e=.returned (.pointer pp)/\W=w')
  (hgt:∀ W:World,Quiet w W->Calls Tryz.prog 69 #[.pointer pp,.int .i64 sl] W (Z3X W)) :
  Calls Tryz.prog 32 #[.pointer h0,.agg #[.int .i64 pg,.int .i64 sl]] w (Z3X w):=by
 have HPG:=zh hpg
 have HGT:=zh hgt
 have H0:=zh (ZaE w pg sl)
 clear hpg hgt
 go_enter Tryz.func32,Tryz.ntmps32
 go_wp2_with fail
 go_region_held3 (fun w'=>w'.cell? ⟨w.heap.size,0,none⟩=some (.int .i64 pg)/\w'.cell? ⟨w.heap.size,1,none⟩=some (.int .i64 sl))
  (first | go_keep | exact Z4l (by exact H0.out.2.1) hq3 (fun x=>x) | fail)
  (first
    | (go_at_call 68;go_must (refine (HPG.out _ (H0.out.1.drew)).mono ?_;rintro e w2 ⟨rfl,rfl⟩))
    | (go_at_call 69;go_must (refine (HGT.out _ (H0.out.1.drew)).mono ?_;rintro e w3 ⟨rfl,hq3⟩;have hr3:=hq3.get (by exact H0.out.2.2) (fun x=>x);obtain ⟨z0,z1,z2,z3,z4,z5⟩:=Z96 hr3;have zf:=fun o=>Z7 hr3 o))
    | fail)
 have HX:=zh (Z1a hr3 (.int .u64 0) (.int .u64 0) (.int .u64 0) (.int .i64 0) (.int .i64 0) (.slice none 0 0))
 have HQ:Hid (Quiet w (sixSet w3 (w.heap.size+1) (.int .u64 0) (.int .u64 0) (.int .u64 0) (.int .i64 0) (.int .i64 0) (.slice none 0 0))):=(H0.out.1.drew.trans hq3).trans' (Z0L _ _ _ _ _ _ _ _) (fun k hk e=>by omega)
 clear hq3 hr3 HPG HGT H0 z0 z1 z2 z3 z4 z5 zf
 unfold sixSet at HX HQ
 go_wp2
 generalize ((((((w3.setCell ⟨w.heap.size+1,0,none⟩ (.int .u64 0)).setCell ⟨w.heap.size+1,1,none⟩ (.int .u64 0)).setCell ⟨w.heap.size+1,2,none⟩ (.int .u64 0)).setCell ⟨w.heap.size+1,3,none⟩ (.int .i64 0)).setCell ⟨w.heap.size+1,4,none⟩ (.int .i64 0)).setCell ⟨w.heap.size+1,5,none⟩ (.slice none 0 0))=W6 at HX HQ ⊢
 exact bodyPost_ret (ZG Tryz.results32 _ _ (w.heap.size+1) _ _ (0,0) _ (by rfl) HX.out Tryz.underlying96 rfl Z3m) (by rfl) ⟨rfl,HQ.out⟩
theorem ZgM {w W1 w5 W6:World} {v:Value} {l:List Nat} (hq:Quiet w W1) (hs:w.heap.size+1 < W1.heap.size) (h:ZH W1 w5 v l) (ho:Z0 (·=w.heap.size+1) w5 W6):ZH w W6 v l:=by
 have hz:=hq.size
 exact ⟨(hq.trans h.quiet).trans' ho (fun k hk e=>by omega),fun k e=>by have:=h.new k e;omega,Z5 h.own ho (fun k e x=>by have:=h.new k e;omega)⟩
theorem Zc8 (h0 pp:Option Addr) (pg sl:Int) (t:Tup) (w:World) (hpg:∀ W:World,Quiet w W->Calls Tryz.prog 68 #[.pointer h0,.int .i64 pg] W fun e w'=>e=.returned (.pointer pp)/\W=w')
  (hgt:∀ W:World,Quiet w W->Calls Tryz.prog 69 #[.pointer pp,.int .i64 sl] W (Z2G W t)) :
  Calls Tryz.prog 32 #[.pointer h0,.agg #[.int .i64 pg,.int .i64 sl]] w (Z2G w t):=by
 have HPG:=zh hpg
 have HGT:=zh hgt
 have H0:=zh (ZaE w pg sl)
 clear hpg hgt
 go_enter Tryz.func32,Tryz.ntmps32
 go_wp2_with fail
 go_region_held3 (fun w'=>w'.cell? ⟨w.heap.size,0,none⟩=some (.int .i64 pg)/\w'.cell? ⟨w.heap.size,1,none⟩=some (.int .i64 sl))
  (first | go_keep | exact Z4l (by exact H0.out.2.1) hf3.quiet (fun x=>x) | fail)
  (first
    | (go_at_call 68;go_must (refine (HPG.out _ (H0.out.1.drew)).mono ?_;rintro e w2 ⟨rfl,rfl⟩))
    | (go_at_call 69;go_must (refine (HGT.out _ (H0.out.1.drew)).mono ?_;rintro e w3 ⟨A3,c3,rfl,hf3⟩;unfold ZC;have hr3:=hf3.quiet.get (by exact H0.out.2.2) (fun x=>x);obtain ⟨z0,z1,z2,z3,z4,z5⟩:=Z96 hr3;have zf:=fun o=>Z7 hr3 o))
    | fail)
 have HX:=zh (Z1a hr3 (.int .u64 t.row) (.int .u64 t.xmin) (.int .u64 t.xmax) (.int .i64 t.pg) (.int .i64 t.sl) (.slice A3 t.data.length c3))
 have HQ:=zh (ZgM H0.out.1.drew (by show w.heap.size+1 < ((w.alloc _).alloc _).heap.size;simp) hf3 (Z0L w3 (w.heap.size+1) (.int .u64 t.row) (.int .u64 t.xmin) (.int .u64 t.xmax) (.int .i64 t.pg) (.int .i64 t.sl) (.slice A3 t.data.length c3)))
 clear hf3 hr3 HPG HGT H0 z0 z1 z2 z3 z4 z5 zf
 unfold sixSet at HX HQ
 go_wp2
 generalize ((((((w3.setCell ⟨w.heap.size+1,0,none⟩ (.int .u64 t.row)).setCell ⟨w.heap.size+1,1,none⟩ (.int .u64 t.xmin)).setCell ⟨w.heap.size+1,2,none⟩ (.int .u64 t.xmax)).setCell ⟨w.heap.size+1,3,none⟩ (.int .i64 t.pg)).setCell ⟨w.heap.size+1,4,none⟩ (.int .i64 t.sl)).setCell ⟨w.heap.size+1,5,none⟩ (.slice A3 t.data.length c3))=W6 at HX HQ ⊢
 exact bodyPost_ret (ZG Tryz.results32 _ _ (w.heap.size+1) _ _ (0,0) _ (by rfl) HX.out Tryz.underlying96 rfl Z3m) (by rfl) (Z8W HQ.out)
section
variable {w:World} {hb pb:Nat} {F:Nat->Prop} {H:List (List (Option Tup))}
theorem Zkp (pg sl:Int) (h:Zo w hb pb F H) (hg:ZM H pg sl=none):Calls Tryz.prog 32 #[.pointer (some ⟨hb,0,none⟩),.agg #[.int .i64 pg,.int .i64 sl]] w (Z3X w):=by
 obtain ⟨v,ps,rb,h⟩:=h
 by_cases hn:pg < 0 ∨ (H.length:Int) <= pg
 ·exact Z7U _ none pg sl w (fun W hq=>Z3Y pg (h.kept hq (fun _ _ x=>x)) hn) (fun W _=>Zc3 sl W)
 ·obtain ⟨k,rfl⟩:=Int.eq_ofNat_of_zero_le (show 0 <= pg by omega)
  obtain ⟨T,hT⟩:∃ T,H[k]?=some T:=⟨_,zg (show k < H.length by omega)⟩
  obtain ⟨p,hp,hpt⟩:=h.pg k T hT
  rw [Z1f sl hT] at hg
  exact Z7U _ (some ⟨p,0,none⟩) k sl w (fun W hq=>Z1R k p (h.kept hq (fun _ _ x=>x)) hp) (fun W hq=>Z5S p T sl W (hpt.kept hq (fun x=>x)) hg)
theorem Z4y (pg sl:Int) (t:Tup) (h:Zo w hb pb F H) (hg:ZM H pg sl=some t):Calls Tryz.prog 32 #[.pointer (some ⟨hb,0,none⟩),.agg #[.int .i64 pg,.int .i64 sl]] w (Z2G w t):=by
 obtain ⟨v,ps,rb,h⟩:=h
 have hn:¬ (pg < 0 ∨ (H.length:Int) <= pg):=fun x=>by rw [Z13 x] at hg;cases hg
 obtain ⟨k,rfl⟩:=Int.eq_ofNat_of_zero_le (show 0 <= pg by omega)
 obtain ⟨T,hT⟩:∃ T,H[k]?=some T:=⟨_,zg (show k < H.length by omega)⟩
 obtain ⟨p,hp,hpt⟩:=h.pg k T hT
 rw [Z1f sl hT] at hg
 exact Zc8 _ (some ⟨p,0,none⟩) k sl t w (fun W hq=>Z1R k p (h.kept hq (fun _ _ x=>x)) hp) (fun W hq=>Z5T p t T sl W (hpt.kept hq (fun x=>x)) hg)
theorem Z7V (w:World) (pg sl npg nsl:Int):Quiet w ((w.alloc (.cells #[.int .i64 pg,.int .i64 sl] 48)).alloc (.cells #[.int .i64 npg,.int .i64 nsl] 48)) ∧
  ((w.alloc (.cells #[.int .i64 pg,.int .i64 sl] 48)).alloc (.cells #[.int .i64 npg,.int .i64 nsl] 48)).heap[w.heap.size]?=some (.cells #[.int .i64 pg,.int .i64 sl] 48 (0,0)) ∧
  ((w.alloc (.cells #[.int .i64 pg,.int .i64 sl] 48)).alloc (.cells #[.int .i64 npg,.int .i64 nsl] 48)).heap[w.heap.size+1]?=some (.cells #[.int .i64 npg,.int .i64 nsl] 48 (0,0)) :=
 ⟨((Z0.refl _ _).alloc _).alloc _,Zd (Z4 _ _) _,Z0y _ _ _⟩
theorem Z9W (pg sl:Int) (x:Nat) (npg nsl:Int) (h:Zo w hb pb F H) (hn:pg < 0 ∨ (H.length:Int) <= pg) :
  Calls Tryz.prog 44 #[.pointer (some ⟨hb,0,none⟩),.agg #[.int .i64 pg,.int .i64 sl],.int .u64 (x:Int),.agg #[.int .i64 npg,.int .i64 nsl]] w fun e w'=>e=.returned (.int .i64 (Z02 [] sl x npg nsl).1)/\Quiet w w':=by
 obtain ⟨v,ps,rb,h⟩:=h
 have H0:=zh (Z7V w pg sl npg nsl)
 have HPG:=zh (Z3Y pg (h.kept H0.out.1 (fun _ _ x=>x)) hn)
 clear h hn
 go_enter Tryz.func44,Tryz.ntmps44
 go_wp2_with fail
 refine HPG.out.mono ?_
 rintro e w1 ⟨rfl,rfl⟩
 go_wp2_with fail
 refine (Z3x _).mono ?_
 rintro e w2 ⟨rfl,hq2,hs2,hp2⟩
 have HQ2:=zh (H0.out.1.trans hq2)
 obtain ⟨t0,t1⟩:=Z4l H0.out.2.1 hq2 (fun x=>x)
 obtain ⟨n0,n1⟩:=Z4l H0.out.2.2 hq2 (fun x=>x)
 simp only [World.size_alloc] at hp2
 have HST:=zh (Z7R (w.heap.size+1+1) [] sl x npg nsl w2 hp2)
 clear hq2 hs2 hp2 HPG H0
 go_wp2_with fail
 refine HST.out.mono ?_
 rintro e w3 ⟨rfl,ho3,hp3⟩
 go_wp2
 go_ret
 exact ⟨rfl,HQ2.out.trans' ho3 (fun k hk e=>by omega)⟩
theorem Zbh (k:Nat) (sl:Int) (x:Nat) (npg nsl:Int) (T:List (Option Tup)) (h:Zo w hb pb F H) (hT:H[k]?=some T) :
  Calls Tryz.prog 44 #[.pointer (some ⟨hb,0,none⟩),.agg #[.int .i64 (k:Int),.int .i64 sl],.int .u64 (x:Int),.agg #[.int .i64 npg,.int .i64 nsl]] w fun e w'=>e=.returned (.int .i64 (Z02 T sl x npg nsl).1)/\Z0 F w w'/\Zo w' hb pb F (H.set k (Z02 T sl x npg nsl).2):=by
 obtain ⟨v,ps,rb,h⟩:=h
 obtain ⟨p,hp,hpt⟩:=h.pg k T hT
 have hkl:k < H.length:=(zi.1 hT).1
 have H0:=zh (Z7V w k sl npg nsl)
 have hh1:=h.kept H0.out.1 (fun _ _ x=>x)
 have HPG:=zh (Z1R k p hh1 hp)
 have HST:=zh (Z7R p T sl x npg nsl _ (hpt.kept H0.out.1 (fun x=>x)))
 have HH:=zh hh1
 have HHP:=zh hp
 have hR:(H.set k (Z02 T sl x npg nsl).2).map ZP=H.map ZP:=by
  rw [List.map_set,Zdk]
  apply List.ext_getElem?
  intro j
  rw [List.getElem?_set]
  by_cases e:k=j
  ·subst e
   rw [if_pos rfl,if_pos (by simpa using hkl),List.getElem?_map,hT];rfl
  ·rw [if_neg e]
 have HR:=zh hR
 clear h hh1 hp hpt hT hR
 go_enter Tryz.func44,Tryz.ntmps44
 go_wp2_with fail
 refine HPG.out.mono ?_
 rintro e w1 ⟨rfl,rfl⟩
 go_wp2_with fail
 refine HST.out.mono ?_
 rintro e w3 ⟨rfl,ho3,hp3⟩
 have HH3:=zh (HH.out.turn HHP.out ho3 hp3)
 have HO3:Hid (Z0 F w w3):=(H0.out.1.mono (T:=F) (fun _ _ x=>x.elim)).trans' ho3 (fun j _ e=>by subst e;exact HH.out.foot.2.2.1 j (List.mem_of_getElem? HHP.out))
 clear ho3 hp3
 go_wp2
 go_ret
 exact ⟨rfl,HO3.out,_,_,_,by rw [HR.out];exact HH3.out⟩
theorem Zf2 (pg sl:Int) (x:Nat) (npg nsl:Int) (h:Zo w hb pb F H) :
  Calls Tryz.prog 44 #[.pointer (some ⟨hb,0,none⟩),.agg #[.int .i64 pg,.int .i64 sl],.int .u64 (x:Int),.agg #[.int .i64 npg,.int .i64 nsl]] w fun e w'=>e=.returned (.int .i64 (Z1l H pg sl x npg nsl).1)/\Z0 F w w'/\Zo w' hb pb F (Z1l H pg sl x npg nsl).2:=by
 by_cases hn:pg < 0 ∨ (H.length:Int) <= pg
 ·have e:Z1l H pg sl x npg nsl=((Z02 [] sl x npg nsl).1,H):=by unfold Z1l;rw [if_pos hn]
  rw [e]
  refine (Z9W pg sl x npg nsl h hn).mono ?_
  rintro e w' ⟨rfl,hq⟩
  exact ⟨rfl,hq.mono (fun _ _ x=>x.elim),h.kept hq (fun _ _ x=>x)⟩
 ·obtain ⟨k,rfl⟩:=Int.eq_ofNat_of_zero_le (show 0 <= pg by omega)
  obtain ⟨T,hT⟩:∃ T,H[k]?=some T:=⟨_,zg (show k < H.length by omega)⟩
  have e:Z1l H (k:Int) sl x npg nsl=((Z02 T sl x npg nsl).1,H.set k (Z02 T sl x npg nsl).2):=by
   unfold Z1l
   rw [if_neg hn,Int.toNat_natCast,Z7G hT]
  rw [e]
  exact Zbh k sl x npg nsl T h hT
end
theorem Z7H {z:Int} (h:-9223372036854775808 <= z/\z < 9223372036854775808):(Lit.int .i64 z).wf=true:=WalkArith.wf_i64 (by omega)
theorem far_bounds {pg sl:Int} (h:Z0O pg sl=false):-1 <= pg/\pg < 65536/\-1 <= sl/\sl < 65536:=by
 unfold Z0O at h
 split at h
 ·have:=of_decide_eq_false h
  omega
 ·have:=of_decide_eq_false h
  omega
def Zis:Value->Nat
 | .slice _ n _=>n
 | _=>0
section
variable {w wr w':World} {v:Value} {out:List (Int × Int)} {p:Int × Int}
end
def Z1h (w:World) (l:List (Int × Int)) (e:Ending) (w':World):Prop:=∃ v,e=.returned v/\Quiet w w'/\(∀ k,v.ownBlock=some k->w.heap.size <= k)/\TidsAt w' v l
structure Z1J (w wr:World) (v:Value) (l:List (Int × Int)):Prop where
 quiet:Quiet w wr
 row:TidsAt wr v l
 own:∀ k,v.ownBlock=some k->w.heap.size <= k
section
variable {w wr w':World} {v:Value} {l:List (Int × Int)}
theorem Z1J.start (h:Quiet w wr):Z1J w wr (.slice none 0 0) []:=⟨h,World.ownsRow_nil _ _ _ _,(fun _ x=>by cases x)⟩
theorem Z1J.quietly (h:Z1J w wr v l) (hq:Quiet wr w'):Z1J w w' v l:=⟨h.quiet.trans hq,Z5 h.row hq (fun _ _ x=>x),h.own⟩
theorem Z1J.step {w4:World} {v':Value} {p:Int × Int} (h:Z1J w wr v l) (hg:ZT (wr.alloc (.cells #[.int .i64 p.1,.int .i64 p.2] 48)) w4 48 2 v v' (l.length+1) (ZU l ++ ZU [p])):Z1J w w4 v' (l ++ [p]):=by
 have hsz:=h.quiet.size
 refine ⟨(h.quiet.alloc _).trans' hg.only (fun k hk e=>by have:=h.own k e;omega),?_,fun k e=>?_⟩
 ·unfold TidsAt
  rw [List.length_append,Z54]
  exact hg.own
 ·rcases hg.loc with x | x
  ·rw [x] at e;exact h.own k e
  ·rw [x] at e;injection e with e;simp only [World.size_alloc] at e;omega
theorem Z1J.post (h:Z1J w wr v l):Z1h w l (.returned v) wr:=⟨v,rfl,h.quiet,h.own,h.row⟩
end
theorem Zf3 (h0 pp:Option Addr) (n:Int) (T:List (Option Tup)) (w:World) (hT:T.length <= 127)
  (hpg:∀ W:World,Quiet w W->Calls Tryz.prog 68 #[.pointer h0,.int .i64 n] W fun e w'=>e=.returned (.pointer pp)/\W=w')
  (hsl:∀ W:World,Quiet w W->Calls Tryz.prog 102 #[.pointer pp] W fun e w'=>e=.returned (.int .i64 (T.length:Int))/\W=w')
  (hg0:∀ (W:World) (i:Int),Quiet w W->ZY T i=none->Calls Tryz.prog 69 #[.pointer pp,.int .i64 i] W (Z3X W))
  (hg1:∀ (W:World) (i:Int) (t:Tup),Quiet w W->ZY T i=some t->Calls Tryz.prog 69 #[.pointer pp,.int .i64 i] W (Z2G W t)) :
  Calls Tryz.prog 67 #[.pointer h0,.int .i64 n] w (Z1h w (Zk n T T.length)):=by
 have HPG:=zh hpg
 have HSL:=zh hsl
 have HG0:=zh hg0
 have HG1:=zh hg1
 obtain ⟨m,hm⟩:∃ m,T.length=m:=⟨_,rfl⟩
 rw [hm] at hT HSL ⊢
 have HM:=zh hm
 clear hpg hsl hg0 hg1 hm
 go_enter Tryz.func67,Tryz.ntmps67
 go_wp2_with fail
 refine (HPG.out _ (Z0.refl _ _)).mono ?_
 rintro e w1 ⟨rfl,rfl⟩
 go_wp2_with fail
 refine (HSL.out _ (Z0.refl _ _)).mono ?_
 rintro e w1 ⟨rfl,rfl⟩
 go_wp2_with fail
 go_loopw [15,5,7,8,9] (fun c cv _ _ _ wr=>∃ (k:Nat) (v':Value),k <= m/\c=.int .i64 (k:Int)/\cv=v'/\Z1J w wr v' (Zk n T k)) (fun c _ _ _ _ _=>m - (intOf c).toNat)
 case atStart=>exact ⟨0,_,Nat.zero_le _,rfl,rfl,Z1J.start (Z0.refl _ _)⟩
 case round =>
  obtain ⟨k,v',hk,rfl,rfl,hW⟩:=hrel
  have HW:=zh hW
  clear hW
  by_cases hlt:k < m
  ·have hle:=Z97 n T k
   rcases hg:ZY T (k:Int) with _ | t
   ·have HGT:=zh (HG0.out wr (k:Int) HW.out.quiet hg)
    have HP:=zh (Z6y (pg:=n) (by rw [<- Z1g];exact hg))
    clear hg
    go_wp2_with fail
    refine HGT.out.mono ?_
    rintro e w2 ⟨rfl,hq2⟩
    have HW2:=zh ((HW.out.quietly hq2).quietly ((Z0.refl (fun _=>False) w2).alloc (.cells #[.int .u64 0,.int .u64 0,.int .u64 0,.int .i64 0,.int .i64 0,.slice none 0 0] 96)))
    clear hq2 HGT HW
    go_wp2
    go_roundw
    case rel=>exact ⟨k+1,_,by omega,by go_num,rfl,by rw [HP.out];exact HW2.out⟩
    case measure=>simp [intOf];omega
   ·have HGT:=zh (HG1.out wr (k:Int) t HW.out.quiet hg)
    have HP:=zh (Z6z (pg:=n) (by rw [<- Z1g];exact hg))
    obtain ⟨l,hl⟩:∃ l,Zk n T k=l:=⟨_,rfl⟩
    rw [hl] at HP HW hle
    clear hg hl
    go_wp2_with fail
    refine HGT.out.mono ?_
    rintro e w2 ⟨A2,c2,rfl,hf2⟩
    unfold ZC
    have HW2:=zh ((HW.out.quietly hf2.quiet).quietly ((Z0.refl (fun _=>False) w2).alloc (.cells #[.int .u64 (t.row:Int),.int .u64 (t.xmin:Int),.int .u64 (t.xmax:Int),.int .i64 t.pg,.int .i64 t.sl,.slice A2 t.data.length c2] 96)))
    clear hf2 HGT HW
    go_upto_region 8 with fail
    generalize w2.alloc (.cells #[.int .u64 (t.row:Int),.int .u64 (t.xmin:Int),.int .u64 (t.xmax:Int),.int .i64 t.pg,.int .i64 t.sl,.slice A2 t.data.length c2] 96)=wa at HW2 ⊢
    have HROW:=zh (Z5 HW2.out.row ((Z0.refl (fun _=>False) wa).alloc (.cells #[.int .i64 n,.int .i64 (k:Int)] 48)) (fun _ _ x=>x))
    go_wp2_with (at_builtin;refine app Z56 rfl (.tmp 25) (.tmp 29) rfl rfl HROW.out rfl (Zir _ (n,(k:Int))) (Z55 [(n,(k:Int))]) (by unfold maxLen;omega) (by omega) ?_)
    intro v4 w4 hg4
    have HST:=zh (HW2.out.step (p:=(n,(k:Int))) hg4)
    clear hg4 HROW
    go_wp2
    go_roundw
    case rel=>exact ⟨k+1,_,by omega,by go_num,rfl,by rw [HP.out];exact HST.out⟩
    case measure=>simp [intOf];omega
  ·obtain rfl:k=m:=by omega
   go_wp2
   go_ret
   exact HW.out.post
section
variable {w:World} {hb pb:Nat} {F:Nat->Prop} {H:List (List (Option Tup))}
theorem Z98 (k:Nat) (T:List (Option Tup)) (h:Zo w hb pb F H) (hT:H[k]?=some T):Calls Tryz.prog 67 #[.pointer (some ⟨hb,0,none⟩),.int .i64 (k:Int)] w (Z1h w (Zk (k:Int) T T.length)):=by
 obtain ⟨v,ps,rb,h⟩:=h
 obtain ⟨p,hp,hpt⟩:=h.pg k T hT
 exact Zf3 _ (some ⟨p,0,none⟩) k T w hpt.len (fun W hq=>Z1R k p (h.kept hq (fun _ _ x=>x)) hp) (fun W hq=>Zdh p T W (hpt.kept hq (fun x=>x))) (fun W i hq hi=>Z5S p T i W (hpt.kept hq (fun x=>x)) hi) (fun W i t hq hi=>Z5T p t T i W (hpt.kept hq (fun x=>x)) hi)
end
structure Z0I (w:World) (S:Nat->Prop) (A:Option Addr) (c:Nat) (s:ZA):Prop where
 row:Rd w S 1 A s.run.length (ZE s.run)
 cap:s.run.length <= c/\c <= maxLen
 num:U64 s.own/\U64 s.xmin/\U64 s.xmax/\∀ x ∈ s.run,U64 x
def Zm (s:ZA) (A:Option Addr) (c:Nat):Value:=.agg #[.int .u64 (s.own:Int),.int .u64 (s.xmin:Int),.int .u64 (s.xmax:Int),.slice A s.run.length c]
theorem Z0I.kept {S T:Nat->Prop} {w w':World} {A:Option Addr} {c:Nat} {s:ZA} (h:Z0I w S A c s) (ho:Z0 T w w') (hs:∀ k,S k->¬ T k):Z0I w' S A c s:=⟨h.row.kept ho hs,h.cap,h.num⟩
theorem Z0I.mono {S T:Nat->Prop} {w:World} {A:Option Addr} {c:Nat} {s:ZA} (h:Z0I w S A c s) (hs:∀ k,S k->T k):Z0I w T A c s:=⟨h.row.mono hs,h.cap,h.num⟩
theorem ZgN {S:Nat->Prop} {A:Option Addr} {c x:Nat} {l:List Nat} {w:World} (h:Rd w S 1 A l.length (ZE l)) (hc:l.length <= c) (hm:c <= maxLen) :
  Calls Tryz.prog 179 #[.slice A l.length c,.int .u64 (x:Int)] w fun e w'=>(∃ z:Int,e=.returned (.int .i64 z)/\decide (0 <= z)=decide (x ∈ l))/\w=w':=by
 unfold maxLen at hm
 obtain ⟨n,hn⟩:∃ n,l.length=n:=⟨_,rfl⟩
 have HR:=zh h
 rw [hn] at HR hc ⊢
 have HN:=zh hn
 clear h hn
 obtain ⟨Z8,hP⟩:∃ P:Ending->Prop,(fun e=>∃ z:Int,e=.returned (.int .i64 z)/\decide (0 <= z)=decide (x ∈ l))=P:=⟨_,rfl⟩
 have HP:=zh hP
 show Calls _ _ _ _ fun e w'=>(fun e=>∃ z:Int,e=.returned (.int .i64 z)/\decide (0 <= z)=decide (x ∈ l)) e/\w=w'
 rw [hP]
 clear hP
 go_enter Tryz.func179,Tryz.ntmps179
 go_wp2
 go_loop [8,5] (fun c _=>∃ k:Nat,k <= n/\c=.int .i64 (k:Int)/\∀ j,j < k->l[j]? ≠ some x) (fun c _=>n - (intOf c).toNat)
 case atStart=>exact ⟨0,Nat.zero_le _,rfl,fun j hj=>absurd hj (by omega)⟩
 case round =>
  obtain ⟨k,hk,rfl,hno⟩:=hrel
  have HNO:=zh hno
  clear hno
  by_cases hlt:k < n
  ·obtain ⟨b,off,u,rfl,_,hu,hcell⟩:=HR.out.get hlt
   obtain ⟨y,hy,rfl⟩:∃ y,l[k]?=some y/\u=.int .u64 (y:Int):=by
    unfold ZE at hu
    rw [List.getElem?_map] at hu
    rcases h:l[k]? with _ | y
    ·rw [h] at hu;cases hu
    ·rw [h] at hu;injection hu with hu;exact ⟨y,rfl,hu.symm⟩
   have HY:=zh hy
   clear hu hy
   by_cases hxy:x=y
   ·subst hxy
    have HE:Hid (Z8 (.returned (.int .i64 (k:Int)))):=by
     rw [<- HP.out]
     exact ⟨k,rfl,by rw [decide_eq_decide];exact ⟨fun _=>List.mem_of_getElem? HY.out,fun _=>by omega⟩⟩
    go_wp2
    go_ret
    exact ⟨HE.out,rfl⟩
   ·have hne:¬ (x:Int)=y:=by omega
    have HK:Hid (∀ j,j < k+1->l[j]? ≠ some x):=fun j hj e=>by
     rcases Nat.lt_or_ge j k with a | a
     ·exact HNO.out j a e
     ·obtain rfl:j=k:=by omega
      rw [HY.out] at e
      injection e with e
      exact hxy e.symm
    clear hxy
    go_wp2
    go_round
    case rel=>exact ⟨k+1,by omega,by go_num,HK.out⟩
    case measure=>simp [intOf];omega
  ·have HE:Hid (Z8 (.returned (.int .i64 (-1)))):=by
    rw [<- HP.out]
    refine ⟨-1,rfl,?_⟩
    rw [decide_eq_decide]
    refine ⟨fun h=>by omega,fun h=>?_⟩
    obtain ⟨j,hj⟩:=List.mem_iff_getElem?.1 h
    have:=(zi.1 hj).1
    have hn:=HN.out
    exact absurd hj (HNO.out j (by omega))
   obtain rfl:k=n:=by omega
   go_wp2
   go_ret
   exact ⟨HE.out,rfl⟩
theorem Z6X {S:Nat->Prop} {A:Option Addr} {c x:Nat} {l:List Nat} {w:World} (h:Rd w S 1 A l.length (ZE l)) (hc:l.length <= c) (hm:c <= maxLen) :
  Calls Tryz.prog 156 #[.slice A l.length c,.int .u64 (x:Int)] w fun e w'=>e=.returned (.bool (decide (x ∈ l)))/\w=w':=by
 have HX:=zh (ZgN (x:=x) h hc hm)
 obtain ⟨r,hr⟩:∃ r,decide (x ∈ l)=r:=⟨_,rfl⟩
 rw [hr] at HX ⊢
 clear h hc hm hr
 go_enter Tryz.func156,Tryz.ntmps156
 go_wp2_with fail
 refine HX.out.mono ?_
 rintro e w1 ⟨⟨z,rfl,hz⟩,rfl⟩
 go_wp2
 go_ret
 exact ⟨rfl,rfl⟩
def Z0a (w:World) (b:Bool) (e:Ending) (w':World):Prop:=e=.returned (.bool b)/\Quiet w w'
section
variable {w:World} {F S:Nat->Prop} {lb c:Nat} {L:List Nat} {A:Option Addr} {s:ZA}
theorem ZaF (x:Nat) (h:ZJ w F lb L) (hs:Z0I w S A c s) (hx:U64 x) :
  Calls Tryz.prog 122 #[.pointer (some ⟨lb,0,none⟩),Zm s A c,.int .u64 (x:Int)] w (Z0a w (Z1i L s x)):=by
 have HQ:Hid (Quiet w (w.alloc (.cells #[.int .u64 (s.own:Int),.int .u64 (s.xmin:Int),.int .u64 (s.xmax:Int),.slice A s.run.length c] 76))):=(Z0.refl _ _).alloc _
 have HC:=zh (Z6X (x:=x) (hs.kept HQ.out (fun _ _ x=>x)).row hs.cap.1 hs.cap.2)
 have HST:=zh (Z2P (h.kept HQ.out (fun _ _ x=>x)) hx)
 have HS:=zh (rfl:Z1i L s x=Z1i L s x)
 unfold Zm
 obtain ⟨n,hn⟩:∃ n,s.run.length=n:=⟨_,rfl⟩
 rw [hn] at HC HQ HST ⊢
 obtain ⟨r,hr⟩:∃ r,Z1i L s x=r:=⟨_,rfl⟩
 have HR:=zh hr
 rw [hr]
 clear h hs hx hn HS hr
 by_cases h1:x=s.own
 ·have e1:(x:Int)=s.own:=by omega
  have HB:=zh (show r=true by
    rw [<- HR.out]
    unfold Z1i
    rw [decide_eq_true h1];rfl)
  rw [HB.out]
  clear h1 HB HR
  go_enter Tryz.func122,Tryz.ntmps122
  go_wp2
  go_ret
  exact ⟨rfl,HQ.out⟩
 ·have e1:¬ (x:Int)=s.own:=by omega
  by_cases h2:x < s.xmax
  ·have d2:decide (x < s.xmax)=true:=decide_eq_true h2
   by_cases h3:x ∈ s.run
   ·have HB:=zh (show r=false by
       rw [<- HR.out]
       unfold Z1i
       rw [decide_eq_false h1,decide_eq_true h3];simp)
    rw [decide_eq_true h3] at HC
    rw [HB.out]
    clear h1 h3 HB HR
    go_enter Tryz.func122,Tryz.ntmps122
    go_wp2_with fail
    refine HC.out.mono ?_
    rintro e w1 ⟨rfl,rfl⟩
    go_wp2
    go_ret
    exact ⟨rfl,HQ.out⟩
   ·have HB:=zh (show r=decide (stateL L x=2) by
       rw [<- HR.out]
       unfold Z1i
       rw [decide_eq_false h1,decide_eq_true h2,decide_eq_false h3];simp)
    rw [decide_eq_false h3] at HC
    obtain ⟨st,hst⟩:∃ st,stateL L x=st:=⟨_,rfl⟩
    rw [hst] at HB HST
    rw [HB.out,show decide (st=2)=decide ((st:Int)=2) by rw [decide_eq_decide];omega]
    clear h1 h3 hst HB HR
    go_enter Tryz.func122,Tryz.ntmps122
    go_wp2_with fail
    refine HC.out.mono ?_
    rintro e w1 ⟨rfl,rfl⟩
    go_wp2_with fail
    refine HST.out.mono ?_
    rintro e w1 ⟨rfl,m,rfl⟩
    go_wp2
    go_ret
    exact ⟨rfl,HQ.out.drewN m⟩
  ·have d2:decide (x < s.xmax)=false:=decide_eq_false h2
   have HB:=zh (show r=false by
     rw [<- HR.out]
     unfold Z1i
     rw [decide_eq_false h1,decide_eq_false h2];simp)
   rw [HB.out]
   clear h1 HB HR
   go_enter Tryz.func122,Tryz.ntmps122
   go_wp2
   go_ret
   exact ⟨rfl,HQ.out⟩
abbrev tupCells (t:Tup) (At:Option Addr) (ct:Nat):Array Value:=#[.int .u64 t.row,.int .u64 t.xmin,.int .u64 t.xmax,.int .i64 t.pg,.int .i64 t.sl,.slice At t.data.length ct]
abbrev snapCells (s:ZA) (A:Option Addr) (c:Nat):Array Value:=#[.int .u64 (s.own:Int),.int .u64 (s.xmin:Int),.int .u64 (s.xmax:Int),.slice A s.run.length c]
theorem Z57 (t:Tup) (At:Option Addr) (ct:Nat) (h:ZJ w F lb L) (hs:Z0I w S A c s) (h1:U64 t.xmin) (h2:U64 t.xmax) :
  Calls Tryz.prog 82 #[.pointer (some ⟨lb,0,none⟩),Zm s A c,ZC t At ct] w (Z0a w (Z1T L s t.xmin t.xmax)):=by
 have HQ:Hid (Quiet w ((w.alloc (.cells (snapCells s A c) 76)).alloc (.cells (tupCells t At ct) 96))):=((Z0.refl _ _).alloc _).alloc _
 have HS1:Hid (∀ W,Quiet w W->Calls Tryz.prog 122 #[.pointer (some ⟨lb,0,none⟩),Zm s A c,.int .u64 (t.xmin:Int)] W (Z0a W (Z1i L s t.xmin))):=fun W hq=>ZaF _ (h.kept hq (fun _ _ x=>x)) (hs.kept hq (fun _ _ x=>x)) h1
 have HS2:Hid (∀ W,Quiet w W->Calls Tryz.prog 122 #[.pointer (some ⟨lb,0,none⟩),Zm s A c,.int .u64 (t.xmax:Int)] W (Z0a W (Z1i L s t.xmax))):=fun W hq=>ZaF _ (h.kept hq (fun _ _ x=>x)) (hs.kept hq (fun _ _ x=>x)) h2
 have HT:=zh (Z0y w (.cells (snapCells s A c) 76) (.cells (tupCells t At ct) 96))
 have HN:=zh (Zd (Z4 w (.cells (snapCells s A c) 76)) (.cells (tupCells t At ct) 96))
 unfold Z1T
 unfold Zm ZC at *
 generalize Z1i L s t.xmin=r1 at HS1 ⊢
 generalize Z1i L s t.xmax=r2 at HS2 ⊢
 clear h hs h1 h2
 rcases r1 with _ | _
 ·go_enter Tryz.func82,Tryz.ntmps82
  go_wp2_with fail
  refine (HS1.out _ HQ.out).mono ?_
  rintro e w1 ⟨rfl,hq1⟩
  have HQ1:=zh (HQ.out.trans hq1)
  clear hq1
  go_wp2
  go_ret
  exact ⟨rfl,HQ1.out⟩
 ·by_cases h0:t.xmax=0
  ·have D0:=zh (show (t.xmax:Int)=0 by omega)
   rw [decide_eq_true h0]
   clear h0
   go_enter Tryz.func82,Tryz.ntmps82
   go_wp2_with fail
   refine (HS1.out _ HQ.out).mono ?_
   rintro e w1 ⟨rfl,hq1⟩
   have HQ1:=zh (HQ.out.trans hq1)
   have b1:=hq1.get (by exact HT.out) (fun x=>x)
   have c1:=Z1 b1 2
   simp only [zGA,zGS,zGZ,D0.out] at c1
   clear hq1 b1
   go_wp2
   go_ret
   exact ⟨rfl,HQ1.out⟩
  ·have d0:((t.xmax:Int) == 0)=false:=beq_false_of_ne (by omega)
   rw [decide_eq_false h0,Bool.true_and,Bool.false_or]
   clear h0
   go_enter Tryz.func82,Tryz.ntmps82
   go_wp2_with fail
   refine (HS1.out _ HQ.out).mono ?_
   rintro e w1 ⟨rfl,hq1⟩
   have HQ1:=zh (HQ.out.trans hq1)
   have b1:=hq1.get (by exact HT.out) (fun x=>x)
   have b0:=hq1.get (by exact HN.out) (fun x=>x)
   have c1:=Z1 b1 2
   obtain ⟨a0,a1,a2,a3⟩:=zC4 b0
   simp only [zGA,zGS,zGZ] at c1
   clear hq1 b1 b0
   go_wp2_with fail
   refine (HS2.out _ HQ1.out).mono ?_
   rintro e w2 ⟨rfl,hq2⟩
   have HQ2:=zh (HQ1.out.trans hq2)
   clear hq2
   go_wp2
   go_ret
   exact ⟨rfl,HQ2.out⟩
theorem ZgO (t:Tup) (At:Option Addr) (ct:Nat) (h:ZJ w F lb L) (hs:Z0I w S A c s) (h1:U64 t.xmin) (h2:U64 t.xmax) :
  Calls Tryz.prog 86 #[.pointer (some ⟨lb,0,none⟩),Zm s A c,ZC t At ct] w fun e w'=>e=.returned (.int .i64 (freeS L s t.xmin t.xmax:Int))/\Quiet w w':=by
 have HQ:Hid (Quiet w ((w.alloc (.cells (snapCells s A c) 76)).alloc (.cells (tupCells t At ct) 96))):=((Z0.refl _ _).alloc _).alloc _
 have HV:Hid (∀ W,Quiet w W->Calls Tryz.prog 82 #[.pointer (some ⟨lb,0,none⟩),Zm s A c,ZC t At ct] W (Z0a W (Z1T L s t.xmin t.xmax))):=fun W hq=>Z57 t At ct (h.kept hq (fun _ _ x=>x)) (hs.kept hq (fun _ _ x=>x)) h1 h2
 have HST:Hid (∀ W,Quiet w W->Calls Tryz.prog 70 #[.pointer (some ⟨lb,0,none⟩),.int .u64 (t.xmax:Int)] W fun e w'=>e=.returned (.int .i64 (stateL L t.xmax:Int))/\∃ n,w'=W.drewN n):=fun W hq=>Z2P (h.kept hq (fun _ _ x=>x)) h2
 have HT:=zh (Z0y w (.cells (snapCells s A c) 76) (.cells (tupCells t At ct) 96))
 have HN:=zh (Zd (Z4 w (.cells (snapCells s A c) 76)) (.cells (tupCells t At ct) 96))
 unfold freeS
 unfold Zm ZC at *
 generalize Z1T L s t.xmin t.xmax=r at HV ⊢
 generalize stateL L t.xmax=st at HST ⊢
 clear h hs h1 h2
 by_cases h0:t.xmax=0
 ·have d0:((t.xmax:Int) != 0)=false:=by simp;omega
  rw [if_neg (fun x=>x.1 h0)]
  clear h0 HST
  rcases r with _ | _
  all_goals
   go_enter Tryz.func86,Tryz.ntmps86
   go_wp2_with fail
   refine (HV.out _ HQ.out).mono ?_
   rintro e w1 ⟨rfl,hq1⟩
   have HQ1:=zh (HQ.out.trans hq1)
   clear hq1
   go_wp2
   go_ret
   exact ⟨rfl,HQ1.out⟩
 ·have d0:((t.xmax:Int) != 0)=true:=by simp;omega
  by_cases ho:t.xmax=s.own
  ·have d1:((t.xmax:Int) != s.own)=false:=by simp;omega
   rw [if_neg (fun x=>x.2.1 ho)]
   clear ho h0 HST
   rcases r with _ | _
   all_goals
    go_enter Tryz.func86,Tryz.ntmps86
    go_wp2_with fail
    refine (HV.out _ HQ.out).mono ?_
    rintro e w1 ⟨rfl,hq1⟩
    have HQ1:=zh (HQ.out.trans hq1)
    clear hq1
    go_wp2
    go_ret
    exact ⟨rfl,HQ1.out⟩
  ·have d1:((t.xmax:Int) != s.own)=true:=by simp;omega
   by_cases h3:st=3
   ·have d2:((st:Int) != 3)=false:=by simp;omega
    rw [if_neg (fun x=>x.2.2 h3)]
    clear ho h0 h3
    rcases r with _ | _
    all_goals
     go_enter Tryz.func86,Tryz.ntmps86
     go_wp2_with fail
     refine (HST.out _ HQ.out).mono ?_
     rintro e w1 ⟨rfl,n,rfl⟩
     go_wp2_with fail
     refine (HV.out _ (HQ.out.drewN n)).mono ?_
     rintro e w1 ⟨rfl,hq1⟩
     have HQ1:=zh ((HQ.out.drewN n).trans hq1)
     clear hq1
     go_wp2
     go_ret
     exact ⟨rfl,HQ1.out⟩
   ·have d2:((st:Int) != 3)=true:=by simp;omega
    rw [if_pos ⟨h0,ho,h3⟩]
    clear ho h0 h3 HV
    go_enter Tryz.func86,Tryz.ntmps86
    go_wp2_with fail
    refine (HST.out _ HQ.out).mono ?_
    rintro e w1 ⟨rfl,n,rfl⟩
    go_wp2
    go_ret
    exact ⟨rfl,HQ.out.drewN n⟩
theorem ZaG (t:Tup) (At:Option Addr) (ct:Nat) (hz:Nat) (h:ZJ w F lb L) (h1:U64 t.xmin) (h2:U64 t.xmax) :
  Calls Tryz.prog 33 #[.pointer (some ⟨lb,0,none⟩),ZC t At ct,.int .u64 (hz:Int)] w (Z0a w (Z0h L t.xmin t.xmax hz)):=by
 have HQ:Hid (Quiet w (w.alloc (.cells (tupCells t At ct) 96))):=(Z0.refl _ _).alloc _
 have HS1:Hid (∀ W,Quiet w W->Calls Tryz.prog 70 #[.pointer (some ⟨lb,0,none⟩),.int .u64 (t.xmin:Int)] W fun e w'=>e=.returned (.int .i64 (stateL L t.xmin:Int))/\∃ n,w'=W.drewN n):=fun W hq=>Z2P (h.kept hq (fun _ _ x=>x)) h1
 have HS2:Hid (∀ W,Quiet w W->Calls Tryz.prog 70 #[.pointer (some ⟨lb,0,none⟩),.int .u64 (t.xmax:Int)] W fun e w'=>e=.returned (.int .i64 (stateL L t.xmax:Int))/\∃ n,w'=W.drewN n):=fun W hq=>Z2P (h.kept hq (fun _ _ x=>x)) h2
 unfold Z0h
 unfold ZC at *
 generalize stateL L t.xmin=s1 at HS1 ⊢
 generalize stateL L t.xmax=s2 at HS2 ⊢
 clear h h1 h2
 by_cases ha:s1=3
 ·have d0:((s1:Int) == 3)=true:=by simp;omega
  rw [decide_eq_true ha,Bool.true_or]
  clear ha HS2
  go_enter Tryz.func33,Tryz.ntmps33
  go_wp2_with fail
  refine (HS1.out _ HQ.out).mono ?_
  rintro e w1 ⟨rfl,n,rfl⟩
  go_wp2
  go_ret
  exact ⟨rfl,HQ.out.drewN n⟩
 ·have d0:((s1:Int) == 3)=false:=by simp;omega
  rw [decide_eq_false ha,Bool.false_or]
  by_cases hx:t.xmax=0
  ·have d1:((t.xmax:Int) != 0)=false:=by simp;omega
   rw [decide_eq_false (show ¬ t.xmax ≠ 0 from fun x=>x hx),Bool.false_and,Bool.false_and]
   clear ha hx HS2
   go_enter Tryz.func33,Tryz.ntmps33
   go_wp2_with fail
   refine (HS1.out _ HQ.out).mono ?_
   rintro e w1 ⟨rfl,n,rfl⟩
   go_wp2
   go_ret
   exact ⟨rfl,HQ.out.drewN n⟩
  ·have d1:((t.xmax:Int) != 0)=true:=by simp;omega
   rw [decide_eq_true (show t.xmax ≠ 0 from hx),Bool.true_and]
   by_cases h2:s2=2
   ·have d2:((s2:Int) == 2)=true:=by simp;omega
    rw [decide_eq_true h2,Bool.true_and]
    clear ha hx h2
    by_cases hlt:t.xmax < hz
    ·rw [decide_eq_true hlt]
     go_enter Tryz.func33,Tryz.ntmps33
     go_wp2_with fail
     refine (HS1.out _ HQ.out).mono ?_
     rintro e w1 ⟨rfl,n,rfl⟩
     go_wp2_with fail
     refine (HS2.out _ (HQ.out.drewN n)).mono ?_
     rintro e w1 ⟨rfl,m,rfl⟩
     go_wp2
     go_ret
     exact ⟨rfl,HQ.out.drewN _⟩
    ·rw [decide_eq_false hlt]
     go_enter Tryz.func33,Tryz.ntmps33
     go_wp2_with fail
     refine (HS1.out _ HQ.out).mono ?_
     rintro e w1 ⟨rfl,n,rfl⟩
     go_wp2_with fail
     refine (HS2.out _ (HQ.out.drewN n)).mono ?_
     rintro e w1 ⟨rfl,m,rfl⟩
     go_wp2
     go_ret
     exact ⟨rfl,HQ.out.drewN _⟩
   ·have d2:((s2:Int) == 2)=false:=by simp;omega
    rw [decide_eq_false h2,Bool.false_and]
    clear ha hx h2
    go_enter Tryz.func33,Tryz.ntmps33
    go_wp2_with fail
    refine (HS1.out _ HQ.out).mono ?_
    rintro e w1 ⟨rfl,n,rfl⟩
    go_wp2_with fail
    refine (HS2.out _ (HQ.out.drewN n)).mono ?_
    rintro e w1 ⟨rfl,m,rfl⟩
    go_wp2
    go_ret
    exact ⟨rfl,HQ.out.drewN _⟩
end
structure Z3Q (w wr:World) (B:Nat) (A:Option Addr) (R:List Nat) (v:Value) (own n:Nat) (r:Nat × List Nat):Prop where
 quiet:Quiet w wr
 res:wr.heap[w.heap.size]?=some (.cells #[.int .u64 0,.int .u64 0,.int .u64 0,.slice none 0 0] 76 (0,0))
 box:wr.heap[w.heap.size+1]?=some (.cells #[.int .u64 (own:Int),.int .u64 (r.1:Int),.int .u64 (n:Int),v] 76 (0,0))
 row:wr.ownsRow 0 34 1 v r.2.length (ZE r.2)
 new:∀ k,v.ownBlock=some k->B <= k
 src:Rd wr (fun k=>w.heap.size+1 < k/\k < B) 1 A R.length (ZE R)
 big:w.heap.size+1 < B/\B <= wr.heap.size
section
variable {w wr:World} {B own n:Nat} {A:Option Addr} {R:List Nat} {v:Value} {r:Nat × List Nat}
theorem Z3Q.step {w4:World} {v4:Value} {x:Nat} (h:Z3Q w wr B A R v own n r) (hg:ZT (wr.alloc (.cells #[.int .u64 (x:Int)] 34)) w4 34 1 v v4 (r.2.length+1) (ZE r.2 ++ ZE [x])) (z:Int) (hz:z=((min r.1 x:Nat):Int)) :
  Z3Q w ((w4.setCell ⟨w.heap.size+1,3,none⟩ v4).setCell ⟨w.heap.size+1,1,none⟩ (.int .u64 z)) B A R v4 own n (min r.1 x,r.2 ++ [x]):=by
 subst hz
 have hb:=h.big
 have hnew:∀ k,v4.ownBlock=some k->B <= k:=fun k e=>by
  rcases hg.loc with y | y
  ·rw [y] at e;exact h.new k e
  ·rw [y] at e;injection e with e;simp only [World.size_alloc] at e;omega
 have hqa:Quiet wr (wr.alloc (.cells #[.int .u64 (x:Int)] 34)):=(Z0.refl _ _).alloc _
 have ho:Z0 (·=w.heap.size+1) w4 ((w4.setCell ⟨w.heap.size+1,3,none⟩ v4).setCell ⟨w.heap.size+1,1,none⟩ (.int .u64 ((min r.1 x:Nat):Int))):=((Z0.refl (·=w.heap.size+1) w4).setCell (p:=⟨w.heap.size+1,3,none⟩) (fun _=>rfl) _).setCell (p:=⟨w.heap.size+1,1,none⟩) (fun _=>rfl) _
 have hv:∀ k,v.ownBlock=some k->B <= k:=h.new
 have b4:=hg.only.get (hqa.get h.box (fun x=>x)) (fun e=>by have:=hv _ e;omega)
 have hs4:w.heap.size+1 < w4.heap.size:=Z2 b4
 have hz4:=hg.only.size
 simp only [World.size_alloc] at hz4
 refine ⟨((h.quiet.trans hqa).trans' hg.only (fun k hk e=>by have:=hv k e;omega)).trans' ho (fun k hk e=>by omega),?_,?_,?_,hnew,?_,⟨hb.1,by have:=ho.size;omega⟩⟩
 ·exact ho.get (hg.only.get (hqa.get h.res (fun x=>x)) (fun e=>by have:=hv _ e;omega)) (by omega)
 ·rw [Zg (Zg b4 3 _) 1 _]
  rfl
 ·rw [List.length_append,show ZE (r.2 ++ [x])=ZE r.2 ++ ZE [x] by simp [ZE]]
  exact Z5 hg.own ho (fun k e y=>by have:=hnew k e;omega)
 ·exact (Rd.kept (T:=fun k=>v.ownBlock=some k) (h.src.kept hqa (fun _ _ x=>x)) hg.only (fun k y e=>by have:=hv k e;omega)).kept ho (fun k y e=>by omega)
theorem Z3Q.cells (h:Z3Q w wr B A R v own n r):wr.cell? ⟨w.heap.size+1,0,none⟩=some (.int .u64 (own:Int))/\wr.cell? ⟨w.heap.size+1,1,none⟩=some (.int .u64 (r.1:Int))/\wr.cell? ⟨w.heap.size+1,2,none⟩=some (.int .u64 (n:Int))/\wr.cell? ⟨w.heap.size+1,3,none⟩=some v/\∀ o,wr.frozen? ⟨w.heap.size+1,o,none⟩=false :=
 ⟨by rw [Z1 h.box];rfl,by rw [Z1 h.box];rfl,by rw [Z1 h.box];rfl,by rw [Z1 h.box];rfl,fun o=>Z7 h.box o⟩
theorem Z3Q.zeros (h:Z3Q w wr B A R v own n r):wr.cell? ⟨w.heap.size,0,none⟩=some (.int .u64 0)/\wr.cell? ⟨w.heap.size,1,none⟩=some (.int .u64 0)/\wr.cell? ⟨w.heap.size,2,none⟩=some (.int .u64 0)/\wr.cell? ⟨w.heap.size,3,none⟩=some (.slice none 0 0)/\∀ o,wr.frozen? ⟨w.heap.size,o,none⟩=false :=
 ⟨by rw [Z1 h.res];rfl,by rw [Z1 h.res];rfl,by rw [Z1 h.res];rfl,by rw [Z1 h.res];rfl,fun o=>Z7 h.res o⟩
end
abbrev fourSet (w:World) (b:Nat) (v0 v1 v2 v3:Value):World:=(((w.setCell ⟨b,0,none⟩ v0).setCell ⟨b,1,none⟩ v1).setCell ⟨b,2,none⟩ v2).setCell ⟨b,3,none⟩ v3
theorem Z00 {w:World} {b:Nat} {c0 c1 c2 c3:Value} {t:TypeId} (h:w.heap[b]?=some (.cells #[c0,c1,c2,c3] t (0,0))) (v0 v1 v2 v3:Value):(fourSet w b v0 v1 v2 v3).heap[b]?=some (.cells #[v0,v1,v2,v3] t (0,0)):=by
 rw [Zg (Zg (Zg (Zg h _ _) _ _) _ _) _ _]
 rfl
theorem Zy (w:World) (b:Nat) (v0 v1 v2 v3:Value):Z0 (·=b) w (fourSet w b v0 v1 v2 v3) :=
 ((((Z0.refl (·=b) w).setCell (p:=⟨b,0,none⟩) (fun _=>rfl) v0).setCell (p:=⟨b,1,none⟩) (fun _=>rfl) v1).setCell (p:=⟨b,2,none⟩) (fun _=>rfl) v2).setCell (p:=⟨b,3,none⟩) (fun _=>rfl) v3
theorem Z4m:(Tryz.prog.info? 76).map (·.size)=some 4:=by kernel_rfl
theorem Z0j {P:Program} {fn:Func} {p:Tmp} {ty:TypeId} (h:fn.results=#[.cell p ty]) (tmps:Array Value) (w:World) (g:Nat) (t:TypeId) (cs:Array Value) (fr:Nat × Nat) (d:TypeDesc)
  (hp:tmps.getD p undef=.pointer (some ⟨g,0,none⟩)) (hg:w.heap[g]?=some (.cells cs t fr))
  (hu:P.underlying ty=some d) (hd:(match d with | .struct _ | .array _ _=>true | _=>false)=true) (hi:(P.info? ty).map (·.size)=some cs.size) :
  (results fn tmps).run P w=.ok (.agg cs) w:=by
 have hp':tmps[p]?.getD undef=.pointer (some ⟨g,0,none⟩):=by simpa using hp
 simp [results,h,hp',asAddr,run_loadVar_row w g t ty cs fr d hg hu hd hi]
def Zca (w:World) (s:ZA) (e:Ending) (w':World):Prop:=∃ A c,e=.returned (Zm s A c)/\Quiet w w'/\Z0I w' (fun k=>w.heap.size <= k/\k < w'.heap.size) A c s
theorem Z3Q.done {w wr:World} {B own n:Nat} {A A':Option Addr} {c:Nat} {R:List Nat} {r:Nat × List Nat} (h:Z3Q w wr B A R (.slice A' r.2.length c) own n r) (ho:U64 own) (hn:n <= 2000000) (hr:∀ x ∈ r.2,U64 x) (h1:r.1 <= n) (v0 v1 v2 v3:Value) :
  Quiet w (fourSet wr w.heap.size v0 v1 v2 v3)/\Z0I (fourSet wr w.heap.size v0 v1 v2 v3) (fun k=>w.heap.size <= k/\k < (fourSet wr w.heap.size v0 v1 v2 v3).heap.size) A' c ⟨own,r.1,n,r.2⟩:=by
 have hb:=h.big
 obtain ⟨A5,c5,e5,hc,hcm,hrd⟩:=Za h.row
 injection e5 with e5 _ e6
 subst e5 e6
 have hq:=(Zy wr w.heap.size v0 v1 v2 v3)
 refine ⟨h.quiet.trans' hq (fun k hk e=>by omega),⟨(hrd.kept hq (fun k e x=>by have:=h.new k e;omega)).mono (fun k e=>?_),⟨hc,hcm⟩,ho,(show r.1 < 18446744073709551616 by omega),(show n < 18446744073709551616 by omega),hr⟩⟩
 have h2:=h.new k e
 have h3:=(h.row.lt k e).2
 have h4:=hq.size
 exact ⟨by omega,by omega⟩
theorem ZgR {w:World} {F:Nat->Prop} {lb own:Nat} {L:List Nat} (h:ZJ w F lb L) (hl:L.length <= 1000000) (ho:U64 own) :
  Calls Tryz.prog 23 #[.pointer (some ⟨lb,0,none⟩),.int .u64 (own:Int)] w (Zca w (Z2I L own)):=by
 have HN:Hid (∀ W,Quiet w W->Calls Tryz.prog 49 #[.pointer (some ⟨lb,0,none⟩)] W fun e w'=>e=.returned (.int .u64 ((L.length:Int)+1))/\∃ n,w'=W.drewN n):=fun W hq=>Z4Y (h.kept hq (fun _ _ x=>x))
 have HALL:Hid (∀ W,Quiet w W->Calls Tryz.prog 51 #[.pointer (some ⟨lb,0,none⟩)] W (ZbU W (Z3E L))):=fun W hq=>ZjB (h.kept hq (fun _ _ x=>x)) hl
 unfold Z2I
 have HRL:Hid (∀ x ∈ Z3E L,U64 x):=fun x hx=>by have:=(ZbS hx).2;unfold U64;omega
 have hr:=Z6H L L.length
 rw [Zak] at hr
 obtain ⟨n,hn⟩:∃ n,L.length+1=n:=⟨_,rfl⟩
 rw [show (L.length:Int)+1=(n:Int) by omega] at HN
 have hn2:n <= 2000000:=by omega
 rw [hn]
 generalize Z3E L=R at HALL hr HRL ⊢
 have hR:R.length <= 1000000:=by omega
 obtain ⟨sn,hsn⟩:∃ s:ZA,(⟨own,leastR own n R,n,others own R⟩:ZA)=s:=⟨_,rfl⟩
 rw [hsn]
 have HSN:=zh hsn
 clear h hn hl hr hsn
 go_enter Tryz.func23,Tryz.ntmps23
 go_wp2_with fail
 refine (HN.out _ ((Z0.refl _ _).alloc _)).mono ?_
 rintro e w1 ⟨rfl,a,rfl⟩
 go_wp2_with fail
 refine (HN.out _ (((Z0.refl _ _).alloc _).drewN _)).mono ?_
 rintro e w1 ⟨rfl,b,rfl⟩
 go_wp2_with fail
 have HQ0:Hid (Quiet w (((w.alloc (.cells #[.int .u64 0,.int .u64 0,.int .u64 0,.slice none 0 0] 76)).drewN (a+b)).alloc (.cells #[.int .u64 (own:Int),.int .u64 (n:Int),.int .u64 (n:Int),.slice none 0 0] 76))):=(((Z0.refl _ _).alloc _).drewN _).alloc _
 have HB1:=zh (Z0y w (.cells #[.int .u64 0,.int .u64 0,.int .u64 0,.slice none 0 0] 76) (.cells #[.int .u64 (own:Int),.int .u64 (n:Int),.int .u64 (n:Int),.slice none 0 0] 76))
 have HB0:=zh (Zd (Z4 w (.cells #[.int .u64 0,.int .u64 0,.int .u64 0,.slice none 0 0] 76)) (.cells #[.int .u64 (own:Int),.int .u64 (n:Int),.int .u64 (n:Int),.slice none 0 0] 76))
 refine (HALL.out _ HQ0.out).mono ?_
 rintro e w2 ⟨rv,rfl,hW⟩
 obtain ⟨A,c,rfl,hc,hcm,hrd⟩:=Za hW.row
 have HT:Hid (Z3Q w w2 w2.heap.size A R (.slice none 0 0) own n (takeK own n R 0)):=by
  have hz:w.heap.size+1 < w2.heap.size:=Z2 (hW.quiet.get (by exact HB1.out) (fun x=>x))
  refine ⟨HQ0.out.trans hW.quiet,hW.quiet.get (by exact HB0.out) (fun x=>x),hW.quiet.get (by exact HB1.out) (fun x=>x),World.ownsRow_nil _ _ _ _,(fun k e=>by cases e),hrd.mono (fun k e=>⟨?_,(hW.row.lt k e).2⟩),⟨hz,Nat.le_refl _⟩⟩
  have:=hW.own k e
  have hsd:∀ (W:World) (n:Nat),(W.drewN n).heap.size=W.heap.size:=fun _ _=>rfl
  simp only [World.size_alloc,hsd] at this
  omega
 unfold maxLen at hcm
 clear hW hrd HQ0 HB1 HB0 HN HALL
 generalize w2.heap.size=B at HT
 go_wp2
 go_loopw [17,7] (fun i _ wr=>∃ (k:Nat) (v':Value),k <= R.length/\i=.int .i64 (k:Int)/\Z3Q w wr B A R v' own n (takeK own n R k)) (fun i _ _=>R.length - (intOf i).toNat)
 case atStart=>exact ⟨0,_,Nat.zero_le _,rfl,HT.out⟩
 case round =>
  obtain ⟨k,v',hk,rfl,hW⟩:=hrel
  clear HT
  have hlen:=ZgP own n R k
  obtain ⟨q0,q1,q2,q3,qf⟩:=hW.cells
  obtain ⟨A',c',hv',hc',hcm',_⟩:=Za hW.row
  subst hv'
  unfold maxLen at hcm'
  have HW:=zh hW
  by_cases hlt:k < R.length
  ·obtain ⟨b,off,u,rfl,_,hu,hcell⟩:=hW.src.get hlt
   obtain ⟨x,hx,rfl⟩:∃ y,R[k]?=some y/\u=.int .u64 (y:Int):=by
    unfold ZE at hu
    rw [List.getElem?_map] at hu
    rcases h:R[k]? with _ | y
    ·rw [h] at hu;cases hu
    ·rw [h] at hu;injection hu with hu;exact ⟨y,rfl,hu.symm⟩
   have HS:=zh (Zf4 (own:=own) (n:=n) hx)
   clear hu hx hW
   by_cases hxo:x=own
   ·have d0:((x:Int) != own)=false:=by simp;omega
    rw [if_pos hxo] at HS
    clear hxo
    go_wp2
    go_roundw
    case rel=>exact ⟨k+1,_,by omega,by go_num,by rw [HS.out];exact HW.out⟩
    case measure=>simp [intOf];omega
   ·have d0:((x:Int) != own)=true:=by simp;omega
    rw [if_neg hxo] at HS
    generalize takeK own n R k=r at HW HS hlen q1 hc' q3
    have hl2:r.2.length <= 1000000:=by omega
    clear hxo
    have HROW:=zh (Z5 HW.out.row ((Z0.refl (fun _=>False) wr).alloc (.cells #[.int .u64 (x:Int)] 34)) (fun _ _ x=>x))
    go_wp2_with (at_builtin;refine app Z3S rfl (.tmp 25) (.tmp 27) rfl rfl HROW.out rfl (Ze6 _ x 34) (Z4P [x]) (by unfold maxLen;omega) (by omega) ?_)
    intro v4 w4 hg4
    have HST:=zh (HW.out.step hg4 _ rfl)
    have b4:=hg4.only.get (Zd HW.out.box _) (fun e=>by have:=HW.out.new _ e;have:=HW.out.big;omega)
    obtain ⟨A4,c4,hv4,_,_,_⟩:=Za hg4.own
    subst hv4
    have s1:=Z1 b4 1
    have s3:=Z1 b4 3
    have sf:=fun o=>Z7 b4 o
    simp only [zGA,zGS,zGZ] at s1 s3
    have e1:((min r.1 x:Nat):Int)=min (r.1:Int) x:=by omega
    rw [e1] at HST
    clear hg4 b4 q0 q1 q2 q3 qf HROW e1 hcell
    go_wp2
    go_roundw
    case rel=>exact ⟨k+1,_,by omega,by go_num,by rw [HS.out];exact HST.out⟩
    case measure=>simp [intOf];omega
  ·obtain rfl:k=R.length:=by omega
   have HK:=zh (ZgQ own n R)
   have HL:=zh (Zdn own n R R.length)
   obtain ⟨z0,z1,z2,z3,zf⟩:=hW.zeros
   rw [HK.out] at HW HL q1 q3 hc'
   have hf:(others own R).length <= 1000000:=by unfold others;exact Nat.le_trans (List.length_filter_le _ _) hR
   clear hW hlen HK
   go_wp2_with fail
   have HD:=zh (HW.out.done (r:=(leastR own n R,others own R)) ho hn2 (fun x hx=>HRL.out x (Z8N.1 hx).1) HL.out (.int .u64 (own:Int)) (.int .u64 (leastR own n R:Int)) (.int .u64 (n:Int)) (.slice A' (others own R).length c'))
   have HX:=zh (Z00 HW.out.res (.int .u64 (own:Int)) (.int .u64 (leastR own n R:Int)) (.int .u64 (n:Int)) (.slice A' (others own R).length c'))
   unfold fourSet at HD HX
   generalize (((wr.setCell ⟨w.heap.size,0,none⟩ (.int .u64 (own:Int))).setCell ⟨w.heap.size,1,none⟩ (.int .u64 (leastR own n R:Int))).setCell ⟨w.heap.size,2,none⟩ (.int .u64 (n:Int))).setCell ⟨w.heap.size,3,none⟩ (.slice A' (others own R).length c')=W6 at HD HX ⊢
   refine bodyPost_ret (Z0j Tryz.results23 _ _ w.heap.size _ _ (0,0) _ (by rfl) HX.out Tryz.underlying76 rfl Z4m) (by rfl) ?_
   rw [<- HSN.out]
   exact ⟨A',c',rfl,HD.out⟩
end Go.Proofs.YtobhgnjblniphaaGreatDoor
namespace Go.Proofs.YtobhgnjblniphaaGreatDoor
open Go.RowKit Go.Lap Go.Maps Go.Sort Go.Shelf
abbrev SnapP:=ZA × Option Addr × Nat
abbrev encP (p:SnapP):Value:=.agg #[.int .u64 (p.1.own:Int),.int .u64 (p.1.xmin:Int),.int .u64 (p.1.xmax:Int),.slice p.2.1 p.1.run.length p.2.2]
abbrev cellsP (p:SnapP):List Value:=[.int .u64 (p.1.own:Int),.int .u64 (p.1.xmin:Int),.int .u64 (p.1.xmax:Int),.slice p.2.1 p.1.run.length p.2.2]
theorem elem_snap:Z0c Tryz.prog 166 76 4 48:=Z0c.mk' (.agg #[.int .u64 0,.int .u64 0,.int .u64 0,.slice none 0 0]) Tryz.underlying166 (by kernel_rfl) rfl (by decide)
abbrev boxP (w:World) (p:SnapP):World:=w.alloc (.cells #[.int .u64 (p.1.own:Int),.int .u64 (p.1.xmin:Int),.int .u64 (p.1.xmax:Int),.slice p.2.1 p.1.run.length p.2.2] 76)
theorem Zcb (w:World) (p:SnapP):(boxP w p).heap[w.heap.size]?=some (.cells #[.int .u64 (p.1.own:Int),.int .u64 (p.1.xmin:Int),.int .u64 (p.1.xmax:Int),.slice p.2.1 p.1.run.length p.2.2] 76 (0,0)):=Z4 w _
theorem Z99 (w:World) (p:SnapP):Quiet w (boxP w p):=(Z0.refl (fun _=>False) w).alloc _
theorem Z9a (w:World) (p:SnapP):KeepsWalks w (boxP w p):=KeepsWalks.alloc w _
theorem Z8o {w w':World} (h:Quiet w w') (row:Option Nat):w.grownBy w' row:=⟨h.os,h.tape,h.output,h.size,fun k hk _=>h.block k hk (fun x=>x)⟩
theorem ZjP (F:Fence) (n:Nat) (hf:F.fn 101) (hro:F.round=none) (hn:1 <= n) (l Bm b nn:Nat) (D0:DataW Value) (f:Nat->Option Value)
  (hhas:∀ kl,Maps.has D0 kl=true->∃ (x:Nat) (v:Value),kl=.int .u64 (x:Int)/\f x=some v/\∀ z,D0.atKey kl z=.held v) (hall:∀ (x:Nat) v,f x=some v->Maps.has D0 (.int .u64 (x:Int))=true) (hform:∀ x v,f x=some v->∃ p:SnapP,v=encP p)
  (J:List SnapP->World->Prop)
  (hY:∀ pre x W,J pre W->pre.length < Maps.size D0->YieldAt F (n - 1) Tryz.prog l #[encP x] W fun e W'=>e=.returned (.bool true)/\J (pre ++ [x]) W'/\KeepsWalks W W')
  (W:World) (hJ:AbidesFrom W.heap.size J) (hm:W.cell? ⟨Bm,0,none⟩=some (.map (some b))) (hown:W.ownsMap Tryz.prog 34 Z3d b nn D0) (h0:J [] W) :
  CallsIn F n Tryz.prog 101 #[.func (.yield l) #[] #[],.pointer (some ⟨Bm,0,none⟩)] W fun e W'=>(∃ v,e=.returned v)/\∃ ps:List SnapP,(Z7r f (ps.map encP)/\ps.length <= Maps.size D0)/\J ps W':=by
 have HK:Keyed Tryz.prog 34:=int_keyed Tryz.underlying34
 refine callsIn_of_wp Tryz.func101 rfl hf ?_ hro
 simp only [Tryz.ntmps101,List.size_toArray,List.length_cons,List.length_nil,Nat.reduceAdd,Nat.reduceSub,Array.replicate_succ,Array.replicate_zero,List.push_toArray,List.append_toArray,List.nil_append,List.cons_append]
 gi_wp2_with (first
   | (gi_at_range;refine wpListIn_range_own _ rfl _ 68 rfl 34 76 HK Tryz.underlying68 _ b nn _ rfl hown ?_;intro w0 hrg0 hg0 hs0)
   | gi_in)
 go_frame
 gi_loopw [4] (fun _ wr=>∃ (left:Lit->Bool) (cnt:Nat) (ps:List SnapP),wr.ranges Tryz.prog 34 Z3d b W.heap.size nn D0 left cnt/\ps.length+cnt <= Maps.size D0/\Z46 f D0 left (ps.map encP)/\J ps wr)
  (fun _ wr=>wr.rangeLeft b W.heap.size)
 case atStart =>
  exact ⟨_,_,[],hrg0,by simp,⟨fun v hv=>by simp at hv,fun x v hx=>Or.inl (hall x v hx),fun kl h=>h⟩,hJ [] W w0 none h0 hg0 (fun r e=>by cases e)⟩
 case round =>
  obtain ⟨left,cnt,ps,hrg,hcs,hC,hJs⟩:=hrel
  gi_wp2_with (first
    | (gi_at_next;refine wpListIn_next_ranges _ rfl _ rfl 34 HK Z3d id id (fun key kl hk=>⟨key,rfl⟩) (fun v _ _=>⟨v,rfl⟩) b W.heap.size nn _ _ _ rfl hrg ?_ ?_)
    | gi_in)
  ·intro hc0 hl0
   gi_wp2
   go_end0
   exact ⟨⟨_,rfl⟩,ps,⟨hC.done hl0,by omega⟩,hJs⟩
  ·intro x c kl yd yp w2 cnt2 hkey hlk hv hat hrg2 hlt hg2 hs2 hen
   obtain ⟨k,v,rfl,hfk,hatk⟩:=hhas kl (hC.has kl hlk)
   obtain ⟨p,rfl⟩:=hform k v hfk
   have hcv:c=encP p:=by
    have e1:=hat yd
    rw [hatk] at e1
    have e2:(DataW.held c,([]:List MemPlace))=(yd,yp):=Option.some.inj hv
    injection e2 with e2 _
    rw [<- e2] at e1
    injection e1 with e1
    exact e1.symm
   subst hcv
   have hJ1:J ps w2:=hJ ps wr w2 (some W.heap.size) hJs hg2 (fun r e=>by cases e;exact ⟨Nat.le_refl _,hrg.iter_walk⟩)
   have hJ2:J ps (boxP w2 p):=hJ ps w2 _ none hJ1 (Z8o (Z99 w2 p) none) (fun r e=>by cases e)
   have hrg5:=hrg2.of_walks (Z9a w2 p)
   obtain ⟨fn,tmps,assign,body,hy,hR⟩:=hY ps p _ hJ2 (by omega)
   have hC2:Z46 f D0 (fun z=>left z && !z.sameKey (.int .u64 (k:Int))) ((ps ++ [p]).map encP):=by
    rw [List.map_append]
    exact hC.step hfk
   have hbx:=Zcb w2 p
   have b0:=Z1 hbx 0
   have b1:=Z1 hbx 1
   have b2:=Z1 hbx 2
   have b3:=Z1 hbx 3
   simp only [zGA,zGS,zGZ,cellsP] at b0 b1 b2 b3
   clear hs2 hbx
   gi_wp2
   refine hR.mono ?_
   rintro e W3 ⟨rfl,hJ3,hk3⟩
   gi_wp2
   have hrg3:=hrg5.of_walks hk3
   go_roundw
   case rel=>exact ⟨_,cnt2,ps ++ [p],hrg3,by simp;omega,hC2,hJ3⟩
   case measure=>rw [hrg3.left_eq,hrg.left_eq];exact hlt
theorem ZgS (w:World) (xs:List Value) (t:TypeId):∀ j u,xs[j]?=some u->(w.alloc (.cells xs.toArray t)).cell? ((⟨w.heap.size,0,none⟩:Addr).add j)=some u:=by
 intro j u hj
 rw [Zl,Nat.zero_add,Z1 (Z4 w _)]
 simpa using hj
theorem Zf5 (x:SnapP):∀ u ∈ cellsP x,u.oneCell'=true:=by
 intro u hu
 simp [cellsP] at hu
 rcases hu with rfl | rfl | rfl | rfl <;> rfl
def Z8p:Code:=(Code.region 2 #[{ dst:=some 5,op:=Op.alloc 76,type:=0,pos:="iter.go:51",after:=#[],guard:=none },{ dst:=none,op:=Op.store 76 (Operand.tmp 5) (Operand.tmp 7),type:=0,pos:="iter.go:51",after:=#[{ on:=0,ground:=Ground.data },{ on:=0,ground:=Ground.phase }],guard:=none }] false)
def Zcc:Code:=(Code.block 1 (Code.region 3 #[{ dst:=some 8,op:=Op.load 166 (Operand.tmp 2),type:=166,pos:="iter.go:52",after:=#[],guard:=none },{ dst:=some 9,op:=Op.load 76 (Operand.tmp 5),type:=76,pos:="iter.go:52",after:=#[],guard:=none },{ dst:=some 10,op:=Op.buildSlice 166 1 #[(0,Operand.tmp 9)],type:=166,pos:="iter.go:52",after:=#[{ on:=1,ground:=Ground.data }],guard:=none },{ dst:=some 11,op:=Op.call { callee:=Callee.builtin Builtin.append,args:=#[Operand.tmp 8,Operand.tmp 10],argTypes:=#[166,166] },type:=166,pos:="iter.go:52",after:=#[{ on:=0,ground:=Ground.data },{ on:=2,ground:=Ground.data }],guard:=none },{ dst:=none,op:=Op.store 166 (Operand.tmp 2) (Operand.tmp 11),type:=0,pos:="iter.go:52",after:=#[{ on:=3,ground:=Ground.data },{ on:=3,ground:=Ground.chain },{ on:=0,ground:=Ground.phase },{ on:=1,ground:=Ground.phase },{ on:=2,ground:=Ground.phase },{ on:=3,ground:=Ground.phase }],guard:=none }] false))
def apRec (fn:FuncId) (sv:Value) (Bs D:Nat) (st:LoopState) (pend:Option Code):Loop :=
 { state:=st,pending:=pend,fn,tmps:=#[.slice none 0 0,sv,.pointer (some ⟨Bs,0,none⟩),undef,.slice none 0 0,undef,sv,undef,undef,undef,undef,undef,undef],params:=#[7],assign:=Z8p,body:=Zcc,defers:=D }
structure Zd9 (w0:World) (fn:FuncId) (sv:Value) (Bs l D:Nat) (ss:List SnapP) (W:World):Prop where
 box:∃ v,W.heap[Bs]?=some (.cells #[v] 166 (0,0))/\W.ownsRow w0.heap.size 76 4 v ss.length (ss.flatMap cellsP)/\(v=.slice none 0 0 ↔ ss=[])
 L:W.heap[l]?=some (.loop (apRec fn sv Bs D .ready none))
 K:W.heap[D]?=some (.deferred (some []))
 below:Below w0.heap.size w0 W
theorem ZgT (w0:World) (fn:FuncId) (sv:Value) (Bs l D B:Nat) (hB:w0.heap.size <= B):AbidesFrom B (Zd9 w0 fn sv Bs l D):=fun s W W' row h hg hrow=>by
 have hrow':∀ r,row=some r->∃ o:Obj,W.heap[r]?=some o/\o.isWalk=true:=fun r e=>(hrow r e).2
 obtain ⟨v,hv,hr,hn⟩:=h.box
 exact ⟨⟨v,(grownBy_keeps hg hrow' hv rfl).trans hv,ownsRow_abides_a hr hg hrow',hn⟩,(grownBy_keeps hg hrow' h.L rfl).trans h.L,(grownBy_keeps hg hrow' h.K rfl).trans h.K,
   h.below.grown hg h.below.size (fun k e=>Nat.le_trans hB (hrow k e).1)⟩
theorem ZjQ (F:Fence) (m:Nat) (w0:World) (fn:FuncId) (hfn:F.fn fn) (sv:Value) (Bs l D:Nat) (hBl:Bs ≠ l) (hDl:D ≠ l) (hDB:D ≠ Bs) (h0B:w0.heap.size <= Bs) (h0l:w0.heap.size <= l)
  (N:Nat) (hN:N <= maxLen) (hNb:N * 48 <= 140737488355328) (ss:List SnapP) (x:SnapP) (W:World) (h:Zd9 w0 fn sv Bs l D ss W) (hlen:ss.length < N) :
  YieldAt F m Tryz.prog l #[encP x] W fun e W'=>e=.returned (.bool true)/\Zd9 w0 fn sv Bs l D (ss ++ [x]) W'/\KeepsWalks W W':=by
 have hne:166 ≠ 76:=by decide
 obtain ⟨i0,z0,ht0,hi,hz0,hz1,hz2,hz3,hz4⟩:=elem_snap.ex
 obtain ⟨v,hv,hrow,_⟩:=h.box
 refine ⟨fn,#[.slice none 0 0,sv,.pointer (some ⟨Bs,0,none⟩),undef,.slice none 0 0,undef,sv,encP x,undef,undef,undef,undef,undef],Z8p,Zcc,by simpa [apRec] using run_yield (P:=Tryz.prog) (args:=#[encP x]) h.L rfl,roundIn_of_wpIn hfn ?_⟩
 unfold Z8p
 gi_wp2_with gi_round_op_a
 have hq5:=Z99 W x
 have hbx:=Zcb W x
 have hk5:=Z9a W x
 unfold boxP at hq5 hbx hk5
 generalize W.alloc (.cells #[.int .u64 (x.1.own:Int),.int .u64 (x.1.xmin:Int),.int .u64 (x.1.xmax:Int),.slice x.2.1 x.1.run.length x.2.2] 76)=W1 at *
 have hv1:=hq5.get hv (fun x=>x)
 have hK1:=hq5.get h.K (fun x=>x)
 have hL1:=hq5.get h.L (fun x=>x)
 have hrow1:=hrow.kept (Z8o hq5 none) (Classical.em _)
 have hb1:=h.below.grown (Z8o hq5 none) h.below.size (fun k e=>by cases e)
 have hlo:l < W.heap.size:=(Array.getElem?_eq_some_iff.1 h.L).1
 have hl:l < W1.heap.size:=(Array.getElem?_eq_some_iff.1 hL1).1
 have hbr:=run_beginRound (P:=Tryz.prog) hL1 rfl
 obtain ⟨W2,hW2⟩:∃ W2,W1.putObj l (.loop { apRec fn sv Bs D .ready none with state:=.busy })=W2:=⟨_,rfl⟩
 rw [hW2] at hbr
 have hg2:W1.grownBy W2 (some l):=by rw [<- hW2];exact grownBy_putObj_a _ _ _
 have hk2:KeepsWalks W W2:=hk5.trans (by rw [<- hW2];exact KeepsWalks.putObj _ hL1 rfl)
 have hv2:W2.heap[Bs]?=some (.cells #[v] 166 (0,0)):=by rw [<- hW2];exact (World.putObj_heap_other hBl).trans hv1
 have hK2:W2.heap[D]?=some (.deferred (some [])):=by rw [<- hW2];exact (World.putObj_heap_other hDl).trans hK1
 have hL2:W2.heap[l]?=some (.loop { apRec fn sv Bs D .ready none with state:=.busy }):=by rw [<- hW2];exact World.putObj_heap_same hl
 have hx2:W2.heap[W.heap.size]?=some (.cells #[.int .u64 (x.1.own:Int),.int .u64 (x.1.xmin:Int),.int .u64 (x.1.xmax:Int),.slice x.2.1 x.1.run.length x.2.2] 76 (0,0)):=by rw [<- hW2];exact (World.putObj_heap_other (by omega)).trans hbx
 have hrow2:W2.ownsRow w0.heap.size 76 4 v ss.length (ss.flatMap cellsP):=hrow1.kept hg2 (ownsRow_ne_a hrow1 hL1 (fun cur e=>by first | cases e | exact hne (Obj.cells.inj e).2.1))
 have hb2:Below w0.heap.size w0 W2:=hb1.grown hg2 hb1.size (fun k e=>by cases e;exact h0l)
 obtain ⟨b0,b1,b2,b3⟩:=zC4 hx2
 obtain ⟨hc2,hf2⟩:=cell_of_box_a hv2
 have hBlt:Bs < W2.heap.size:=(Array.getElem?_eq_some_iff.1 hv2).1
 have hl2:l < W2.heap.size:=(Array.getElem?_eq_some_iff.1 hL2).1
 have hDlt:D < W2.heap.size:=(Array.getElem?_eq_some_iff.1 hK2).1
 have ne_of:∀ {j:Nat} {o:Obj},W2.heap[j]?=some o->(∀ cur,o ≠ .cells cur 76 (0,0))->some j ≠ v.ownBlock:=fun hj hno=>by
  rcases ownsRow_ne_a hrow2 hj hno with e | e
  ·rw [e];simp
  ·exact fun e'=>e e'.symm
 clear hW2 hx2 hbx
 refine ⟨W2,hbr,?_⟩
 unfold Zcc
 gi_wp2_with (first
   | (gi_at_builtin;refine wpListIn_append_own _ rfl _ _ 166 rfl w0.heap.size 76 i0 z0 4 48 ht0 hi hz0 hz1 hz2 hz3 hz4 _ _ _ rfl (hrow2.alloc _) ⟨W2.heap.size,0,none⟩ 1 1 (cellsP x) rfl rfl (ZgS W2 (cellsP x) _) (Zf5 x) (by omega) (by omega) (by have:=hb2.size;simp;omega) ?_;intro v' w3 hown' hg3 hnil3
      have hv3:w3.heap[Bs]?=some (.cells #[v] 166 (0,0)):=(hg3.block Bs (by simp;omega) (ne_of hv2 (fun cur e=>by first | cases e | exact hne (Obj.cells.inj e).2.1))).trans ((Below.heap_alloc _ _ Bs hBlt).trans hv2)
      obtain ⟨hc3,hf3⟩:=cell_of_box_a hv3
      obtain ⟨g',cap',cur',rfl,hbase',hgb',hr1,hr2,hr3,hr4⟩:∃ g' cap' cur',v'=.slice (some ⟨g',0,none⟩) (ss.length+1) cap'/\w0.heap.size <= g'/\w3.heap[g']?=some (.cells cur' 76 (0,0))/\ss.length+1 <= cap'/\cap' <= maxLen/\cur'.size=cap' * 4/\cur'.toList.take ((ss.length+1) * 4)=ss.flatMap cellsP ++ cellsP x:=by
        rcases hown'.2 with ⟨_,h0⟩ | h'
        · exact absurd h0 (by omega)
        · exact h'
      go_frame)
   | gi_round_op_a)
 have hg3':(W2.alloc (.cells (cellsP x).toArray 76)).grownBy w3 v.ownBlock:=hg3
 have hL3:w3.heap[l]?=some (.loop { apRec fn sv Bs D .ready none with state:=.busy }):=(hg3'.block l (by simp;omega) (ne_of hL2 (fun cur e=>by first | cases e | exact hne (Obj.cells.inj e).2.1))).trans ((Below.heap_alloc _ _ l hl2).trans hL2)
 have hK3:w3.heap[D]?=some (.deferred (some [])):=(hg3'.block D (by simp;omega) (ne_of hK2 (fun cur e=>by first | cases e | exact hne (Obj.cells.inj e).2.1))).trans ((Below.heap_alloc _ _ D hDlt).trans hK2)
 obtain ⟨w4,hw4⟩:∃ w4,w3.setCell ⟨Bs,0,none⟩ (.slice (some ⟨g',0,none⟩) (ss.length+1) cap')=w4:=⟨_,rfl⟩
 rw [hw4]
 have hg4:w3.grownBy w4 (some Bs):=by rw [<- hw4];exact grownBy_setCell0_a _ _ _
 have hv4:w4.heap[Bs]?=some (.cells #[.slice (some ⟨g',0,none⟩) (ss.length+1) cap'] 166 (0,0)):=by rw [<- hw4];exact heap_setCell_box_a _ hv3
 have hL4:w4.heap[l]?=some (.loop { apRec fn sv Bs D .ready none with state:=.busy }):=(hg4.block l (Array.getElem?_eq_some_iff.1 hL3).1 (fun e=>hBl (by cases e;rfl))).trans hL3
 have hK4:w4.heap[D]?=some (.deferred (some [])):=(hg4.block D (Array.getElem?_eq_some_iff.1 hK3).1 (fun e=>hDB (by cases e;rfl))).trans hK3
 have hrow4:=hown'.kept hg4 (ownsRow_ne_a hown' hv3 (fun cur e=>by first | cases e | exact hne (Obj.cells.inj e).2.1))
 have hl4:l < w4.heap.size:=(Array.getElem?_eq_some_iff.1 hL4).1
 have hb3:Below w0.heap.size w0 w3:=(hb2.alloc hb2.size _).grown hg3' (by have:=hb2.size;simp;omega) (fun k e=>(hrow2.lt k e).1)
 have hb4:Below w0.heap.size w0 w4:=hb3.grown hg4 hb3.size (fun k e=>by cases e;exact h0B)
 have hk4:KeepsWalks W w4:=((hk2.trans (KeepsWalks.alloc _ _)).trans (KeepsWalks.of_grownBy hg3' (ownsRow_not_walk_a (hrow2.alloc _)))).trans (by rw [<- hw4];exact KeepsWalks.setCell _ _ _)
 clear hw4
 refine ⟨_,_,run_endRound none hL4,rfl,⟨⟨_,(World.putObj_heap_other hBl).trans hv4,?_,by simp⟩,World.putObj_heap_same hl4,(World.putObj_heap_other hDl).trans hK4,hb4.grown (grownBy_putObj_a _ _ _) hb4.size (fun k e=>by cases e;exact h0l)⟩,hk4.trans (KeepsWalks.putObj _ hL4 rfl)⟩
 have:=hrow4.kept (grownBy_putObj_a w4 l (.loop { { apRec fn sv Bs D .ready none with state:=.busy } with state:=if (none:Option Code).isNone then .ready else .done,pending:=none })) (ownsRow_ne_a hrow4 hL4 (fun cur e=>by first | cases e | exact hne (Obj.cells.inj e).2.1))
 simpa using this
theorem Zcd (F:Fence) (n:Nat) (h11:F.fn 100) (hro:F.round=none) (hn:2 <= n) (g:Nat) (lb:Array Value) (hFg:F.fn g) (eg:∀ args w,(callFunc g args).run Tryz.prog w=.ok (.enter g args) w)
  (S:List SnapP->Prop) (N:Nat) (hN:N <= maxLen) (hNb:N * 48 <= 140737488355328) (w:World) (hseq:SeqGives F (n - 1) Tryz.prog g lb encP S N w) :
  CallsIn F n Tryz.prog 100 #[.slice none 0 0,.func (.func g) #[] lb] w fun e w'=>∃ (v:Value) (ss:List SnapP),e=.returned v/\S ss/\w'.ownsRow w.heap.size 76 4 v ss.length (ss.flatMap cellsP)/\(v=.slice none 0 0 ↔ ss=[])/\Below w.heap.size w w':=by
 have h1:1 <= n:=by omega
 have hne:166 ≠ 76:=by decide
 refine callsIn_of_wp_marks Tryz.func100 rfl h11 ?_ hro
 simp only [Tryz.ntmps100,List.size_toArray,List.length_cons,List.length_nil,Nat.reduceAdd,Nat.reduceSub,Array.replicate_succ,Array.replicate_zero,List.push_toArray,List.append_toArray,List.nil_append,List.cons_append]
 gi_wp2
 refine wpIn_rangeFunc ?_
 intro fn hfn
 rw [hro]
 obtain ⟨W0,hW0⟩:∃ W0,w.alloc (.cells #[.slice none 0 0] 166)=W0:=⟨_,rfl⟩
 have hs0:W0.heap.size=w.heap.size+1:=by rw [<- hW0];simp
 have hv0:W0.heap[w.heap.size]?=some (.cells #[.slice none 0 0] 166 (0,0)):=by rw [<- hW0];exact World.alloc_heap_new w _
 have hb0:Below w.heap.size w W0:=by rw [<- hW0];exact (Below.refl _ w).alloc (Nat.le_refl _) _
 rw [hW0]
 obtain ⟨W1,hW1⟩:∃ W1,(W0.alloc (.deferred (some []))).alloc (.loop (apRec fn (.func (.func g) #[] lb) w.heap.size W0.heap.size .ready none))=W1:=⟨_,rfl⟩
 have hold:∀ k,k < W0.heap.size->W1.heap[k]?=W0.heap[k]?:=fun k hk=>by
  rw [<- hW1];exact (Below.heap_alloc _ _ k (by simp;omega)).trans (Below.heap_alloc _ _ k hk)
 have hb1:Below w.heap.size w W1:=by rw [<- hW1];exact (hb0.alloc hb0.size _).alloc (by have:=hb0.size;simp;omega) _
 have hs1:W1.heap.size=W0.heap.size+2:=by rw [<- hW1];simp
 have hM:Zd9 w fn (.func (.func g) #[] lb) w.heap.size (W0.heap.size+1) W0.heap.size [] W1 :=
  ⟨⟨_,(hold w.heap.size (by omega)).trans hv0,⟨rfl,.inl ⟨rfl,rfl⟩⟩,by simp⟩,
   by rw [<- hW1];have:=World.alloc_heap_new (W0.alloc (.deferred (some []))) (.loop (apRec fn (.func (.func g) #[] lb) w.heap.size W0.heap.size .ready none));rwa [World.size_alloc] at this,
   by rw [<- hW1];exact (Below.heap_alloc _ _ _ (by simp)).trans (World.alloc_heap_new W0 _),hb1⟩
 refine ⟨W0.heap.size+1,[{ target:=.collected W0.heap.size,args:=#[] }],W1,{ target:=.fn (.func g) lb,args:=#[.func (.yield (W0.heap.size+1)) #[] #[]] },W1,g,
   #[.func (.yield (W0.heap.size+1)) #[] #[]] ++ lb,W1,?_,?_,?_,?_,fun _=>h1,?_⟩
 ·rw [<- hW1];exact run_enterLoop_outer _ _ _ _ _
 ·simp [resolve,go_sem]
 ·intro f' hf';simp [Target.leads] at hf';subst hf';exact hFg
 ·simp [invoke,go_sem,eg]
 ·refine (hseq (W0.heap.size+1) (Zd9 w fn (.func (.func g) #[] lb) w.heap.size (W0.heap.size+1) W0.heap.size) W1 hb1 (ZgT _ _ _ _ _ _ _ hb1.size)
     (fun pre x W hJ hl=>ZjQ F (n - 1 - 1) w fn hfn _ w.heap.size (W0.heap.size+1) W0.heap.size (by omega) (by omega) (by omega) (Nat.le_refl _) (by omega) N hN hNb pre x W hJ hl) hM).mono ?_
  rintro e W2 ⟨⟨v0,rfl⟩,ss,hS,h2⟩
  obtain ⟨v,hv,hrow,hnil⟩:=h2.box
  have hend:=run_endLoop (P:=Tryz.prog) h2.L (by simp [apRec])
  obtain ⟨W3,hW3⟩:∃ W3,W2.putObj (W0.heap.size+1) (.loop { apRec fn (.func (.func g) #[] lb) w.heap.size W0.heap.size .ready none with state:=.exhausted })=W3:=⟨_,rfl⟩
  rw [hW3] at hend
  have hg3:W2.grownBy W3 (some (W0.heap.size+1)):=by rw [<- hW3];exact grownBy_putObj_a _ _ _
  have hv3:W3.heap[w.heap.size]?=some (.cells #[v] 166 (0,0)):=by rw [<- hW3];exact (World.putObj_heap_other (by omega)).trans hv
  have hK3:W3.heap[W0.heap.size]?=some (.deferred (some [])):=by rw [<- hW3];exact (World.putObj_heap_other (by omega)).trans h2.K
  have hrow3:=hrow.kept hg3 (ownsRow_ne_a hrow h2.L (fun cur e=>by first | cases e | exact hne (Obj.cells.inj e).2.1))
  have hb3:Below w.heap.size w W3:=h2.below.grown hg3 h2.below.size (fun k e=>by cases e;omega)
  obtain ⟨hc3,hf3⟩:=cell_of_box_a hv3
  clear hW3
  refine ⟨none,W3,hend,?_⟩
  gi_wp2
  rw [<- hs0]
  refine ⟨by simp,.inl ⟨_,_,rfl,run_takeDeferred hK3,?_⟩⟩
  exact ⟨_,results_tmp rfl _ _ _,v,ss,rfl,hS,hrow3.kept (grownBy_putObj_a _ _ _) (ownsRow_ne_a hrow3 hK3 (fun cur e=>by first | cases e | exact hne (Obj.cells.inj e).2.1)),hnil,hb3.grown (grownBy_putObj_a _ _ _) hb3.size (fun k e=>by cases e;omega)⟩
theorem Zf6 (F:Fence) (n:Nat) (h8:F.fn 64) (h11:F.fn 100) (hro:F.round=none) (hn:3 <= n) (g:Nat) (lb:Array Value) (hFg:F.fn g) (eg:∀ args w,(callFunc g args).run Tryz.prog w=.ok (.enter g args) w)
  (S:List SnapP->Prop) (N:Nat) (hN:N <= maxLen) (hNb:N * 48 <= 140737488355328) (w:World) (hseq:SeqGives F (n - 1 - 1) Tryz.prog g lb encP S N w) :
  CallsIn F n Tryz.prog 64 #[.func (.func g) #[] lb] w fun e w'=>∃ (v:Value) (ss:List SnapP),e=.returned v/\S ss/\w'.ownsRow w.heap.size 76 4 v ss.length (ss.flatMap cellsP)/\(v=.slice none 0 0 ↔ ss=[])/\Below w.heap.size w w':=by
 have h1:1 <= n:=by omega
 have e11:∀ args w,(callFunc 100 args).run Tryz.prog w=.ok (.enter 100 args) w:=enters_of Tryz.func100 (by kernel_rfl) rfl
 refine callsIn_of_wp Tryz.func64 rfl h8 ?_ hro
 simp only [Tryz.ntmps64,List.size_toArray,List.length_cons,List.length_nil,Nat.reduceAdd,Nat.reduceSub,Array.replicate_succ,Array.replicate_zero,List.push_toArray,List.append_toArray,List.nil_append,List.cons_append]
 gi_wp2_with (gi_at_fn 100;refine (Zcd F (n - 1) h11 hro (by omega) g lb hFg eg S N hN hNb _ hseq).mono ?_;rintro e w' ⟨v,ss,rfl,hS,hrow,hnil,hb⟩)
 go_ret
 exact ⟨v,ss,rfl,hS,hrow,hnil,hb⟩
end Go.Proofs.YtobhgnjblniphaaGreatDoor
namespace Go.Proofs.YtobhgnjblniphaaGreatDoor
open Go.RowKit Go.Lap
structure Z2e (nx:Nat) (ps:List SnapP) (hz:Nat):Prop where
 none_:ps=[]->hz=nx
 some_:ps ≠ []->∃ p ∈ ps,hz=p.1.xmin
 least:∀ p ∈ ps,hz <= p.1.xmin
theorem Z2e.start (nx:Nat):Z2e nx [] nx:=⟨fun _=>rfl,fun h=>absurd rfl h,fun p hp=>by cases hp⟩
theorem Z2e.take_ {nx hz:Nat} {ps:List SnapP} {p:SnapP} (h:Z2e nx ps hz) (hl:ps=[] ∨ p.1.xmin < hz):Z2e nx (ps ++ [p]) p.1.xmin :=
 ⟨fun e=>by simp at e,fun _=>⟨p,by simp,rfl⟩,fun q hq=>by
   rcases List.mem_append.1 hq with x | x
   · rcases hl with y | y
     · rw [y] at x;cases x
     · exact Nat.le_of_lt (Nat.lt_of_lt_of_le y (h.least q x))
   · rw [List.mem_singleton] at x;rw [x];exact Nat.le_refl _⟩
theorem Z2e.leave {nx hz:Nat} {ps:List SnapP} {p:SnapP} (h:Z2e nx ps hz) (hl:ps ≠ []) (hp:¬ p.1.xmin < hz):Z2e nx (ps ++ [p]) hz :=
 ⟨fun e=>by simp at e,fun _=>by obtain ⟨q,hq,e⟩:=h.some_ hl;exact ⟨q,List.mem_append_left _ hq,e⟩,fun q hq=>by
   rcases List.mem_append.1 hq with x | x
   · exact h.least q x
   · rw [List.mem_singleton] at x;rw [x];omega⟩
theorem Zce:∀ (ps:List SnapP) (i:Nat) (p:SnapP),ps[i]?=some p->(ps.flatMap cellsP)[i * 4]?=some (.int .u64 (p.1.own:Int))/\(ps.flatMap cellsP)[i * 4+1]?=some (.int .u64 (p.1.xmin:Int))/\(ps.flatMap cellsP)[i * 4+2]?=some (.int .u64 (p.1.xmax:Int))/\(ps.flatMap cellsP)[i * 4+3]?=some (.slice p.2.1 p.1.run.length p.2.2)
 | [],i,p,h=>by simp at h
 | x :: ps,0,p,h=>by
  simp at h
  subst h
  exact ⟨rfl,rfl,rfl,rfl⟩
 | x :: ps,i+1,p,h=>by
  have ih:=Zce ps i p (by simpa using h)
  have e:(x :: ps).flatMap cellsP=.int .u64 (x.1.own:Int) :: .int .u64 (x.1.xmin:Int) :: .int .u64 (x.1.xmax:Int) :: .slice x.2.1 x.1.run.length x.2.2 :: ps.flatMap cellsP:=rfl
  rw [e,show (i+1) * 4=i * 4+1+1+1+1 by omega]
  exact ih
def Zea (w:World) (nx:Nat) (ps:List SnapP) (e:Ending) (w':World):Prop:=∃ hz:Nat,e=.returned (.int .u64 (hz:Int))/\Z2e nx ps hz/\U64 hz/\Quiet w w'
theorem Zcf {w:World} {F S:Nat->Prop} {lb c:Nat} {L:List Nat} {A:Option Addr} {ps:List SnapP} (h:ZJ w F lb L) (hL:L.length < 1000000000) (hr:Rd w S 4 A ps.length (ps.flatMap cellsP)) (hn:ps.length <= 10000000) (hu:∀ p ∈ ps,U64 p.1.xmin) :
  Calls Tryz.prog 63 #[.pointer (some ⟨lb,0,none⟩),.slice A ps.length c] w (Zea w (L.length+1) ps):=by
 have HNX:=zh (Z4Y h)
 have HR:=zh hr
 have HU:=zh hu
 obtain ⟨nx,hnx⟩:∃ nx,L.length+1=nx:=⟨_,rfl⟩
 have hnu:U64 nx:=by unfold U64;omega
 have HNU:=zh hnu
 rw [hnx]
 obtain ⟨n,hn2⟩:∃ n,ps.length=n:=⟨_,rfl⟩
 have HN:=zh hn2
 rw [hn2] at hn ⊢
 obtain ⟨Z8,Z6⟩:∃ Z8,Zea w nx ps=Z8:=⟨_,rfl⟩
 rw [Z6]
 have Ze:=zh Z6
 have HE:Hid (((L.length:Int)+1)=(nx:Int)):=by show _=_;omega
 clear h hL hr hu hn2 Z6 hnu hnx
 go_enter Tryz.func63,Tryz.ntmps63
 go_wp2_with fail
 refine HNX.out.mono ?_
 rintro e w1 ⟨rfl,m,rfl⟩
 rw [HE.out]
 have HQ1:Hid (Quiet w (w.drewN m)):=(Z0.refl (fun _=>False) w).drewN m
 clear HNX HE
 generalize w.drewN m=w1 at *
 go_wp2_with fail
 go_loopw [12,5,6,7] (fun i v _ _ wr=>∃ (k hz:Nat),k <= n/\i=.int .i64 (k:Int)/\v=.int .u64 (hz:Int)/\Z2e nx (ps.take k) hz/\U64 hz/\Quiet w wr) (fun i _ _ _ _=>n - (intOf i).toNat)
 case atStart=>exact ⟨0,nx,Nat.zero_le _,rfl,rfl,Z2e.start nx,HNU.out,HQ1.out⟩
 case round =>
  obtain ⟨k,hz,hk,rfl,rfl,hH,hz64,hq⟩:=hrel
  have HH:=zh hH
  have HZ:=zh hz64
  have HQ:=zh hq
  clear hH hz64 hq
  by_cases hlt:k < n
  ·obtain ⟨p,hp⟩:∃ p,ps[k]?=some p:=⟨_,zg (by have:=HN.out;omega)⟩
   obtain ⟨k0,k1,k2,k3⟩:=Zce ps k p hp
   have hlen:=(zi.1 k0).1
   obtain ⟨b,off,rfl,_,hc⟩:=(HR.out.kept HQ.out (fun _ _ x=>x)).cells (by omega)
   have c0:=hc _ _ k0
   have c1:=hc _ _ k1
   have c2:=hc _ _ k2
   have c3:=hc _ _ k3
   rw [<- Nat.add_assoc] at c1 c2 c3
   have hlb:=Zf c0
   dsimp only at hlb
   have HU2:Hid (U64 p.1.xmin):=HU.out p (List.mem_of_getElem? hp)
   have HT:Hid (ps.take (k+1)=ps.take k ++ [p]):=by show _=_;rw [List.take_add_one,hp];rfl
   have HTL:Hid ((ps.take k).length=k):=by show _=_;rw [List.length_take];have:=HN.out;omega
   have HQ5:Hid (Quiet w (wr.alloc (.cells #[.int .u64 (p.1.own:Int),.int .u64 (p.1.xmin:Int),.int .u64 (p.1.xmax:Int),.slice p.2.1 p.1.run.length p.2.2] 76))):=HQ.out.alloc _
   clear hc hlen k0 k1 k2 k3
   by_cases h0:k=0 ∨ p.1.xmin < hz
   ·have HN1:Hid (Z2e nx (ps.take (k+1)) p.1.xmin):=by
     show Z2e _ _ _
     rw [HT.out]
     exact HH.out.take_ (by rcases h0 with x | x;left;subst x;rfl;right;exact x)
    clear HH HT HTL
    by_cases hk0:k=0
    ·subst hk0
     simp only [Nat.zero_mul,Nat.add_zero] at c0 c1 c2 c3
     go_wp2
     go_roundw
     case rel=>exact ⟨1,p.1.xmin,by omega,by go_num,rfl,HN1.out,HU2.out,HQ5.out⟩
     case measure=>simp [intOf];omega
    ·have hx:(p.1.xmin:Int) < (hz:Int):=by rcases h0 with x | x;exact absurd x hk0;omega
     have hki:¬ (k:Int)=0:=by omega
     go_wp2
     go_roundw
     case rel=>exact ⟨k+1,p.1.xmin,by omega,by go_num,rfl,HN1.out,HU2.out,HQ5.out⟩
     case measure=>simp [intOf];omega
   ·have hk0:¬ (k:Int)=0:=by omega
    have hx:¬ (p.1.xmin:Int) < (hz:Int):=by omega
    have HN1:Hid (Z2e nx (ps.take (k+1)) hz):=by
     show Z2e _ _ _
     rw [HT.out]
     exact HH.out.leave (fun e=>by have:=HTL.out;rw [e] at this;simp at this;omega) (by omega)
    clear HH HT HTL h0
    go_wp2
    go_roundw
    case rel=>exact ⟨k+1,hz,by omega,by go_num,rfl,HN1.out,HZ.out,HQ5.out⟩
    case measure=>simp [intOf];omega
  ·obtain rfl:k=n:=by omega
   have Zc:Hid (Z8 (.returned (.int .u64 (hz:Int))) wr):=by
    rw [<- Ze.out]
    have:=HH.out
    rw [List.take_of_length_le (by have:=HN.out;omega)] at this
    exact ⟨hz,rfl,this,HZ.out,HQ.out⟩
   clear HH
   go_wp2
   exact Zc.out
structure Z5D (w:World) (eb id:Nat) (name:ByteArray) (xmin xmax:Nat):Prop where
 c0:w.cell? ⟨eb,0,none⟩=some (.int .u64 (id:Int))
 c1:w.cell? ⟨eb,1,none⟩=some (.string name)
 c2:w.cell? ⟨eb,2,none⟩=some (.int .u64 (xmin:Int))
 c3:w.cell? ⟨eb,3,none⟩=some (.int .u64 (xmax:Int))
theorem Z5D.kept {S:Nat->Prop} {w w':World} {eb id xmin xmax:Nat} {name:ByteArray} (h:Z5D w eb id name xmin xmax) (ho:Z0 S w w') (hn:¬ S eb):Z5D w' eb id name xmin xmax :=
 ⟨ho.cell h.c0 hn,ho.cell h.c1 hn,ho.cell h.c2 hn,ho.cell h.c3 hn⟩
theorem Zcg (xmin xmax:Nat):ZC (Z8q xmin xmax) none 0=.agg #[.int .u64 0,.int .u64 (xmin:Int),.int .u64 (xmax:Int),.int .i64 0,.int .i64 0,.slice none 0 0]:=rfl
theorem Z7W {w:World} {eb id xmin xmax:Nat} {name:ByteArray} (h:Z5D w eb id name xmin xmax) :
  Calls Tryz.prog 133 #[.pointer (some ⟨eb,0,none⟩)] w fun e w'=>e=.returned (ZC (Z8q xmin xmax) none 0)/\Quiet w w':=by
 obtain ⟨c0,c1,c2,c3⟩:=h
 have hl:=Zf c0
 have hl2:¬ eb=w.heap.size:=by have:eb < w.heap.size:=hl;omega
 rw [Zcg]
 go_enter Tryz.func133,Tryz.ntmps133
 go_wp2_with fail
 go_region
 all_goals
  go_wp2
  exact bodyPost_ret (v:=.agg #[.int .u64 0,.int .u64 (xmin:Int),.int .u64 (xmax:Int),.int .i64 0,.int .i64 0,.slice none 0 0]) (by simp [results,Tryz.results133,go_sem]) rfl ⟨rfl,((Z0.refl _ _).alloc _).drew⟩
theorem Z07 {w:World} {b:Nat} {s:ZA} {A:Option Addr} {c:Nat} (h:w.heap[b]?=some (.cells (snapCells s A c) 76 (0,0))) :
  w.cell? ⟨b,0,none⟩=some (.int .u64 (s.own:Int))/\w.cell? ⟨b,1,none⟩=some (.int .u64 (s.xmin:Int))/\w.cell? ⟨b,2,none⟩=some (.int .u64 (s.xmax:Int))/\w.cell? ⟨b,3,none⟩=some (.slice A s.run.length c) :=
 ⟨by rw [Z1 h];rfl,by rw [Z1 h];rfl,by rw [Z1 h];rfl,by rw [Z1 h];rfl⟩
theorem Zbi {w:World} {F S:Nat->Prop} {lb eb id xmin xmax c:Nat} {name:ByteArray} {L:List Nat} {A:Option Addr} {s:ZA} (h:Z5D w eb id name xmin xmax) (hl:ZJ w F lb L) (hs:Z0I w S A c s) (h1:U64 xmin) (h2:U64 xmax) :
  Calls Tryz.prog 97 #[.pointer (some ⟨eb,0,none⟩),.pointer (some ⟨lb,0,none⟩),Zm s A c] w (Z0a w (Z1T L s xmin xmax)):=by
 have HQ:Hid (Quiet w (w.alloc (.cells (snapCells s A c) 76))):=(Z0.refl _ _).alloc _
 have HTU:Hid (∀ W,Quiet w W->Calls Tryz.prog 133 #[.pointer (some ⟨eb,0,none⟩)] W fun e w'=>e=.returned (ZC (Z8q xmin xmax) none 0)/\Quiet W w'):=fun W hq=>Z7W (h.kept hq (fun x=>x))
 have HV:Hid (∀ W,Quiet w W->Calls Tryz.prog 82 #[.pointer (some ⟨lb,0,none⟩),Zm s A c,ZC (Z8q xmin xmax) none 0] W (Z0a W (Z1T L s xmin xmax))):=fun W hq=>Z57 (Z8q xmin xmax) none 0 (hl.kept hq (fun _ _ x=>x)) (hs.kept hq (fun _ _ x=>x)) h1 h2
 have HB:=zh (Z4 w (.cells (snapCells s A c) 76))
 generalize Z1T L s xmin xmax=r at HV ⊢
 rw [Zcg] at HTU HV
 unfold Zm at *
 clear h hl hs h1 h2
 go_enter Tryz.func97,Tryz.ntmps97
 go_wp2_with fail
 go_region_held3 (fun w'=>w'.cell? ⟨w.heap.size,0,none⟩=some (.int .u64 (s.own:Int))/\w'.cell? ⟨w.heap.size,1,none⟩=some (.int .u64 (s.xmin:Int))/\w'.cell? ⟨w.heap.size,2,none⟩=some (.int .u64 (s.xmax:Int))/\w'.cell? ⟨w.heap.size,3,none⟩=some (.slice A s.run.length c))
  (first | go_keep | exact Z07 (hq3.get (hq2.get (by exact HB.out) (fun x=>x)) (fun x=>x)) | exact Z07 (hq2.get (by exact HB.out) (fun x=>x)) | fail)
  (first
    | (go_at_call 133;go_must (refine (HTU.out _ (HQ.out.drew)).mono ?_;rintro e w2 ⟨rfl,hq2⟩))
    | (go_at_call 82;go_must (refine (HV.out _ (HQ.out.drew.trans hq2)).mono ?_;rintro e w3 ⟨rfl,hq3⟩))
    | fail)
 have HQ3:=zh ((HQ.out.drew.trans hq2).trans hq3)
 clear hq2 hq3 HV HTU HB HQ
 go_wp2
 go_ret
 exact ⟨rfl,HQ3.out⟩
theorem Z9b {w:World} {F:Nat->Prop} {lb eb id xmin xmax hz:Nat} {name:ByteArray} {L:List Nat} (h:Z5D w eb id name xmin xmax) (hl:ZJ w F lb L) (h1:U64 xmin) (h2:U64 xmax) :
  Calls Tryz.prog 187 #[.pointer (some ⟨eb,0,none⟩),.pointer (some ⟨lb,0,none⟩),.int .u64 (hz:Int)] w (Z0a w (Z0h L xmin xmax hz)):=by
 have HTU:=zh (Z7W h)
 have HV:Hid (∀ W,Quiet w W->Calls Tryz.prog 33 #[.pointer (some ⟨lb,0,none⟩),ZC (Z8q xmin xmax) none 0,.int .u64 (hz:Int)] W (Z0a W (Z0h L xmin xmax hz))):=fun W hq=>ZaG (Z8q xmin xmax) none 0 hz (hl.kept hq (fun _ _ x=>x)) h1 h2
 generalize Z0h L xmin xmax hz=r at HV ⊢
 rw [Zcg] at HTU HV
 clear h hl h1 h2
 go_enter Tryz.func187,Tryz.ntmps187
 go_wp2_with fail
 refine HTU.out.mono ?_
 rintro e w2 ⟨rfl,hq2⟩
 have HQ2:=zh hq2
 clear hq2
 go_wp2_with fail
 refine (HV.out _ HQ2.out).mono ?_
 rintro e w3 ⟨rfl,hq3⟩
 have HQ3:=zh (HQ2.out.trans hq3)
 clear hq3
 go_wp2
 go_ret
 exact ⟨rfl,HQ3.out⟩
theorem Ziu:Z0c Tryz.prog 40 39 2 24:=Z0c.mk' (.agg #[.string ⟨#[]⟩,.int .u8 0]) Tryz.underlying40 (by kernel_rfl) rfl (by decide)
structure Z38 (w w':World) (v:Value) (l:List (ByteArray × Nat)):Prop where
 quiet:Quiet w w'
 new:∀ k,v.ownBlock=some k->w.heap.size <= k
 own:w'.ownsRow 0 39 2 v l.length (ZZ l)
def Z9c (w:World) (l:List (ByteArray × Nat)) (e:Ending) (w':World):Prop:=∃ v,e=.returned v/\Z38 w w' v l
theorem Z9d (A:Option Addr) (cap:Nat) (l:List (ByteArray × Nat)) (S:Nat->Prop) (w:World) (hr:Rd w S 2 A l.length (ZZ l)) (hl:l.length <= 1000) (h0:0 < l.length) :
  Calls Tryz.prog 56 #[.slice A l.length cap] w (Z9c w l):=by
 have heq:=fun (w:World) (a:Option Addr) (n c:Nat)=>Lib.run_eql_slice_nil (P:=Tryz.prog) w 40 _ a n c 0 0 Tryz.underlying40
 obtain ⟨b,off,rfl,_⟩:=hr.cells (by rw [ZaH];omega)
 have HR:=zh hr
 clear hr
 go_enter Tryz.func56,Tryz.ntmps56
 go_wp2_with (at_builtin;refine app Ziu rfl (.tmp 5) (.tmp 6) rfl rfl (Z4G w _ _) rfl (HR.out.kept ((Z0.refl (fun _=>False) w).alloc _) (fun _ _ x=>x)) (Zit l) (by unfold maxLen;omega) (by omega) ?_)
 intro v w1 hg
 have HF:Hid (Z38 w w1 v l):=by
  refine ⟨((Z0.refl _ _).alloc _).trans' hg.only (fun k hk e=>by simp [Value.ownBlock] at e;omega),fun k e=>?_,hg.own⟩
  rcases hg.loc with x | x <;> rw [x] at e
  ·simp [Value.ownBlock] at e;omega
  ·injection e with e;simp at e;omega
 clear hg
 go_wp2
 go_ret
 exact ⟨v,rfl,HF.out⟩
structure Z1k (w:World) (F:Nat->Prop) (tb:Nat) (e:TE):Prop where
 ex:∃ A c,w.heap[tb]?=some (.cells #[.int .u64 (e.id:Int),.string e.name,.int .u64 (e.xmin:Int),.int .u64 (e.xmax:Int),.slice A e.cols.length c] 144 (0,0))/\Rd w F 2 A e.cols.length (ZZ e.cols)/\e.cols.length <= c/\c <= maxLen
 own:F tb
 pos:0 < e.cols.length/\e.cols.length <= 8
 num:U64 e.id/\U64 e.xmin/\U64 e.xmax
 typ:∃ A c,w.heap[tb]?=some (.cells #[.int .u64 (e.id:Int),.string e.name,.int .u64 (e.xmin:Int),.int .u64 (e.xmax:Int),.slice A e.cols.length c] 144 (0,0))/\∀ g,(Value.slice A e.cols.length c).ownBlock=some g->F g/\∃ cur,w.heap[g]?=some (.cells cur 39 (0,0))
theorem Z1k.kept {S F:Nat->Prop} {w w':World} {tb:Nat} {e:TE} (h:Z1k w F tb e) (ho:Z0 S w w') (hn:∀ k,F k->¬ S k):Z1k w' F tb e:=by
 obtain ⟨A,c,h1,h2,h3⟩:=h.ex
 obtain ⟨A',c',t1,t2⟩:=h.typ
 exact ⟨⟨A,c,ho.get h1 (hn _ h.own),h2.kept ho hn,h3⟩,h.own,h.pos,h.num,A',c',ho.get t1 (hn _ h.own),fun g e=>⟨(t2 g e).1,by obtain ⟨cur,hh⟩:=(t2 g e).2;exact ⟨cur,ho.get hh (hn g (t2 g e).1)⟩⟩⟩
theorem Z1k.mono {F G:Nat->Prop} {w:World} {tb:Nat} {e:TE} (h:Z1k w F tb e) (hg:∀ k,F k->G k):Z1k w G tb e:=by
 obtain ⟨A,c,h1,h2,h3⟩:=h.ex
 obtain ⟨A',c',t1,t2⟩:=h.typ
 exact ⟨⟨A,c,h1,h2.mono hg,h3⟩,hg _ h.own,h.pos,h.num,A',c',t1,fun g e=>⟨hg g (t2 g e).1,(t2 g e).2⟩⟩
theorem Z1k.ent {F:Nat->Prop} {w:World} {tb:Nat} {e:TE} (h:Z1k w F tb e):Z5D w tb e.id e.name e.xmin e.xmax:=by
 obtain ⟨A,c,h1,_⟩:=h.ex
 exact ⟨by rw [Z1 h1];rfl,by rw [Z1 h1];rfl,by rw [Z1 h1];rfl,by rw [Z1 h1];rfl⟩
def Z0g (e:TE) (A:Option Addr) (c:Nat):Value:=.agg #[.int .u64 (e.id:Int),.string e.name,.slice A e.cols.length c,.int .u64 (e.xmin:Int),.int .u64 (e.xmax:Int)]
def Zch (w:World) (t:TE) (e:Ending) (w':World):Prop:=∃ A c,e=.returned (Z0g t A c)/\Z38 w w' (.slice A t.cols.length c) t.cols
theorem Z58:(Tryz.prog.info? 90).map (·.size)=some 5:=by kernel_rfl
abbrev fiveSet (w:World) (b:Nat) (v0 v1 v2 v3 v4:Value):World:=((((w.setCell ⟨b,0,none⟩ v0).setCell ⟨b,1,none⟩ v1).setCell ⟨b,2,none⟩ v2).setCell ⟨b,3,none⟩ v3).setCell ⟨b,4,none⟩ v4
theorem Z2i {w:World} {b:Nat} {c0 c1 c2 c3 c4:Value} {t:TypeId} (h:w.heap[b]?=some (.cells #[c0,c1,c2,c3,c4] t (0,0))) (v0 v1 v2 v3 v4:Value):(fiveSet w b v0 v1 v2 v3 v4).heap[b]?=some (.cells #[v0,v1,v2,v3,v4] t (0,0)):=by
 rw [Zg (Zg (Zg (Zg (Zg h _ _) _ _) _ _) _ _) _ _]
 rfl
theorem Z1w (w:World) (b:Nat) (v0 v1 v2 v3 v4:Value):Z0 (·=b) w (fiveSet w b v0 v1 v2 v3 v4) :=
 (((((Z0.refl (·=b) w).setCell (p:=⟨b,0,none⟩) (fun _=>rfl) v0).setCell (p:=⟨b,1,none⟩) (fun _=>rfl) v1).setCell (p:=⟨b,2,none⟩) (fun _=>rfl) v2).setCell (p:=⟨b,3,none⟩) (fun _=>rfl) v3).setCell (p:=⟨b,4,none⟩) (fun _=>rfl) v4
theorem Z6Y {S:Nat->Prop} {w w':World} {b:Nat} {v0 v1 v2 v3 v4:Value} (h0:w.cell? ⟨b,0,none⟩=some v0) (h1:w.cell? ⟨b,1,none⟩=some v1) (h2:w.cell? ⟨b,2,none⟩=some v2) (h3:w.cell? ⟨b,3,none⟩=some v3) (h4:w.cell? ⟨b,4,none⟩=some v4) (ho:Z0 S w w') (hn:¬ S b) :
  w'.cell? ⟨b,0,none⟩=some v0/\w'.cell? ⟨b,1,none⟩=some v1/\w'.cell? ⟨b,2,none⟩=some v2/\w'.cell? ⟨b,3,none⟩=some v3/\w'.cell? ⟨b,4,none⟩=some v4 :=
 ⟨ho.cell h0 hn,ho.cell h1 hn,ho.cell h2 hn,ho.cell h3 hn,ho.cell h4 hn⟩
theorem Z9e {w:World} {F:Nat->Prop} {tb:Nat} {t:TE} (h:Z1k w F tb t) :
  Calls Tryz.prog 99 #[.pointer (some ⟨tb,0,none⟩)] w (Zch w t):=by
 obtain ⟨c0,c1,c2,c3⟩:=h.ent
 obtain ⟨A,c,hb,hr,hc,hcm⟩:=h.ex
 have c4:w.cell? ⟨tb,4,none⟩=some (.slice A t.cols.length c):=by rw [Z1 hb];rfl
 have hl:=Z2 hb
 have hl2:¬ tb=w.heap.size:=by omega
 have HCL:Hid (∀ W,Quiet w W->Calls Tryz.prog 56 #[.slice A t.cols.length c] W (Z9c W t.cols)):=fun W hq=>Z9d A c t.cols F W (hr.kept hq (fun _ _ x=>x)) (by have:=h.pos;omega) h.pos.1
 clear h hb hr hc hcm
 go_enter Tryz.func99,Tryz.ntmps99
 go_wp2_with fail
 refine wp_region_held_drew (S:=fun w'=>w'.cell? ⟨tb,0,none⟩=some (.int .u64 (t.id:Int))/\w'.cell? ⟨tb,1,none⟩=some (.string t.name)/\w'.cell? ⟨tb,2,none⟩=some (.int .u64 (t.xmin:Int))/\w'.cell? ⟨tb,3,none⟩=some (.int .u64 (t.xmax:Int))/\w'.cell? ⟨tb,4,none⟩=some (.slice A t.cols.length c)) (by kernel_rfl) (Z6Y c0 c1 c2 c3 c4 (((Z0.refl (fun _=>False) w).alloc _).drew) (fun x=>x)) (fun Z3=>?_)
 simp only [List.size_toArray,List.length_cons,List.length_nil,Nat.reduceAdd]
 refine zT 0 ?_
 refine zT 1 ?_
 refine zT 2 ?_
 refine zT 3 ?_
 refine zT 4 ?_
 refine zT 5 ?_
 refine zT 6 ?_
 refine zT 7 ?_
 refine zT 8 ?_
 refine zT 9 ?_
 refine zT 10 ?_
 refine zT 11 ?_
 refine zT 12 ?_
 refine zT 13 ?_
 refine zT 15 ?_
 refine zT 16 ?_
 refine zT 17 ?_
 refine zT 18 ?_
 refine zT 19 ?_
 refine zT 20 ?_
 refine zT 21 ?_
 refine zT 22 ?_
 refine zT 23 ?_
 refine zT 24 ?_
 refine zR 14 ?_
 intro K hK
 go_simp
 go_at_call 56
 refine (HCL.out _ (((Z0.refl (fun _=>False) w).alloc _).drew)).mono ?_
 rintro e w2 ⟨v2,rfl,hf2⟩
 obtain ⟨A2,k2,hv2,hc2,hcm2,_⟩:=Za hf2.own
 subst hv2
 have hb2:=hf2.quiet.get (by exact Z4 w (.cells #[.int .u64 0,.string ⟨#[]⟩,.slice none 0 0,.int .u64 0,.int .u64 0] 90)) (fun x=>x)
 have HK:Hid (Z38 w w2 (.slice A2 t.cols.length k2) t.cols):=⟨(((Z0.refl (fun _=>False) w).alloc _).drew).trans hf2.quiet,(fun k e=>by have:=hf2.new k e;simp only [World.size_drew,World.size_alloc] at this;omega),hf2.own⟩
 have HB2:=zh hb2
 obtain ⟨z0,z1,z2,z3,z4⟩:=zC5 hb2
 have zf:=fun o=>Z7 hb2 o
 have HN2:Hid (∀ k,(Value.slice A2 t.cols.length k2).ownBlock=some k->w.heap.size < k):=fun k e=>by have:=hf2.new k e;simp only [World.size_drew,World.size_alloc] at this;omega
 clear hf2 hb2
 dsimp only
 refine hK.out _ _ ?_ (fun Z3=>?_)
 ·exact Z6Y c0 c1 c2 c3 c4 HK.out.quiet (fun x=>x)
 clear hK K
 (try simp only [Act.put,zPA,zPZ,zPS])
 refine zT 25 ?_
 refine zR 26 ?_
 intro K hK
 go_simp
 refine hK.out _ _ ?_ (fun Z3=>?_)
 ·exact Z6Y Z3.1 Z3.2.1 Z3.2.2.1 Z3.2.2.2.1 Z3.2.2.2.2 (Z1w w2 w.heap.size (.int .u64 (t.id:Int)) (.string t.name) (.slice A2 t.cols.length k2) (.int .u64 (t.xmin:Int)) (.int .u64 (t.xmax:Int))) hl2
 clear hK K
 (try simp only [Act.put,zPA,zPZ,zPS])
 refine zD ?_
 clear Z3 z0 z1 z2 z3 z4 zf
 have HX:=zh (Z2i HB2.out (.int .u64 (t.id:Int)) (.string t.name) (.slice A2 t.cols.length k2) (.int .u64 (t.xmin:Int)) (.int .u64 (t.xmax:Int)))
 have HO:=Z1w w2 w.heap.size (.int .u64 (t.id:Int)) (.string t.name) (.slice A2 t.cols.length k2) (.int .u64 (t.xmin:Int)) (.int .u64 (t.xmax:Int))
 have HF:Hid (Z38 w (fiveSet w2 w.heap.size (.int .u64 (t.id:Int)) (.string t.name) (.slice A2 t.cols.length k2) (.int .u64 (t.xmin:Int)) (.int .u64 (t.xmax:Int))) (.slice A2 t.cols.length k2) t.cols) :=
  ⟨HK.out.quiet.trans' HO (fun k hk e=>by omega),fun k e=>by have:=HN2.out k e;omega,Z5 HK.out.own HO (fun k e x=>by have:=HN2.out k e;omega)⟩
 clear HO HK HB2 HN2
 unfold fiveSet at HX HF
 go_wp2
 generalize ((((w2.setCell ⟨w.heap.size,0,none⟩ (.int .u64 (t.id:Int))).setCell ⟨w.heap.size,1,none⟩ (.string t.name)).setCell ⟨w.heap.size,2,none⟩ (.slice A2 t.cols.length k2)).setCell ⟨w.heap.size,3,none⟩ (.int .u64 (t.xmin:Int))).setCell ⟨w.heap.size,4,none⟩ (.int .u64 (t.xmax:Int))=W6 at HX HF ⊢
 exact bodyPost_ret (Z0j Tryz.results99 _ _ w.heap.size _ _ (0,0) _ (by rfl) HX.out Tryz.underlying90 rfl Z58) (by rfl) ⟨A2,k2,rfl,HF.out⟩
structure Z0z (w:World) (F:Nat->Prop) (bb:Nat) (T:List TE) (vT:Value) (tps:List Nat) (vI:Value) (ips:List Nat) (last:Nat):Prop where
 box:w.heap[bb]?=some (.cells #[vT,vI,.int .u64 (last:Int)] 132 (0,0))
 rowT:w.ownsRow 0 138 1 vT T.length (tps.map ptrV)
 rowI:w.ownsRow 0 153 1 vI ips.length (ips.map ptrV)
 tbl:∀ (i:Nat) e,T[i]?=some e->∃ p,tps[i]?=some p/\Z1k w F p e
 foot:F bb/\(∀ k,vT.ownBlock=some k->F k)/\(∀ k,vI.ownBlock=some k->F k)
 num:U64 last
section
variable {w w':World} {F:Nat->Prop} {bb last:Nat} {T:List TE} {vT vI:Value} {tps ips:List Nat}
theorem Z0z.kept {S:Nat->Prop} (h:Z0z w F bb T vT tps vI ips last) (ho:Z0 S w w') (hn:∀ k,F k->¬ S k):Z0z w' F bb T vT tps vI ips last :=
 ⟨ho.get h.box (hn _ h.foot.1),Z5 h.rowT ho (fun k e=>hn k (h.foot.2.1 k e)),Z5 h.rowI ho (fun k e=>hn k (h.foot.2.2 k e)),fun i e hi=>by obtain ⟨p,h1,h2⟩:=h.tbl i e hi;exact ⟨p,h1,h2.kept ho hn⟩,h.foot,h.num⟩
theorem Z0z.cells (h:Z0z w F bb T vT tps vI ips last):w.cell? ⟨bb,0,none⟩=some vT/\w.cell? ⟨bb,1,none⟩=some vI/\w.cell? ⟨bb,2,none⟩=some (.int .u64 (last:Int)) :=
 ⟨by rw [Z1 h.box];rfl,by rw [Z1 h.box];rfl,by rw [Z1 h.box];rfl⟩
theorem Z0z.tlen (h:Z0z w F bb T vT tps vI ips last):tps.length=T.length:=by
 have:=h.rowT.1
 simpa using this
end
theorem Z2v {w:World} {e:TypeId} {v:Value} {n:Nat} {ps:List Nat} (h:w.ownsRow 0 e 1 v n (ps.map ptrV)):∃ A c,v=.slice A n c/\n <= c/\c <= maxLen/\∀ (i p:Nat),ps[i]?=some p->∃ g,A=some ⟨g,0,none⟩/\w.cell? ⟨g,i,none⟩=some (ptrV p):=by
 have hl:ps.length=n:=by have:=h.1;simpa using this
 rcases h.2 with ⟨e1,e2⟩ | ⟨g,cap,cur,e1,_,hh,r1,r2,_⟩
 ·refine ⟨none,0,by rw [e2];exact e1,by omega,Nat.zero_le _,fun i p hi=>?_⟩
  have:=(zi.1 hi).1
  omega
 ·refine ⟨_,cap,e1,r1,r2,fun i p hi=>⟨g,rfl,?_⟩⟩
  have:=h.cells (by rw [e1];rfl) i (ptrV p) (by rw [List.getElem?_map,hi];rfl)
  rw [Zl,Nat.zero_add] at this
  exact this
def Z4z (L:List Nat) (s:ZA) (name:ByteArray) (e:TE):Bool:=(e.name.toList == name.toList) && Z1T L s e.xmin e.xmax
def Z1r (L:List Nat) (s:ZA) (name:ByteArray) (T:List TE):Option Nat:=T.findIdx? (Z4z L s name)
def Z7I (w:World) (tps:List Nat) (o:Option Nat) (e:Ending) (w':World):Prop :=
 (match o with | none=>e=.returned (.pointer none) | some i=>∃ p,tps[i]?=some p/\e=.returned (ptrV p))/\Quiet w w'
theorem Zf7 {L:List Nat} {s:ZA} {name:ByteArray} {T:List TE} {k:Nat} {e:TE} (hk:T[k]?=some e) (he:Z4z L s name e=true) (hno:∀ j x,j < k->T[j]?=some x->Z4z L s name x=false):Z1r L s name T=some k:=by
 unfold Z1r
 rw [List.findIdx?_eq_some_iff_getElem]
 obtain ⟨h1,h2⟩:=zi.1 hk
 refine ⟨h1,by rw [h2];exact he,fun j hj=>?_⟩
 have:=hno j T[j] hj (zg (by omega))
 simp [this]
theorem Zf8 {L:List Nat} {s:ZA} {name:ByteArray} {T:List TE} (hno:∀ (j:Nat) x,T[j]?=some x->Z4z L s name x=false):Z1r L s name T=none:=by
 unfold Z1r
 rw [List.findIdx?_eq_none_iff]
 intro x hx
 obtain ⟨j,hj⟩:=List.mem_iff_getElem?.1 hx
 rw [hno j x hj]
theorem Z9f {w:World} {F Fl S:Nat->Prop} {bb lb last c:Nat} {T:List TE} {vT vI:Value} {tps ips:List Nat} {L:List Nat} {A:Option Addr} {s:ZA} (name:ByteArray) (h:Z0z w F bb T vT tps vI ips last) (hl:ZJ w Fl lb L) (hs:Z0I w S A c s) :
  Calls Tryz.prog 58 #[.pointer (some ⟨bb,0,none⟩),.pointer (some ⟨lb,0,none⟩),Zm s A c,.string name] w (Z7I w tps (Z1r L s name T)):=by
 have HQ0:Hid (Quiet w (w.alloc (.cells (snapCells s A c) 76))):=(Z0.refl _ _).alloc _
 have HB0:=zh (Z4 w (.cells (snapCells s A c) 76))
 have HH:=zh h
 have HVIS:Hid (∀ (W:World) (p:Nat) (e:TE) (i:Nat),Quiet w W->T[i]?=some e->tps[i]?=some p->Calls Tryz.prog 97 #[.pointer (some ⟨p,0,none⟩),.pointer (some ⟨lb,0,none⟩),Zm s A c] W (Z0a W (Z1T L s e.xmin e.xmax))):=fun W p e i hq he hp=>by
  obtain ⟨p',h1,h2⟩:=h.tbl i e he
  rw [hp] at h1
  injection h1 with h1
  subst h1
  exact Zbi (h2.kept hq (fun _ _ x=>x)).ent (hl.kept hq (fun _ _ x=>x)) (hs.kept hq (fun _ _ x=>x)) h2.num.2.1 h2.num.2.2
 obtain ⟨c0,_,_⟩:=h.cells
 obtain ⟨AT,cT,hvT,hcT,hmT,hfT⟩:=Z2v h.rowT
 subst hvT
 have HFT:=zh hfT
 have htl:=h.tlen
 obtain ⟨n,hn⟩:∃ n,T.length=n:=⟨_,rfl⟩
 rw [hn] at c0 hcT
 have HN:=zh hn
 have HTL:Hid (tps.length=n):=by rw [htl];exact hn
 unfold maxLen at hmT
 have hbl:=Z2 h.box
 obtain ⟨Z8,Z6⟩:∃ Z8,Z7I w tps (Z1r L s name T)=Z8:=⟨_,rfl⟩
 rw [Z6]
 have Ze:=zh Z6
 unfold Zm at *
 clear h hl hs hfT hn htl Z6
 go_enter Tryz.func58,Tryz.ntmps58
 go_wp2
 go_loopw [16,10,20,21,22,23,24,25,26,27,28,29,30,31,32,33,34] (fun i _ _ _ _ _ _ _ _ _ _ _ _ _ _ _ _ wr=>∃ k:Nat,k <= n/\i=.int .i64 (k:Int)/\Quiet w wr/\wr.heap[w.heap.size]?=some (.cells (snapCells s A c) 76 (0,0))/\(∀ (j:Nat) x,j < k->T[j]?=some x->Z4z L s name x=false)) (fun i _ _ _ _ _ _ _ _ _ _ _ _ _ _ _ _ _=>n - (intOf i).toNat)
 case atStart=>exact ⟨0,Nat.zero_le _,rfl,HQ0.out,HB0.out,fun j x hj=>absurd hj (by omega)⟩
 case round =>
  obtain ⟨k,hk,rfl,hq,hb,hno⟩:=hrel
  have HQ:=zh hq
  have HB:=zh hb
  have HNO:=zh hno
  clear hno HB0 HQ0
  by_cases hlt:k < n
  ·obtain ⟨e,he⟩:∃ e,T[k]?=some e:=⟨_,zg (by have:=HN.out;omega)⟩
   obtain ⟨p,hp,htb⟩:=HH.out.tbl k e he
   obtain ⟨g,rfl,hg⟩:=HFT.out k p hp
   have hg2:=hq.cell hg (fun x=>x)
   have c1:=(htb.kept hq (fun _ _ x=>x)).ent.c1
   obtain ⟨b0,b1,b2,b3⟩:=Z07 hb
   have HE:=zh he
   have HP:=zh hp
   clear he hp hg htb hq hb
   by_cases hnm:(e.name.toList == name.toList)=true
   ·have HV:=zh (HVIS.out · p e k · HE.out HP.out)
    have HIS:Hid (Z4z L s name e=Z1T L s e.xmin e.xmax):=by
     have:Z4z L s name e=((e.name.toList == name.toList) && Z1T L s e.xmin e.xmax):=rfl
     rw [hnm,Bool.true_and] at this
     exact this
    generalize Z1T L s e.xmin e.xmax=r at HV HIS
    go_wp2_with fail
    refine wp_region_held_drew (S:=fun w'=>w'.cell? ⟨p,1,none⟩=some (.string e.name)/\w'.cell? ⟨w.heap.size,0,none⟩=some (.int .u64 (s.own:Int))/\w'.cell? ⟨w.heap.size,1,none⟩=some (.int .u64 (s.xmin:Int))/\w'.cell? ⟨w.heap.size,2,none⟩=some (.int .u64 (s.xmax:Int))/\w'.cell? ⟨w.heap.size,3,none⟩=some (.slice A s.run.length c)) (by kernel_rfl) (⟨c1,b0,b1,b2,b3⟩) (fun Z3=>?_)
    simp only [List.size_toArray,List.length_cons,List.length_nil,Nat.reduceAdd]
    refine zT 0 ?_
    refine zT 1 ?_
    refine zT 2 ?_
    refine zT 3 ?_
    refine zT 4 ?_
    refine zT 5 ?_
    refine zT 6 ?_
    refine zT 7 ?_
    refine zT 8 ?_
    refine zT 9 ?_
    refine zT 10 ?_
    refine zT 11 ?_
    refine zT 12 ?_
    refine zR 13 ?_
    intro K hK
    go_simp
    go_at_call 97
    refine (HV.out _ HQ.out.drew).mono ?_
    rintro e' w3 ⟨rfl,hq3⟩
    have HQ3:=zh (HQ.out.drew.trans hq3)
    have HB3:=zh (hq3.get (by exact HB.out) (fun x=>x))
    have hs3:=Z07 HB3.out
    have hn3:=hq3.cell (by exact c1) (fun x=>x)
    clear hq3
    dsimp only
    refine hK.out _ _ ?_ (fun Z3=>?_)
    ·exact ⟨hn3,hs3⟩
    clear hK K
    (try simp only [Act.put,zPA,zPZ,zPS])
    refine zT 14 ?_
    refine zD ?_
    rcases r with _ | _
    ·have HK:Hid (∀ (j:Nat) x,j < k+1->T[j]?=some x->Z4z L s name x=false):=fun j x hj hx=>by
      rcases Nat.lt_or_ge j k with a | a
      ·exact HNO.out j x a hx
      ·obtain rfl:j=k:=by omega
       rw [HE.out] at hx
       injection hx with hx
       rw [<- hx]
       exact HIS.out
     clear Z3 c1 b0 b1 b2 b3 hg2
     go_wp2
     go_roundw
     case rel=>exact ⟨k+1,by omega,by go_num,HQ3.out,HB3.out,HK.out⟩
     case measure=>simp [intOf];omega
    ·have Zc:Hid (Z8 (.returned (ptrV p)) w3):=by
      rw [<- Ze.out,Zf7 HE.out HIS.out HNO.out]
      exact ⟨⟨p,HP.out,rfl⟩,HQ3.out⟩
     clear Z3 c1 b0 b1 b2 b3 hg2
     go_wp2
     exact Zc.out
   ·have hnm2:(e.name.toList == name.toList)=false:=by simpa using hnm
    have HK:Hid (∀ (j:Nat) x,j < k+1->T[j]?=some x->Z4z L s name x=false):=fun j x hj hx=>by
     rcases Nat.lt_or_ge j k with a | a
     ·exact HNO.out j x a hx
     ·obtain rfl:j=k:=by omega
      rw [HE.out] at hx
      injection hx with hx
      rw [<- hx]
      unfold Z4z
      rw [hnm2];rfl
    clear hnm
    go_wp2_with fail
    refine wp_region_held_drew (S:=fun w'=>w'.cell? ⟨p,1,none⟩=some (.string e.name)/\w'.cell? ⟨w.heap.size,0,none⟩=some (.int .u64 (s.own:Int))/\w'.cell? ⟨w.heap.size,1,none⟩=some (.int .u64 (s.xmin:Int))/\w'.cell? ⟨w.heap.size,2,none⟩=some (.int .u64 (s.xmax:Int))/\w'.cell? ⟨w.heap.size,3,none⟩=some (.slice A s.run.length c)) (by kernel_rfl) (⟨c1,b0,b1,b2,b3⟩) (fun Z3=>?_)
    simp only [List.size_toArray,List.length_cons,List.length_nil,Nat.reduceAdd]
    refine zT 0 ?_
    refine zT 1 ?_
    refine zT 2 ?_
    refine zT 3 ?_
    refine zT 4 ?_
    refine zT 5 ?_
    refine zT 6 ?_
    refine zT 7 ?_
    refine zO 8 ?_
    refine zO 9 ?_
    refine zO 10 ?_
    refine zO 11 ?_
    refine zO 12 ?_
    refine zO 13 ?_
    refine zT 14 ?_
    refine zD ?_
    clear Z3 c1 b0 b1 b2 b3 hg2 hnm2
    go_wp2
    go_roundw
    case rel=>exact ⟨k+1,by omega,by go_num,HQ.out.drew,HB.out,HK.out⟩
    case measure=>simp [intOf];omega
  ·have Zc:Hid (Z8 (.returned (.pointer none)) wr):=by
    rw [<- Ze.out,Zf8 (fun j x hx=>HNO.out j x (by have:=HN.out;have:=(zi.1 hx).1;omega) hx)]
    exact ⟨rfl,HQ.out⟩
   obtain rfl:k=n:=by omega
   clear hq hb
   go_wp2
   exact Zc.out
def ZaJ (w:World) (t:TE) (e:Ending) (w':World):Prop:=∃ A c,e=.returned (.tuple #[Z0g t A c,.bool true])/\Z38 w w' (.slice A t.cols.length c) t.cols/\t.cols.length <= c/\c <= maxLen
theorem Zf9 {w:World} {F Fl S:Nat->Prop} {bb lb last c i:Nat} {T:List TE} {vT vI:Value} {tps ips:List Nat} {L:List Nat} {A:Option Addr} {s:ZA} {t:TE} (name:ByteArray) (h:Z0z w F bb T vT tps vI ips last) (hl:ZJ w Fl lb L) (hs:Z0I w S A c s) (hf:Z1r L s name T=some i) (ht:T[i]?=some t) :
  Calls Tryz.prog 77 #[.pointer (some ⟨bb,0,none⟩),.pointer (some ⟨lb,0,none⟩),Zm s A c,.string name] w (ZaJ w t):=by
 have HQ0:Hid (Quiet w ((w.alloc (.cells (snapCells s A c) 76)).alloc (.cells #[.int .u64 0,.string ⟨#[]⟩,.slice none 0 0,.int .u64 0,.int .u64 0] 90))):=((Z0.refl _ _).alloc _).alloc _
 have HR:=zh (Z0y w (.cells (snapCells s A c) 76) (.cells #[.int .u64 0,.string ⟨#[]⟩,.slice none 0 0,.int .u64 0,.int .u64 0] 90))
 have HT:Hid (∀ W,Quiet w W->Calls Tryz.prog 58 #[.pointer (some ⟨bb,0,none⟩),.pointer (some ⟨lb,0,none⟩),Zm s A c,.string name] W (Z7I W tps (some i))):=fun W hq=>by
  have:=Z9f name (h.kept hq (fun _ _ x=>x)) (hl.kept hq (fun _ _ x=>x)) (hs.kept hq (fun _ _ x=>x))
  rw [hf] at this
  exact this
 have HTO:Hid (∀ W p,Quiet w W->tps[i]?=some p->Calls Tryz.prog 99 #[.pointer (some ⟨p,0,none⟩)] W (Zch W t)):=fun W p hq hp=>by
  obtain ⟨p',h1,h2⟩:=h.tbl i t ht
  rw [hp] at h1
  injection h1 with h1
  subst h1
  exact Z9e (h2.kept hq (fun _ _ x=>x))
 unfold Zm at *
 clear h hl hs hf ht
 go_enter Tryz.func77,Tryz.ntmps77
 go_wp2_with fail
 refine (HT.out _ HQ0.out).mono ?_
 rintro e w1 ⟨⟨p,hp,rfl⟩,hq1⟩
 have HQ1:=zh (HQ0.out.trans hq1)
 have HR1:=zh (hq1.get (by exact HR.out) (fun x=>x))
 have HP:=zh hp
 clear hq1 hp HT HQ0 HR
 go_wp2_with fail
 refine (HTO.out _ p HQ1.out HP.out).mono ?_
 rintro e w2 ⟨A2,c2,rfl,hf2⟩
 obtain ⟨A5,c5,e5,hc5,hm5,_⟩:=Za hf2.own
 injection e5 with e5 _ e6
 subst e5 e6
 have hb2:=hf2.quiet.get (by exact HR1.out) (fun x=>x)
 obtain ⟨z0,z1,z2,z3,z4⟩:=zC5 hb2
 have zf:=fun o=>Z7 hb2 o
 have HX:=zh (Z2i hb2 (.int .u64 (t.id:Int)) (.string t.name) (.slice A2 t.cols.length c2) (.int .u64 (t.xmin:Int)) (.int .u64 (t.xmax:Int)))
 have HO:=Z1w w2 (w.heap.size+1) (.int .u64 (t.id:Int)) (.string t.name) (.slice A2 t.cols.length c2) (.int .u64 (t.xmin:Int)) (.int .u64 (t.xmax:Int))
 have hz1:w.heap.size+1 < w1.heap.size:=Z2 HR1.out
 have HF:Hid (Z38 w (fiveSet w2 (w.heap.size+1) (.int .u64 (t.id:Int)) (.string t.name) (.slice A2 t.cols.length c2) (.int .u64 (t.xmin:Int)) (.int .u64 (t.xmax:Int))) (.slice A2 t.cols.length c2) t.cols) :=
  ⟨(HQ1.out.trans hf2.quiet).trans' HO (fun k hk e=>by omega),fun k e=>by have:=hf2.new k e;omega,Z5 hf2.own HO (fun k e x=>by have:=hf2.new k e;omega)⟩
 have HC:=zh hc5
 have HM:=zh hm5
 clear HO hf2 hb2 HTO HR1 HQ1 hc5 hm5
 unfold fiveSet at HX HF
 unfold Z0g
 go_wp2
 generalize ((((w2.setCell ⟨w.heap.size+1,0,none⟩ (.int .u64 (t.id:Int))).setCell ⟨w.heap.size+1,1,none⟩ (.string t.name)).setCell ⟨w.heap.size+1,2,none⟩ (.slice A2 t.cols.length c2)).setCell ⟨w.heap.size+1,3,none⟩ (.int .u64 (t.xmin:Int))).setCell ⟨w.heap.size+1,4,none⟩ (.int .u64 (t.xmax:Int))=W6 at HX HF ⊢
 exact bodyPost_ret (ZG Tryz.results77 _ _ (w.heap.size+1) _ _ (0,0) _ (by rfl) HX.out Tryz.underlying90 rfl Z58) (by rfl) ⟨A2,c2,rfl,HF.out,HC.out,HM.out⟩
structure Z2M (s:ByteArray):Prop where
 pos:0 < s.size
 most:s.size <= 20
 low:∀ (i:Nat) (h:i < s.size),97 <= (s[i]'h).toNat/\(s[i]'h).toNat <= 122
theorem Z6Z (s:ByteArray) (hs:Z2M s) (w:World) :
  Calls Tryz.prog 52 #[.string s] w (Z0a w true):=by
 obtain ⟨h0,h20,hl⟩:=hs
 have HL:=zh hl
 have he:s.toList.isEmpty=false:=by
  have:s.toList.length=s.size:=by rw [Lib.toList_data];simp
  rcases h:s.toList with _ | _
  ·rw [h] at this;simp at this;omega
  ·rfl
 clear hl
 go_enter Tryz.func52,Tryz.ntmps52
 go_wp2
 go_loopw [8,9,10,11,3,4,5,12,13,14,15,16,17,18,19,20,21,22,23,24,25,26,27,28,29,30,31,32,33,34,35] (fun _ _ _ _ _ _ _ _ _ _ _ _ _ _ _ _ _ _ _ _ _ _ _ _ _ _ _ _ _ _ _ wr=>∃ k:Nat,k <= s.size/\wr=w.iter s k) (fun _ _ _ _ _ _ _ _ _ _ _ _ _ _ _ _ _ _ _ _ _ _ _ _ _ _ _ _ _ _ _ wr=>s.size - wr.iterPos w.heap.size)
 case atStart=>exact ⟨0,Nat.zero_le _,rfl⟩
 case round =>
  obtain ⟨k,hk,rfl⟩:=hrel
  by_cases hlt:k < s.size
  ·obtain ⟨x,hx⟩:∃ x,(s[k]'hlt).toNat=x:=⟨_,rfl⟩
   have hb:=HL.out k hlt
   have hn:=fun ty=>run_next_ascii (P:=Tryz.prog) w s k ty hlt (by omega)
   rw [hx] at hn hb
   have d0:(97:Int) <= x:=by omega
   have d1:(x:Int) <= 122:=by omega
   clear hx
   go_wp2
   go_roundw
   case rel=>exact ⟨k+1,by omega,rfl⟩
   case measure=>simp;omega
  ·obtain rfl:k=s.size:=by omega
   have hn:=fun ty=>run_next_end (P:=Tryz.prog) w s s.size ty (by omega)
   have d2:decide ((s.size:Int) <= 20)=true:=decide_eq_true (by omega)
   go_wp2
   go_ret
   exact ⟨rfl,(Z0.refl _ _).alloc _⟩
theorem Zfa {w w':World} {S:Nat->Prop} {P:Program} {k:TypeId} {R:Value->Option (DataW Unit × List MemPlace)} {b n:Nat} {D:DataW Unit} (h:w.ownsMap P k R b n D) (ho:Z0 S w w') (hn:¬ S b):w'.ownsMap P k R b n D:=by
 obtain ⟨es,clock,h1,r⟩:=h
 exact ⟨es,clock,ho.get h1 hn,r⟩
theorem Zfb {w:World} {b:Nat} (h:w.ownsMap Tryz.prog 9 (plainElem (H:=Unit) Tryz.prog 4) b 0 (.map [])) (s:ByteArray) (hs:s.size <= 20) :
  (Instr.lookup 203 (.map (some b)) (.string s) false).run Tryz.prog w=.ok (.bool false) w:=by
 obtain ⟨v,ps,hrun,hv⟩:=h.lookup (Maps.string_keyed Tryz.underlying9) Tryz.underlying203 (Z8P w) (plainElem_bool Tryz.underlying4 false) (Go.WideMaps.keyOf_string_mk Tryz.underlying9 (s:=s) (by unfold maxLen;omega))
 obtain ⟨a,rfl,hz⟩:=Z4h Tryz.underlying4 hv
 injection hz with hz _
 injection hz with hz
 injection hz with hz
 rw [hrun,<- hz]
theorem ZgU {w:World} {S:Nat->Prop} {A:Option Addr} {c kd:Nat} {nm:ByteArray} (hr:Rd w S 2 A 1 (ZZ [(nm,kd)])) (hnm:Z2M nm) (hk:1 <= kd/\kd <= 3) (hc:1 <= c) (hm:c <= maxLen) :
  Calls Tryz.prog 53 #[.slice A 1 c] w (Z0a w true):=by
 have hmm:=@run_makeMap Tryz.prog
 obtain ⟨b,off,rfl,_,hcs⟩:=hr.at_ (k:=0) (by omega) (by omega)
 obtain ⟨u0,h0,c0⟩:=hcs 0 (by omega)
 obtain ⟨u1,h1,c1⟩:=hcs 1 (by omega)
 obtain rfl:Value.string nm=u0:=Option.some.inj h0
 obtain rfl:Value.int .u8 (kd:Int)=u1:=Option.some.inj h1
 simp only [Nat.zero_mul,Nat.add_zero,Nat.zero_add] at c0 c1
 have HNM:Hid (∀ W,Calls Tryz.prog 52 #[.string nm] W (Z0a W true)):=fun W=>Z6Z nm hnm W
 have HO:Hid (World.ownsMap (w.alloc (.map #[] 0)) Tryz.prog 9 (plainElem (H:=Unit) Tryz.prog 4) w.heap.size 0 (.map [])):=World.ownsMap_made _ _ _ _
 have HSZ:=zh hnm.most
 have hb:=Zf c0
 unfold maxLen at hm
 clear hr hcs h0 h1 hnm
 go_enter Tryz.func53,Tryz.ntmps53
 go_wp2
 go_loopw [9,5,10,11,12,13,14,15,16,17,18,19,20,21,22,23,24,25,26,27,28,29,30,31,32,33,34,35] (fun i _ _ _ _ _ _ _ _ _ _ _ _ _ _ _ _ _ _ _ _ _ _ _ _ _ _ _ wr=>∃ k:Nat,k <= 1/\i=.int .i64 (k:Int)/\Quiet w wr/\(k=0->wr=w.alloc (.map #[] 0))) (fun i _ _ _ _ _ _ _ _ _ _ _ _ _ _ _ _ _ _ _ _ _ _ _ _ _ _ _ _=>1 - (intOf i).toNat)
 case atStart=>exact ⟨0,Nat.zero_le _,rfl,(Z0.refl _ _).alloc _,fun _=>rfl⟩
 case round =>
  obtain ⟨k,hk1,rfl,hq,hw⟩:=hrel
  rcases k with _ | k
  ·obtain rfl:=hw rfl
   have HQ:=zh hq
   clear hw hq hk1
   have HB:Hid (((w.alloc (.map #[] 0)).alloc (.cells #[.string nm,.int .u8 (kd:Int)] 39)).heap[w.heap.size+1]?=some (.cells #[.string nm,.int .u8 (kd:Int)] 39 (0,0))):=Z0y w _ _
   go_wp2_with fail
   refine (HNM.out _).mono ?_
   rintro e w2 ⟨rfl,hq2⟩
   have HO2:=zh (Zfa HO.out (((Z0.refl (fun _=>False) _).alloc (.cells #[.string nm,.int .u8 (kd:Int)] 39)).trans hq2) (fun x=>x))
   have hb2:=hq2.get (by exact HB.out) (fun x=>x)
   obtain ⟨z0,z1⟩:=zC2 hb2
   have hlk:=Zfb HO2.out nm HSZ.out
   obtain ⟨w3,hup,_,hgr⟩:=HO2.out.update (Maps.string_keyed Tryz.underlying9) Tryz.underlying203 (by unfold maxLen;omega) (Go.WideMaps.keyOf_string_mk Tryz.underlying9 (s:=nm) (by have:=HSZ.out;unfold maxLen;omega)) (plainElem_bool Tryz.underlying4 true)
   have HQ3:Hid (Quiet w w3):=((HQ.out.alloc _).trans hq2).trans' ((Z0.refl (·=w.heap.size) w2).byMap hgr (fun _=>rfl)) (fun k hk e=>by omega)
   have d0:((kd:Int) == 0)=false:=by simp;omega
   have d1:decide (3 < (kd:Int))=false:=decide_eq_false (by omega)
   clear hq2 hb2 hgr HO2 HB HQ HO
   go_wp2
   go_roundw
   case rel=>exact ⟨1,by omega,by go_num,HQ3.out,fun x=>by cases x⟩
   case measure=>simp [intOf]
  ·obtain rfl:k=0:=by omega
   have HQ:=zh hq
   clear hw hq
   go_wp2
   go_ret
   exact ⟨rfl,HQ.out⟩
structure Z2f (w:World) (F:Nat->Prop) (xb:Nat) (e:IE):Prop where
 box:w.heap[xb]?=some (.cells #[.int .u64 (e.id:Int),.string e.name,.int .u64 (e.xmin:Int),.int .u64 (e.xmax:Int),.int .u64 (e.table:Int),.int .i64 (e.column:Int)] 155 (0,0))
 own:F xb
 num:U64 e.id/\U64 e.xmin/\U64 e.xmax/\U64 e.table/\e.column < 8
theorem Z2f.kept {S F:Nat->Prop} {w w':World} {xb:Nat} {e:IE} (h:Z2f w F xb e) (ho:Z0 S w w') (hn:∀ k,F k->¬ S k):Z2f w' F xb e:=⟨ho.get h.box (hn _ h.own),h.own,h.num⟩
theorem Z2f.mono {F G:Nat->Prop} {w:World} {xb:Nat} {e:IE} (h:Z2f w F xb e) (hg:∀ k,F k->G k):Z2f w G xb e:=⟨h.box,hg _ h.own,h.num⟩
def ZV (w:World) (F:Nat->Prop) (bb:Nat) (T:List TE) (I:List IE) (last:Nat):Prop :=
 ∃ vT tps vI ips,Z0z w F bb T vT tps vI ips last/\ips.length=I.length/\∀ (i:Nat) e,I[i]?=some e->∃ p,ips[i]?=some p/\Z2f w F p e
section
variable {w w':World} {F G:Nat->Prop} {bb last:Nat} {T:List TE} {I:List IE}
theorem ZV.kept {S:Nat->Prop} (h:ZV w F bb T I last) (ho:Z0 S w w') (hn:∀ k,F k->¬ S k):ZV w' F bb T I last:=by
 obtain ⟨vT,tps,vI,ips,h1,h2,h3⟩:=h
 exact ⟨vT,tps,vI,ips,h1.kept ho hn,h2,fun i e hi=>by obtain ⟨p,a,b⟩:=h3 i e hi;exact ⟨p,a,b.kept ho hn⟩⟩
theorem ZV.mono (h:ZV w F bb T I last) (hg:∀ k,F k->G k):ZV w G bb T I last:=by
 obtain ⟨vT,tps,vI,ips,h1,h2,h3⟩:=h
 exact ⟨vT,tps,vI,ips,⟨h1.box,h1.rowT,h1.rowI,fun i e hi=>by obtain ⟨p,a,b⟩:=h1.tbl i e hi;exact ⟨p,a,b.mono hg⟩,⟨hg _ h1.foot.1,fun k e=>hg _ (h1.foot.2.1 k e),fun k e=>hg _ (h1.foot.2.2 k e)⟩,h1.num⟩,h2,fun i e hi=>by obtain ⟨p,a,b⟩:=h3 i e hi;exact ⟨p,a,b.mono hg⟩⟩
theorem ZV.lt (h:ZV w F bb T I last):F bb/\bb < w.heap.size:=by
 obtain ⟨vT,tps,vI,ips,h1,h2,h3⟩:=h
 exact ⟨h1.foot.1,Z2 h1.box⟩
end
theorem Ziv (w:World) :
  Calls Tryz.prog 21 #[] w fun e w'=>e=.returned (.pointer (some ⟨w.heap.size,0,none⟩))/\Quiet w w'/\ZV w' (fun k=>w.heap.size <= k) w.heap.size [] [] 0:=by
 go_enter Tryz.func21,Tryz.ntmps21
 go_wp2
 go_ret
 exact ⟨rfl,(Z0.refl _ _).alloc _,.slice none 0 0,[],.slice none 0 0,[],⟨Z4 _ _,World.ownsRow_nil _ _ _ _,World.ownsRow_nil _ _ _ _,fun i e hi=>by simp at hi,⟨Nat.le_refl _,(fun k e=>by cases e),(fun k e=>by cases e)⟩,by unfold U64;omega⟩,rfl,fun i e hi=>by simp at hi⟩
def ZjR (w:World) (e:Ending) (w':World):Prop:=e=.returned (.slice none 0 0)/\w=w'
theorem Zci {w:World} {F:Nat->Prop} {bb last:Nat} (h:ZV w F bb [] [] last) :
  Calls Tryz.prog 96 #[.pointer (some ⟨bb,0,none⟩)] w (ZjR w):=by
 obtain ⟨vT,tps,vI,ips,h,h2,h3⟩:=h
 have hi0:ips=[]:=List.eq_nil_of_length_eq_zero h2
 subst hi0
 obtain ⟨c0,c1,_⟩:=h.cells
 obtain ⟨A,c,hv,hc,hm,_⟩:=Z2v h.rowI
 obtain ⟨A',c',hv',hc',hm',_⟩:=Z2v h.rowT
 subst hv hv'
 rw [List.length_nil] at c0 c1
 clear h h2 h3 hc hc'
 unfold maxLen at hm hm'
 go_enter Tryz.func96,Tryz.ntmps96
 go_wp2
 go_loop [13,3] (fun i o=>i=.int .i64 0/\o=.slice none 0 0) (fun _ _=>0)
 case atStart=>exact ⟨rfl,rfl⟩
 case round =>
  obtain ⟨rfl,rfl⟩:=hrel
  go_wp2
  go_loop [29,3] (fun i o=>i=.int .i64 0/\o=.slice none 0 0) (fun _ _=>0)
  case atStart=>exact ⟨rfl,rfl⟩
  case round =>
   obtain ⟨rfl,rfl⟩:=hrel
   go_wp2
   go_ret
   exact ⟨rfl,rfl⟩
theorem Zfc {w:World} {F:Nat->Prop} {bb lb last c:Nat} {A:Option Addr} {s:ZA} {name:ByteArray} (h:ZV w F bb [] [] last) :
  Calls Tryz.prog 54 #[.pointer (some ⟨bb,0,none⟩),.pointer (some ⟨lb,0,none⟩),Zm s A c,.string name] w fun e w'=>e=.returned (.int .i64 0)/\Quiet w w':=by
 have HQ0:Hid (Quiet w (w.alloc (.cells (snapCells s A c) 76))):=(Z0.refl _ _).alloc _
 have HE:=zh (Zci (h.kept HQ0.out (fun _ _ x=>x)))
 unfold Zm
 clear h
 go_enter Tryz.func54,Tryz.ntmps54
 go_wp2_with fail
 refine HE.out.mono ?_
 rintro e w1 ⟨rfl,rfl⟩
 go_wp2
 go_loop [15,9] (fun i o=>i=.int .i64 0/\o=.int .i64 0) (fun _ _=>0)
 case atStart=>exact ⟨rfl,rfl⟩
 case round =>
  obtain ⟨rfl,rfl⟩:=hrel
  go_wp2
  go_ret
  exact ⟨rfl,HQ0.out⟩
theorem Z0z.count {w:World} {F:Nat->Prop} {bb last:Nat} {T:List TE} {vT vI:Value} {tps ips:List Nat} (h:Z0z w F bb T vT tps vI ips last) (hl:last < 1000000) (z:Int) (hz:z=(last:Int)+1) :
  Z0z (w.setCell ⟨bb,2,none⟩ (.int .u64 z)) F bb T vT tps vI ips (last+1)/\Z0 (·=bb) w (w.setCell ⟨bb,2,none⟩ (.int .u64 z)):=by
 subst hz
 have ho:Z0 (·=bb) w (w.setCell ⟨bb,2,none⟩ (.int .u64 ((last:Int)+1))):=(Z0.refl (·=bb) w).setCell (p:=⟨bb,2,none⟩) (fun _=>rfl) _
 have ht:∀ k,vT.ownBlock=some k->k ≠ bb:=fun k e=>by
  obtain ⟨c,hh⟩:=Zh h.rowT e
  exact (Zb h.box hh (by decide)).symm
 have hi:∀ k,vI.ownBlock=some k->k ≠ bb:=fun k e=>by
  obtain ⟨c,hh⟩:=Zh h.rowI e
  exact (Zb h.box hh (by decide)).symm
 refine ⟨⟨?_,Z5 h.rowT ho (fun k e x=>ht k e x),Z5 h.rowI ho (fun k e x=>hi k e x),fun i e hie=>?_,h.foot,by unfold U64;omega⟩,ho⟩
 ·rw [Zg h.box];rfl
 ·obtain ⟨p,h1,h2⟩:=h.tbl i e hie
  obtain ⟨A,c,hb,hr,hc⟩:=h2.ex
  obtain ⟨A',c',t1,t2⟩:=h2.typ
  refine ⟨p,h1,⟨A,c,ho.get hb (Zb hb h.box (by decide)),?_,hc⟩,h2.own,h2.pos,h2.num,A',c',ho.get t1 (Zb t1 h.box (by decide)),fun g e=>⟨(t2 g e).1,by obtain ⟨cur,hh⟩:=(t2 g e).2;exact ⟨cur,ho.get hh (Zb hh h.box (by decide))⟩⟩⟩
  refine ⟨hr.len,fun hn=>?_⟩
  obtain ⟨b,off,e1,hb1,hcell⟩:=hr.cells hn
  refine ⟨b,off,e1,hb1,fun j u hu=>ho.cell (hcell j u hu) (fun x=>?_)⟩
  have x':b=bb:=x
  subst x'
  have hlen:0 < (ZZ e.cols).length:=hn
  have h0:=hcell 0 (ZZ e.cols)[0] (zg hlen)
  obtain ⟨q,hq⟩:∃ q,e.cols[0]?=some q:=⟨_,zg h2.pos.1⟩
  have hv:=(ZaI hq).1
  rw [Nat.zero_mul,zg hlen] at hv
  injection hv with hv
  rw [hv,Z1 h.box] at h0
  rcases hoff:off+0 with _ | _ | _ | n
  ·rw [hoff] at h0
   simp at h0
   rcases ZB h.rowT with ⟨e1,_⟩ | ⟨g,cap,e1,_⟩ <;> rw [e1] at h0 <;> cases h0
  ·rw [hoff] at h0
   simp at h0
   rcases ZB h.rowI with ⟨e1,_⟩ | ⟨g,cap,e1,_⟩ <;> rw [e1] at h0 <;> cases h0
  ·rw [hoff] at h0
   simp at h0
  ·rw [hoff] at h0
   simp at h0
def Z6i (w:World) (F:Nat->Prop) (bb:Nat) (T:List TE) (vT:Value) (tps:List Nat) (vI:Value) (ips:List Nat) (last own:Nat) (name:ByteArray) (e:Ending) (w':World):Prop :=
 e=.returned (.agg #[.int .u64 ((last:Int)+1),.string name,.int .u64 (own:Int),.int .u64 0])/\Z0 (·=bb) w w'/\Z0z w' F bb T vT tps vI ips (last+1)
theorem Z9g {w:World} {F:Nat->Prop} {bb last c:Nat} {T:List TE} {vT vI:Value} {tps ips:List Nat} {A:Option Addr} {s:ZA} {name:ByteArray} (h:Z0z w F bb T vT tps vI ips last) (hl:last < 1000000) :
  Calls Tryz.prog 55 #[.pointer (some ⟨bb,0,none⟩),Zm s A c,.string name] w (Z6i w F bb T vT tps vI ips last s.own name):=by
 obtain ⟨_,_,c2⟩:=h.cells
 have hf:∀ o,w.frozen? ⟨bb,o,none⟩=false:=fun o=>Z7 h.box o
 have hbl:=Z2 h.box
 have e1:IntKind.u64.wrap ((last:Int)+1)=(last:Int)+1:=by rw [IntKind.wrap_u64];omega
 have hb1:¬ bb=w.heap.size:=by omega
 have hb2:¬ bb=w.heap.size+1:=by omega
 have HC:=zh (h.count hl _ rfl)
 unfold Zm
 clear h
 go_enter Tryz.func55,Tryz.ntmps55
 go_wp2_with fail
 go_region
 all_goals
  go_wp2
  have HQ:Quiet (w.setCell ⟨bb,2,none⟩ (.int .u64 ((last:Int)+1))) ((((w.setCell ⟨bb,2,none⟩ (.int .u64 ((last:Int)+1))).alloc (.cells (snapCells s A c) 76)).alloc (.cells #[.int .u64 ((last:Int)+1),.string name,.int .u64 (s.own:Int),.int .u64 0] 140)).drew):=(((Z0.refl _ _).alloc _).alloc _).drew
  exact bodyPost_ret (v:=.agg #[.int .u64 ((last:Int)+1),.string name,.int .u64 (s.own:Int),.int .u64 0]) (by simp [results,Tryz.results55,go_sem]) rfl
   ⟨rfl,HC.out.2.trans' HQ (fun _ _ x=>x.elim),HC.out.1.kept HQ (fun _ _ x=>x)⟩
theorem Z0z.first {w4 w5 w7:World} {F:Nat->Prop} {bb last:Nat} {vT vI v7:Value} {t:TE} {A5:Option Addr} {c5:Nat} (h:Z0z w4 F bb [] vT [] vI [] last) (hf5:Z38 w4 w5 (.slice A5 t.cols.length c5) t.cols) (hc5:t.cols.length <= c5/\c5 <= maxLen)
  (hp:0 < t.cols.length/\t.cols.length <= 8) (hn:U64 t.id/\U64 t.xmin/\U64 t.xmax)
  (hg:ZT ((w5.alloc (.cells #[.int .u64 (t.id:Int),.string t.name,.int .u64 (t.xmin:Int),.int .u64 (t.xmax:Int),.slice A5 t.cols.length c5] 144)).alloc (.cells #[ptrV w5.heap.size] 138)) w7 138 1 vT v7 1 [ptrV w5.heap.size]) :
  ZV (w7.setCell ⟨bb,0,none⟩ v7) (fun k=>F k ∨ w4.heap.size <= k) bb [t] [] last/\Z0 F w4 (w7.setCell ⟨bb,0,none⟩ v7)/\(w7.setCell ⟨bb,0,none⟩ v7).cell? ⟨w5.heap.size,0,none⟩=some (.int .u64 (t.id:Int)):=by
 have hvt:∀ k,vT.ownBlock=some k->F k/\k < w4.heap.size/\k ≠ bb:=fun k e=>by
  obtain ⟨c,hh⟩:=Zh h.rowT e
  exact ⟨h.foot.2.1 k e,Z2 hh,(Zb h.box hh (by decide)).symm⟩
 have hvi:∀ k,vI.ownBlock=some k->k < w4.heap.size/\k ≠ bb/\vT.ownBlock ≠ some k:=fun k e=>by
  obtain ⟨c,hh⟩:=Zh h.rowI e
  refine ⟨Z2 hh,(Zb h.box hh (by decide)).symm,fun x=>?_⟩
  obtain ⟨c',hh'⟩:=Zh h.rowT x
  exact absurd rfl (Zb hh hh' (by decide))
 have hl:=Z2 h.box
 have hz5:=hf5.quiet.size
 have hq2:Quiet w5 ((w5.alloc (.cells #[.int .u64 (t.id:Int),.string t.name,.int .u64 (t.xmin:Int),.int .u64 (t.xmax:Int),.slice A5 t.cols.length c5] 144)).alloc (.cells #[ptrV w5.heap.size] 138)):=((Z0.refl _ _).alloc _).alloc _
 have hq:=hf5.quiet.trans hq2
 have b4:=hg.only.get (hq.get h.box (fun x=>x)) (fun e=>(hvt bb e).2.2 rfl)
 have ht7:=hg.only.get (Zd (Z4 w5 (.cells #[.int .u64 (t.id:Int),.string t.name,.int .u64 (t.xmin:Int),.int .u64 (t.xmax:Int),.slice A5 t.cols.length c5] 144)) (.cells #[ptrV w5.heap.size] 138)) (fun e=>by have:=(hvt _ e).2.1;omega)
 have ho:Z0 (·=bb) w7 (w7.setCell ⟨bb,0,none⟩ v7):=(Z0.refl (·=bb) w7).setCell (p:=⟨bb,0,none⟩) (fun _=>rfl) v7
 have hne:¬ w5.heap.size=bb:=by omega
 have hv7:∀ k,v7.ownBlock=some k->(F k ∨ w4.heap.size <= k)/\k ≠ bb:=fun k e=>by
  rcases hg.loc with x | x
  ·rw [x] at e;exact ⟨Or.inl (hvt k e).1,(hvt k e).2.2⟩
  ·rw [x] at e;injection e with e;simp only [World.size_alloc] at e;exact ⟨Or.inr (by omega),by omega⟩
 have hrow5:=hf5.own
 have hnew5:∀ k,(Value.slice A5 t.cols.length c5).ownBlock=some k->w4.heap.size <= k/\k < w5.heap.size:=fun k e=>⟨hf5.new k e,(hrow5.lt k e).2⟩
 obtain ⟨A6,c6,e6,_,_,hrd⟩:=Za hrow5
 injection e6 with e6 _ e7
 subst e6 e7
 have hrd7:=((hrd.kept hq2 (fun _ _ x=>x)).kept hg.only (fun k e x=>by have:=hnew5 k e;have:=(hvt k x).2.1;omega)).kept ho (fun k e x=>by have:=hnew5 k e;omega)
 have tb:=ho.get ht7 hne
 refine ⟨⟨v7,[w5.heap.size],vI,[],⟨?_,?_,?_,?_,⟨Or.inl h.foot.1,fun k e=>(hv7 k e).1,fun k e=>Or.inl (h.foot.2.2 k e)⟩,h.num⟩,rfl,fun i e hi=>by simp at hi⟩,?_,?_⟩
 ·rw [Zg b4];rfl
 ·exact Z5 hg.own ho (fun k e x=>(hv7 k e).2 x)
 ·exact Z5 (Z5 (Z5 h.rowI hq (fun _ _ x=>x)) hg.only (fun k e x=>(hvi k e).2.2 x)) ho (fun k e x=>(hvi k e).2.1 x)
 ·intro i e hi
  rcases i with _ | i
  ·simp at hi
   subst hi
   exact ⟨w5.heap.size,rfl,⟨_,_,tb,hrd7.mono (fun k e=>Or.inr (hnew5 k e).1),hc5⟩,Or.inr hz5,hp,hn,A5,c5,tb,fun g e=>⟨Or.inr (hnew5 g e).1,by
     obtain ⟨cur,hh⟩:=Zh hrow5 e
     exact ⟨cur,ho.get (hg.only.get (hq2.get hh (fun x=>x)) (fun x=>by have:=hnew5 g e;have:=(hvt g x).2.1;omega)) (fun x=>by have x':g=bb:=x;have:=hnew5 g e;omega)⟩⟩⟩
  ·simp at hi
 ·exact ((hq.mono (T:=F) (fun _ _ x=>x.elim)).trans' hg.only (fun k _ e=>(hvt k e).1)).trans' ho (fun k _ e=>by subst e;exact h.foot.1)
 ·rw [Z1 tb];rfl
theorem Ziw:Z0c Tryz.prog 129 138 1 8:=Z0c.mk' (.pointer none) Tryz.underlying129 (by kernel_rfl) rfl (by decide)
def Z70 (w:World) (F:Nat->Prop) (bb last:Nat) (t:TE) (e:Ending) (w':World):Prop :=
 e=.returned (.tuple #[.int .u64 ((last:Int)+1),.int .i64 0])/\Z0 F w w'/\ZV w' (fun k=>F k ∨ w.heap.size <= k) bb [t] [] (last+1)
theorem Zfd {w:World} {F S S2:Nat->Prop} {bb lb last c c2 kd:Nat} {A A2:Option Addr} {s:ZA} {name nm:ByteArray} (h:ZV w F bb [] [] last) (hl:last < 1000000) (hnm:Z2M name) (hcn:Z2M nm) (hk:1 <= kd/\kd <= 3) (hu:U64 s.own)
  (hr:Rd w S2 2 A2 1 (ZZ [(nm,kd)])) (hS:∀ k,S2 k->¬ F k) (hc2:1 <= c2) (hm2:c2 <= maxLen) :
  Calls Tryz.prog 25 #[.pointer (some ⟨bb,0,none⟩),.pointer (some ⟨lb,0,none⟩),Zm s A c,.string name,.slice A2 1 c2] w (Z70 w F bb last ⟨last+1,name,[(nm,kd)],s.own,0⟩):=by
 have HQ0:Hid (Quiet w (w.alloc (.cells (snapCells s A c) 76))):=(Z0.refl _ _).alloc _
 have HNM:Hid (∀ W,Calls Tryz.prog 52 #[.string name] W (Z0a W true)):=fun W=>Z6Z name hnm W
 have HRI:Hid (∀ W,Quiet w W->Calls Tryz.prog 53 #[.slice A2 1 c2] W (Z0a W true)):=fun W hq=>ZgU (hr.kept hq (fun _ _ x=>x)) hcn hk hc2 hm2
 have HTK:Hid (∀ W,Quiet w W->Calls Tryz.prog 54 #[.pointer (some ⟨bb,0,none⟩),.pointer (some ⟨lb,0,none⟩),Zm s A c,.string name] W fun e w'=>e=.returned (.int .i64 0)/\Quiet W w'):=fun W hq=>Zfc (h.kept hq (fun _ _ x=>x))
 have HB:=zh (Z4 w (.cells (snapCells s A c) 76))
 have HH:=zh h
 have HR:=zh hr
 have HS:=zh hS
 unfold Zm at *
 clear h hr hS hnm hcn
 go_enter Tryz.func25,Tryz.ntmps25
 go_wp2_with fail
 refine (HNM.out _).mono ?_
 rintro e w1 ⟨rfl,hq1⟩
 have HQ1:=zh (HQ0.out.trans hq1)
 have HB1:=zh (hq1.get (by exact HB.out) (fun x=>x))
 clear hq1 HB HQ0
 go_wp2_with fail
 refine (HRI.out _ HQ1.out).mono ?_
 rintro e w2 ⟨rfl,hq2⟩
 have HQ2:=zh (HQ1.out.trans hq2)
 have HB2:=zh (hq2.get HB1.out (fun x=>x))
 obtain ⟨b0,b1,b2,b3⟩:=Z07 HB2.out
 clear hq2 HB1 HQ1
 go_wp2_with fail
 refine (HTK.out _ HQ2.out).mono ?_
 rintro e w3 ⟨rfl,hq3⟩
 have HQ3:=zh (HQ2.out.trans hq3)
 have HB3:=zh (hq3.get HB2.out (fun x=>x))
 clear b0 b1 b2 b3 hq3 HB2 HQ2 HTK HRI HNM
 obtain ⟨b0,b1,b2,b3⟩:=Z07 HB3.out
 obtain ⟨vT,tps,vI,ips,hrow,hi0,_⟩:=HH.out.kept HQ3.out (fun _ _ x=>x)
 have hips:ips=[]:=List.eq_nil_of_length_eq_zero hi0
 have htps:tps=[]:=List.eq_nil_of_length_eq_zero hrow.tlen
 subst hips htps
 obtain ⟨c0,_,_⟩:=hrow.cells
 obtain ⟨AT,cT,hvT,hcT,hmT,_⟩:=Z2v hrow.rowT
 subst hvT
 rw [List.length_nil] at c0
 unfold maxLen at hmT
 have HFR:Hid (Calls Tryz.prog 55 #[.pointer (some ⟨bb,0,none⟩),Zm s A c,.string name] w3 (Z6i w3 F bb [] (.slice AT 0 cT) [] vI [] last s.own name)):=Z9g hrow hl
 unfold Zm at HFR
 clear hcT hrow hi0
 go_wp2_with fail
 refine HFR.out.mono ?_
 rintro e w4 ⟨rfl,ho4,hr4⟩
 have HO4:=zh ho4
 have HR4:=zh hr4
 have HRD4:Hid (Rd w4 S2 2 A2 1 (ZZ [(nm,kd)])):=(HR.out.kept HQ3.out (fun _ _ x=>x)).kept ho4 (fun k x e=>by subst e;exact HS.out _ x hr4.foot.1)
 clear ho4 hr4 HFR c0 b0 b1 b2 b3
 go_wp2_with fail
 refine (Z9d A2 c2 [(nm,kd)] S2 w4 HRD4.out (by simp) (by simp)).mono ?_
 rintro e w5 ⟨v5,rfl,hf5⟩
 obtain ⟨A5,c5,hv5,hc5,hm5,_⟩:=Za hf5.own
 subst hv5
 have HF5:=zh hf5
 have HC5:=zh (And.intro hc5 hm5)
 have hb5:=hf5.quiet.get HR4.out.box (fun x=>x)
 have k0:=Z1 hb5 0
 have kf:=fun o=>Z7 hb5 o
 simp only [zGA,zGS,zGZ] at k0
 have hbl5:bb < w5.heap.size:=Z2 hb5
 have hne5:¬ bb=w5.heap.size:=by omega
 have hne6:¬ bb=w5.heap.size+1:=by omega
 clear hf5 hc5 hm5 HRD4 hb5
 have HROW:Hid (World.ownsRow ((w5.alloc (.cells #[.int .u64 ((last:Int)+1),.string name,.int .u64 (s.own:Int),.int .u64 0,.slice A5 1 c5] 144)).alloc (.cells #[ptrV w5.heap.size] 138)) 0 138 1 (.slice AT 0 cT) 0 []) :=
  Z5 (Z5 HR4.out.rowT HF5.out.quiet (fun _ _ x=>x)) (((Z0.refl (fun _=>False) w5).alloc _).alloc _) (fun _ _ x=>x)
 have HRD:Hid (Rd ((w5.alloc (.cells #[.int .u64 ((last:Int)+1),.string name,.int .u64 (s.own:Int),.int .u64 0,.slice A5 1 c5] 144)).alloc (.cells #[ptrV w5.heap.size] 138)) (fun _=>True) 1 (some ⟨w5.heap.size+1,0,none⟩) 1 [ptrV w5.heap.size]):=by
  have:=Rd.one (w5.alloc (.cells #[.int .u64 ((last:Int)+1),.string name,.int .u64 (s.own:Int),.int .u64 0,.slice A5 1 c5] 144)) (ptrV w5.heap.size) 138 (0,0) (S:=fun _=>True) trivial
  rw [World.size_alloc] at this
  exact this
 go_wp2_with (at_builtin;refine app Ziw rfl (.tmp 52) (.tmp 54) rfl rfl HROW.out rfl HRD.out (Z3v [w5.heap.size]) (by unfold maxLen;omega) (by omega) ?_)
 intro v7 w7 hg7
 obtain ⟨A7,c7,hv7,_,_,_⟩:=Za hg7.own
 subst hv7
 have HFI:=zh (HR4.out.first (t:=⟨last+1,name,[(nm,kd)],s.own,0⟩) HF5.out HC5.out ⟨by simp,by simp⟩ ⟨by show last+1 < 18446744073709551616;omega,hu,by show 0 < 18446744073709551616;omega⟩ hg7)
 have b7:=hg7.only.get ((((HF5.out.quiet.alloc (.cells #[.int .u64 ((last:Int)+1),.string name,.int .u64 (s.own:Int),.int .u64 0,.slice A5 1 c5] 144)).alloc (.cells #[ptrV w5.heap.size] 138)).get HR4.out.box (fun x=>x))) (fun e=>by
   obtain ⟨c,hh⟩:=Zh HR4.out.rowT e
   exact absurd rfl (Zb HR4.out.box hh (by decide)))
 have s0:=Z1 b7 0
 have sf:=fun o=>Z7 b7 o
 simp only [zGA,zGS,zGZ] at s0
 have hid:(w7.setCell ⟨bb,0,none⟩ (.slice A7 (0+1) c7)).cell? ⟨w5.heap.size,0,none⟩=some (.int .u64 ((last:Int)+1)):=HFI.out.2.2
 have Zc:Hid (Z70 w F bb last ⟨last+1,name,[(nm,kd)],s.own,0⟩ (.returned (.tuple #[.int .u64 ((last:Int)+1),.int .i64 0])) (w7.setCell ⟨bb,0,none⟩ (.slice A7 (0+1) c7))):=by
  have hz3:=HQ3.out.size
  have hz4:=HO4.out.size
  refine ⟨rfl,(((HQ3.out.mono (T:=F) (fun _ _ x=>x.elim)).trans' HO4.out (fun k _ e=>by subst e;exact HR4.out.foot.1)).trans HFI.out.2.1),HFI.out.1.mono (fun k x=>?_)⟩
  rcases x with x | x
  ·exact Or.inl x
  ·exact Or.inr (by omega)
 clear hg7 b7 HROW HRD HFI k0 kf
 simp only [Nat.zero_add] at hid Zc
 go_wp2
 go_ret2
 exact Zc.out
theorem Zdo (w:World) :
  Calls Tryz.prog 146 #[.string ⟨#[]⟩] w fun e w'=>e=.returned (.bool true)/\w=w':=by
 go_enter Tryz.func146,Tryz.ntmps146
 go_wp2
 refine wp_loop_rounds 1 ?_
 rw [rounds_succ]
 go_wp2
 go_ret
 exact ⟨rfl,rfl⟩
theorem Zdp (w:World) :
  Calls Tryz.prog 147 #[.string ⟨#[]⟩,.int .u8 0] w fun e w'=>e=.returned (.int .i64 (-1))/\w=w':=by
 go_enter Tryz.func147,Tryz.ntmps147
 go_wp2
 rw [run_callFunc_extern Tryz.func193 (by kernel_rfl) (by kernel_rfl) (by kernel_rfl) (e:=Extern.BytealgIndexByte.indexByte) (by kernel_rfl),Lib.run_indexByteString]
 simp only [Result.andThen]
 rw [Oper.upon_value]
 go_wp2
 go_ret
 exact ⟨rfl,rfl⟩
abbrev intCells (n:Int):Array Value:=#[.int .u8 1,.int .i64 n,.string ⟨#[]⟩,.bool false]
theorem Z9X (n:Int) (w:World) :
  Calls Tryz.prog 116 #[.agg (intCells n)] w (Z0a w true):=by
 have hqq:Hid (Quiet w ((w.alloc (.cells (intCells n) 32)).alloc (.cells (intCells 0) 32))):=((Z0.refl _ _).alloc _).alloc _
 go_enter Tryz.func116,Tryz.ntmps116
 go_wp2_with fail
 refine (Zdo _).mono ?_
 rintro e w1 ⟨rfl,rfl⟩
 go_wp2_with fail
 refine (Zdp _).mono ?_
 rintro e w1 ⟨rfl,rfl⟩
 go_wp2
 go_ret
 exact ⟨rfl,hqq.out⟩
abbrev intRow (n:Int):List Value:=[.int .u8 1,.int .i64 n,.string ⟨#[]⟩,.bool false]
theorem intRow.get {w:World} {S:Nat->Prop} {A:Option Addr} {n:Int} (h:Rd w S 4 A 1 (intRow n)):∃ b off,A=some ⟨b,off,none⟩/\S b/\w.cell? ⟨b,off,none⟩=some (.int .u8 1)/\w.cell? ⟨b,off+1,none⟩=some (.int .i64 n)/\w.cell? ⟨b,off+2,none⟩=some (.string ⟨#[]⟩)/\w.cell? ⟨b,off+3,none⟩=some (.bool false):=by
 obtain ⟨b,off,rfl,hb,hc⟩:=h.cells (by show 0 < 4;decide)
 exact ⟨b,off,rfl,hb,hc 0 _ rfl,hc 1 _ rfl,hc 2 _ rfl,hc 3 _ rfl⟩
def Zkv (n k:Nat):List Nat:=(List.range k).map (fun i=>if i=0 then n else 0)
def rowI (n:Nat):List Nat:=0 :: Zkv n 8
theorem Zix (w:World) (e:TypeId) (u:Value):(w.alloc (.cells #[u] e)).ownsRow 0 e 1 (.slice (some ⟨w.heap.size,0,none⟩) 1 1) 1 [u] :=
 ⟨by simp,.inr ⟨w.heap.size,1,#[u],rfl,Nat.zero_le _,heap_alloc_new w _,Nat.le_refl _,by unfold maxLen;omega,rfl,by simp⟩⟩
section
variable {w wr w':World} {v:Value} {l:List Nat}
theorem ZH.quietly (h:ZH w wr v l) (hq:Quiet wr w'):ZH w w' v l:=⟨h.quiet.trans hq,h.new,Z5 h.own hq (fun _ _ x=>x)⟩
theorem ZH.step {w4:World} {v':Value} {o:Obj} {x:Nat} (h:ZH w wr v l) (hg:ZT (wr.alloc o) w4 5 1 v v' (l.length+1) (Z9 l ++ Z9 [x])):ZH w w4 v' (l ++ [x]):=by
 have hsz:=h.quiet.size
 refine ⟨(h.quiet.alloc _).trans' hg.only (fun k hk e=>by have:=h.new k e;omega),fun k e=>?_,?_⟩
 ·rcases hg.loc with y | y
  ·rw [y] at e;exact h.new k e
  ·rw [y] at e;injection e with e;simp only [World.size_alloc] at e;omega
 ·rw [List.length_append,show Z9 (l ++ [x])=Z9 l ++ Z9 [x] by simp [Z9]]
  exact hg.own
end
def Z40 (w:World) (l:List Nat) (e:Ending) (w':World):Prop:=∃ v,e=.returned (.tuple #[v,.int .i64 0])/\ZH w w' v l
theorem Z0s {P:Program} {fn:Func} {p q r:Tmp} {ty:TypeId} (h:fn.results=#[.cell p ty,.tmp q,.tmp r]) (tmps:Array Value) (w:World) (g:Nat) (t:TypeId) (cs:Array Value) (fr:Nat × Nat) (d:TypeDesc)
  (hp:tmps.getD p undef=.pointer (some ⟨g,0,none⟩)) (hg:w.heap[g]?=some (.cells cs t fr))
  (hu:P.underlying ty=some d) (hd:(match d with | .struct _ | .array _ _=>true | _=>false)=true) (hi:(P.info? ty).map (·.size)=some cs.size) :
  (results fn tmps).run P w=.ok (.tuple #[.agg cs,tmps.getD q undef,tmps.getD r undef]) w:=by
 have hp':tmps[p]?.getD undef=.pointer (some ⟨g,0,none⟩):=by simpa using hp
 simp [results,h,hp',asAddr,run_loadVar_row w g t ty cs fr d hg hu hd hi]
theorem Z1G:(Tryz.prog.info? 32).map (·.size)=some 4:=by kernel_rfl
theorem Zp (x:Int) (h1:-9223372036854775808 <= x) (h2:x <= 9223372036854775807):IntKind.i64.wrap x=x:=by rw [IntKind.wrap_i64];omega
theorem Zcj:Z0c Tryz.prog 33 32 4 40:=Z0c.mk' (.agg #[.int .u8 0,.int .i64 0,.string ⟨#[]⟩,.bool false]) Tryz.underlying33 (by kernel_rfl) rfl (by decide)
theorem Z9j (w:World) (b:Nat):∀ (l:List Nat),(∀ x ∈ l,x < 256)->∀ (off:Nat) (acc:ByteArray),(∀ j u,(Z9 l)[j]?=some u->w.cell? ⟨b,off+j,none⟩=some u) →
  (Extern.Bytes.loadBytes ⟨b,off,none⟩ l.length acc).run Tryz.prog w=.ok ⟨acc.data ++ (l.map UInt8.ofNat).toArray⟩ w
 | [],_,off,acc,_=>by simp [Extern.Bytes.loadBytes]
 | x :: l,hb,off,acc,h=>by
  have h0:w.cell? ⟨b,off,none⟩=some (.int .u8 (x:Int)):=h 0 (.int .u8 x) rfl
  have hx:=hb x (by simp)
  have ih:=Z9j w b l (fun y hy=>hb y (by simp [hy])) (off+1) (acc.push (UInt8.ofNat x)) (fun j u hu=>by
    have:=h (j+1) u (by simpa [Z9] using hu)
    rw [show off+1+j=off+(j+1) by omega]
    exact this)
  have e:((x:Int).toNat).toUInt8=UInt8.ofNat x:=by simp
  simp only [List.length_cons,Extern.Bytes.loadBytes,Sem.run_bind,run_load,h0,Result.andThen,Zl,e]
  rw [ih]
  congr 1
  apply ByteArray.ext
  simp [ByteArray.push]
theorem Zck (A:Option Addr) (cap:Nat) (l:List Nat) (S:Nat->Prop) (w:World) (hr:Rd w S 1 A l.length (Z9 l)) (hb:∀ x ∈ l,x < 256) :
  (Extern.Bytes.bytesOf (.slice A l.length cap)).run Tryz.prog w=.ok ⟨(l.map UInt8.ofNat).toArray⟩ w:=by
 rcases A with _ | ⟨b,off,sp⟩
 ·have hl0:l=[]:=by
   rcases l with _ | ⟨x,l⟩
   ·rfl
   ·obtain ⟨b,off,e,_⟩:=hr.cells (by simp [Z9]);cases e
  subst hl0
  rfl
 ·rcases l with _ | ⟨x,l⟩
  ·rfl
  ·obtain ⟨b',off',e,_,hc⟩:=hr.cells (by simp [Z9])
   injection e with e
   rw [e]
   have:=Z9j w b' (x :: l) hb off' .empty hc
   show (Extern.Bytes.loadBytes ⟨b',off',none⟩ (x :: l).length .empty).run Tryz.prog w=_
   rw [this]
   congr 1
   apply ByteArray.ext
   show (#[]:Array UInt8) ++ _=_
   simp
theorem Ziz (A B:Option Addr) (ca cb:Nat) (l m:List Nat) (S S':Nat->Prop) (w:World) (hr:Rd w S 1 A l.length (Z9 l)) (hr':Rd w S' 1 B m.length (Z9 m)) (hb:∀ x ∈ l,x < 256) (hb':∀ x ∈ m,x < 256) :
  (Extern.BytealgCompare.compare #[.slice A l.length ca,.slice B m.length cb]).run Tryz.prog w=.ok (.int .i64 (Z0Q l m)) w:=by
 change Sem.run Tryz.prog (do pure (goInt (Extern.BytealgCompare.cmp (<- Extern.Bytes.bytesOf (.slice A l.length ca)) (<- Extern.Bytes.bytesOf (.slice B m.length cb))))) w=_
 simp only [Sem.run_bind,Sem.run_pure,Zck A ca l S w hr hb,Zck B cb m S' w hr' hb',Result.andThen]
 rw [Lib.cmp_eq]
 simp only [List.toList_toArray]
 rw [Z9i l m hb hb']
 rfl
theorem Zdr (A B:Option Addr) (ca cb:Nat) (l m:List Nat) (S S':Nat->Prop) (w:World) (hr:Rd w S 1 A l.length (Z9 l)) (hr':Rd w S' 1 B m.length (Z9 m)) (hb:∀ x ∈ l,x < 256) (hb':∀ x ∈ m,x < 256) :
  Calls Tryz.prog 138 #[.slice A l.length ca,.slice B m.length cb] w fun e w'=>e=.returned (.int .i64 (Z0Q l m))/\w=w':=by
 have h:=zh (Ziz A B ca cb l m S S' w hr hr' hb hb')
 clear hr hr' hb hb'
 go_enter Tryz.func138,Tryz.ntmps138
 go_wp2
 rw [run_callFunc_extern Tryz.func172 (by kernel_rfl) (by kernel_rfl) (by kernel_rfl) (e:=Extern.BytealgCompare.compare) (by kernel_rfl),h.out]
 simp only [Result.andThen]
 rw [Oper.upon_value]
 go_wp2
 go_ret
 exact ⟨rfl,rfl⟩
theorem Z3z (x:Int) (w:World):Calls Tryz.prog 173 #[.int .i64 x] w fun e w'=>e=.returned (.bool false)/\w=w':=by
 go_enter Tryz.func173,Tryz.ntmps173
 go_wp2
 go_ret
 exact ⟨by simp,rfl⟩
theorem Zcl (x y:Int) (w:World):Calls Tryz.prog 139 #[.int .i64 x,.int .i64 y] w fun e w'=>e=.returned (.int .i64 (Z1H x y))/\w=w':=by
 have hR:Z1H x y=if x < y then -1 else if y < x then 1 else 0:=rfl
 by_cases h1:x < y
 ·rw [if_pos h1] at hR
  have HR:=zh hR
  clear hR
  go_enter Tryz.func139,Tryz.ntmps139
  go_wp2_with fail
  refine (Z3z _ _).mono ?_
  rintro e w1 ⟨rfl,rfl⟩
  go_wp2_with fail
  refine (Z3z _ _).mono ?_
  rintro e w1 ⟨rfl,rfl⟩
  go_wp2
  go_ret
  rw [HR.out]
  exact ⟨rfl,rfl⟩
 ·rw [if_neg h1] at hR
  by_cases h2:y < x
  ·rw [if_pos h2] at hR
   have HR:=zh hR
   clear hR
   go_enter Tryz.func139,Tryz.ntmps139
   go_wp2_with fail
   refine (Z3z _ _).mono ?_
   rintro e w1 ⟨rfl,rfl⟩
   go_wp2_with fail
   refine (Z3z _ _).mono ?_
   rintro e w1 ⟨rfl,rfl⟩
   go_wp2
   go_ret
   rw [HR.out]
   exact ⟨rfl,rfl⟩
  ·rw [if_neg h2] at hR
   have HR:=zh hR
   clear hR
   have h3:x=y:=by omega
   subst h3
   go_enter Tryz.func139,Tryz.ntmps139
   go_wp2_with fail
   refine (Z3z _ _).mono ?_
   rintro e w1 ⟨rfl,rfl⟩
   go_wp2_with fail
   refine (Z3z _ _).mono ?_
   rintro e w1 ⟨rfl,rfl⟩
   go_wp2
   go_ret
   rw [HR.out]
   exact ⟨rfl,rfl⟩
def orV (x y z:Int):Int:=if x ≠ 0 then x else if y ≠ 0 then y else z
theorem Zkw (b:Nat) (x y z:Int) (t:TypeId) (w:World) (h:w.heap[b]?=some (.cells #[.int .i64 x,.int .i64 y,.int .i64 z] t (0,0))) :
  Calls Tryz.prog 137 #[.slice (some ⟨b,0,none⟩) 3 3] w fun e w'=>e=.returned (.int .i64 (orV x y z))/\w=w':=by
 obtain ⟨c0,c1,c2⟩:w.cell? ⟨b,0,none⟩=some (.int .i64 x)/\w.cell? ⟨b,1,none⟩=some (.int .i64 y)/\w.cell? ⟨b,2,none⟩=some (.int .i64 z):=⟨by rw [Z1 h];rfl,by rw [Z1 h];rfl,by rw [Z1 h];rfl⟩
 have hR:=zh (show orV x y z=if x ≠ 0 then x else if y ≠ 0 then y else z from rfl)
 clear h
 go_enter Tryz.func137,Tryz.ntmps137
 go_wp2_with fail
 go_loopw [8,5] (fun c _ wr=>wr=w/\∃ k:Nat,k <= 3/\c=.int .i64 (k:Int)/\(0 < k->x=0)/\(1 < k->y=0)/\(2 < k->z=0)) (fun c _ _=>3 - (intOf c).toNat)
 case atStart=>exact ⟨rfl,0,Nat.zero_le _,rfl,fun h=>by omega,fun h=>by omega,fun h=>by omega⟩
 case round =>
  obtain ⟨rfl,k,hk,rfl,k0,k1,k2⟩:=hrel
  rcases (show k=0 ∨ k=1 ∨ k=2 ∨ k=3 by omega) with rfl | rfl | rfl | rfl
  ·clear k0 k1 k2 hk
   by_cases e:x=0
   ·have d:(x != 0)=false:=by simp [e]
    go_wp2
    go_roundw
    case rel=>exact ⟨trivial,1,by omega,by go_num,fun _=>e,fun h=>by omega,fun h=>by omega⟩
    case measure=>simp [intOf]
   ·have d:(x != 0)=true:=by simp [e]
    go_wp2
    go_ret
    rw [hR.out,if_pos e]
    exact ⟨rfl,rfl⟩
  ·have e0:=k0 (by omega)
   clear k0 k1 k2 hk
   have H0:=zh e0
   clear e0
   by_cases e:y=0
   ·have d:(y != 0)=false:=by simp [e]
    have HE:=zh e
    clear e
    go_wp2
    go_roundw
    case rel=>exact ⟨trivial,2,by omega,by go_num,fun _=>H0.out,fun _=>HE.out,fun h=>by omega⟩
    case measure=>simp [intOf]
   ·have d:(y != 0)=true:=by simp [e]
    go_wp2
    go_ret
    rw [hR.out,if_neg (by simp [H0.out]),if_pos e]
    exact ⟨rfl,rfl⟩
  ·have e0:=k0 (by omega)
   have e1:=k1 (by omega)
   clear k0 k1 k2 hk
   have H0:=zh e0
   have H1:=zh e1
   clear e0 e1
   by_cases e:z=0
   ·have d:(z != 0)=false:=by simp [e]
    have HE:=zh e
    clear e
    go_wp2
    go_roundw
    case rel=>exact ⟨trivial,3,by omega,by go_num,fun _=>H0.out,fun _=>H1.out,fun _=>HE.out⟩
    case measure=>simp [intOf]
   ·have d:(z != 0)=true:=by simp [e]
    go_wp2
    go_ret
    rw [hR.out,if_neg (by simp [H0.out]),if_neg (by simp [H1.out])]
    exact ⟨rfl,rfl⟩
  ·have e0:=k0 (by omega)
   have e1:=k1 (by omega)
   have e2:=k2 (by omega)
   clear k0 k1 k2 hk c0 c1 c2
   have H0:=zh e0
   have H1:=zh e1
   have H2:=zh e2
   clear e0 e1 e2
   go_wp2
   go_ret
   rw [hR.out,if_neg (by simp [H0.out]),if_neg (by simp [H1.out]),H2.out]
   exact ⟨rfl,rfl⟩
abbrev entV (e:Ent) (A:Option Addr) (c:Nat):Value:=.agg #[.slice A e.key.length c,.int .i64 e.pg,.int .i64 e.sl]
theorem Zkx (a b:Ent):orV (Z0Q a.key b.key) (Z1H a.pg b.pg) (Z1H a.sl b.sl)=cmpE a b:=rfl
theorem Z5x (w:World) (o o' o'':Obj):(((w.alloc o).alloc o').alloc o'').heap[w.heap.size+1+1]?=some o'':=by
 have:=Z0y (w.alloc o) o' o''
 rw [World.size_alloc] at this
 exact this
theorem Z1N {w:World} {b:Nat} {t:TypeId} {fr:Nat × Nat} {x y z:Value} (h:w.heap[b]?=some (.cells #[x,y,z] t fr)):w.cell? ⟨b,0,none⟩=some x/\w.cell? ⟨b,1,none⟩=some y/\w.cell? ⟨b,2,none⟩=some z :=
 ⟨by rw [Z1 h];rfl,by rw [Z1 h];rfl,by rw [Z1 h];rfl⟩
theorem ZgW (a b:Ent) (A B:Option Addr) (ca cb:Nat) (S S':Nat->Prop) (w:World) (hr:Rd w S 1 A a.key.length (Z9 a.key)) (hr':Rd w S' 1 B b.key.length (Z9 b.key)) (hb:∀ x ∈ a.key,x < 256) (hb':∀ x ∈ b.key,x < 256) :
  Calls Tryz.prog 107 #[entV a A ca,entV b B cb] w fun e w'=>e=.returned (.int .i64 (cmpE a b))/\Quiet w w':=by
 rw [<- Zkx]
 have hq0:Quiet w ((w.alloc (.cells #[.slice A a.key.length ca,.int .i64 a.pg,.int .i64 a.sl] 103)).alloc (.cells #[.slice B b.key.length cb,.int .i64 b.pg,.int .i64 b.sl] 103)):=((Z0.refl _ _).alloc _).alloc _
 have HQ:=zh hq0
 have HC:=zh (fun (W:World) (hq:Quiet w W)=>Zdr A B ca cb a.key b.key S S' W (hr.kept hq (fun _ _ x=>x)) (hr'.kept hq (fun _ _ x=>x)) hb hb')
 clear hr hr' hb hb' hq0
 go_enter Tryz.func107,Tryz.ntmps107
 go_wp2_with fail
 go_region_held3 (fun w'=>w'.cell? ⟨w.heap.size,0,none⟩=some (.slice A a.key.length ca)/\w'.cell? ⟨w.heap.size,1,none⟩=some (.int .i64 a.pg)/\w'.cell? ⟨w.heap.size,2,none⟩=some (.int .i64 a.sl)/\w'.cell? ⟨w.heap.size+1,0,none⟩=some (.slice B b.key.length cb)/\w'.cell? ⟨w.heap.size+1,1,none⟩=some (.int .i64 b.pg)/\w'.cell? ⟨w.heap.size+1,2,none⟩=some (.int .i64 b.sl))
  (first | go_keep | fail)
  (first
    | (go_at_call 138;go_must (refine (HC.out _ (HQ.out.drew)).mono ?_;rintro e w2 ⟨rfl,rfl⟩))
    | (go_at_call 139;go_must (refine (Zcl _ _ _).mono ?_;rintro e w2 ⟨rfl,rfl⟩))
    | (go_at_call 137;go_must (refine (Zkw (w.heap.size+1+1) _ _ _ 3 _ (by exact Z5x _ _ _ _)).mono ?_;rintro e w2 ⟨rfl,rfl⟩))
    | fail)
 go_wp2
 go_ret
 exact ⟨rfl,(HQ.out.alloc _).drew⟩
theorem Z3o:Z0c Tryz.prog 158 103 3 40:=Z0c.mk' (.agg #[.slice none 0 0,.int .i64 0,.int .i64 0]) Tryz.underlying158 (by kernel_rfl) rfl (by decide)
theorem Z3A:Z0c Tryz.prog 159 157 1 8:=Z0c.mk' (.pointer none) Tryz.underlying159 (by kernel_rfl) rfl (by decide)
abbrev RowAt (w:World) (v:Value) (xs:List EV):Prop:=w.ownsRow 0 103 3 v xs.length (Z01 xs)
structure Z2n (w w':World) (e:TypeId) (size:Nat) (v:Value) (n:Nat) (xs:List Value):Prop where
 quiet:Quiet w w'
 own:w'.ownsRow 0 e size v n xs
 loc:∃ k,v.ownBlock=some k/\w.heap.size <= k
def Z9k (w:World) (e:TypeId) (size n:Nat) (xs:List Value) (en:Ending) (w':World):Prop:=∃ v,en=.returned v/\Z2n w w' e size v n xs
theorem Z9l {w w1:World} {e:TypeId} {size n:Nat} {v:Value} {xs:List Value} (hg:ZT (w.alloc (.cells #[] e)) w1 e size (.slice (some ⟨w.heap.size,0,none⟩) 0 0) v n xs):Z2n w w1 e size v n xs:=by
 refine ⟨((Z0.refl _ _).alloc _).trans' hg.only (fun k hk e=>by simp [Value.ownBlock] at e;omega),hg.own,?_⟩
 rcases hg.loc with x | x
 ·exact ⟨w.heap.size,by rw [x];rfl,Nat.le_refl _⟩
 ·exact ⟨_,x,by simp⟩
theorem Z4r (ad:Addr) (n cap:Nat) (xs:List Value) (S:Nat->Prop) (w:World) (hr:Rd w S 3 (some ad) n xs) (h1:∀ u ∈ xs,u.oneCell'=true) (hl:n <= 100000) :
  Calls Tryz.prog 112 #[.slice (some ad) n cap] w (Z9k w 103 3 n xs):=by
 have heq:=fun (w:World) (a:Option Addr) (n c:Nat)=>Lib.run_eql_slice_nil (P:=Tryz.prog) w 158 _ a n c 0 0 Tryz.underlying158
 have HR:=zh hr
 have H1:=zh h1
 clear hr h1
 go_enter Tryz.func112,Tryz.ntmps112
 go_wp2_with (at_builtin;refine app Z3o rfl (.tmp 5) (.tmp 6) rfl rfl (Z4G w _ _) rfl (HR.out.kept ((Z0.refl (fun _=>False) w).alloc _) (fun _ _ x=>x)) H1.out (by unfold maxLen;omega) (by omega) ?_)
 intro v w1 hg
 have HF:=zh (Z9l hg)
 clear hg
 go_wp2
 go_ret
 exact ⟨v,rfl,HF.out⟩
theorem Z6j (ad:Addr) (n cap:Nat) (xs:List Value) (S:Nat->Prop) (w:World) (hr:Rd w S 1 (some ad) n xs) (h1:∀ u ∈ xs,u.oneCell'=true) (hl:n <= 100000) :
  Calls Tryz.prog 113 #[.slice (some ad) n cap] w (Z9k w 157 1 n xs):=by
 have heq:=fun (w:World) (a:Option Addr) (n c:Nat)=>Lib.run_eql_slice_nil (P:=Tryz.prog) w 159 _ a n c 0 0 Tryz.underlying159
 have HR:=zh hr
 have H1:=zh h1
 clear hr h1
 go_enter Tryz.func113,Tryz.ntmps113
 go_wp2_with (at_builtin;refine app Z3A rfl (.tmp 5) (.tmp 6) rfl rfl (Z4G w _ _) rfl (HR.out.kept ((Z0.refl (fun _=>False) w).alloc _) (fun _ _ x=>x)) H1.out (by unfold maxLen;omega) (by omega) ?_)
 intro v w1 hg
 have HF:=zh (Z9l hg)
 clear hg
 go_wp2
 go_ret
 exact ⟨v,rfl,HF.out⟩
end Go.Proofs.YtobhgnjblniphaaGreatDoor
