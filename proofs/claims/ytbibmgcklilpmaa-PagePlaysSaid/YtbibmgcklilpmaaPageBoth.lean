/- A page and the document's, side by side; either both nil or both there: Stamp, Free, Insert. No condition. -/
import Derived.Test.YtbibmgcklilpmaaRefPage5
import Derived.Test.YtbibmgcklilpmaaPageStamp
namespace Go.Lap

/-- What Stamp and Free tell, and the slots behind them. -/
def dStamp (L : List Slot) (i : Int) (x : Nat) (pg sl : Int) : Int × List Slot :=
  if 1099511627776 < x ∨ farB pg sl = true then (3, L) else
    match slotAt L i with
    | none => (15, L)
    | some (f, t) => (0, L.set i.toNat (some (f, t.stamp x pg sl)))
def dFree (L : List Slot) (i : Int) : Int × List Slot :=
  match slotAt L i with
  | none => (15, L)
  | some _ => (0, trim (L.set i.toNat none))

/-- The same of a page that may be nil. -/
def nStampL (on : Bool) (L : List Slot) (i : Int) (x : Nat) (pg sl : Int) : Int × List Slot := if on then dStamp L i x pg sl else (15, L)
def nFreeL (on : Bool) (L : List Slot) (i : Int) : Int × List Slot := if on then dFree L i else (15, L)
def nInsL (on : Bool) (L : List Slot) (st : Nat) (t : Tup) : Int × Int × List Slot × Nat := if on then pIns L st t else (0, 15, L, st)

def pt (o : Option Nat) : Option Addr := o.map (fun b => ⟨b, 0, none⟩)

theorem not_form {x : Nat} {pg sl : Int} (h : ¬ (1099511627776 < x ∨ farB pg sl = true)) : x ≤ 1099511627776 ∧ farB pg sl = false := by
  refine ⟨by omega, ?_⟩
  rcases hf : farB pg sl with _ | _
  · rfl
  · exact absurd (Or.inr hf) h

end Go.Lap
namespace Go.Proofs.Ytbibmgcklilpmaa
open Go.RowKit Go.Lap

section
variable {w : World} {b st : Nat} {L : List Slot} {S : Nat → Prop}

theorem pg_stamp (i : Int) (x : Nat) (pg sl : Int) (h : PageAt w b L st) :
    Calls Try.prog 35 #[.pointer (some ⟨b, 0, none⟩), .int .i64 i, .int .u64 (x : Int), .agg #[.int .i64 pg, .int .i64 sl]] w fun e w' => e = .returned (.int .i64 (dStamp L i x pg sl).1) ∧ Only (· = b) w w' ∧ PageAt w' b (dStamp L i x pg sl).2 st := by
  unfold dStamp
  by_cases hx : 1099511627776 < x ∨ farB pg sl = true
  · rw [if_pos hx]
    refine (page_stamp_form b st L i x pg sl w h hx).mono ?_
    rintro e w' ⟨rfl, hq⟩
    exact ⟨rfl, hq.mono (fun _ _ x => x.elim), h.kept hq (fun x => x)⟩
  · rw [if_neg hx]
    obtain ⟨hx1, hx2⟩ := not_form hx
    rcases hs : slotAt L i with _ | ⟨f, t⟩
    · refine (page_stamp_none b st L i x pg sl w h hx1 hx2 hs).mono ?_
      rintro e w' ⟨rfl, hq⟩
      exact ⟨rfl, hq.mono (fun _ _ x => x.elim), h.kept hq (fun x => x)⟩
    · refine (page_stamp_some b st f t L i x pg sl w h hx1 hx2 hs).mono ?_
      rintro e w' ⟨rfl, ho, hp⟩
      exact ⟨rfl, ho, hp⟩

theorem rx_stamp (i : Int) (x : Nat) (pg sl : Int) (h : RefPg w b S L st) :
    Calls Try.prog 88 #[.pointer (some ⟨b, 0, none⟩), .int .i64 i, .int .u64 (x : Int), .agg #[.int .i64 pg, .int .i64 sl]] w fun e w' => e = .returned (.int .i64 (dStamp L i x pg sl).1) ∧ Only S w w' ∧ RefPg w' b S (dStamp L i x pg sl).2 st := by
  unfold dStamp
  by_cases hx : 1099511627776 < x ∨ farB pg sl = true
  · rw [if_pos hx]
    refine (rp_stamp_form i x pg sl b w hx).mono ?_
    rintro e w' ⟨rfl, hq⟩
    exact ⟨rfl, hq.mono (fun _ _ x => x.elim), h.kept hq (fun _ _ x => x)⟩
  · rw [if_neg hx]
    obtain ⟨hx1, hx2⟩ := not_form hx
    rcases hs : slotAt L i with _ | ⟨f, t⟩
    · refine (rp_stamp_none i x pg sl h hx1 hx2 hs).mono ?_
      rintro e w' ⟨rfl, hq⟩
      exact ⟨rfl, hq.mono (fun _ _ x => x.elim), h.kept hq (fun _ _ x => x)⟩
    · exact rp_stamp_some i x pg sl f t h hx1 hx2 hs

theorem pg_free (i : Int) (h : PageAt w b L st) :
    Calls Try.prog 31 #[.pointer (some ⟨b, 0, none⟩), .int .i64 i] w fun e w' => e = .returned (.int .i64 (dFree L i).1) ∧ Only (· = b) w w' ∧ PageAt w' b (dFree L i).2 st := by
  unfold dFree
  rcases hs : slotAt L i with _ | ⟨f, t⟩
  · refine (page_free_none b st L i w h hs).mono ?_
    rintro e w' ⟨rfl, hq⟩
    exact ⟨rfl, hq.mono (fun _ _ x => x.elim), h.kept hq (fun x => x)⟩
  · exact page_free_some b st f t L i w h hs

theorem rx_free (i : Int) (h : RefPg w b S L st) :
    Calls Try.prog 90 #[.pointer (some ⟨b, 0, none⟩), .int .i64 i] w fun e w' => e = .returned (.int .i64 (dFree L i).1) ∧ Only S w w' ∧ RefPg w' b S (dFree L i).2 st := by
  unfold dFree
  rcases hs : slotAt L i with _ | ⟨f, t⟩
  · refine (rp_free_none i h hs).mono ?_
    rintro e w' ⟨rfl, hq⟩
    exact ⟨rfl, hq.mono (fun _ _ x => x.elim), h.kept hq (fun _ _ x => x)⟩
  · exact rp_free_some i f t h hs

theorem rx_insert (t : Tup) (A : Option Addr) (cap : Nat) (Sd : Nat → Prop) (h : RefPg w b S L st) (hby : ∀ x ∈ t.data, x < 256) (hd : Rd w Sd 1 A t.data.length (bytesV t.data)) :
    Calls Try.prog 91 #[.pointer (some ⟨b, 0, none⟩), tupV t A cap] w fun e w' => e = .returned (.tuple #[.int .i64 (pIns L st t).1, .int .i64 (pIns L st t).2.1]) ∧ Only S w w' ∧ RefPg w' b (fun k => S k ∨ w.heap.size ≤ k) (pIns L st t).2.2.1 (pIns L st t).2.2.2 := by
  unfold pIns
  rcases ht : t.rightB with _ | _
  · rw [if_pos rfl]
    refine (rp_insert_form b t A cap w ht).mono ?_
    rintro e w' ⟨rfl, hq⟩
    exact ⟨rfl, hq.mono (fun _ _ x => x.elim), (h.kept hq (fun _ _ x => x)).mono (fun _ x => Or.inl x)⟩
  · rw [if_neg (by decide)]
    by_cases hr : roomOf L < t.data.length
    · rw [if_pos hr]
      refine (rp_insert_full t A cap h ht hr).mono ?_
      rintro e w' ⟨rfl, hq⟩
      exact ⟨rfl, hq.mono (fun _ _ x => x.elim), (h.kept hq (fun _ _ x => x)).mono (fun _ x => Or.inl x)⟩
    · rw [if_neg hr]
      exact rp_insert_ok t A cap Sd h ⟨ht, hby⟩ hd hr
end

/-- Both nil, or both there: the page of slots L, the document's of slots M; S: the document's own blocks. -/
def BothAt (W : World) (P X : Option Nat) (S : Nat → Prop) (L : List Slot) (st : Nat) (M : List Slot) (su : Nat) : Prop :=
  (∀ k, S k → k < W.heap.size) ∧ ((P = none ∧ X = none ∧ L = [] ∧ M = []) ∨ ∃ pb xb, P = some pb ∧ X = some xb ∧ PageAt W pb L st ∧ RefPg W xb S M su ∧ ¬ S pb)

section
variable {W W' : World} {P X : Option Nat} {S : Nat → Prop} {L M : List Slot} {st su : Nat}

theorem BothAt.kept {U : Nat → Prop} (h : BothAt W P X S L st M su) (ho : Only U W W') (h1 : ∀ k, P = some k → ¬ U k) (h2 : ∀ k, S k → ¬ U k) : BothAt W' P X S L st M su := by
  obtain ⟨hl, h⟩ := h
  refine ⟨fun k x => by have := hl k x; have := ho.size; omega, ?_⟩
  rcases h with h | ⟨pb, xb, e1, e2, h3, h4, h5⟩
  · exact Or.inl h
  · exact Or.inr ⟨pb, xb, e1, e2, h3.kept ho (h1 pb e1), h4.kept ho h2, h5⟩

theorem BothAt.quietly (h : BothAt W P X S L st M su) (hq : Quiet W W') : BothAt W' P X S L st M su := h.kept hq (fun _ _ x => x) (fun _ _ x => x)

theorem BothAt.plt (h : BothAt W P X S L st M su) {k : Nat} (e : P = some k) : k < W.heap.size ∧ ¬ S k := by
  obtain ⟨hl, h⟩ := h
  rcases h with ⟨e1, _⟩ | ⟨pb, xb, e1, e2, h3, h4, h5⟩
  · rw [e] at e1; cases e1
  · rw [e] at e1
    injection e1 with e1
    subst e1
    exact ⟨h3.lt, h5⟩

/-- The page turns. -/
theorem BothAt.turnP {pb : Nat} {L' : List Slot} {st' : Nat} (h : BothAt W P X S L st M su) (e : P = some pb) (ho : Only (· = pb) W W') (hp : PageAt W' pb L' st') : Only (fun k => P = some k) W W' ∧ BothAt W' P X S L' st' M su := by
  obtain ⟨hl, h⟩ := h
  rcases h with ⟨e1, _⟩ | ⟨pb', xb, e1, e2, h3, h4, h5⟩
  · rw [e] at e1; cases e1
  · rw [e] at e1
    injection e1 with e1
    subst e1
    exact ⟨ho.mono (fun k _ x => by rw [x]; exact e), fun k x => by have := hl k x; have := ho.size; omega, Or.inr ⟨pb, xb, e, e2, hp, h4.kept ho (fun k x y => h5 (by rw [← y]; exact x)), h5⟩⟩

/-- The document's page turns. -/
theorem BothAt.turnX {xb : Nat} {M' : List Slot} {su' : Nat} (h : BothAt W P X S L st M su) (e : X = some xb) (ho : Only S W W') (hp : RefPg W' xb (fun k => S k ∨ W.heap.size ≤ k) M' su') : BothAt W' P X (fun k => (S k ∨ W.heap.size ≤ k) ∧ k < W'.heap.size) L st M' su' := by
  obtain ⟨hl, h⟩ := h
  refine ⟨fun k x => x.2, ?_⟩
  rcases h with ⟨_, e1, _⟩ | ⟨pb, xb', e1, e2, h3, h4, h5⟩
  · rw [e] at e1; cases e1
  · rw [e] at e2
    injection e2 with e2
    subst e2
    have hz := ho.size
    have hpl := h3.lt
    exact Or.inr ⟨pb, xb, e1, e, h3.kept ho h5, hp.limS, fun x => by rcases x.1 with y | y; exact h5 y; omega⟩

theorem BothAt.more {S' : Nat → Prop} (h : BothAt W P X S L st M su) (h1 : ∀ k, S k → S' k) (h2 : ∀ k, S' k → k < W.heap.size) (h3 : ∀ k, P = some k → ¬ S' k) : BothAt W P X S' L st M su := by
  obtain ⟨hl, h⟩ := h
  refine ⟨h2, ?_⟩
  rcases h with h | ⟨pb, xb, e1, e2, h4, h5, h6⟩
  · exact Or.inl h
  · exact Or.inr ⟨pb, xb, e1, e2, h4, h5.mono h1, h3 pb e1⟩

theorem BothAt.sides (h : BothAt W P X S L st M su) : (P = none ∧ X = none ∧ L = [] ∧ M = []) ∨ ∃ pb xb, P = some pb ∧ X = some xb ∧ PageAt W pb L st ∧ RefPg W xb S M su := by
  rcases h.2 with h | ⟨pb, xb, e1, e2, h3, h4, _⟩
  · exact Or.inl h
  · exact Or.inr ⟨pb, xb, e1, e2, h3, h4⟩

theorem BothAt.stampP (i : Int) (x : Nat) (pg sl : Int) (h : BothAt W P X S L st M su) {r : Int × List Slot} (hr : nStampL P.isSome L i x pg sl = r) :
    Calls Try.prog 35 #[.pointer (pt P), .int .i64 i, .int .u64 (x : Int), .agg #[.int .i64 pg, .int .i64 sl]] W fun e w' => e = .returned (.int .i64 r.1) ∧ Only (fun k => P = some k) W w' ∧ BothAt w' P X S r.2 st M su := by
  subst hr
  rcases h.sides with ⟨e1, _, _, _⟩ | ⟨pb, xb, e1, e2, h3, h4⟩
  · have h' := h
    rw [e1]
    refine (page_stamp_nil i x pg sl W).mono ?_
    rintro e w' ⟨rfl, hq⟩
    rw [e1] at h'
    exact ⟨rfl, hq.mono (fun _ _ x => x.elim), h'.quietly hq⟩
  · subst e1
    refine (pg_stamp i x pg sl h3).mono ?_
    rintro e w' ⟨rfl, ho, hp⟩
    exact ⟨rfl, h.turnP rfl ho hp⟩

theorem BothAt.stampX (i : Int) (x : Nat) (pg sl : Int) (h : BothAt W P X S L st M su) {r : Int × List Slot} (hr : nStampL P.isSome M i x pg sl = r) :
    Calls Try.prog 88 #[.pointer (pt X), .int .i64 i, .int .u64 (x : Int), .agg #[.int .i64 pg, .int .i64 sl]] W fun e w' => e = .returned (.int .i64 r.1) ∧ Only S W w' ∧ BothAt w' P X (fun k => (S k ∨ W.heap.size ≤ k) ∧ k < w'.heap.size) L st r.2 su := by
  subst hr
  rcases h.sides with ⟨e1, e2, _, _⟩ | ⟨pb, xb, e1, e2, h3, h4⟩
  · have h' := h
    rw [e1, e2]
    rw [e1, e2] at h'
    refine (rp_stamp_nil i x pg sl W).mono ?_
    rintro e w' ⟨rfl, hq⟩
    exact ⟨rfl, hq.mono (fun _ _ x => x.elim), (h'.quietly hq).more (fun k x => ⟨Or.inl x, by have := h.1 k x; have := hq.size; omega⟩) (fun k x => x.2) (fun k x => by cases x)⟩
  · subst e1 e2
    refine (rx_stamp i x pg sl h4).mono ?_
    rintro e w' ⟨rfl, ho, hp⟩
    exact ⟨rfl, ho, h.turnX rfl ho (hp.mono (fun _ x => Or.inl x))⟩

theorem BothAt.freeP (i : Int) (h : BothAt W P X S L st M su) {r : Int × List Slot} (hr : nFreeL P.isSome L i = r) :
    Calls Try.prog 31 #[.pointer (pt P), .int .i64 i] W fun e w' => e = .returned (.int .i64 r.1) ∧ Only (fun k => P = some k) W w' ∧ BothAt w' P X S r.2 st M su := by
  subst hr
  rcases h.sides with ⟨e1, _, _, _⟩ | ⟨pb, xb, e1, e2, h3, h4⟩
  · have h' := h
    rw [e1]
    refine (page_free_nil i W).mono ?_
    rintro e w' ⟨rfl, hq⟩
    rw [e1] at h'
    exact ⟨rfl, hq.mono (fun _ _ x => x.elim), h'.quietly hq⟩
  · subst e1
    refine (pg_free i h3).mono ?_
    rintro e w' ⟨rfl, ho, hp⟩
    exact ⟨rfl, h.turnP rfl ho hp⟩

theorem BothAt.freeX (i : Int) (h : BothAt W P X S L st M su) {r : Int × List Slot} (hr : nFreeL P.isSome M i = r) :
    Calls Try.prog 90 #[.pointer (pt X), .int .i64 i] W fun e w' => e = .returned (.int .i64 r.1) ∧ Only S W w' ∧ BothAt w' P X (fun k => (S k ∨ W.heap.size ≤ k) ∧ k < w'.heap.size) L st r.2 su := by
  subst hr
  rcases h.sides with ⟨e1, e2, _, _⟩ | ⟨pb, xb, e1, e2, h3, h4⟩
  · have h' := h
    rw [e1, e2]
    rw [e1, e2] at h'
    refine (rp_free_nil i W).mono ?_
    rintro e w' ⟨rfl, hq⟩
    exact ⟨rfl, hq.mono (fun _ _ x => x.elim), (h'.quietly hq).more (fun k x => ⟨Or.inl x, by have := h.1 k x; have := hq.size; omega⟩) (fun k x => x.2) (fun k x => by cases x)⟩
  · subst e1 e2
    refine (rx_free i h4).mono ?_
    rintro e w' ⟨rfl, ho, hp⟩
    exact ⟨rfl, ho, h.turnX rfl ho (hp.mono (fun _ x => Or.inl x))⟩

theorem BothAt.insP (t : Tup) (A : Option Addr) (cap : Nat) (Sd : Nat → Prop) (h : BothAt W P X S L st M su) (hby : ∀ x ∈ t.data, x < 256) (hd : Rd W Sd 1 A t.data.length (bytesV t.data)) {r : Int × Int × List Slot × Nat} (hr : nInsL P.isSome L st t = r) :
    Calls Try.prog 30 #[.pointer (pt P), tupV t A cap] W fun e w' => e = .returned (.tuple #[.int .i64 r.1, .int .i64 r.2.1]) ∧ Only (fun k => P = some k) W w' ∧ BothAt w' P X S r.2.2.1 r.2.2.2 M su := by
  subst hr
  rcases h.sides with ⟨e1, _, _, _⟩ | ⟨pb, xb, e1, e2, h3, h4⟩
  · have h' := h
    rw [e1]
    refine (page_insert_nil t A cap W).mono ?_
    rintro e w' ⟨rfl, hq⟩
    rw [e1] at h'
    exact ⟨rfl, hq.mono (fun _ _ x => x.elim), h'.quietly hq⟩
  · subst e1
    refine (page_insert pb st L t A cap Sd W h3 hby hd).mono ?_
    rintro e w' ⟨rfl, ho, hp⟩
    exact ⟨rfl, h.turnP rfl ho hp⟩

theorem BothAt.insX (t : Tup) (A : Option Addr) (cap : Nat) (Sd : Nat → Prop) (h : BothAt W P X S L st M su) (hby : ∀ x ∈ t.data, x < 256) (hd : Rd W Sd 1 A t.data.length (bytesV t.data)) {r : Int × Int × List Slot × Nat} (hr : nInsL P.isSome M su t = r) :
    Calls Try.prog 91 #[.pointer (pt X), tupV t A cap] W fun e w' => e = .returned (.tuple #[.int .i64 r.1, .int .i64 r.2.1]) ∧ Only S W w' ∧ BothAt w' P X (fun k => (S k ∨ W.heap.size ≤ k) ∧ k < w'.heap.size) L st r.2.2.1 r.2.2.2 := by
  subst hr
  rcases h.sides with ⟨e1, e2, _, _⟩ | ⟨pb, xb, e1, e2, h3, h4⟩
  · have h' := h
    rw [e1, e2]
    rw [e1, e2] at h'
    refine (rp_insert_nil t A cap W).mono ?_
    rintro e w' ⟨rfl, hq⟩
    exact ⟨rfl, hq.mono (fun _ _ x => x.elim), (h'.quietly hq).more (fun k x => ⟨Or.inl x, by have := h.1 k x; have := hq.size; omega⟩) (fun k x => x.2) (fun k x => by cases x)⟩
  · subst e1 e2
    refine (rx_insert t A cap Sd h4 hby hd).mono ?_
    rintro e w' ⟨rfl, ho, hp⟩
    exact ⟨rfl, ho, h.turnX rfl ho hp⟩
end
end Go.Proofs.Ytbibmgcklilpmaa
