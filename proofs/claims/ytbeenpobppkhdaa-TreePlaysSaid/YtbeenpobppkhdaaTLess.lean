/- lapidaryref03.Less: byte by byte. No condition. -/
import Derived.Test.YtbeenpobppkhdaaTBytes
import Derived.Test.YtbeenpobppkhdaaTreePlain
namespace Go.Lap

theorem less_list : ∀ (a b : List Nat), (∀ x ∈ a, x < 256) → (∀ x ∈ b, x < 256) → Op.bytesLess (a.map UInt8.ofNat) (b.map UInt8.ofNat) = decide (cmpB a b < 0)
  | [], [], _, _ => by simp [Op.bytesLess, cmpB]
  | [], b :: l, _, _ => by simp [Op.bytesLess, cmpB]
  | a :: k, [], _, _ => by simp [Op.bytesLess, cmpB]
  | a :: k, b :: l, ha, hb => by
    have ih := less_list k l (fun x h => ha x (List.mem_cons_of_mem _ h)) (fun x h => hb x (List.mem_cons_of_mem _ h))
    have a1 := ha a (by simp)
    have b1 := hb b (by simp)
    have e1 : cmpB (a :: k) (b :: l) = if a < b then -1 else if b < a then 1 else cmpB k l := rfl
    have u1 : (UInt8.ofNat a < UInt8.ofNat b) ↔ a < b := by
      rw [UInt8.lt_iff_toNat_lt]
      simp [Nat.mod_eq_of_lt a1, Nat.mod_eq_of_lt b1]
    have u2 : (UInt8.ofNat a = UInt8.ofNat b) ↔ a = b := by
      constructor
      · intro h
        have := congrArg UInt8.toNat h
        simpa [Nat.mod_eq_of_lt a1, Nat.mod_eq_of_lt b1] using this
      · rintro rfl; rfl
    have e2 : Op.bytesLess ((a :: k).map UInt8.ofNat) ((b :: l).map UInt8.ofNat) = (decide (UInt8.ofNat a < UInt8.ofNat b) || (UInt8.ofNat a == UInt8.ofNat b && Op.bytesLess (k.map UInt8.ofNat) (l.map UInt8.ofNat))) := rfl
    rw [e2, e1, ih]
    by_cases h1 : a < b
    · rw [if_pos h1, decide_eq_true (u1.2 h1)]; rfl
    · rw [if_neg h1, decide_eq_false (fun x => h1 (u1.1 x))]
      by_cases h2 : b < a
      · rw [if_pos h2, beq_eq_false_iff_ne.2 (fun x => by have := u2.1 x; omega)]; rfl
      · have : a = b := by omega
        subst this
        rw [if_neg h2, beq_self_eq_true]
        simp

theorem strOf_lt {l l' : List Nat} (h : ∀ x ∈ l, x < 256) (h' : ∀ x ∈ l', x < 256) : Op.bytesLess (strOf l).toList (strOf l').toList = decide (cmpB l l' < 0) := by
  rw [Lib.toList_data, Lib.toList_data]
  exact less_list l l' h h'
end Go.Lap
namespace Go.Proofs.Ytbeenpobppkhdaa
open Go.RowKit Go.Lap

set_option maxHeartbeats 400000 in
set_option maxRecDepth 100000 in
theorem less_any (A A' : Option Addr) (cap cap' : Nat) (l l' : List Nat) (S S' : Nat → Prop) (w : World) (hr : Rd w S 1 A l.length (bytesV l)) (hr' : Rd w S' 1 A' l'.length (bytesV l')) (hb : ∀ x ∈ l, x < 256) (hb' : ∀ x ∈ l', x < 256) :
    Calls Try.prog 17 #[.slice A l.length cap, .slice A' l'.length cap'] w fun e w' => e = .returned (.bool (decide (cmpB l l' < 0))) ∧ w = w' := by
  have h1 := conv_str A cap l S w hr hb
  have h2 := conv_str A' cap' l' S' w hr' hb'
  have h3 := Lib.hid (strOf_lt hb hb')
  clear hr hr' hb hb'
  generalize strOf l = s1 at h1 h3
  generalize strOf l' = s2 at h2 h3
  go_enter Try.func17, Try.ntmps17
  go_wp2
  go_ret
  rw [← h3.out]
  exact ⟨rfl, rfl⟩

end Go.Proofs.Ytbeenpobppkhdaa
