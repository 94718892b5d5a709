/- Names are apart: the plain law; what stands beside an instruction. -/
import Derived.Test.YtcpniokopahakaaDoorRefD
set_option maxRecDepth 100000
set_option maxHeartbeats 4000000
set_option linter.unusedVariables false
set_option linter.unusedSimpArgs false
namespace Go.Proofs.YtcpniokopahakaaDoor.Asm
open Go Go.Proofs.YtcpniokopahakaaDoor.Eng Go.RowKit
open RefD
def keysL : List Nat := [451450901263426116561038437, 24014704, 1522237662059, 6114209648, 92518, 5996573541, 0, 0, 0, 0, 0, 23424612, 90738, 1522337278310, 25540581390226189413, 407255047828078, 5962296428, 28156148814280646654274839077748, 0, 0, 0, 0, 0, 0, 0, 0, 5980188528, 408354424185716, 0, 0, 0, 0, 6722641208908444034420, 6722641208908444820852, 6722641208908444886373, 1697329841794766453826932, 1697329841794766454613364, 0, 0, 0, 26027201846473351524, 26028048470426739044, 0, 0, 436663987253882256765771635, 436663987253882256765771637, 111785980736993857731917406067, 111785980736993857731917406069, 436678191246819013120515955, 436678191246819013120515957, 111789616959185667358731951987, 111789616959185667358731951989, 111789616959185667358765244275, 111789616959185667358765244277, 6662963672727327568485, 6663180408459394773605, 0, 0, 1705718700218195857532216, 436663987255858139528245558, 1705774184565605062042936, 436678191248794895882989878, 436678191248794895882990386, 441736901899827843242228325, 441736901899827843041488759, 6662963672658524140404, 6663180408390591345524, 0, 0, 101668757212328314, 397143582860657, 397143582862949, 26027201846473678707, 26027201846473678709, 26027201846389792627, 26027201846389792629, 26027201846472695667, 26027201846472695669, 26027201846388809587, 26027201846388809589, 101672064337146234, 397156501316977, 397156501319269, 26028048470427066227, 26028048470427066229, 26028048470343180147, 26028048470343180149, 26028048470426083187, 26028048470426083189, 26028048470342197107, 26028048470342197109, 0, 0, 0, 0, 0, 0, 0, 0, 0, 0, 0, 0, 101668757212195962, 101668757212198010, 1705718700214875863608948, 101668757212062820, 101668757213246818, 101668757212853612, 6662963672662718963571, 6662963672662718963573, 6662963672722780807027, 6662963672722780807029, 101668757212065380, 397143582863218, 101668757213572978, 101668757213243500, 6662963672727126433651, 6662963672727126433653, 26027201846574019692, 26027201846574019698, 101672064337013882, 101672064337015930, 1705774184562285068119668, 101672064336880740, 101672064338064738, 101672064337671532, 6663180408394786168691, 6663180408394786168693, 6663180408454848012147, 6663180408454848012149, 101672064336883300, 397156501319538, 101672064338390898, 101672064338061420, 6663180408459193638771, 6663180408459193638773, 26028048470527407212, 26028048470527407218, 0, 0, 0, 0, 0, 0, 0, 0, 0, 0, 0, 0, 0, 0, 0, 0, 0, 0, 0, 0, 0, 0, 0, 0, 0, 0, 0, 0, 111785980737787335743579436596, 0, 0, 0, 0, 480132748869913983109133929636026277747, 480132748869913983109133929636026277749, 0, 0, 0, 0, 0, 0, 0, 0, 0, 0, 0, 0, 0, 0, 0, 0, 0, 0, 28617211068541954238588061769587, 7326006033546740285078543692881779, 28618141941423057503052585525107, 7326244337004302720781461774294899, 7326244337004302720781461807587187, 0, 0, 0, 0, 0, 0, 0, 0, 0, 0, 0, 0, 0, 0, 0, 0, 0, 0, 0, 0, 0, 0, 0, 0, 0, 0, 0, 0, 0, 0, 0, 0, 0, 0, 0, 0, 0, 0, 0, 0, 0, 0, 0, 0, 0, 0, 0, 0, 0, 0, 0, 0, 0, 0, 0, 0, 0, 0, 0]
def keyOf (n : Nat) : Nat := if (nameR n).2 = true then (nameR n).1.foldl (fun k c => k * 256 + c.toNat) 1 else 0
theorem keys_are : (List.range 256).map keyOf = keysL := by decide +kernel
def apartB : List Nat → Bool
  | [] => true
  | x :: r => (Nat.beq x 0 || r.all fun y => !Nat.beq x y) && apartB r
theorem apart_is : apartB keysL = true := by decide +kernel
theorem apartB_at : ∀ (l : List Nat), apartB l = true → ∀ (i j : Nat) (x : Nat), i < j → l[i]? = some x → l[j]? = some x → x = 0 := by
  intro l
  induction l with
  | nil => intro _ i j x _ h; simp at h
  | cons a r ih =>
    intro h i j x hij hi hj
    rw [apartB, Bool.and_eq_true] at h
    cases j with
    | zero => omega
    | succ j =>
      rw [List.getElem?_cons_succ] at hj
      cases i with
      | zero =>
        obtain rfl : a = x := by simpa using hi
        rcases (Bool.or_eq_true _ _ ▸ h.1) with h0 | h0
        · exact Nat.eq_of_beq_eq_true h0
        · have := List.all_eq_true.1 h0 a (List.mem_of_getElem? hj)
          simp at this
      | succ i =>
        rw [List.getElem?_cons_succ] at hi
        exact ih h.2 i j x (by omega) hi hj
theorem key_pos (s : List UInt8) : ∀ k, 1 ≤ k → 1 ≤ s.foldl (fun k c => k * 256 + c.toNat) k := by
  induction s with
  | nil => intro k h; exact h
  | cons c r ih =>
    intro k h
    have h1 : 1 ≤ k * 256 + c.toNat := Nat.le_trans h (Nat.le_trans (Nat.le_mul_of_pos_right k (by decide)) (Nat.le_add_right _ _))
    exact ih _ h1
theorem name_inj {a b : Nat} (ha : a ≤ 255) (hb : b ≤ 255) (h1 : (nameR a).2 = true) (h2 : (nameR b).2 = true) (h : (nameR a).1 = (nameR b).1) : a = b := by
  have hk : keyOf a = keyOf b := by unfold keyOf; rw [if_pos h1, if_pos h2, h]
  have h0 : keyOf a ≠ 0 := by
    unfold keyOf; rw [if_pos h1]
    have := key_pos (nameR a).1 1 (Nat.le_refl 1)
    omega
  have ga : keysL[a]? = some (keyOf a) := by rw [← keys_are, List.getElem?_map, List.getElem?_range (by omega)]; rfl
  have gb : keysL[b]? = some (keyOf a) := by rw [hk, ← keys_are, List.getElem?_map, List.getElem?_range (by omega)]; rfl
  rcases Nat.lt_trichotomy a b with hl | hl | hl
  · exact absurd (apartB_at _ apart_is a b _ hl ga gb) h0
  · exact hl
  · exact absurd (apartB_at _ apart_is b a _ hl gb ga) h0
def tkP (n : Nat) : Prop := (n = 69 ∨ (103 ≤ n ∧ n ≤ 105) ∨ n = 192 ∨ n = 193 ∨ n = 64 ∨ n = 40 ∨ (44 ≤ n ∧ n ≤ 47)) ∨ (n = 80 ∨ n = 167) ∨ ((70 ≤ n ∧ n ≤ 79) ∨ (106 ≤ n ∧ n ≤ 120)) ∨ (81 ≤ n ∧ n ≤ 90) ∨ ((121 ≤ n ∧ n ≤ 123) ∨ (194 ≤ n ∧ n ≤ 196)) ∨ (124 ≤ n ∧ n ≤ 138) ∨ (n = 172 ∨ n = 173 ∨ n = 41 ∨ (48 ≤ n ∧ n ≤ 53)) ∨ (n = 54 ∨ n = 58 ∨ n = 59) ∨ (n = 55 ∨ (60 ≤ n ∧ n ≤ 62)) ∨ (n = 63 ∨ n = 65) ∨ n = 66
instance (n : Nat) : Decidable (tkP n) := by unfold tkP; infer_instance
def bsT (n : Nat) : Prop := (n = 0 ∨ n = 1 ∨ n = 5 ∨ n = 11 ∨ n = 15 ∨ n = 26 ∨ n = 27) ∨ tkP n
instance (n : Nat) : Decidable (bsT n) := by unfold bsT; infer_instance
theorem bsT_r {n : Nat} {s : List UInt8} (h : s = [63] ↔ ¬ tkP n) (c : s ≠ [63]) : bsT n := .inr (Decidable.of_not_not fun k => c (h.2 k))
theorem bsT_n {n : Nat} {s : List UInt8} (h : s = [63] ↔ ¬ tkP n) (c : s = [63]) (h0 : ¬ (n = 0 ∨ n = 1 ∨ n = 5 ∨ n = 11 ∨ n = 15 ∨ n = 26 ∨ n = 27)) : ¬ bsT n := fun k => k.elim h0 (h.1 c)
def besideL (n : Nat) : List UInt8 :=
  if 2 ≤ n ∧ n ≤ 4 then [107] else if n = 12 ∨ n = 13 ∨ n = 16 ∨ (32 ≤ n ∧ n ≤ 36) then [97] else if n = 14 then [116] else if n = 17 then [97, 122]
  else if 0 < wR n then [97, 98] else if n = 63 ∨ n = 64 then [122] else if n = 65 then [99] else if n = 66 then [100]
  else if bsT n then [] else [63]
theorem known : ∀ n, n < 256 → (nameR n).2 = decide (besideL n ≠ [63]) ∧ (nameR n).2 = decide ((nameR n).1 ≠ []) := by decide +kernel
theorem beside_len (n : Nat) : (besideL n).length ≤ 2 := by
  unfold besideL
  repeat' split
  all_goals simp
theorem beside_ascii (n : Nat) : ∀ (j : Nat) (b : UInt8), (besideL n)[j]? = some b → b.toNat < 128 := by
  have h : ∀ b ∈ besideL n, b.toNat < 128 := by
    unfold besideL
    repeat' split
    all_goals decide
  exact fun j b hb => h b (List.mem_of_getElem? hb)
theorem end_known : (nameR 11).2 = true := by decide +kernel
end Go.Proofs.YtcpniokopahakaaDoor.Asm
