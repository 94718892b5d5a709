/- The walk of the law MailOthers. -/
import Derived.Test.YtkkfjhaknbaiaaaMail2
set_option maxRecDepth 100000
set_option linter.unusedVariables false
set_option linter.unusedSimpArgs false
namespace Go.Proofs.Ytkkfjhaknbaiaaa.Mail
open Go Go.Proofs.Ytkkfjhaknbaiaaa.Eng Go.RowKit
theorem putS_len {room lost : Int} {ls : List Letter} {x : Letter} (h : (ls.length : Int) ≤ room) : ((putS room lost ls x).2.1.length : Int) ≤ room ∧ lost ≤ (putS room lost ls x).1 ∧ (putS room lost ls x).1 ≤ lost + 1 := by
  unfold putS
  split
  · exact ⟨h, by dsimp only; omega, by dsimp only; omega⟩
  · rename_i hn
    refine ⟨?_, Int.le_refl _, by dsimp only; omega⟩
    simp only [List.length_append, List.length_cons, List.length_nil]
    omega
theorem copyL {w : World} {g o m c : Nat} {xs : List Letter} (hat : At w g o (xs.flatMap enL)) (hm : xs.length = m) (hb : m ≤ 1000000000) :
    Fc Try.prog 29 #[.slice (some ⟨g, o, none⟩) m c] w (fun u w' => Own w.heap.size w' 49 4 enL u xs ∧ Below w.heap.size w w' ∧ ∀ k, u.ownBlock = some k → w.heap.size ≤ k) := by
  refine Fc.of Try.func29 rfl (by kernel_rfl) ?_
  refine rAppO (ys := xs) (.agg #[.int .i64 0, .int .i64 0, .int .i64 0, .string (bs [])]) 40 (Own.nil w.heap.size w 49 enL_len) hat hm (fun y _ => enL_one y) rfl rfl rfl (by decide) (by simp only [List.length_nil]; omega) (by simp only [List.length_nil]; omega) (Nat.le_refl _) ?_
  intro v2 w2 o2 g2
  rw [List.nil_append] at o2
  exact Done.mk ⟨o2, gG (Below.refl _ _) g2 (fun k hk => by cases hk), fun k hk => (o2.lt hk).1⟩
theorem letter_eq (x y : Letter) : (vEq x.node y.node && (vEq x.num y.num && true) && (vEq x.tag y.tag && (((bs x.body).toList == (bs y.body).toList) && true))) = decide (x = y) := by
  rw [bs_toList, bs_toList, vEq_iff, vEq_iff, vEq_iff, Bool.eq_iff_iff]
  cases x; cases y
  simp [and_assoc]
theorem mailOthers (w : World) (room : Int) (vl : Value) (xs : List Letter) (mask : Int) (_ : i64 room) (hx : Rd enL okL 4 w vl xs) (hy : xs.length * 40 ≤ 140737488351232) (_ : 0 ≤ mask ∧ mask ≤ 18446744073709551615) : Fc Try.prog 9 #[.int .i64 room, vl, .int .u64 mask] w (fun v w' => v = .bool true ∧ Below w.heap.size w w') := by
  refine Fc.of Try.func9 rfl (by kernel_rfl) ?_
  have hxl := hx.len
  refine CallP.mk (Fc.imp (mailNew room w) ?_)
  rintro _ w1 (⟨_, rfl, rfl⟩ | ⟨hroom, rfl, G, B⟩)
  · refine br_t (by rw [vNe_iff]; rfl) ?_
    refine cT (rfl) ?_
    refine rPtrNil rfl ?_
    exact Done.mk ⟨congrArg Value.bool (by rw [vEq_iff]; rfl), Below.refl _ _⟩
  refine br_f (by rw [vNe_iff]; rfl) ?_
  refine rPtrNil rfl ?_
  refine cF (rfl) ?_
  refine rLenR hx rfl ?_
  refine LoopP.rule (α := Nat) 0 (fun i => [(36, .int .i64 i)]) (fun i w' => i ≤ xs.length ∧ Below w.heap.size w w' ∧ ∃ fp lost ls, Bx w' w.heap.size fp room lost ls ∧ 0 ≤ lost ∧ lost ≤ i ∧ (ls.length : Int) ≤ room ∧ ∀ k, fp k → w.heap.size ≤ k) (fun i => xs.length - i) (mt_cons rfl mt_nil) ⟨Nat.zero_le _, G, _, _, _, B, Int.le_refl _, by simp, by simp; omega, fun k hk => by omega⟩ ?_
  clear G B
  rintro i f w2 ⟨hi, G, fp, lost, ls, B, hl0, hl1, hl2, hfp⟩
  refine cI (fun h1 => ?_) (fun h1 => ?_)
  · have h1 := vLt_t h1
    refine bk ?_
    have hlt : i < xs.length := by omega
    refine rIdxE 4 (sG hx G) i xs[i] rfl (List.getElem?_eq_getElem hlt) rfl rfl ?_
    intro b o hat hok
    refine rLoadA0 hat rfl rfl rfl ?_
    refine rAlloc rfl ?_
    intro w3 n3
    refine rStoreA n3.blk rfl rfl rfl ?_
    intro w4 u4 b4
    have hsz := G.size
    have B4 := B.ev (Ev.new n3 (fun _ => False)) (fun _ _ h => h)
    have B5 := B4.ev (Ev.upd u4 (fp := fun k => k = w2.heap.size) rfl) (fun k hk e => by have := B.lt hk; omega)
    have G4 := gU (gN G n3) u4 hsz
    refine rLoadA0 b4.at rfl rfl rfl ?_
    refine CallP.mk (Fc.imp (put B5 hok ⟨hl0, by omega⟩ (by omega) hl2) ?_)
    rintro _ w5 ⟨b, lost', ls', fp', rfl, he, B6, E6, F6⟩
    have hp := putS_len (lost := lost) (x := xs[i]) hl2
    rw [← he] at hp
    dsimp only at hp
    exact Nxt.mk (i + 1) (mt_i rfl (by rw [wi64 (by omega)]; omega) mt_nil) ⟨by omega, gE G4 E6 hfp, fp', lost', ls', B6, by omega, by omega, hp.1, F6.low hfp (by have := G4.size; omega)⟩ (by omega)
  have h1 := vLt_f h1
  clear hi h1 hl0 hl1
  have hls : ls.length ≤ 16 := by omega
  have hs2 := G.size
  refine CallP.mk (Fc.imp (all B (by omega)) ?_)
  rintro u1 w3 ⟨o1, g3⟩
  have hlt2 : ∀ k, fp k → k < w2.heap.size := fun k hk => B.lt hk
  replace B := B.next g3
  replace G := gB G g3
  refine CallP.mk (Fc.imp (has (mask := mask) B) ?_)
  rintro _ w4 ⟨r, rfl, hr, g4⟩
  replace B := B.next g4
  replace G := gB G g4
  replace o1 := oB o1 g4
  refine CallP.mk (Fc.imp (all B (by omega)) ?_)
  rintro u2 w5 ⟨o2, g5⟩
  replace B := B.next g5
  replace G := gB G g5
  replace o1 := oB o1 g5
  refine CallP.mk (Fc.imp (eqLetters _ (o2.rd (ok := fun _ => True) (fun _ _ => trivial) (by decide)).wide' (o1.rd (ok := fun _ => True) (fun _ _ => trivial) (by decide)).wide') ?_)
  rintro _ w6 ⟨rfl, g6⟩
  replace B := B.next g6
  replace G := gB G g6
  replace o1 := oB o1 g6
  clear o2 g3 g4 g5 g6
  refine cF (by exact congrArg (!·) (decide_eq_true rfl)) ?_
  have h2f : ∀ k, fp k → w.heap.size ≤ k ∧ u1.ownBlock ≠ some k := fun k hk => ⟨hfp k hk, fun e => by have := (o1.lt e).1; have := hlt2 k hk; omega⟩
  refine CallP.mk (Fc.imp (take (mask := mask) B (by omega)) ?_)
  rintro _ w7 ⟨y, b, ls', rfl, ht, B7, E7⟩
  have G7 := gE G E7 hfp
  have o7 := oE o1 E7 (fun k hk hf => (h2f k hf).2 hk)
  clear B o1 G E7
  refine rAlloc rfl ?_
  intro w8 n8
  refine rStoreA n8.blk rfl rfl rfl ?_
  intro w9 u9 b9
  have hs7 := G7.size
  have B9 := (B7.ev (Ev.new n8 (fun _ => False)) (fun _ _ h => h)).ev (Ev.upd u9 (fp := fun k => k = w7.heap.size) rfl) (fun k hk e => by have := B7.lt hk; omega)
  have o9 := oU (oN o7 n8) u9 (fun e => by have := (o7.lt e).2; omega)
  have G9 := gU (gN G7 n8) u9 hs7
  clear B7 o7 G7 n8 u9 hs7
  refine cI (fun hb => ?_) (fun hb => ?_)
  · rcases ht with ⟨_, rfl, hno⟩ | ⟨_, e, _⟩
    · have hr1 : r = -1 := by
        rcases hr with ⟨h, _⟩ | ⟨k, l, _, hl, hbit, _⟩
        · exact h
        · exact absurd hbit (hno l (List.mem_of_getElem? hl))
      refine br_t (by rw [vLe_iff]; simp; omega) ?_
      refine CallP.mk (Fc.imp (all B9 (by omega)) ?_)
      rintro u3 w10 ⟨o3, g10⟩
      refine CallP.mk (Fc.imp (eqLetters _ (o3.rd (ok := fun _ => True) (fun _ _ => trivial) (by decide)).wide' ((oB o9 g10).rd (ok := fun _ => True) (fun _ _ => trivial) (by decide)).wide') ?_)
      rintro _ w11 ⟨rfl, g11⟩
      exact Done.mk ⟨congrArg Value.bool (decide_eq_true rfl), gB (gB G9 g10) g11⟩
    · rw [e] at hb; cases hb
  rcases ht with ⟨e, _⟩ | ⟨k, _, hk, hbit, _, rfl⟩
  · rw [e] at hb; cases hb
  have hkl := (List.getElem?_eq_some_iff.1 hk).1
  have hr0 : 0 ≤ r := by
    rcases hr with ⟨_, hno⟩ | ⟨j, l, h, _⟩
    · exact absurd hbit (hno y (List.mem_of_getElem? hk))
    · omega
  refine CallP.mk (Fc.imp (all B9 (by rw [List.length_eraseIdx]; split <;> omega)) ?_)
  rintro u4 w10 ⟨o4, g10⟩
  replace G9 := gB G9 g10
  replace b9 := kB b9 g10
  replace o9 := oB o9 g10
  clear B9 g10
  obtain ⟨g, cap, cur, rfl, hlo, hcb, hct, hclen, hcap, hcm, hcl⟩ := o9.blk (by intro e; subst e; simp at hkl)
  obtain ⟨n, hn⟩ : ∃ n, n = ls.length := ⟨_, rfl⟩
  rw [← hn] at hct hclen hcap
  rw [← hn]
  refine rLenSl rfl ?_
  refine LoopP.rule (α := Nat) 0 (fun j => [(74, .int .i64 j)]) (fun j w' => j ≤ k ∧ Below w.heap.size w w' ∧ Blk w' g cur 49 ∧ Blk w' w7.heap.size (enL y) 49 ∧ Own w9.heap.size w' 49 4 enL u4 (ls.eraseIdx k)) (fun j => n - j) (mt_cons rfl mt_nil) ⟨Nat.zero_le _, G9, hcb, b9, o4⟩ ?_
  clear G9 hcb b9 o4 o9
  rintro j f2 w11 ⟨hj, G, hcb, hyb, o4⟩
  have hjn : j < n := by omega
  refine cT (by rw [vLt_iff]; first | (simp; done) | (simp; omega)) ?_
  refine bk ?_
  obtain ⟨x, hxj⟩ : ∃ x, x = ls[j] := ⟨_, rfl⟩
  have hxs : ls[j]? = some x := by rw [hxj]; exact List.getElem?_eq_getElem (by omega)
  have h41 : (j + 1) * 4 ≤ n * 4 := Nat.mul_le_mul_right _ hjn
  have helt : (cur.drop (j * 4)).take 4 = enL x := by
    have := flat_part enL_len ls j x hxs
    rw [← hct, List.drop_take, List.take_take, Nat.min_eq_left (by omega)] at this
    exact this
  have htk : (cur.drop 0).take (j * 4) = (ls.take j).flatMap enL := by
    rw [← flat_take enL_len ls j (by omega), ← hct, List.take_take, Nat.min_eq_left (by omega), List.drop_zero]
  have hdr : (cur.drop ((j + 1) * 4)).take ((n - (j + 1)) * 4) = (ls.drop (j + 1)).flatMap enL := by
    rw [← flat_drop enL_len ls (j + 1) (by omega), ← hct, List.drop_take, show n * 4 - (j + 1) * 4 = (n - (j + 1)) * 4 by omega]
  have hers : ls.eraseIdx k = ls.take k ++ ls.drop (k + 1) := List.eraseIdx_eq_take_drop_succ ls k
  refine drawz (fun wx => Blk wx g cur 49 ∧ Blk wx w7.heap.size (enL y) 49) [(0, .pure), (1, .pure), (2, .pure), (3, .held), (4, .held), (5, .pure), (6, .pure), (7, .pure), (8, .pure), (9, .pure), (10, .pure), (12, .pure), (13, .pure), (14, .pure), (15, .pure), (11, .forced), (16, .forced), (17, .forced), (18, .pure)] mixed (by kernel_rfl) (by kernel_rfl) (fun wd hd => ⟨⟨kS hcb (by rw [hd]; exact Still.drew _), kS hyb (by rw [hd]; exact Still.drew _)⟩, ?_⟩)
  have st : Still w11 wd := by rw [hd]; exact Still.drew _
  replace hcb : Blk wd g cur 49 := kS hcb st
  replace hyb : Blk wd w7.heap.size (enL y) 49 := kS hyb st
  replace G := gS G st
  replace o4 := oS o4 st
  clear st hd
  refine tk (fun wx hS => rIdx 4 j (j * 4) rfl (by omega) (by omega) rfl rfl ⟨rfl, rfl⟩) ?_
  refine tk (v := .agg (enL x).toArray) (fun wx hS => rLoadA0 (vs := enL x) (by have := hS.1.at.sub (j * 4) 4; rw [helt, Nat.zero_add] at this; exact this) rfl rfl rfl ⟨rfl, rfl⟩) ?_
  refine tk (fun wx hS => rLoadA0 hS.2.at rfl rfl rfl ⟨rfl, rfl⟩) ?_
  refine tk (v := .bool (vEq x.node y.node && (vEq x.num y.num && true) && (vEq x.tag y.tag && (((bs x.body).toList == (bs y.body).toList) && true)))) (fun wx hS => rStructEq (by kernel_rfl) (by kernel_rfl) ⟨rfl, rfl⟩) ?_
  refine br (fun h3 => ?_) (fun h3 => ?_)
  · refine tk (fun wx hS => rSlH j rfl rfl rfl (by omega) ⟨rfl, rfl⟩) ?_
    refine tk (fun wx hS => rSlL (sz := 4) (j + 1) rfl rfl (by rw [wi64 (by omega)]; omega) (by omega) ⟨rfl, rfl⟩) ?_
    have hat0 : At wd g 0 ((ls.take j).flatMap enL) := by have := hcb.at.sub 0 (j * 4); rw [htk] at this; exact this
    refine CallP.mk (Fc.imp (copyL hat0 (by rw [List.length_take]; omega) (by omega)) ?_)
    rintro u5 w12 ⟨o5, g12, hf5⟩
    have hdj : Dj u4 u5 := fun q h4 h5 => by have := (o4.lt h4).2; have := hf5 q h5; omega
    have hc1 := hcb.lt
    have hc2 := hyb.lt
    have hsG := G.size
    replace hcb := kB hcb g12
    replace hyb := kB hyb g12
    replace o4 := oB o4 g12
    replace G := gB G g12
    refine KeepP.mk (⟨hcb, hyb⟩) ?_
    have hat1 : At w12 g (if cap = j + 1 then 0 else 0 + (j + 1) * 4) ((ls.drop (j + 1)).flatMap enL) := by
      split
      · have : ls.drop (j + 1) = [] := List.drop_eq_nil_of_le (by omega)
        rw [this]
        exact At.none hcb
      · rw [← hdr]; exact hcb.at.sub _ _
    refine rAppO (ys := ls.drop (j + 1)) (.agg #[.int .i64 0, .int .i64 0, .int .i64 0, .string (bs [])]) 40 o5 hat1 (by rw [List.length_drop, hn]) (fun y _ => enL_one y) rfl rfl rfl (by decide) (by rw [List.length_take]; omega) (by rw [List.length_take]; omega) g12.size ?_
    intro u6 w13 o6 g13
    replace hcb := kG hcb g13 (fun e => by have := hf5 _ e; omega)
    replace hyb := kG hyb g13 (fun e => by have := hf5 _ e; omega)
    replace o4 := oG o4 g13 hdj
    replace G := gG G g13 (fun q hq => by have := hf5 q hq; omega)
    refine KeepP.mk (⟨hcb, hyb⟩) ?_
    refine CallP.mk (Fc.imp (eqLetters _ (o4.rd (ok := fun _ => True) (fun _ _ => trivial) (by decide)).wide' (o6.rd (ok := fun _ => True) (fun _ _ => trivial) (by decide)).wide') ?_)
    rintro _ w14 ⟨rfl, g14⟩
    replace hcb := kB hcb g14
    replace hyb := kB hyb g14
    replace o4 := oB o4 g14
    replace G := gB G g14
    refine KeepP.mk (⟨hcb, hyb⟩) ?_
    refine cI (fun hq => ?_) (fun hq => ?_)
    · exact Done.mk ⟨congrArg Value.bool (by rw [vLe_iff]; simpa using hr0), G⟩
    · have hq : ls.eraseIdx k ≠ ls.take j ++ ls.drop (j + 1) := by simpa using hq
      have hjk : j ≠ k := fun e => by subst e; exact hq hers
      exact Nxt.mk (j + 1) (mt_i rfl (by rw [wi64 (by omega)]; omega) mt_nil) ⟨by omega, G, hcb, hyb, o4⟩ (by omega)
  · rw [letter_eq] at h3
    have h3 : x ≠ y := by simpa using h3
    have hjk : j ≠ k := fun e => by subst e; rw [hxs] at hk; exact h3 (Option.some.inj hk)
    refine cF (rfl) ?_
    exact Nxt.mk (j + 1) (mt_i rfl (by rw [wi64 (by omega)]; omega) mt_nil) ⟨by omega, G, hcb, hyb, o4⟩ (by omega)
end Go.Proofs.Ytkkfjhaknbaiaaa.Mail
