/- The walk of the law MailOrder. -/
import Derived.Test.YtkkfjhaknbaiaaaMailCountsW
import Derived.Test.YtkkfjhaknbaiaaaMailOrderL
set_option maxRecDepth 100000
set_option linter.unusedVariables false
set_option linter.unusedSimpArgs false
namespace Go.Proofs.Ytkkfjhaknbaiaaa.Mail
open Go Go.Proofs.Ytkkfjhaknbaiaaa.Eng Go.RowKit
theorem putS_cases {room lost lost' : Int} {ls ls' : List Letter} {x : Letter} {b : Bool} (he : (lost', ls', b) = putS room lost ls x) : (b = false ∧ ls' = ls) ∨ (b = true ∧ ls' = ls ++ [x] ∧ 0 ≤ x.tag ∧ x.tag ≤ 63) := by
  unfold putS at he
  split at he
  · injection he with h1 h2; injection h2 with h2 h3
    exact .inl ⟨h3, h2⟩
  · rename_i hn
    injection he with h1 h2; injection h2 with h2 h3
    exact .inr ⟨h3, h2, by omega, by omega⟩
theorem mailOrder (w : World) (room : Int) (vl : Value) (xs : List Step) (_ : i64 room) (hx : Rd enS okS 6 w vl xs) (hy : xs.length * 56 ≤ 140737488351232) : Fc Try.prog 7 #[.int .i64 room, vl] w (fun v w' => v = .bool true ∧ Below w.heap.size w w') := by
  refine Fc.of Try.func7 rfl (by kernel_rfl) ?_
  have hxl := hx.len
  refine CallP.mk (Fc.imp (mailNew room w) ?_)
  rintro _ w1 (⟨_, rfl, rfl⟩ | ⟨hroom, rfl, G, B⟩)
  · refine br_t (by rw [vNe_iff]; rfl) ?_
    refine cT (rfl) ?_
    refine rPtrNil rfl ?_
    exact Done.mk ⟨congrArg Value.bool (by rw [vEq_iff]; rfl), Below.refl _ _⟩
  refine br_f (by rw [vNe_iff]; rfl) ?_
  refine rPtrNil rfl ?_
  refine cF (rfl) ?_
  refine rAlloc rfl ?_
  intro w2 n2
  have hL0 : Lies w.heap.size w2 w1.heap.size 46 (List.replicate 64 (.slice none 0 0)) [] := ⟨List.length_replicate, n2.blk, fun t v hv => by
    obtain ⟨_, rfl⟩ := List.getElem?_eq_some_iff.1 hv
    rw [List.getElem_replicate]
    exact ⟨Off.nil _ _ _ enL_len, nofun⟩, fun t u v v' _ hv _ => by
    obtain ⟨_, rfl⟩ := List.getElem?_eq_some_iff.1 hv
    rw [List.getElem_replicate]
    exact Dj.nil _⟩
  refine rLenR hx rfl ?_
  obtain ⟨L, hL⟩ : ∃ L, L = w1.heap.size := ⟨_, rfl⟩
  have hLw : w.heap.size ≤ L := by rw [hL]; exact G.size
  have B2 := B.ev (Ev.new n2 (fun _ => False)) (fun _ _ h => h)
  have G2 := gN G n2
  have hap : Ap (Lfp L (List.replicate 64 (.slice none 0 0))) (fun k => k = w.heap.size) := fun k hk e => by
    rcases hk with rfl | ⟨t, v, hv, hk⟩
    · have := B.lt (k := w.heap.size) rfl; omega
    · obtain ⟨_, rfl⟩ := List.getElem?_eq_some_iff.1 hv
      rw [List.getElem_replicate] at hk; cases hk
  rw [← hL] at hL0 ⊢
  refine LoopP.rule (α := Nat) 0 (fun i => [(32, .int .i64 i)]) (fun i w' => i ≤ xs.length ∧ Below w.heap.size w w' ∧ ∃ fp lost ls vs, Bx w' w.heap.size fp room lost ls ∧ 0 ≤ lost ∧ lost ≤ i ∧ (ls.length : Int) ≤ room ∧ (∀ k, fp k → w.heap.size ≤ k) ∧ Lies w.heap.size w' L 46 vs ls ∧ Ap (Lfp L vs) fp) (fun i => xs.length - i) (mt_cons rfl mt_nil) ⟨Nat.zero_le _, G2, _, _, _, _, B2, Int.le_refl _, by simp, by simp; omega, fun k hk => by omega, hL0, hap⟩ ?_
  clear G G2 B B2 hL0 hap n2 hL
  rintro i f w2 ⟨hi, G, fp, lost, ls, vs, B, hl0, hl1, hl2, hfp, hLi, hap⟩
  refine cI (fun h1 => ?_) (fun h1 => ?_)
  · have h1 := vLt_t h1
    refine bk ?_
    have hlt : i < xs.length := by omega
    refine rIdxE 6 (sG hx G) i xs[i] rfl (List.getElem?_eq_getElem hlt) rfl rfl ?_
    intro b o hat hok
    obtain ⟨⟨kind, mask, x⟩, hst⟩ : ∃ s, s = xs[i] := ⟨_, rfl⟩
    rw [← hst] at hat hok
    refine rLoadA0 hat rfl rfl rfl ?_
    refine rAlloc rfl ?_
    intro w3 n3
    refine rStoreA n3.blk rfl rfl rfl ?_
    intro w4 u4 b4
    have hsz := G.size
    have E4 : Ev w2 w4 (fun _ => False) := (Ev.new n3 _).trans (Ev.upd u4 (fp := fun k => k = w2.heap.size) rfl) (fun _ h => h) (fun k hk e => by omega)
    have B5 := B.ev E4 (fun _ _ h => h)
    have L5 := hLi.ev E4 (fun _ _ h => h)
    have G4 := gU (gN G n3) u4 hsz
    have hq : ∀ k, fp k → k ≠ w2.heap.size := fun k hk e => by have := B.lt hk; omega
    have hqL : ∀ k, Lfp L vs k → k ≠ w2.heap.size := fun k hk e => by have := hLi.lt hk; omega
    obtain ⟨q, hqe⟩ : ∃ q, q = w2.heap.size := ⟨_, rfl⟩
    rw [← hqe] at hq hqL b4 ⊢
    have hqw : w.heap.size ≤ q := by omega
    clear B hLi n3 u4 G hat E4 hsz hqe
    refine rFieldAt rfl ?_
    refine rLoad0 b4.at rfl rfl ?_
    refine DivP.mk (by decide) ?_
    refine cI (fun hb => ?_) (fun hb => ?_)
    · refine rFieldAt rfl ?_
      refine rLoadA b4.at 2 rfl rfl ?_
      refine CallP.mk (Fc.imp (put (x := x) B5 hok ⟨hl0, by omega⟩ (by omega) hl2) ?_)
      rintro _ w5 ⟨b', lost', ls', fp', rfl, he, B6, E6, F6⟩
      have L6 := L5.ev E6 hap
      have b6 := kE b4 E6 (fun h => hq q h rfl)
      obtain ⟨p1, p2, p3, p4⟩ := putS_sum he hl2
      have hcs := putS_cases he
      have G6 := gE G4 E6 hfp
      have hfp' := F6.low hfp G4.size
      have hap' := hap.fr F6 (fun k hk => L5.lt hk)
      refine cI (fun hb' => ?_) (fun hb' => ?_)
      · rcases hcs with ⟨e, _⟩ | ⟨_, rfl, ht0, ht1⟩
        · rw [e] at hb'; cases hb'
        refine rFieldAt rfl ?_
        refine rFieldAt rfl ?_
        refine rLoad b6.at 4 rfl rfl ?_
        refine br_f (by rw [vLt_iff]; first | (simp; done) | (simp; omega)) ?_
        refine rFieldAt rfl ?_
        refine rFieldAt rfl ?_
        refine rLoad b6.at 4 rfl rfl ?_
        refine cF (by rw [vLt_iff]; first | (simp; done) | (simp; omega)) ?_
        obtain ⟨t, htg⟩ : ∃ t : Nat, x.tag = (t : Int) := ⟨x.tag.toNat, by omega⟩
        have ht : t < 64 := by omega
        obtain ⟨v, hv⟩ : ∃ v, vs[t]? = some v := ⟨_, List.getElem?_eq_getElem (by have := L6.len; omega)⟩
        obtain ⟨hrow, hvL⟩ := L6.row t v hv
        refine drawz (fun wx => Blk wx q (enS ⟨kind, mask, x⟩) 51 ∧ Blk wx L vs 46) [(0, .pure), (1, .pure), (2, .held), (3, .pure), (4, .pure), (5, .held), (6, .pure), (7, .held), (8, .pure), (9, .held), (10, .forced), (11, .forced), (12, .pure), (13, .free)] mixed (by kernel_rfl) (by kernel_rfl) (fun wd hd => ⟨⟨kS b6 (by rw [hd]; exact Still.drew _), kS L6.blk (by rw [hd]; exact Still.drew _)⟩, ?_⟩)
        have st : Still w5 wd := by rw [hd]; exact Still.drew _
        have E7 := Ev.still st (fun _ => False)
        have b7 := kS b6 st
        have L7 := L6.ev E7 (fun _ _ h => h)
        have B7 := B6.ev E7 (fun _ _ h => h)
        have G7 := gS G6 st
        clear st hd E7 b6 L6 B6 G6 hrow
        refine tk (fun wx hS => rFieldAt rfl ⟨rfl, rfl⟩) ?_
        refine tk (fun wx hS => rFieldAt rfl ⟨rfl, rfl⟩) ?_
        refine tk (fun wx hS => rLoad hS.1.at 4 rfl rfl ⟨rfl, rfl⟩) ?_
        refine tk (fun wx hS => rFieldAt rfl ⟨rfl, rfl⟩) ?_
        refine tk (fun wx hS => rFieldAt rfl ⟨rfl, rfl⟩) ?_
        refine tk (fun wx hS => rLoad hS.1.at 4 rfl rfl ⟨rfl, rfl⟩) ?_
        refine tk (fun wx hS => rIdxArr' 1 t t htg ht (by omega) rfl rfl ⟨rfl, rfl⟩) ?_
        refine tk (v := v) (fun wx hS => rLoadC (by have := hS.2.at.cell hv; rwa [Nat.zero_add] at this) rfl rfl ⟨rfl, rfl⟩) ?_
        refine tk (fun wx hS => rFieldAt rfl ⟨rfl, rfl⟩) ?_
        refine tk (fun wx hS => rLoadA hS.1.at 2 rfl rfl ⟨rfl, rfl⟩) ?_
        refine rBuildSlice (z := .agg #[.int .i64 0, .int .i64 0, .int .i64 0, .string (bs [])]) (sz := 4) rfl rfl rfl (by decide) ?_
        intro w8 n8
        have hs7 := G7.size
        have E8 := Ev.new n8 (fun _ => False)
        have b8 := kE b7 E8 (fun h => h)
        have L8 := L7.ev E8 (fun _ _ h => h)
        have B8 := B7.ev E8 (fun _ _ h => h)
        have G8 := gN G7 n8
        have nb := n8.blk
        clear b7 L7 B7 G7 n8 E8
        refine KeepP.mk (⟨b8, L8.blk⟩) ?_
        have hrow := (L8.row t v hv).1
        have hofl : (ofT t ls).length ≤ ls.length := List.length_filter_le _ _
        refine rAppF (ys := [x]) (.agg #[.int .i64 0, .int .i64 0, .int .i64 0, .string (bs [])]) 40 hrow nb.at rfl (fun y _ => enL_one y) rfl rfl rfl (by decide) (by omega) (by omega) G8.size ?_
        intro v9 w9 o9 g9
        have b9 := kG b8 g9 (fun e => hqL q (.inr ⟨t, v, hv, e⟩) rfl)
        have lb9 := kG L8.blk g9 hvL
        refine KeepP.mk (⟨b9, lb9⟩) ?_
        refine tk (fun wx hS => rIdxArr' 1 t t htg ht (by omega) rfl rfl ⟨rfl, rfl⟩) ?_
        refine rStoreL lb9 (by rw [L8.len]; exact ht) rfl o9.one ?_
        intro w10 u10 lb10
        have hLlt := L8.blk.lt
        have hv9 : v9.ownBlock ≠ some L := fun e => by
          rcases g9.at_ with h | h | ⟨k, h, hk⟩
          · exact hvL (h ▸ e)
          · rw [h] at e; cases e
          · rw [h] at e; obtain rfl := Option.some.inj e; omega
        have Eg := Ev.gr g9 (fp := fun k => v.ownBlock = some k) (fun k h => h)
        have Eu := Ev.upd u10 (fp := fun k => k = L) rfl
        have L10 := L8.put (w' := w10) (ls' := ls ++ [x]) ht (by rw [ofT_app, if_pos htg]; exact o9.ev Eu (fun k hk e => hv9 (e ▸ hk))) hv9 (fun u hu => by rw [ofT_app, if_neg (by rw [htg]; omega)]) lb10
          (fun u vu hu hvu => ((L8.row u vu hvu).1.ev Eg (fun k hk e => L8.apart u t vu v hu hvu hv k hk e)).ev Eu (fun k hk e => (L8.row u vu hvu).2 (e ▸ hk)))
          (fun u vu hu hvu k hk e => by
            rcases g9.at_ with h | h | ⟨j, h, hj⟩
            · exact L8.apart u t vu v hu hvu hv k hk (h ▸ e)
            · rw [h] at e; cases e
            · rw [h] at e; obtain rfl := Option.some.inj e
              have := ((L8.row u vu hvu).1.lt hk).2; omega)
        have B10 := (B8.ev Eg (fun k hk e => hap' k (.inr ⟨t, v, hv, e⟩) hk)).ev Eu (fun k hk e => hap' k (.inl e) hk)
        have hap10 : Ap (Lfp L (vs.set t v9)) fp' := fun k hk hf => by
          rcases hk with rfl | ⟨u, vu, hvu, hk⟩
          · exact hap' k (.inl rfl) hf
          · by_cases e : u = t
            · subst e
              rw [List.getElem?_set_self (by rw [L8.len]; exact ht)] at hvu
              obtain rfl := Option.some.inj hvu
              rcases g9.at_ with h | h | ⟨j, h, hj⟩
              · exact hap' k (.inr ⟨u, v, hv, h ▸ hk⟩) hf
              · rw [h] at hk; cases hk
              · rw [h] at hk; obtain rfl := Option.some.inj hk
                have := B8.lt hf; omega
            · rw [List.getElem?_set_ne (Ne.symm e)] at hvu
              exact hap' k (.inr ⟨u, vu, hvu, hk⟩) hf
        have hla : (ls ++ [x]).length = ls.length + 1 := by simp
        have G10 := gU (gG G8 g9 (fun k hk => (hrow.lt hk).1)) u10 hLw
        exact Nxt.mk (i + 1) (mt_i rfl (by rw [wi64 (by omega)]; omega) mt_nil) ⟨by omega, G10, fp', lost', ls ++ [x], _, B10, by omega, by omega, p1, hfp', L10, hap10⟩ (by omega)
      · rcases hcs with ⟨_, rfl⟩ | ⟨e, _⟩
        · exact Nxt.mk (i + 1) (mt_i rfl (by rw [wi64 (by omega)]; omega) mt_nil) ⟨by omega, G6, fp', lost', ls', vs, B6, by omega, by omega, p1, hfp', L6, hap'⟩ (by omega)
        · rw [e] at hb'; cases hb'
    refine rFieldAt rfl ?_
    refine rLoad b4.at 1 rfl rfl ?_
    refine CallP.mk (Fc.imp (take (mask := mask) B5 (by omega)) ?_)
    rintro _ w5 ⟨y, b', ls', rfl, ht, B6, E6⟩
    have L6 := L5.ev E6 hap
    have b6 := kE b4 E6 (fun h => hq q h rfl)
    have G6 := gE G4 E6 hfp
    have hlen := takeS_len ht
    have hfine : ∀ l ∈ ls, fine l := by obtain ⟨_, _, _, _, h, _⟩ := B5; exact h
    clear B5 L5 b4 G4 E6
    refine rAlloc rfl ?_
    intro w6 n6
    refine rStoreA n6.blk rfl rfl rfl ?_
    intro w7 u7 y7
    have hs5 := G6.size
    have E7 : Ev w5 w7 (fun _ => False) := (Ev.new n6 _).trans (Ev.upd u7 (fp := fun k => k = w5.heap.size) rfl) (fun _ h => h) (fun k hk e => by omega)
    have G7 := gU (gN G6 n6) u7 hs5
    have B7 := B6.ev E7 (fun _ _ h => h)
    have L7 := L6.ev E7 (fun _ _ h => h)
    have b7 := kE b6 E7 (fun h => h)
    obtain ⟨p, hpe⟩ : ∃ p, p = w5.heap.size := ⟨_, rfl⟩
    have hpL : ∀ k, Lfp L vs k → k ≠ p := fun k hk e => by have := L6.lt hk; omega
    have hpw : w.heap.size ≤ p := by omega
    rw [← hpe] at y7 ⊢
    clear B6 L6 b6 G6 n6 u7 E7 hs5 hpe
    refine cI (fun hb' => ?_) (fun hb' => ?_)
    · rcases ht with ⟨_, rfl, hno⟩ | ⟨_, e, _⟩
      case' inr => rw [e] at hb'; cases hb'
      refine LoopP.rule (α := Nat) 0 (fun j => [(76, .int .i64 j)]) (fun j w' => j ≤ 64 ∧ w7 = w') (fun j => 64 - j) (mt_cons rfl mt_nil) ⟨Nat.zero_le _, rfl⟩ ?_
      rintro j f2 w8 ⟨hj, rfl⟩
      refine cI (fun h2 => ?_) (fun h2 => ?_)
      · have h2 := vLt_t h2
        have hj64 : j < 64 := by omega
        refine bk ?_
        obtain ⟨v, hv⟩ : ∃ v, vs[j]? = some v := ⟨_, List.getElem?_eq_getElem (by have := L7.len; omega)⟩
        obtain ⟨a, c, hve⟩ := (L7.row j v hv).1.form
        refine rIdxArr' 1 j j rfl hj64 (by omega) rfl rfl ?_
        refine rLoadC (v := v) (by have := L7.blk.at.cell hv; rwa [Nat.zero_add] at this) rfl rfl ?_
        subst hve
        refine rLenSl rfl ?_
        refine br (fun h3 => ?_) (fun h3 => ?_)
        · have h3 := vLt_t h3
          have hne : bitI mask (j : Int) ≠ 1 := ofT_none (ls := ls') (t := j) hno (fun e => by rw [e] at h3; simp at h3)
          refine rFieldAt rfl ?_
          refine rLoad b7.at 1 rfl rfl ?_
          refine ShiftP.mk (by omega) ?_
          refine cF (by rw [vEq_iff]; exact decide_eq_false hne) ?_
          exact Nxt.mk (j + 1) (mt_i rfl (by rw [wi64 (by omega)]; omega) mt_nil) ⟨by omega, rfl⟩ (by omega)
        have h3 := vLt_f h3
        refine cF (rfl) ?_
        exact Nxt.mk (j + 1) (mt_i rfl (by rw [wi64 (by omega)]; omega) mt_nil) ⟨by omega, rfl⟩ (by omega)
      have h2 := vLt_f h2
      exact Nxt.mk (i + 1) (mt_i rfl (by rw [wi64 (by omega)]; omega) mt_nil) ⟨by omega, G7, fp, lost, ls', vs, B7, hl0, by omega, hl2, hfp, L7, hap⟩ (by omega)
    rcases ht with ⟨e, _⟩ | ⟨k, _, hk, hbit, hno, rfl⟩
    · rw [e] at hb'; cases hb'
    obtain ⟨_, ht0, ht1, _⟩ := hfine y (List.mem_of_getElem? hk)
    obtain ⟨t, htg⟩ : ∃ t : Nat, y.tag = (t : Int) := ⟨y.tag.toNat, by omega⟩
    have htl : t < 64 := by omega
    obtain ⟨v, hv⟩ : ∃ v, vs[t]? = some v := ⟨_, List.getElem?_eq_getElem (by have := L7.len; omega)⟩
    have hrow := (L7.row t v hv).1
    rw [ofT_own hk htg hbit hno] at hrow
    obtain ⟨g, o, cap, hve, hlg, hat⟩ := hrow.head
    obtain ⟨n, hn⟩ : ∃ n, n = (ofT t (ls.eraseIdx k)).length + 1 := ⟨_, rfl⟩
    rw [← hn] at hve
    have hn0 : 0 < n := by omega
    refine drawz (fun wx => Blk wx p (enL y) 49 ∧ Blk wx q (enS ⟨kind, mask, x⟩) 51 ∧ Blk wx L vs 46 ∧ At wx g o (enL y)) [(0, .pure), (1, .held), (2, .pure), (3, .pure), (4, .pure), (5, .held), (6, .pure), (7, .pure), (8, .pure), (9, .pure), (10, .held), (11, .pure), (12, .held), (13, .pure), (14, .pure), (15, .pure), (16, .pure), (17, .pure), (18, .pure), (19, .held), (20, .pure), (21, .held), (22, .pure), (23, .pure), (24, .pure), (25, .pure), (26, .pure), (27, .held), (28, .pure), (29, .held), (30, .pure), (31, .held), (32, .held), (33, .pure), (34, .pure)] mixed (by kernel_rfl) (by kernel_rfl) (fun wd hd => ⟨⟨kS y7 (by rw [hd]; exact Still.drew _), kS b7 (by rw [hd]; exact Still.drew _), kS L7.blk (by rw [hd]; exact Still.drew _), aS hat (by rw [hd]; exact Still.drew _)⟩, ?_⟩)
    have st : Still w7 wd := by rw [hd]; exact Still.drew _
    have E8 := Ev.still st (fun _ => False)
    have y8 := kS y7 st
    have L8 := L7.ev E8 (fun _ _ h => h)
    have B8 := B7.ev E8 (fun _ _ h => h)
    have G8 := gS G7 st
    replace hrow := hrow.ev E8 (fun _ _ h => h)
    clear st hd E8 y7 b7 L7 B7 G7 hat
    refine tk (fun wx hS => rFieldAt rfl ⟨rfl, rfl⟩) ?_
    refine tk (fun wx hS => rLoad hS.1.at 2 rfl rfl ⟨rfl, rfl⟩) ?_
    refine br_f (by rw [vLt_iff]; first | (simp; done) | (simp; omega)) ?_
    refine tk (fun wx hS => rFieldAt rfl ⟨rfl, rfl⟩) ?_
    refine tk (fun wx hS => rLoad hS.1.at 2 rfl rfl ⟨rfl, rfl⟩) ?_
    refine br_f (by rw [vLt_iff]; first | (simp; done) | (simp; omega)) ?_
    refine tk (fun wx hS => rFieldAt rfl ⟨rfl, rfl⟩) ?_
    refine tk (fun wx hS => rLoad hS.2.1.at 1 rfl rfl ⟨rfl, rfl⟩) ?_
    refine tk (fun wx hS => rFieldAt rfl ⟨rfl, rfl⟩) ?_
    refine tk (fun wx hS => rLoad hS.1.at 2 rfl rfl ⟨rfl, rfl⟩) ?_
    refine ShiftP.mk (by omega) ?_
    have hb0 : bitI mask y.tag ≠ 0 := by rw [hbit]; decide
    refine br_f (by rw [vEq_iff]; exact decide_eq_false hb0) ?_
    refine tk (fun wx hS => rFieldAt rfl ⟨rfl, rfl⟩) ?_
    refine tk (fun wx hS => rLoad hS.1.at 2 rfl rfl ⟨rfl, rfl⟩) ?_
    refine tk (fun wx hS => rIdxArr' 1 t t htg htl (by omega) rfl rfl ⟨rfl, rfl⟩) ?_
    subst hve
    refine tk (v := .slice (some ⟨g, o, none⟩) n cap) (fun wx hS => rLoadC (by have := hS.2.2.1.at.cell hv; rwa [Nat.zero_add] at this) rfl rfl ⟨rfl, rfl⟩) ?_
    refine tk (fun wx hS => rLenSl rfl ⟨rfl, rfl⟩) ?_
    refine br_f (by rw [vEq_iff]; first | (simp; done) | (simp; omega)) ?_
    refine tk (fun wx hS => rFieldAt rfl ⟨rfl, rfl⟩) ?_
    refine tk (fun wx hS => rLoad hS.1.at 2 rfl rfl ⟨rfl, rfl⟩) ?_
    refine tk (fun wx hS => rIdxArr' 1 t t htg htl (by omega) rfl rfl ⟨rfl, rfl⟩) ?_
    refine tk (v := .slice (some ⟨g, o, none⟩) n cap) (fun wx hS => rLoadC (by have := hS.2.2.1.at.cell hv; rwa [Nat.zero_add] at this) rfl rfl ⟨rfl, rfl⟩) ?_
    refine tk (fun wx hS => rIdx 4 0 o rfl hn0 (by omega) rfl rfl ⟨rfl, rfl⟩) ?_
    refine tk (fun wx hS => rLoadA0 hS.2.2.2 rfl rfl rfl ⟨rfl, rfl⟩) ?_
    refine tk (fun wx hS => rLoadA0 hS.1.at rfl rfl rfl ⟨rfl, rfl⟩) ?_
    refine tk (v := .bool (!(vEq y.node y.node && (vEq y.num y.num && true) && (vEq y.tag y.tag && (((bs y.body).toList == (bs y.body).toList) && true))))) (fun wx hS => rStructNe (by kernel_rfl) (by kernel_rfl) ⟨rfl, rfl⟩) ?_
    refine cF (by rw [letter_eq]; simp) ?_
    refine drawz (fun wx => Blk wx p (enL y) 49 ∧ Blk wx L vs 46) [(0, .pure), (1, .held), (2, .pure), (3, .held), (4, .pure), (5, .held), (6, .pure), (7, .pure), (8, .free)] mixed (by kernel_rfl) (by kernel_rfl) (fun wf hwf => ⟨⟨kS y8 (by rw [hwf]; exact Still.drew _), kS L8.blk (by rw [hwf]; exact Still.drew _)⟩, ?_⟩)
    have st : Still wd wf := by rw [hwf]; exact Still.drew _
    have E9 := Ev.still st (fun _ => False)
    have L9 := L8.ev E9 (fun _ _ h => h)
    have B9 := B8.ev E9 (fun _ _ h => h)
    have G9 := gS G8 st
    replace hrow := hrow.ev E9 (fun _ _ h => h)
    clear st hwf E9 y8 L8 B8 G8
    refine tk (fun wx hS => rFieldAt rfl ⟨rfl, rfl⟩) ?_
    refine tk (fun wx hS => rLoad hS.1.at 2 rfl rfl ⟨rfl, rfl⟩) ?_
    refine tk (fun wx hS => rFieldAt rfl ⟨rfl, rfl⟩) ?_
    refine tk (fun wx hS => rLoad hS.1.at 2 rfl rfl ⟨rfl, rfl⟩) ?_
    refine tk (fun wx hS => rIdxArr' 1 t t htg htl (by omega) rfl rfl ⟨rfl, rfl⟩) ?_
    refine tk (v := .slice (some ⟨g, o, none⟩) n cap) (fun wx hS => rLoadC (by have := hS.2.at.cell hv; rwa [Nat.zero_add] at this) rfl rfl ⟨rfl, rfl⟩) ?_
    refine tk (fun wx hS => rSlL 1 rfl rfl rfl hn0 ⟨rfl, rfl⟩) ?_
    refine tk (fun wx hS => rIdxArr' 1 t t htg htl (by omega) rfl rfl ⟨rfl, rfl⟩) ?_
    refine rStoreL L9.blk (by rw [L9.len]; exact htl) rfl rfl ?_
    intro w10 u10 lb10
    have hLlt := L9.blk.lt
    have hgL : g ≠ L := fun e => (L9.row t _ hv).2 (by rw [← e]; rfl)
    have Eu := Ev.upd u10 (fp := fun k => k = L) rfl
    have hot : ∀ u : Nat, u ≠ t → ofT u (ls.eraseIdx k) = ofT u ls := fun u hu => ofT_other hk (by rw [htg]; omega)
    have L10 := L9.put (w' := w10) (ls' := ls.eraseIdx k) htl (hrow.tail.ev Eu (fun k hk e => hgL ((Option.some.inj hk).trans e))) (fun e => hgL (Option.some.inj e)) (fun u hu => hot u hu) lb10
      (fun u vu hu hvu => ((L9.row u vu hvu).1.ev Eu (fun k hk e => (L9.row u vu hvu).2 (e ▸ hk))))
      (fun u vu hu hvu k hk e => L9.apart u t vu _ hu hvu hv k hk e)
    have B10 := B9.ev Eu (fun k hk e => hap k (.inl e) hk)
    have hap10 : Ap (Lfp L (vs.set t (.slice (some ⟨g, if cap = 1 then o else o + 1 * 4, none⟩) (n - 1) (cap - 1)))) fp := fun k hk hf => by
      rcases hk with rfl | ⟨u, vu, hvu, hk⟩
      · exact hap k (.inl rfl) hf
      · by_cases e : u = t
        · subst e
          rw [List.getElem?_set_self (by rw [L9.len]; exact htl)] at hvu
          obtain rfl := Option.some.inj hvu
          exact hap k (.inr ⟨u, _, hv, hk⟩) hf
        · rw [List.getElem?_set_ne (Ne.symm e)] at hvu
          exact hap k (.inr ⟨u, vu, hvu, hk⟩) hf
    have G10 := gU G9 u10 hLw
    have hle : (ls.eraseIdx k).length ≤ ls.length := List.length_eraseIdx_le ..
    exact Nxt.mk (i + 1) (mt_i rfl (by rw [wi64 (by omega)]; omega) mt_nil) ⟨by omega, G10, fp, lost, ls.eraseIdx k, _, B10, hl0, by omega, by omega, hfp, L10, hap10⟩ (by omega)
  have h1 := vLt_f h1
  exact Done.mk ⟨rfl, G⟩
end Go.Proofs.Ytkkfjhaknbaiaaa.Mail
