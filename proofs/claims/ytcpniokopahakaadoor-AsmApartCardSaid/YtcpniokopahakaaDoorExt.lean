/- Memory that is written no more: frozen beside what was there. -/
import Derived.Test.YtcpniokopahakaaDoorBase
set_option maxRecDepth 100000
set_option linter.unusedVariables false
set_option linter.unusedSimpArgs false
namespace Go.Proofs.YtcpniokopahakaaDoor.Eng
open Go Go.RowKit
/-- g' is g, and more is frozen. -/
structure Ext (g g' : Glob) : Prop where
  os : g'.os = g.os
  tape : g'.tape = g.tape
  output : g'.output = g.output
  fr : ∀ k o, g.fr k = some o → g'.fr k = some o
theorem Ext.refl (g : Glob) : Ext g g := ⟨rfl, rfl, rfl, fun _ _ h => h⟩
theorem Ext.trans {a b c : Glob} (h : Ext a b) (k : Ext b c) : Ext a c := ⟨k.os.trans h.os, k.tape.trans h.tape, k.output.trans h.output, fun _ _ x => k.fr _ _ (h.fr _ _ x)⟩
theorem Ext.hle {g g' : Glob} (E : Ext g g') : Hle (Gh g) (Gh g') := fun b o h => E.fr b o h
section
variable {P : Program} {g g' : Glob} {w w' : World} {l : List As} {A : As} {α : Type} {en : α → List Value} {ok ok' : α → Prop} {s j b o : Nat} {v : Value} {xs : List α} {vs : List Value} {e : TypeId}
theorem FSl.ext (h : FSl g en ok s v xs) (E : Ext g g') : FSl g' en ok s v xs := SlR.mono (RE.mono' en ok) h E.hle
theorem FAt.ext (h : FAt g b o vs) (E : Ext g g') : FAt g' b o vs := AtH.mono h E.hle
theorem FSl.okm (h : FSl g en ok s v xs) (hm : ∀ x ∈ xs, ok x → ok' x) : FSl g en ok' s v xs := by
  obtain ⟨a, cap, h1, h2, h3, h4⟩ := h
  exact ⟨a, cap, h1, h2, h3, fun hx => let ⟨b, o, news, e, k1, k2⟩ := h4 hx; ⟨b, o, news, e, k1, k2.1, fun i x hx => ⟨(k2.2 i x hx).1, hm x (List.mem_of_getElem? hx) (k2.2 i x hx).2⟩⟩⟩
theorem FSl.extN {ok : Glob → α → Prop} (hm : ∀ (g g' : Glob) (x : α), ok g x → Ext g g' → ok g' x) (h : FSl g en (ok g) s v xs) (E : Ext g g') : FSl g' en (ok g') s v xs :=
  FSl.okm (FSl.ext h E) fun _ _ k => hm _ _ _ k E
theorem FSl.all (h : FSl g en ok s v xs) : ∀ x ∈ xs, ok x := fun x hx => by
  obtain ⟨a, cap, h1, h2, h3, h4⟩ := h
  obtain ⟨b, o, news, e, k1, k2⟩ := h4 (List.ne_nil_of_mem hx)
  obtain ⟨i, hi, rfl⟩ := List.mem_iff_getElem.1 hx
  exact (k2.2 i _ (List.getElem?_eq_getElem hi)).2
theorem Rd.tt {w : World} (h : Rd en ok s w v xs) : Rd en (fun _ => True) s w v xs := by
  obtain ⟨a, cap, h1, h2, h3, h4⟩ := h
  exact ⟨a, cap, h1, h2, h3, fun hx => let ⟨b, o, news, e, k1, k2⟩ := h4 hx; ⟨b, o, news, e, k1, k2.1, fun i x hx => ⟨(k2.2 i x hx).1, trivial⟩⟩⟩
theorem FSl.one (h : FSl g en ok s v xs) : v.oneCell' = true := by obtain ⟨a, cap, rfl, _⟩ := h; rfl
theorem FSl.form (h : FSl g en ok s v xs) : ∃ a c, v = .slice a xs.length c := by obtain ⟨a, cap, rfl, _⟩ := h; exact ⟨_, _, rfl⟩
theorem FSl.nil0 (g : Glob) (en : α → List Value) (ok : α → Prop) (s : Nat) : FSl g en ok s (.slice none 0 0) [] := SlR.nil _ _ _
/-- A piece becomes frozen. -/
theorem Sat.freezeA (H : Sat g w l) (hj : l[j]? = some A) : ∃ g' a, Ext g g' ∧ A a ∧ (∀ k o, a k = some o → g'.fr k = some o) ∧ Sat g' w (l.eraseIdx j) := by
  obtain ⟨h, hs, f, b, h1, h2, h3⟩ := H.ex
  obtain rfl : f = g.fr := h2
  obtain ⟨a, c, h4, h5, h6⟩ := (sts_mid hj).1 h3
  refine ⟨{ g with fr := fun k => match a k with
    | some o => some o
    | none => g.fr k }, a, ⟨rfl, rfl, rfl, fun k o hk => ?_⟩, h5, fun k o hk => ?_, H.os, H.tape, H.output, h, hs, _, c, fun k => ?_, rfl, h6⟩
  · dsimp only
    cases ha : a k with
    | none => exact hk
    | some o' =>
      exfalso
      rcases h1 k with ⟨_, q⟩ | ⟨q, _⟩
      · rcases h4 k with ⟨r, _⟩ | ⟨r, _⟩
        · rw [ha, q] at r; cases r
        · rw [ha] at r; cases r
      · rw [hk] at q; cases q
  · dsimp only; rw [hk]
  · dsimp only
    rcases h1 k with ⟨q1, q2⟩ | ⟨q1, q2⟩
    · rcases h4 k with ⟨r1, r2⟩ | ⟨r1, r2⟩
      · left; rw [r1, q2]; exact ⟨q1, r2⟩
      · left; rw [r1]; exact ⟨q1, r2.trans q2⟩
    · rcases h4 k with ⟨r1, r2⟩ | ⟨r1, r2⟩
      · cases ha : a k with
        | none =>
          right
          dsimp only
          exact ⟨q1, by rw [r2, ← q2, ← r1, ha]⟩
        | some o => left; dsimp only; exact ⟨by rw [← q2, ← r1, ha], r2⟩
      · right; rw [r1]; exact ⟨q1, r2.trans q2⟩
theorem Sl.rdf {a : Hp} (h : Sl e s en v xs a) (hf : ∀ k o, a k = some o → g.fr k = some o) (hok : ∀ x ∈ xs, ok x) : FSl g en ok s v xs := by
  rcases h.1 with ⟨rfl, rfl⟩ | ⟨gb, o, cap, cur, rfl, hb, hfit, hnc, hcm, ht⟩
  · exact SlR.nil _ _ _
  · refine ⟨_, cap, rfl, ⟨hnc, hcm⟩, nofun, fun _ => ⟨gb, o, xs.flatMap en, rfl, ⟨cur.toArray, e, (0, 0), hf _ _ hb, fun i x hx => ?_⟩, flat_len h.2 xs, fun i x hx => ⟨flat_part h.2 xs i x hx, hok x (List.mem_of_getElem? hx)⟩⟩⟩
    rw [← ht, List.getElem?_take] at hx
    split at hx
    · rw [List.getElem?_drop] at hx; simpa using hx
    · cases hx
theorem Sat.freeze (H : Sat g w l) (hj : l[j]? = some (Sl e s en v xs)) (hok : ∀ x ∈ xs, ok x) : ∃ g', Ext g g' ∧ FSl g' en ok s v xs ∧ Sat g' w (l.eraseIdx j) := by
  obtain ⟨g', a, E, h1, h2, h3⟩ := H.freezeA hj
  exact ⟨g', E, h1.rdf h2 hok, h3⟩
theorem Sat.frz1 {G : Prop} (H : Sat g w l) (j : Nat) (ok : α → Prop) (hj : l[j]? = some (Sl e s en v xs)) (hok : ∀ x ∈ xs, ok x) (k : ∀ g', Ext g g' → FSl g' en ok s v xs → delA l j fun l' => Sat g' w l' → G) : G := by
  obtain ⟨g', E, h1, h2⟩ := H.freeze hj hok
  have k := k g' E h1
  rw [delA_eq] at k; exact k h2
theorem Sat.taken (H : Sat g w l) (n : Nat) : Sat g w (l.take n) := by
  obtain ⟨h, hs, hx⟩ := H.ex
  exact ⟨H.os, H.tape, H.output, h, hs, sts_take (n := n + 1) hx⟩
theorem Sat.nilS (H : Sat g w l) (e : TypeId) (hs : ∀ x, (en x).length = s) : Sat g w [Sl e s en (.slice none 0 0) []] := (H.sl0 e hs).taken 1
theorem Sat.tl (H : Sat g w (A :: l)) : Sat g w l := H.del 0
/-- The new frozen is forgotten. -/
theorem Sat.forget (H : Sat g' w l) (E : Ext g g') : Sat g w l := by
  obtain ⟨h, hs, f, b, h1, h2, h3⟩ := H.ex
  obtain rfl : f = g'.fr := h2
  refine ⟨H.os.trans E.os, H.tape.trans E.tape, H.output.trans E.output, fun k => match b k with
    | some o => some o
    | none => g.fr k, fun k o hk => ?_, g.fr, b, fun k => ?_, rfl, h3⟩
  · dsimp only at hk
    cases hb : b k with
    | some o' =>
      rw [hb] at hk
      obtain rfl := Option.some.inj hk
      rcases h1 k with ⟨_, q⟩ | ⟨_, q⟩
      · rw [hb] at q; cases q
      · exact hs k _ (q ▸ hb)
    | none =>
      rw [hb] at hk
      have := E.fr k o hk
      rcases h1 k with ⟨q, _⟩ | ⟨q, _⟩
      · exact hs k _ (q ▸ this)
      · rw [this] at q; cases q
  · dsimp only
    cases hb : b k with
    | none => left; exact ⟨rfl, rfl⟩
    | some o =>
      right
      refine ⟨?_, rfl⟩
      cases hg : g.fr k with
      | none => rfl
      | some o' =>
        have := E.fr k o' hg
        rcases h1 k with ⟨_, q⟩ | ⟨q, _⟩
        · rw [hb] at q; cases q
        · rw [this] at q; cases q
theorem Ext.fin {w0 : World} (E : Ext (froz w0) g) (H : Sat g w l) : Below w0.heap.size w0 w := (H.forget E).finish
theorem Ext.start {w0 : World} (E : Ext (froz w0) g) (H : Sat g w l) : Sat (froz w0) w l := H.forget E
/-- A call that is told from g = froz w, used where g is frozen: what it froze is frozen here. -/
theorem Sat.mergeX {l' : List As} (H : Sat g w l) (E : Ext (froz w) g') (H' : Sat g' w' l') : ∃ g2, Ext g g2 ∧ (∀ k o, g'.fr k = some o → w.heap[k]? = none → g2.fr k = some o) ∧ Sat g2 w' (l' ++ l) := by
  obtain ⟨h, hs, hx⟩ := H'.ex
  obtain ⟨f, b, h1, h2, h3⟩ := hx
  obtain rfl : f = g'.fr := h2
  -- the new frozen as a piece ahead of l'
  have H2 : Sat (froz w) w' ((fun h => h = fun k => match w.heap[k]? with
    | some _ => none
    | none => g'.fr k) :: l') := by
    refine ⟨H'.os.trans E.os, H'.tape.trans E.tape, H'.output.trans E.output, h, hs, fun k => w.heap[k]?, fun k => match w.heap[k]? with
      | some _ => none
      | none => h k, fun k => ?_, rfl, fun k => match w.heap[k]? with
      | some _ => none
      | none => g'.fr k, b, fun k => ?_, rfl, h3⟩
    · dsimp only
      cases hw : w.heap[k]? with
      | none => right; exact ⟨rfl, rfl⟩
      | some o =>
        left
        refine ⟨?_, rfl⟩
        have := E.fr k o hw
        rcases h1 k with ⟨q, _⟩ | ⟨q, _⟩
        · rw [← q, this]
        · rw [this] at q; cases q
    · dsimp only
      cases hw : w.heap[k]? with
      | none => exact h1 k
      | some o =>
        dsimp only
        right
        refine ⟨rfl, ?_⟩
        have := E.fr k o hw
        rcases h1 k with ⟨_, q⟩ | ⟨q, _⟩
        · exact q
        · rw [this] at q; cases q
  have H3 := H.merge H2
  obtain ⟨g2, a, E2, ha, hf, hS⟩ := H3.freezeA (j := 0) rfl
  refine ⟨g2, E2, fun k o hk hw => hf k o ?_, hS⟩
  rw [ha]; dsimp only; rw [hw]; exact hk
end
end Go.Proofs.YtcpniokopahakaaDoor.Eng
