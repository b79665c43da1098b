/- The document's ledger: Hold, Let. -/
import Derived.Test.YtdallcepachhoaaLgRefC
import Derived.Test.YtdallcepachhoaaLgOne
set_option linter.unusedVariables false
set_option linter.unusedSimpArgs false
namespace Go.Proofs.Ytdallcepachhoaa
open Go.RowKit
theorem OwnS.turnH {B g N c : Nat} {w : World} {ls : List EntT} (h : OwnS B 4 1 encH w (.slice (some ⟨g, 0, none⟩) N c) (ls.map hd)) (k : Nat) (hk : k < ls.length) (b : Bool) :
    OwnS B 4 1 encH (w.setCell ⟨g, k, none⟩ (.bool b)) (.slice (some ⟨g, 0, none⟩) N c) ((ls.set k (heldAs (re ls k) b)).map hd) := by
  have hlen : ((ls.set k (heldAs (re ls k) b)).map hd).length = (ls.map hd).length := by simp
  rcases h.2 with ⟨h1, _⟩ | ⟨g', cap, cur, h1, hb, hg, hn, hm, hs, ht⟩
  · cases h1
  · injection h1 with h1 h2 h3
    injection h1 with h1
    injection h1 with h1
    subst h1 h2 h3
    have hb' : Blk w g 4 cur := hg
    refine ⟨encH_k.flat_len _, .inr ⟨g, c, cur.setIfInBounds k (.bool b), by rw [hlen], hb, hb'.set_ _ _, by rw [hlen]; exact hn, hm, by simpa using hs, ?_⟩⟩
    rw [hlen]
    apply List.ext_getElem?
    intro q
    rw [List.length_map] at ht hn ⊢
    by_cases hq : q < ls.length
    · rw [List.getElem?_take_of_lt (by omega), Array.getElem?_toList, Array.getElem?_setIfInBounds]
      have h1 := encH_k.flat_get ((ls.set k (heldAs (re ls k) b)).map hd) q 0 (by omega)
      have h2 := encH_k.flat_get (ls.map hd) q 0 (by omega)
      rw [show q * 1 + 0 = q by omega, List.getElem?_map] at h1 h2
      have h3 : cur[q]? = ((ls.map hd).flatMap encH)[q]? := by rw [← ht, List.getElem?_take_of_lt (by omega), Array.getElem?_toList]
      have e1 := re_some (ls := ls.set k (heldAs (re ls k) b)) (j := q) (by simpa using hq)
      have e2 := re_some hq
      rw [e1, re_set hk] at h1
      rw [e2] at h2
      rw [h1, h3, h2]
      by_cases e : k = q
      · subst e
        rw [if_pos rfl, if_pos rfl, if_pos (by omega)]
        rfl
      · rw [if_neg e, if_neg e]
    · rw [List.getElem?_eq_none (by rw [List.length_take]; omega), List.getElem?_eq_none (by rw [encH_k.flat_len]; simp; omega)]
theorem RefS.turn {T : List Nat} {w : World} {m : Nat} {ls : List EntT} (h : RefS T w m ls) (k : Nat) (hk : k < ls.length) :
    ∃ g c, w.cell? ⟨m, 1, none⟩ = some (.slice (some ⟨g, 0, none⟩) ls.length c) ∧ g < w.heap.size ∧ w.cell? ⟨g, k, none⟩ = some (.bool (re ls k).2.2.2) ∧ w.frozen? ⟨g, k, none⟩ = false ∧
      ∀ b, LeftR T w m (ls.set k (heldAs (re ls k) b)) (w.setCell ⟨g, k, none⟩ (.bool b)) := by
  obtain ⟨v, u, rfl, hb, hv, hu⟩ := h
  obtain ⟨A', c', e2, h2⟩ := own_held hu
  obtain ⟨g, rfl, h3, h4⟩ := h2 k hk
  subst e2
  have hgo : g ∈ own (.slice (some ⟨g, 0, none⟩) ls.length c') := by simp [own, Value.ownBlock]
  obtain ⟨hgm, cur, hgb⟩ := hu.own_ty g hgo
  refine ⟨g, c', hb.cell 1, h3, h4, hgb.frozen _, fun b => ?_⟩
  have hkk : Kept [g] w (w.setCell ⟨g, k, none⟩ (.bool b)) := (Kept.refl [g] w).setIn (by simp) _
  refine ⟨_, ⟨v, _, rfl, hb.keep hkk (by simp; omega), ?_, hu.turnH k hk b⟩, Grew.refl _ _, hkk.mono (fun x hx _ => by simp at hx; rw [hx]; simp [hgo])⟩
  rw [map_set_bk hk (heldAs (re ls k) b) rfl]
  exact hv.keepS hkk (fun s hs => .inr (fun e => by
    simp at hs
    subst hs
    obtain ⟨_, cur', hc'⟩ := hv.own_ty s (by unfold own; rw [← e]; simp)
    exact hc'.ne_ hgb (by decide) rfl))
theorem LeftR.then0 {T : List Nat} {W w w' : World} {m : Nat} {ls : List EntT} (hk : Kept [] W w) (h : LeftR T w m ls w') : LeftR T W m ls w' := by
  obtain ⟨T', h1, h2, h3⟩ := h
  refine ⟨T', h1, fun q hq => ?_, (hk.mono (fun x hx _ => by cases hx)).trans h3 (fun x hx _ => hx)⟩
  rcases h2 q hq with h | h
  · exact .inl h
  · right; have := hk.size; omega
set_option maxRecDepth 100000 in
set_option maxHeartbeats 4000000 in
theorem rhold_any (T : List Nat) (W : World) (m : Nat) (ls : List EntT) (h : RefS T W m ls) (hl : ls.length ≤ 1000) (z : Int) :
    Calls Try.prog 35 #[.pointer (some ⟨m, 0, none⟩), .int .u64 z] W fun e w' => e = .returned (.int .i64 (eachP (turnStep true 7) ls [z]).1) ∧ LeftR T W m (eachP (turnStep true 7) ls [z]).2 w' := by
  have DA := Lib.hid (fun w' (hk : Kept [] W w') => rat_any T w' m ls (h.keep0 hk) hl z _ rfl)
  have hml := h.ltp
  have HL := Lib.hid (fun w' (hk : Kept [] W w') => LeftR.of h hk)
  cases hi : idxL ls z with
  | none =>
    have e1 : atI ls z = -1 := by unfold atI; rw [hi]
    rw [e1] at DA
    rw [eachP_no hi]
    clear hi h
    go_enter Try.func35, Try.ntmps35
    go_wp2_with fail
    (with_reducible refine (DA.out _ (Kept.refl _ _)).mono ?_)
    rintro e w1 ⟨rfl, hb1⟩
    go_wp2_with fail
    go_ret
    exact ⟨rfl, HL.out _ hb1⟩
  | some k =>
    have hk : k < ls.length := by
      unfold idxL at hi
      rw [List.findIdx?_eq_some_iff_getElem] at hi
      exact hi.1
    have e1 : atI ls z = (k : Int) := by unfold atI; rw [hi]
    rw [e1] at DA
    rw [eachP_one hi]
    have HT := Lib.hid (fun w' (hk' : Kept [] W w') => (h.keep0 hk').turn k hk)
    have q1 : (0 : Int) ≤ (k : Int) := by omega
    have q2 : (k : Int) < (ls.length : Int) := by omega
    have q3 : decide ((k : Int) < 0) = false := by simp
    clear hi h
    unfold turnStep
    by_cases he : (re ls k).2.2.2 = true
    · rw [if_pos he]
      go_enter Try.func35, Try.ntmps35
      go_wp2_with fail
      (with_reducible refine (DA.out _ (Kept.refl _ _)).mono ?_)
      rintro e w1 ⟨rfl, hb1⟩
      obtain ⟨g, c, c0, hgl, g3, gf, hset⟩ := HT.out w1 hb1
      rw [he] at g3
      have hs1 := hb1.size
      clear hset he
      go_wp2_with fail
      go_ret
      exact ⟨rfl, HL.out _ hb1⟩
    · rw [if_neg he]
      have he' : (re ls k).2.2.2 = false := by simpa using he
      go_enter Try.func35, Try.ntmps35
      go_wp2_with fail
      (with_reducible refine (DA.out _ (Kept.refl _ _)).mono ?_)
      rintro e w1 ⟨rfl, hb1⟩
      obtain ⟨g, c, c0, hgl, g3, gf, hset⟩ := HT.out w1 hb1
      rw [he'] at g3
      have hs1 := hb1.size
      have HSET := Lib.hid (LeftR.then0 hb1 (hset true))
      clear hset he he'
      go_wp2_with fail
      go_ret
      exact ⟨rfl, HSET.out⟩
set_option maxRecDepth 100000 in
set_option maxHeartbeats 4000000 in
theorem rlet_any (T : List Nat) (W : World) (m : Nat) (ls : List EntT) (h : RefS T W m ls) (hl : ls.length ≤ 1000) (z : Int) :
    Calls Try.prog 36 #[.pointer (some ⟨m, 0, none⟩), .int .u64 z] W fun e w' => e = .returned (.int .i64 (eachP (turnStep false 8) ls [z]).1) ∧ LeftR T W m (eachP (turnStep false 8) ls [z]).2 w' := by
  have DA := Lib.hid (fun w' (hk : Kept [] W w') => rat_any T w' m ls (h.keep0 hk) hl z _ rfl)
  have hml := h.ltp
  have HL := Lib.hid (fun w' (hk : Kept [] W w') => LeftR.of h hk)
  cases hi : idxL ls z with
  | none =>
    have e1 : atI ls z = -1 := by unfold atI; rw [hi]
    rw [e1] at DA
    rw [eachP_no hi]
    clear hi h
    go_enter Try.func36, Try.ntmps36
    go_wp2_with fail
    (with_reducible refine (DA.out _ (Kept.refl _ _)).mono ?_)
    rintro e w1 ⟨rfl, hb1⟩
    go_wp2_with fail
    go_ret
    exact ⟨rfl, HL.out _ hb1⟩
  | some k =>
    have hk : k < ls.length := by
      unfold idxL at hi
      rw [List.findIdx?_eq_some_iff_getElem] at hi
      exact hi.1
    have e1 : atI ls z = (k : Int) := by unfold atI; rw [hi]
    rw [e1] at DA
    rw [eachP_one hi]
    have HT := Lib.hid (fun w' (hk' : Kept [] W w') => (h.keep0 hk').turn k hk)
    have q1 : (0 : Int) ≤ (k : Int) := by omega
    have q2 : (k : Int) < (ls.length : Int) := by omega
    have q3 : decide ((k : Int) < 0) = false := by simp
    clear hi h
    unfold turnStep
    by_cases he : (re ls k).2.2.2 = false
    · rw [if_pos he]
      go_enter Try.func36, Try.ntmps36
      go_wp2_with fail
      (with_reducible refine (DA.out _ (Kept.refl _ _)).mono ?_)
      rintro e w1 ⟨rfl, hb1⟩
      obtain ⟨g, c, c0, hgl, g3, gf, hset⟩ := HT.out w1 hb1
      rw [he] at g3
      have hs1 := hb1.size
      clear hset he
      go_wp2_with fail
      go_ret
      exact ⟨rfl, HL.out _ hb1⟩
    · rw [if_neg he]
      have he' : (re ls k).2.2.2 = true := by simpa using he
      go_enter Try.func36, Try.ntmps36
      go_wp2_with fail
      (with_reducible refine (DA.out _ (Kept.refl _ _)).mono ?_)
      rintro e w1 ⟨rfl, hb1⟩
      obtain ⟨g, c, c0, hgl, g3, gf, hset⟩ := HT.out w1 hb1
      rw [he'] at g3
      have hs1 := hb1.size
      have HSET := Lib.hid (LeftR.then0 hb1 (hset false))
      clear hset he he'
      go_wp2_with fail
      go_ret
      exact ⟨rfl, HSET.out⟩
end Go.Proofs.Ytdallcepachhoaa
