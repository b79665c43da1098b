/- Rows of a page: a chain told by its head; joined to a list that lies in the page. -/
import Derived.Test.YtgiokigokedakaaPgPost
set_option linter.unusedVariables false
set_option linter.unusedSimpArgs false
namespace Go.Proofs.Ytgiokigokedakaa
open Go.RowKit
theorem put2_same {cs : Array Value} {o : Nat} {hd n : Int} (h0 : cs[o]? = some (.int .u64 hd)) (h1 : cs[o + 1]? = some (.int .i64 n)) : put2 cs o hd n = cs := by
  unfold put2
  apply Array.ext_getElem?
  intro i
  rw [Array.getElem?_setIfInBounds, Array.getElem?_setIfInBounds]
  have k0 := (Array.getElem?_eq_some_iff.1 h0).1
  have k1 := (Array.getElem?_eq_some_iff.1 h1).1
  by_cases e1 : o + 1 = i
  · subst e1; rw [Array.getElem?_eq_getElem k1] at h1; injection h1 with h1; simp [k1, h1]
  · by_cases e0 : o = i
    · subst e0; rw [Array.getElem?_eq_getElem k0] at h0; injection h0 with h0; simp [k0, h0]
    · simp [e1, e0]
theorem chain_chn (w : World) (p g : Nat) (zs : List Int) (h : MemB w p g zs) (hd : Nat) (l : List Nat) (hc : Chn zs hd l) (most : Nat) (hm : l.length ≤ most ∧ most ≤ 1000000) (hl : l.length ≤ zs.length) :
    Calls Try.prog 45 #[.pointer (some ⟨p, 0, none⟩), .int .u64 (hd : Int), .int .i64 (most : Int)] w fun e w' => e = .returned (.tuple #[.agg #[.int .u64 (hd : Int), .int .i64 (l.length : Int)], .int .i64 0]) ∧ Kept [] w w' := by
  have hN := hc.at_end
  refine (chain_any w p g zs h hd (hc.hd64 h.2.2.1) most _ rfl (by omega)).mono ?_
  rintro e w' ⟨h1 | ⟨h1, _⟩, hk⟩
  · obtain ⟨M, hM, _, rfl⟩ := h1
    refine ⟨?_, hk⟩
    have : M = l.length := by
      rcases Nat.lt_trichotomy M l.length with h2 | h2 | h2
      · have := at_stop hM (.inl rfl) _ h2
        rw [this] at hN; cases hN
      · exact h2
      · have := at_stop hN (.inl rfl) M h2
        rw [this] at hM; cases hM
    rw [this]
  · exact absurd (.inr (by omega)) (h1 _ hN)
def JoinAt (w : World) (b o bo p g : Nat) (t : TypeId) (cs : Array Value) (zs : List Int) (L Lo : List Nat) (e : Ending) (w' : World) : Prop :=
  e = .returned (.int .i64 0) ∧ ∃ (z : List Int) (h : Nat), MemB w' p g z ∧ Rest Lo zs z ∧ Chn z h (Lo ++ L) ∧ (∀ fh l, Chn zs fh l → (∀ a, a ∈ Lo → Far a l) → Chn z fh l) ∧ Blk w' b t (put2 cs o (h : Int) ((Lo ++ L).length : Int)) ∧ Kept [b, bo, g] w w'
theorem join_chnAt (w : World) (b o bo p g : Nat) (t : TypeId) (cs : Array Value) (ht1 : t ≠ 111) (ht2 : t ≠ 5) (zs : List Int) (hd ho : Nat) (L Lo : List Nat) (hM : MemB w p g zs) (hl : LAt w b o t cs (hd : Int) (L.length : Int)) (hlo : ListB w bo ho (Lo.length : Int)) (hne : b ≠ bo) (hc : Chn zs hd L) (hco : Chn zs ho Lo)
    (hap : Apart (Lo ++ L)) (hn : L.length ≤ 1000000) (hno : Lo.length ≤ zs.length) :
    Calls Try.prog 46 #[.pointer (some ⟨b, o, none⟩), .pointer (some ⟨p, 0, none⟩), .pointer (some ⟨bo, 0, none⟩)] w (JoinAt w b o bo p g t cs zs L Lo) := by
  have hzl := hM.2.2.1
  rcases List.eq_nil_or_concat Lo with rfl | ⟨P, a, rfl⟩
  · obtain rfl : ho = 0 := hco
    refine (join_nilAt w b o bo p g t cs zs hd L.length hM hl hlo hne).mono ?_
    rintro e w' ⟨rfl, h1, h2⟩
    have n2 := hlo.ne hM
    have hB : Blk w' b t (put2 cs o (hd : Int) (([] ++ L).length : Int)) := by
      rw [List.nil_append, put2_same hl.c0 hl.c1]
      exact hl.blk.keep h2 (by simpa using hne)
    exact ⟨rfl, zs, hd, hM.keep h2 (by simp; omega) (by simp; omega), Rest.refl _ _, hc, fun fh l h _ => h, hB, h2.mono (fun x hx _ => by simp at hx ⊢; right; left; exact hx)⟩
  · rw [List.concat_eq_append] at *
    have ha8 := (hco.len a (by simp)).2
    refine (join_at w b o bo p g t cs ht1 ht2 zs hd ho a L.length P hM hl hlo hne hco (hc.hd64 hzl) (by omega) hno).mono ?_
    rintro e w' ⟨rfl, h1, h2, h3, h4⟩
    refine ⟨rfl, _, ho, h1, (Rest.splice zs a (hd : Int) ha8).mono (fun x hx => by simp at hx; simp [hx]), Chn.join hc (hc.hd64 hzl) ha8 (hap.far (by simp)) P hco ?_, fun fh l h hf => h.splice ha8 (hf a (by simp)), ?_, h4⟩
    · intro x hx
      have := (List.pairwise_append.1 hap.left).2.2 x hx a (by simp)
      omega
    · have e1 : (((P ++ [a]) ++ L).length : Int) = (L.length : Int) + ((P ++ [a]).length : Int) := by simp; omega
      rw [e1]
      exact h2
end Go.Proofs.Ytgiokigokedakaa
