/-
  Bands: contract of the program's Over, whole: it answers as the sorted list does. Conditions: those of each theorem.
-/
import Derived.Test.YtpgnebhlnkoajaaBOver2
import Derived.Test.YtpgnebhlnkoajaaBOvs
namespace Go.Proofs.Ytpgnebhlnkoajaa

theorem in_reach {p : Pr} {row col : Int} (ho : okP p) (h : inB p.t p.l p.b p.r row col = true) : reach (row.tdiv 64) p = true := by
  obtain ⟨⟨h1, h2, h3⟩, _⟩ := okP_rng ho
  obtain ⟨h4, h5, _, _⟩ := inB_true h
  unfold reach
  rw [Int.tdiv_eq_ediv_of_nonneg (by omega), Int.tdiv_eq_ediv_of_nonneg (by omega), Int.tdiv_eq_ediv_of_nonneg (by omega)]
  exact decide_eq_true (by omega)
theorem over_any (bb ma mb nb n : Nat) (row col : Int) (L Ls : List Pr) (F : Int → Option Nat) (w : World) (h : BIs w bb ma mb nb n L F) (hr : i64P row) (hs : SrtP Ls) (hm : ∀ x, x ∈ Ls ↔ x ∈ L) (hn : (n + 1) * 56 ≤ 140737488355328) :
    Calls Try.prog 33 #[.pointer (some ⟨bb, 0, none⟩), .agg #[.int .i64 row, .int .i64 col]] w (OverIs w (ovs row col Ls)) := by
  obtain ⟨s1, s2⟩ := ovs_spec row col hs
  cases hF : F (row.tdiv 64) with
  | none =>
    have hnil := h.bg.non _ hF
    have he : ovs row col Ls = [] := by
      rw [List.eq_nil_iff_forall_not_mem]
      intro x hx
      obtain ⟨p, hp, hi, _⟩ := (s2 x).1 hx
      have hpL := (hm p).1 hp
      have := List.mem_filter.2 ⟨hpL, in_reach (h.may p hpL) hi⟩
      rw [hnil] at this
      cases this
    rw [he]
    exact over_none bb ma mb nb n row col L F w h hr hF
  | some g =>
    refine over_some bb ma mb nb n g row col L (ovs row col Ls) F w h hr hF s1 (fun x => ?_) hn
    rw [s2 x]
    constructor
    · rintro ⟨p, hp, hi, e⟩
      have hpL := (hm p).1 hp
      exact ⟨p, hpL, in_reach (h.may p hpL) hi, hi, e⟩
    · rintro ⟨p, hp, _, hi, e⟩
      exact ⟨p, (hm p).2 hp, hi, e⟩
end Go.Proofs.Ytpgnebhlnkoajaa
