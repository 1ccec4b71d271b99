/-
  Bands: what the program and the document hold, told by one sorted list; contracts of every method over it. Conditions: those of each theorem.
-/
import Derived.Test.YtpgnebhlnkoajaaBOver3
namespace Go.Proofs.Ytpgnebhlnkoajaa
open Go.ChangeShapes Go.WideShapes Go.ChangeAt Go.RowKit Go.Deep
open Go.Maps (Keyed)

theorem pick_le {α β γ : Type} [DecidableEq β] (f : β → Option γ) (g : α → γ) : ∀ (es : List α) (L : List β), es.Pairwise (fun p q => g p ≠ g q) → (∀ p, p ∈ es → ∃ x, x ∈ L ∧ f x = some (g p)) → es.length ≤ L.length
  | [], L, _, _ => Nat.zero_le _
  | p :: es, L, hp, h => by
    rw [List.pairwise_cons] at hp
    obtain ⟨x, hx, hfx⟩ := h p (by simp)
    have := pick_le f g es (L.erase x) hp.2 (fun q hq => by
      obtain ⟨y, hy, hfy⟩ := h q (by simp [hq])
      refine ⟨y, ?_, hfy⟩
      have hne : y ≠ x := fun e => hp.1 q hq (by rw [e, hfx] at hfy; exact Option.some.inj hfy)
      exact (List.mem_erase_of_ne hne).2 hy)
    rw [List.length_erase_of_mem hx] at this
    have h0 : 0 < L.length := List.length_pos_of_mem hx
    rw [List.length_cons]
    omega
section
variable {α : Type} {P : Program} {k : TypeId} {V : α → Value} {Rg : α → Prop} {w w' : World} {b n : Nat} {L : List α}
theorem MSet.tight [DecidableEq α] (h : MSet P k V Rg w b n L) (K : Keyed P k) : MSet P k V Rg w b L.length L := by
  obtain ⟨D, hown, h1, h2⟩ := h
  refine ⟨D, ?_, h1, h2⟩
  have hle : Maps.size D ≤ L.length := by
    obtain ⟨es, rfl, hpw, hkey⟩ := hown.entries K
    rw [Maps.size_eq]
    refine pick_le (fun x => keyOf P k (V x)) (fun p => p.1) es L hpw (fun p hp => ?_)
    have hs : Maps.has (.map es : DataW Unit) p.1 = true := by
      rw [Maps.has_eq, List.any_eq_true]
      exact ⟨p, hp, WideAt.sameKey_self (hkey p hp)⟩
    obtain ⟨x, _, hx⟩ := h2 _ hs
    exact ⟨x, (h1 x _ hx).1 hs, hx⟩
  obtain ⟨es, clock, hb, F, hs, rfl⟩ := hown
  exact ⟨es, clock, hb, F, by simpa [Maps.size, length_sorted] using hle, rfl⟩
theorem MSet.frm (h : MSet P k V Rg w b n L) {S : Nat → Prop} (hF : Frm S w w') (hn : ¬ S b) : MSet P k V Rg w' b n L := by
  obtain ⟨D, hown, h1, h2⟩ := h
  have hlt := hown.lt
  obtain ⟨es, clock, hb, F, hs, hD⟩ := hown
  exact ⟨D, ⟨es, clock, (hF.block b hlt hn).trans hb, F, hs, hD⟩, h1, h2⟩
end
section
variable {w w' : World} {bb ma mb nb n : Nat} {L : List Pr} {F : Int → Option Nat}
theorem BIs.tight (h : BIs w bb ma mb nb n L F) : BIs w bb ma mb nb L.length L F :=
  ⟨h.top, h.all.tight law_pair, ⟨h.bg.band, fun k g hk => ((h.bg.grp k g hk).tight law_pair).mono (List.length_filter_le _ _), h.bg.non, h.bg.inj, h.bg.ne⟩, h.ne, h.nel, h.may⟩
theorem BIs.frm (h : BIs w bb ma mb nb n L F) {S : Nat → Prop} (hF : Frm S w w') (hn : ∀ z, ownB bb ma mb F z → ¬ S z) : BIs w' bb ma mb nb n L F := by
  obtain ⟨D, hown, hat⟩ := h.bg.band
  have hlt := hown.lt
  obtain ⟨es, clock, hb, F', hs, hD⟩ := hown
  exact ⟨hF.blk h.top (hn _ (.inl rfl)), h.all.frm hF (hn _ (.inr (.inl rfl))),
    ⟨⟨D, ⟨es, clock, (hF.block mb hlt (hn _ (.inr (.inr (.inl rfl))))).trans hb, F', hs, hD⟩, hat⟩, fun k g hk => (h.bg.grp k g hk).frm hF (hn _ (.inr (.inr (.inr ⟨k, hk⟩)))), h.bg.non, h.bg.inj, h.bg.ne⟩, h.ne, h.nel, h.may⟩
theorem BIs.lt (h : BIs w bb ma mb nb n L F) {z : Nat} (hz : ownB bb ma mb F z) : z < w.heap.size := by
  rcases hz with rfl | rfl | rfl | ⟨k, hk⟩
  · exact h.top.lt
  · exact h.all.lt
  · exact h.bg.ltm
  · exact h.bg.ltg hk
end

instance (p : Pr) : Decidable (okP p) := by unfold okP; infer_instance
/-- Is it added? And what is there then. -/
def addB (p : Pr) (L : List Pr) : Bool := decide (okP p ∧ p ∉ L)
def addP (p : Pr) (L : List Pr) : List Pr := if okP p ∧ p ∉ L then insP p L else L
theorem insP_len (p : Pr) (L : List Pr) : (insP p L).length = L.length + 1 := by
  have := cbP_le p L
  unfold insP
  simp
  omega
theorem srt_addP {p : Pr} {L : List Pr} (h : SrtP L) : SrtP (addP p L) := by
  unfold addP
  split
  · rename_i h1; exact srt_insP h h1.2
  · exact h
theorem mem_addP (p x : Pr) (L : List Pr) : x ∈ addP p L ↔ x ∈ L ∨ okP p ∧ x = p := by
  unfold addP
  split
  · rename_i h1
    rw [mem_insP]
    exact ⟨fun h => h.elim (fun e => .inr ⟨h1.1, e⟩) .inl, fun h => h.elim .inr (fun h => .inl h.2)⟩
  · rename_i h1
    refine ⟨.inl, fun h => h.elim id (fun h => ?_)⟩
    rw [h.2]
    exact Classical.byContradiction (fun hn => h1 ⟨h.1, hn⟩)
theorem addP_len (p : Pr) (L : List Pr) : (addP p L).length ≤ L.length + 1 := by
  unfold addP
  split
  · rw [insP_len]; omega
  · omega

/-- The program's bands, told by the sorted list: their blocks are O's, at most N were added. -/
def PB (w : World) (bb N : Nat) (O : Nat → Prop) (Ls : List Pr) : Prop :=
  ∃ ma mb nb L F, BIs w bb ma mb nb L.length L F ∧ (∀ z, O z ↔ ownB bb ma mb F z) ∧ nb ≤ 65 * N ∧ L.length ≤ N ∧ SrtP Ls ∧ (∀ x, x ∈ Ls ↔ x ∈ L)
section
variable {w w' : World} {bb N : Nat} {O : Nat → Prop} {Ls : List Pr}
theorem PB.lt (h : PB w bb N O Ls) : ∀ z, O z → z < w.heap.size := by
  obtain ⟨ma, mb, nb, L, F, h, hO, _⟩ := h
  exact fun z hz => h.lt ((hO z).1 hz)
theorem PB.frm (h : PB w bb N O Ls) {S : Nat → Prop} (hF : Frm S w w') (hn : ∀ z, O z → ¬ S z) : PB w' bb N O Ls := by
  obtain ⟨ma, mb, nb, L, F, h, hO, h1⟩ := h
  exact ⟨ma, mb, nb, L, F, h.frm hF (fun z hz => hn z ((hO z).2 hz)), hO, h1⟩
theorem PB.below (h : PB w bb N O Ls) (hb : Below w.heap.size w w') : PB w' bb N O Ls := h.frm (Frm.of_below (S := fun _ => False) hb) (fun _ _ h => h)
theorem PB.alloc (h : PB w bb N O Ls) (o : Obj) : PB (w.alloc o) bb N O Ls := h.below (bel_alloc (bel_refl w) o)
theorem PB.drew (h : PB w bb N O Ls) : PB w.drew bb N O Ls := h.below (bel_drew (bel_refl w))
theorem PB.srt (h : PB w bb N O Ls) : SrtP Ls := by
  obtain ⟨ma, mb, nb, L, F, h, hO, _, _, h1, _⟩ := h
  exact h1
theorem PB.may (h : PB w bb N O Ls) : ∀ x, x ∈ Ls → okP x := by
  obtain ⟨ma, mb, nb, L, F, h, hO, _, _, _, h1⟩ := h
  exact fun x hx => h.may x ((h1 x).1 hx)
theorem PB.mono (h : PB w bb N O Ls) {N' : Nat} (hN : N ≤ N') : PB w bb N' O Ls := by
  obtain ⟨ma, mb, nb, L, F, h, hO, h1, h2, h3⟩ := h
  exact ⟨ma, mb, nb, L, F, h, hO, by omega, by omega, h3⟩
theorem PB.top (h : PB w bb N O Ls) : O bb := by
  obtain ⟨ma, mb, nb, L, F, h, hO, h1, h2, h3⟩ := h
  exact (hO bb).2 (.inl rfl)
end
theorem pb_new (w : World) : Calls Try.prog 23 #[] w fun e w' => ∃ bb O, e = .returned (.pointer (some ⟨bb, 0, none⟩)) ∧ PB w' bb 0 O [] ∧ (∀ z, O z → w.heap.size ≤ z) ∧ Below w.heap.size w w' := by
  refine (new_any w).mono ?_
  rintro e w' ⟨bb, ma, mb, rfl, h, ⟨h1, h2, h3⟩, hb⟩
  refine ⟨bb, ownB bb ma mb (fun _ => none), rfl, ⟨ma, mb, 0, [], _, h, fun z => Iff.rfl, by omega, Nat.le_refl _, List.Pairwise.nil, fun x => Iff.rfl⟩, fun z hz => ?_, hb⟩
  rcases hz with rfl | rfl | rfl | ⟨k, hk⟩
  · exact h1
  · exact h2
  · exact h3
  · cases hk
/-- What Add leaves. -/
def PbAdd (w : World) (bb N : Nat) (O : Nat → Prop) (Ls : List Pr) (p : Pr) (e : Ending) (w' : World) : Prop :=
  ∃ O', e = .returned (.bool (addB p Ls)) ∧ PB w' bb (N + 1) O' (addP p Ls) ∧ Frm O w w' ∧ ∀ z, O' z → O z ∨ w.heap.size ≤ z
theorem pb_add (bb N : Nat) (O : Nat → Prop) (Ls : List Pr) (t l b r row col : Int) (w : World) (h : PB w bb N O Ls) (hr : rngP ⟨row, col, t, l, b, r⟩) (hN : N * 56 ≤ 140737488355328) :
    Calls Try.prog 29 #[.pointer (some ⟨bb, 0, none⟩), .agg #[.int .i64 t, .int .i64 l, .int .i64 b, .int .i64 r], .agg #[.int .i64 row, .int .i64 col]] w (PbAdd w bb N O Ls ⟨row, col, t, l, b, r⟩) := by
  obtain ⟨ma, mb, nb, L, F, h, hO, h1, h2, h3, h4⟩ := h
  by_cases hc : okP ⟨row, col, t, l, b, r⟩ ∧ (⟨row, col, t, l, b, r⟩ : Pr) ∉ Ls
  · refine (add_yes bb ma mb nb L.length L F t l b r row col w h hc.1 (fun hm => hc.2 ((h4 _).2 hm)) (by unfold maxLen; omega) (by unfold maxLen; omega)).mono ?_
    rintro e w' ⟨F', rfl, h', hF, hn⟩
    refine ⟨ownB bb ma mb F', by rw [addB, decide_eq_true hc], ⟨ma, mb, nb + 65, _, F', h'.tight, fun z => Iff.rfl, by omega, by simp; omega, srt_addP h3, fun x => ?_⟩, ?_, fun z hz => ?_⟩
    · rw [mem_addP, h4 x, List.mem_cons]
      exact ⟨fun h => h.elim .inr (fun h => .inl h.2), fun h => h.elim (fun e => .inr ⟨hc.1, e⟩) .inl⟩
    · exact ⟨hF.os, hF.tape, hF.output, hF.size, fun k hk hn => hF.block k hk (fun hz => hn ((hO k).2 hz))⟩
    · rcases hz with rfl | rfl | rfl | ⟨k, hk⟩
      · exact .inl ((hO _).2 (.inl rfl))
      · exact .inl ((hO _).2 (.inr (.inl rfl)))
      · exact .inl ((hO _).2 (.inr (.inr (.inl rfl))))
      · rcases hn k z hk with h | h
        · exact .inl ((hO _).2 (.inr (.inr (.inr ⟨k, h⟩))))
        · exact .inr h
  · refine (add_no bb ma mb nb L.length L F t l b r row col w h hr ?_).mono ?_
    · by_cases ho : okP ⟨row, col, t, l, b, r⟩
      · exact .inl (Classical.byContradiction (fun hm => hc ⟨ho, fun hm' => hm ((h4 _).1 hm')⟩))
      · exact .inr ho
    · rintro e w' ⟨rfl, hb⟩
      refine ⟨O, by rw [addB, decide_eq_false hc], ⟨ma, mb, nb, L, F, h.below hb, hO, by omega, by omega, srt_addP h3, fun x => ?_⟩, Frm.of_below hb, fun z hz => .inl hz⟩
      rw [addP, if_neg hc]
      exact h4 x
def PbRem (w : World) (bb N : Nat) (O : Nat → Prop) (Ls : List Pr) (p : Pr) (e : Ending) (w' : World) : Prop :=
  ∃ O', e = .returned (.bool (decide (p ∈ Ls))) ∧ PB w' bb N O' (Ls.erase p) ∧ Frm O w w' ∧ ∀ z, O' z → O z
theorem srt_nodup : ∀ {L : List Pr}, SrtP L → L.Nodup
  | [], _ => List.nodup_nil
  | x :: L, h => by
    rw [SrtP, List.pairwise_cons] at h
    exact List.nodup_cons.2 ⟨fun hx => ltP_irrefl x (h.1 x hx), srt_nodup h.2⟩
theorem mem_erase_srt {p x : Pr} {L : List Pr} (h : SrtP L) : x ∈ L.erase p ↔ x ∈ L ∧ x ≠ p := by
  rw [(srt_nodup h).mem_erase_iff]
  exact And.comm
theorem pb_rem (bb N : Nat) (O : Nat → Prop) (Ls : List Pr) (t l b r row col : Int) (w : World) (h : PB w bb N O Ls) (hr : rngP ⟨row, col, t, l, b, r⟩) :
    Calls Try.prog 26 #[.pointer (some ⟨bb, 0, none⟩), .agg #[.int .i64 t, .int .i64 l, .int .i64 b, .int .i64 r], .agg #[.int .i64 row, .int .i64 col]] w (PbRem w bb N O Ls ⟨row, col, t, l, b, r⟩) := by
  obtain ⟨ma, mb, nb, L, F, h, hO, h1, h2, h3, h4⟩ := h
  by_cases hc : (⟨row, col, t, l, b, r⟩ : Pr) ∈ Ls
  · refine (rem_yes bb ma mb nb L.length L F t l b r row col w h ((h4 _).1 hc)).mono ?_
    rintro e w' ⟨F', rfl, h', hF, hn⟩
    refine ⟨ownB bb ma mb F', by rw [decide_eq_true hc], ⟨ma, mb, nb, _, F', h'.tight, fun z => Iff.rfl, by omega, Nat.le_trans (List.length_filter_le _ _) h2, srt_erase h3, fun x => ?_⟩, ?_, fun z hz => ?_⟩
    · rw [mem_erase_srt h3, h4 x, List.mem_filter, decide_eq_true_iff]
    · exact ⟨hF.os, hF.tape, hF.output, hF.size, fun k hk hn => hF.block k hk (fun hz => hn ((hO k).2 hz))⟩
    · rcases hz with rfl | rfl | rfl | ⟨k, hk⟩
      · exact (hO _).2 (.inl rfl)
      · exact (hO _).2 (.inr (.inl rfl))
      · exact (hO _).2 (.inr (.inr (.inl rfl)))
      · exact (hO _).2 (.inr (.inr (.inr ⟨k, hn k z hk⟩)))
  · refine (rem_no bb ma mb nb L.length L F t l b r row col w h hr (fun hm => hc ((h4 _).2 hm))).mono ?_
    rintro e w' ⟨rfl, hb⟩
    refine ⟨O, by rw [decide_eq_false hc], ⟨ma, mb, nb, L, F, h.below hb, hO, h1, h2, srt_erase h3, fun x => ?_⟩, Frm.of_below hb, fun z hz => hz⟩
    rw [List.erase_of_not_mem hc]
    exact h4 x
theorem pb_over (bb N : Nat) (O : Nat → Prop) (Ls : List Pr) (row col : Int) (w : World) (h : PB w bb N O Ls) (hr : i64P row) (hN : (N + 1) * 56 ≤ 140737488355328) :
    Calls Try.prog 33 #[.pointer (some ⟨bb, 0, none⟩), .agg #[.int .i64 row, .int .i64 col]] w (OverIs w (ovs row col Ls)) := by
  obtain ⟨ma, mb, nb, L, F, h, hO, h1, h2, h3, h4⟩ := h
  exact over_any bb ma mb nb L.length row col L Ls F w h hr h3 h4 (by omega)
theorem pb_all (bb N : Nat) (O : Nat → Prop) (Ls : List Pr) (w : World) (h : PB w bb N O Ls) (hN : (N + 1) * 56 ≤ 140737488355328) :
    Calls Try.prog 39 #[.pointer (some ⟨bb, 0, none⟩)] w (AllIs w Ls) := by
  obtain ⟨ma, mb, nb, L, F, h, hO, h1, h2, h3, h4⟩ := h
  exact all_any bb ma mb nb L.length L Ls F w h h3 h4 (by omega)

end Go.Proofs.Ytpgnebhlnkoajaa
