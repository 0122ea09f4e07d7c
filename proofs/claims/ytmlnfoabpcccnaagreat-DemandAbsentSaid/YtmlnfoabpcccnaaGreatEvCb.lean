/- What a reader of one production is told of its expressions is so. -/
import Derived.Test.YtmlnfoabpcccnaaGreatEvCa
import Derived.Test.YtmlnfoabpcccnaaGreatEvBi
import Derived.Test.YtmlnfoabpcccnaaGreatEvBg
set_option linter.all false
/- What a reader of one production is told of its expressions is so. -/
namespace Go.Ev.A
open Go.Proofs
def neverOk (x : It) : Bool := neverT.all fun s => !isT true s x
theorem neverT_isL : ∀ s ∈ neverT, s ∈ isL := by
  intro s hs
  simp only [neverT, List.mem_cons, List.not_mem_nil, or_false] at hs
  rcases hs with rfl | rfl | rfl | rfl <;> simp [isL]
section
variable [E : Env]
/-- an expression at a place: its first token, and what reading it comes to -/
structure Hole (e : PE) (c w : Bool) (m : Nat) : Prop where
  first : ∃ k s n vt vn at_, It.tok k s n ∈ toks ∧ starts (.tok k s n) = true ∧ neverOk (.tok k s n) = true ∧ Cap vt ∧ e.es[e.P m]? = some (tokCells vt vn at_ (.tok k s n)) ∧ e.W m = tokCells vt vn at_ (.tok k s n)
  len : (e.X m).length = 10
  child : ∀ t, (c = true → t = true) → ∀ j, (j = 1 ∨ (w = true ∧ j = 2)) → KnownS Tryz.prog 26 73 (stA e (e.P m) t) [I (e.d + j)] (.agg (e.X m)) (stA e (e.P (m + 1)) false)

theorem un_sub {σ : Nat → PV} : ∀ (n a : Nat) (l : List PV), l.length = n → (∀ i, i < n → σ (a + i) = l.getD i (I 0)) → subL σ (un a n) = l
  | 0, a, l, hl, _ => by
    have : l = [] := List.length_eq_zero_iff.1 hl
    subst this
    rfl
  | n + 1, a, [], hl, _ => by cases hl
  | n + 1, a, c :: l, hl, h => by
    simp only [un, subL, Ev.sub]
    rw [show σ a = c from h 0 (by omega)]
    rw [un_sub n (a + 1) l (by simpa using hl) (fun i hi => by
      have := h (i + 1) (by omega)
      rw [show a + 1 + i = a + (i + 1) by omega, this]
      simp)]

theorem orc_hole {e : PE} (hf : clean (.sl e.es e.ex) = true) (hl : e.es.length ≤ 9223372036854775807) {m : Nat} (hm : m < 49) {c w : Bool} (H : Hole e c w m) {f : Nat} {t : Bool} {args : List PV} {q : PV} (h : atIt c w f m t args .hole = some q) :
    KnownX Tryz.prog f (subL (sp e) (stKey 73 (rd m t) args)) (Ev.sub (sp e) q) := by
  obtain ⟨k, s, n, vt, vn, at_, hx, hst, hnv, hV, hP, hW⟩ := H.first
  have hg : goodTok (.tok k s n) = true := List.all_eq_true.1 toks_good _ hx
  obtain ⟨hs2, hn2⟩ := sub_tc (σ := sg e.es e.ex e.en e.p (.bool t) vt vn at_ (e.P m) (.bool true) (.bool true) (.bool true)) rfl rfl hg
  unfold atIt at h
  split at h
  · simp only [same] at h
    cases h
    refine knownX_of (by omega) (by omega) ?_
    have := ask_tok (t := t) hf hl hV hx hP (f := 53) (args := []) (δ := 0) (by simp) (by simp [qs]) rfl (.inl rfl) rfl
    rw [Nat.add_zero] at this
    have he : Ev.sub (sp e) (.agg (un (3200 + 4 * m) 4)) = Ev.sub (sg e.es e.ex e.en e.p (.bool t) vt vn at_ (e.P m) (.bool true) (.bool true) (.bool true)) (.agg [I k, s, n, .unk 3000]) := by
      simp only [Ev.sub]
      rw [un_sub 4 (3200 + 4 * m) (e.W m) (by rw [hW]; rfl) (fun i hi => sp_w hi), hW]
      simp only [subL, Ev.sub, hs2, hn2]
      rfl
    rw [he]
    exact this
  · rename_i s'
    split at h
    · split at h
      · rename_i hs
        have hmem := neverT_isL _ (txtIn_mem hs)
        have hin : txtIn s' isL = true := by
          have : ∀ {l : List PV}, s' ∈ l → cleanL l = true → (∀ x ∈ l, txtEq x x = true) → txtIn s' l = true := by
            intro l
            induction l with
            | nil => intro h; cases h
            | cons a l ih =>
              intro h hc ha
              simp only [txtIn, Bool.or_eq_true]
              rcases List.mem_cons.1 h with rfl | h
              · exact .inl (ha _ (List.mem_cons_self ..))
              · exact .inr (ih h (by simp only [cleanL, Bool.and_eq_true] at hc; exact hc.2) fun x hx => ha x (List.mem_cons_of_mem _ hx))
          exact this hmem isL_clean (by
            intro x hx
            have : isL.all (fun x => txtEq x x) = true := rfl
            exact List.all_eq_true.1 this x hx)
        simp only [same] at h
        cases h
        refine knownX_of (by omega) (by omega) ?_
        have hcl : cleanL [s'] = true := by simp [cleanL, clean_mem isL_clean hmem]
        have hno : isT true s' (.tok k s n) = false := by
          have := List.all_eq_true.1 hnv s' (txtIn_mem hs)
          simpa using this
        have := ask_tok (t := t) hf hl hV hx hP (f := 57) (args := [s']) (r := Bo false) (δ := 0) (by simp) (qs57 hmem) (by simp only [atIt, hin, same, hno]) (.inl rfl) hcl
        rw [Nat.add_zero] at this
        rw [subL_clean _ _ hcl]
        exact this
      · cases h
    · rename_i hh
      exact (hh rfl).elim
  · split at h
    · cases h
    · rename_i hh
      exact (hh rfl).elim
  · simp only [same] at h
    cases h
    refine knownX_of (by omega) (by omega) ?_
    have := ask_tok (t := t) hf hl hV hx hP (f := 51) (args := []) (r := Bo true) (δ := 0) (by simp) (by simp [qs]) (by simp only [atIt, same, hst]) (.inl rfl) rfl
    rw [Nat.add_zero] at this
    exact this
  · split at h
    · cases h
    · rename_i hh
      exact (hh rfl).elim
  · cases h
  · cases h
  · rename_i k0
    cases hc : ((Nat.beq k0 5 || w && Nat.beq k0 6) && (!c || t)) with
    | false => simp [hc] at h
    | true =>
      simp only [hc] at h
      cases h
      simp only [Bool.and_eq_true, Bool.or_eq_true, Bool.not_eq_true'] at hc
      obtain ⟨h5, hct⟩ := hc
      have h5 : k0 = 5 ∨ (w = true ∧ k0 = 6) := by
        rcases h5 with h | h
        · exact .inl (Nat.eq_of_beq_eq_true h)
        · exact .inr ⟨h.1, Nat.eq_of_beq_eq_true h.2⟩
      refine knownX_of (by omega) (by omega) ?_
      have := H.child t (by
        intro hc
        rcases hct with h | h
        · rw [hc] at h; cases h
        · exact h) (k0 - 4) (by rcases h5 with rfl | ⟨h, rfl⟩ <;> simp_all)
      have he : Ev.sub (sp e) (.agg (un (2000 + 20 * m) 10)) = .agg (e.X m) := by
        simp only [Ev.sub]
        rw [un_sub 10 (2000 + 20 * m) (e.X m) H.len (fun i hi => sp_x (by omega) (by omega))]
      have hd : subL (sp e) [.unk k0] = [I (e.d + (k0 - 4))] := by
        simp only [subL, Ev.sub]
        rcases h5 with rfl | ⟨_, rfl⟩ <;> rfl
      rw [he, hd]
      exact this
  · cases h
end
end Go.Ev.A

/- What a reader of one production answers. -/
namespace Go.Ev.A
open Go.Proofs
def q0 : PV := (.agg [(i 1), (.unk 201), (sb []), (sb []), nl, nl, nl, nl, (i 0), (.unk 3000)])
def q1 : PV := (.agg [(i 5), (i 0), (sb []), (.unk 200), nl, nl, nl, nl, (i 0), (.unk 3000)])
def q2 : PV := (.agg [(i 3), (i 0), (sb []), (sb [116,114,117,101]), nl, nl, nl, nl, (i 0), (.unk 3000)])
def q3 : PV := (.agg [(i 3), (i 0), (sb []), (sb [102,97,108,115,101]), nl, nl, nl, nl, (i 0), (.unk 3000)])
def q4 : PV := (.agg [(i 3), (i 0), (sb []), (sb [97]), nl, nl, nl, nl, (i 0), (.unk 3000)])
def q5 : PV := (.agg [(i 3), (i 0), (sb []), (sb [98]), nl, nl, nl, nl, (i 0), (.unk 3000)])
def q6 : PV := (.agg [(i 3), (i 0), (sb []), (sb [111,107]), nl, nl, nl, nl, (i 0), (.unk 3000)])
def q7 : PV := (.agg [(i 3), (i 0), (sb []), (sb [101,114,114,111,114]), nl, nl, nl, nl, (i 0), (.unk 3000)])
def q8 : PV := (.agg [(i 2), (i 0), (sb []), (sb [115]), nl, nl, nl, nl, (i 0), (.unk 3000)])
def q9 : PV := (.agg [(i 4), (i 0), (sb []), (sb []), nl, nl, nl, nl, (i 0), (.unk 3000)])
def q10 : PV := (.agg [(i 7), (i 0), (sb []), (sb []), (.sl [[(.unk 2020), (.unk 2021), (.unk 2022), (.unk 2023), (.unk 2024), (.unk 2025), (.unk 2026), (.unk 2027), (.unk 2028), (.unk 2029)], [(i 4), (i 0), (sb []), (sb []), nl, nl, nl, nl, (i 0), (.unk 3002)]] false), nl, nl, nl, (i 0), (.unk 3000)])
def q11 : PV := (.agg [(i 7), (i 0), (sb []), (sb []), (.sl [[(.unk 2020), (.unk 2021), (.unk 2022), (.unk 2023), (.unk 2024), (.unk 2025), (.unk 2026), (.unk 2027), (.unk 2028), (.unk 2029)], [(i 7), (i 0), (sb []), (sb []), (.sl [[(.unk 2060), (.unk 2061), (.unk 2062), (.unk 2063), (.unk 2064), (.unk 2065), (.unk 2066), (.unk 2067), (.unk 2068), (.unk 2069)], [(i 4), (i 0), (sb []), (sb []), nl, nl, nl, nl, (i 0), (.unk 3004)]] false), nl, nl, nl, (i 0), (.unk 3215)]] false), nl, nl, nl, (i 0), (.unk 3000)])
def q12 : PV := (.agg [(i 7), (i 0), (sb []), (sb []), (.sl [[(.unk 2020), (.unk 2021), (.unk 2022), (.unk 2023), (.unk 2024), (.unk 2025), (.unk 2026), (.unk 2027), (.unk 2028), (.unk 2029)], [(.unk 2060), (.unk 2061), (.unk 2062), (.unk 2063), (.unk 2064), (.unk 2065), (.unk 2066), (.unk 2067), (.unk 2068), (.unk 2069)]] false), nl, nl, nl, (i 0), (.unk 3000)])
def q13 : PV := (.agg [(i 6), (i 0), (sb []), (sb []), (.sl [[(.unk 2020), (.unk 2021), (.unk 2022), (.unk 2023), (.unk 2024), (.unk 2025), (.unk 2026), (.unk 2027), (.unk 2028), (.unk 2029)]] false), nl, nl, nl, (i 0), (.unk 3000)])
def q14 : PV := (.agg [(i 6), (i 0), (sb []), (sb []), (.sl [[(.unk 2020), (.unk 2021), (.unk 2022), (.unk 2023), (.unk 2024), (.unk 2025), (.unk 2026), (.unk 2027), (.unk 2028), (.unk 2029)], [(.unk 2060), (.unk 2061), (.unk 2062), (.unk 2063), (.unk 2064), (.unk 2065), (.unk 2066), (.unk 2067), (.unk 2068), (.unk 2069)]] false), nl, nl, nl, (i 0), (.unk 3000)])
def q15 : PV := (.agg [(i 16), (i 0), (sb []), (sb []), nl, nl, (.sl [[(.sl [[(i 2), (i 0), (.unk 200), nl, nl]] false), (i 1), (sb []), (i 0), (sb []), (i 0), (sb []), nl, (.unk 2100), (.unk 2101), (.unk 2102), (.unk 2103), (.unk 2104), (.unk 2105), (.unk 2106), (.unk 2107), (.unk 2108), (.unk 2109), (.unk 3001)]] false), nl, (i 0), (.unk 3000)])
def q16 : PV := (.agg [(i 16), (i 0), (sb []), (sb []), nl, nl, (.sl [[(.sl [[(i 2), (i 0), (.unk 200), nl, nl]] false), (i 5), (.unk 200), (i 0), (sb []), (i 0), (sb []), nl, (.unk 2200), (.unk 2201), (.unk 2202), (.unk 2203), (.unk 2204), (.unk 2205), (.unk 2206), (.unk 2207), (.unk 2208), (.unk 2209), (.unk 3001)]] false), nl, (i 0), (.unk 3000)])
def q17 : PV := (.agg [(i 16), (i 0), (sb []), (sb []), nl, nl, (.sl [[nl, (i 1), (sb []), (i 0), (sb []), (i 0), (sb []), nl, (.unk 2080), (.unk 2081), (.unk 2082), (.unk 2083), (.unk 2084), (.unk 2085), (.unk 2086), (.unk 2087), (.unk 2088), (.unk 2089), (.unk 3001)]] false), nl, (i 0), (.unk 3000)])
def q18 : PV := (.agg [(i 8), (i 0), (sb []), (sb []), (.sl [[(.unk 2060), (.unk 2061), (.unk 2062), (.unk 2063), (.unk 2064), (.unk 2065), (.unk 2066), (.unk 2067), (.unk 2068), (.unk 2069)]] false), (.sl [[(i 0), (sb [97])]] false), nl, nl, (i 0), (.unk 3000)])
def q19 : PV := (.agg [(i 11), (i 0), (sb []), (sb [43]), (.sl [[(.unk 2020), (.unk 2021), (.unk 2022), (.unk 2023), (.unk 2024), (.unk 2025), (.unk 2026), (.unk 2027), (.unk 2028), (.unk 2029)], [(.unk 2060), (.unk 2061), (.unk 2062), (.unk 2063), (.unk 2064), (.unk 2065), (.unk 2066), (.unk 2067), (.unk 2068), (.unk 2069)]] false), nl, nl, nl, (i 0), (.unk 3000)])
def q20 : PV := (.agg [(i 11), (i 0), (sb []), (sb [45]), (.sl [[(.unk 2020), (.unk 2021), (.unk 2022), (.unk 2023), (.unk 2024), (.unk 2025), (.unk 2026), (.unk 2027), (.unk 2028), (.unk 2029)], [(.unk 2060), (.unk 2061), (.unk 2062), (.unk 2063), (.unk 2064), (.unk 2065), (.unk 2066), (.unk 2067), (.unk 2068), (.unk 2069)]] false), nl, nl, nl, (i 0), (.unk 3000)])
def q21 : PV := (.agg [(i 11), (i 0), (sb []), (sb [42]), (.sl [[(.unk 2020), (.unk 2021), (.unk 2022), (.unk 2023), (.unk 2024), (.unk 2025), (.unk 2026), (.unk 2027), (.unk 2028), (.unk 2029)], [(.unk 2060), (.unk 2061), (.unk 2062), (.unk 2063), (.unk 2064), (.unk 2065), (.unk 2066), (.unk 2067), (.unk 2068), (.unk 2069)]] false), nl, nl, nl, (i 0), (.unk 3000)])
def q22 : PV := (.agg [(i 11), (i 0), (sb []), (sb [100,105,118]), (.sl [[(.unk 2020), (.unk 2021), (.unk 2022), (.unk 2023), (.unk 2024), (.unk 2025), (.unk 2026), (.unk 2027), (.unk 2028), (.unk 2029)], [(.unk 2060), (.unk 2061), (.unk 2062), (.unk 2063), (.unk 2064), (.unk 2065), (.unk 2066), (.unk 2067), (.unk 2068), (.unk 2069)]] false), nl, nl, nl, (i 0), (.unk 3000)])
def q23 : PV := (.agg [(i 11), (i 0), (sb []), (sb [114,101,109]), (.sl [[(.unk 2020), (.unk 2021), (.unk 2022), (.unk 2023), (.unk 2024), (.unk 2025), (.unk 2026), (.unk 2027), (.unk 2028), (.unk 2029)], [(.unk 2060), (.unk 2061), (.unk 2062), (.unk 2063), (.unk 2064), (.unk 2065), (.unk 2066), (.unk 2067), (.unk 2068), (.unk 2069)]] false), nl, nl, nl, (i 0), (.unk 3000)])
def q24 : PV := (.agg [(i 11), (i 0), (sb []), (sb [60]), (.sl [[(.unk 2020), (.unk 2021), (.unk 2022), (.unk 2023), (.unk 2024), (.unk 2025), (.unk 2026), (.unk 2027), (.unk 2028), (.unk 2029)], [(.unk 2060), (.unk 2061), (.unk 2062), (.unk 2063), (.unk 2064), (.unk 2065), (.unk 2066), (.unk 2067), (.unk 2068), (.unk 2069)]] false), nl, nl, nl, (i 0), (.unk 3000)])
def q25 : PV := (.agg [(i 11), (i 0), (sb []), (sb [61,61]), (.sl [[(.unk 2020), (.unk 2021), (.unk 2022), (.unk 2023), (.unk 2024), (.unk 2025), (.unk 2026), (.unk 2027), (.unk 2028), (.unk 2029)], [(.unk 2060), (.unk 2061), (.unk 2062), (.unk 2063), (.unk 2064), (.unk 2065), (.unk 2066), (.unk 2067), (.unk 2068), (.unk 2069)]] false), nl, nl, nl, (i 0), (.unk 3000)])
def q26 : PV := (.agg [(i 11), (i 0), (sb []), (sb [110,111,116]), (.sl [[(.unk 2040), (.unk 2041), (.unk 2042), (.unk 2043), (.unk 2044), (.unk 2045), (.unk 2046), (.unk 2047), (.unk 2048), (.unk 2049)]] false), nl, nl, nl, (i 0), (.unk 3000)])
def q27 : PV := (.agg [(i 10), (i 0), (sb []), (sb []), (.sl [[(.unk 2040), (.unk 2041), (.unk 2042), (.unk 2043), (.unk 2044), (.unk 2045), (.unk 2046), (.unk 2047), (.unk 2048), (.unk 2049)]] false), (.sl [[(i 0), (sb [97])]] false), nl, nl, (i 0), (.unk 3000)])
def q28 : PV := (.agg [(i 14), (i 0), (sb []), (sb []), (.sl [[(.unk 2040), (.unk 2041), (.unk 2042), (.unk 2043), (.unk 2044), (.unk 2045), (.unk 2046), (.unk 2047), (.unk 2048), (.unk 2049)], [(.unk 2080), (.unk 2081), (.unk 2082), (.unk 2083), (.unk 2084), (.unk 2085), (.unk 2086), (.unk 2087), (.unk 2088), (.unk 2089)]] false), nl, nl, nl, (i 0), (.unk 3000)])
def q29 : PV := (.agg [(i 21), (i 0), (sb []), (sb []), (.sl [[(.unk 2040), (.unk 2041), (.unk 2042), (.unk 2043), (.unk 2044), (.unk 2045), (.unk 2046), (.unk 2047), (.unk 2048), (.unk 2049)]] false), nl, nl, (.sl [[(i 3), (j 9223372036854775807), (i 9223372036854775807), (sb []), nl, nl, (i 0), (i 0)]] false), (i 0), (.unk 3000)])
def q30 : PV := (.agg [(i 9), (i 0), (sb []), (sb []), (.sl [[(.unk 2040), (.unk 2041), (.unk 2042), (.unk 2043), (.unk 2044), (.unk 2045), (.unk 2046), (.unk 2047), (.unk 2048), (.unk 2049)], [(.unk 2120), (.unk 2121), (.unk 2122), (.unk 2123), (.unk 2124), (.unk 2125), (.unk 2126), (.unk 2127), (.unk 2128), (.unk 2129)]] false), (.sl [[(i 0), (sb [97])]] false), nl, nl, (i 0), (.unk 3000)])
def q31 : PV := (.agg [(i 9), (i 0), (sb []), (sb []), (.sl [[(.unk 2040), (.unk 2041), (.unk 2042), (.unk 2043), (.unk 2044), (.unk 2045), (.unk 2046), (.unk 2047), (.unk 2048), (.unk 2049)], [(.unk 2120), (.unk 2121), (.unk 2122), (.unk 2123), (.unk 2124), (.unk 2125), (.unk 2126), (.unk 2127), (.unk 2128), (.unk 2129)]] false), (.sl [[(i 0), (sb [98])]] false), nl, nl, (i 0), (.unk 3000)])
def q32 : PV := (.agg [(i 9), (i 0), (sb []), (sb []), (.sl [[(.unk 2040), (.unk 2041), (.unk 2042), (.unk 2043), (.unk 2044), (.unk 2045), (.unk 2046), (.unk 2047), (.unk 2048), (.unk 2049)], [(.unk 2120), (.unk 2121), (.unk 2122), (.unk 2123), (.unk 2124), (.unk 2125), (.unk 2126), (.unk 2127), (.unk 2128), (.unk 2129)]] false), (.sl [[(i 1), (sb [115])]] false), nl, nl, (i 0), (.unk 3000)])
def q33 : PV := (.agg [(i 20), (i 0), (sb []), (sb []), (.sl [[(.unk 2040), (.unk 2041), (.unk 2042), (.unk 2043), (.unk 2044), (.unk 2045), (.unk 2046), (.unk 2047), (.unk 2048), (.unk 2049)]] false), nl, nl, nl, (i 0), (.unk 3000)])
def q34 : PV := (.agg [(i 19), (i 0), (sb []), (sb []), (.sl [[(.unk 2020), (.unk 2021), (.unk 2022), (.unk 2023), (.unk 2024), (.unk 2025), (.unk 2026), (.unk 2027), (.unk 2028), (.unk 2029)]] false), nl, (.sl [[(.sl [[(i 1), (i 0), (sb []), nl, nl]] false), (i 1), (sb []), (i 0), (sb []), (i 0), (sb []), nl, (.unk 2100), (.unk 2101), (.unk 2102), (.unk 2103), (.unk 2104), (.unk 2105), (.unk 2106), (.unk 2107), (.unk 2108), (.unk 2109), (.unk 3003)]] false), nl, (i 0), (.unk 3000)])
def q35 : PV := (.agg [(i 18), (i 0), (sb []), (sb []), (.sl [[(.unk 2020), (.unk 2021), (.unk 2022), (.unk 2023), (.unk 2024), (.unk 2025), (.unk 2026), (.unk 2027), (.unk 2028), (.unk 2029)]] false), nl, (.sl [[(.sl [[(i 3), (.unk 201), (sb []), nl, nl]] false), (i 1), (sb []), (i 0), (sb []), (i 0), (sb []), nl, (.unk 2100), (.unk 2101), (.unk 2102), (.unk 2103), (.unk 2104), (.unk 2105), (.unk 2106), (.unk 2107), (.unk 2108), (.unk 2109), (.unk 3003)], [(.sl [[(i 2), (i 0), (.unk 200), nl, nl]] false), (i 1), (sb []), (i 0), (sb []), (i 0), (sb []), nl, (.unk 2180), (.unk 2181), (.unk 2182), (.unk 2183), (.unk 2184), (.unk 2185), (.unk 2186), (.unk 2187), (.unk 2188), (.unk 2189), (.unk 3007)]] false), nl, (i 0), (.unk 3000)])
def q36 : PV := (.agg [(i 18), (i 0), (sb []), (sb []), (.sl [[(.unk 2020), (.unk 2021), (.unk 2022), (.unk 2023), (.unk 2024), (.unk 2025), (.unk 2026), (.unk 2027), (.unk 2028), (.unk 2029)]] false), nl, (.sl [[(.sl [[(i 6), (i 0), (sb []), nl, nl]] false), (i 1), (sb []), (i 0), (sb []), (i 0), (sb []), nl, (.unk 2120), (.unk 2121), (.unk 2122), (.unk 2123), (.unk 2124), (.unk 2125), (.unk 2126), (.unk 2127), (.unk 2128), (.unk 2129), (.unk 3003)], [(.sl [[(i 8), (i 0), (sb []), (.sl [[(i 2), (i 0), (.unk 200), nl, nl], [(i 1), (i 0), (sb []), nl, nl]] false), nl]] false), (i 1), (sb []), (i 0), (sb []), (i 0), (sb []), nl, (.unk 2280), (.unk 2281), (.unk 2282), (.unk 2283), (.unk 2284), (.unk 2285), (.unk 2286), (.unk 2287), (.unk 2288), (.unk 2289), (.unk 3008)]] false), nl, (i 0), (.unk 3000)])
def q37 : PV := (.agg [(i 18), (i 0), (sb []), (sb []), (.sl [[(.unk 2020), (.unk 2021), (.unk 2022), (.unk 2023), (.unk 2024), (.unk 2025), (.unk 2026), (.unk 2027), (.unk 2028), (.unk 2029)]] false), nl, (.sl [[(.sl [[(i 7), (i 0), (sb []), (.sl [[(i 5), (i 0), (sb [111,107]), nl, nl], [(i 2), (i 0), (.unk 200), nl, nl]] false), nl]] false), (i 1), (sb []), (i 0), (sb []), (i 0), (sb []), nl, (.unk 2180), (.unk 2181), (.unk 2182), (.unk 2183), (.unk 2184), (.unk 2185), (.unk 2186), (.unk 2187), (.unk 2188), (.unk 2189), (.unk 3003)], [(.sl [[(i 1), (i 0), (sb []), nl, nl]] false), (i 1), (sb []), (i 0), (sb []), (i 0), (sb []), nl, (.unk 2260), (.unk 2261), (.unk 2262), (.unk 2263), (.unk 2264), (.unk 2265), (.unk 2266), (.unk 2267), (.unk 2268), (.unk 2269), (.unk 3011)]] false), nl, (i 0), (.unk 3000)])
def q38 : PV := (.agg [(i 18), (i 0), (sb []), (sb []), (.sl [[(.unk 2020), (.unk 2021), (.unk 2022), (.unk 2023), (.unk 2024), (.unk 2025), (.unk 2026), (.unk 2027), (.unk 2028), (.unk 2029)]] false), nl, (.sl [[(.sl [[(i 2), (i 0), (.unk 200), nl, nl]] false), (i 5), (.unk 200), (i 0), (sb []), (i 0), (sb []), nl, (.unk 2200), (.unk 2201), (.unk 2202), (.unk 2203), (.unk 2204), (.unk 2205), (.unk 2206), (.unk 2207), (.unk 2208), (.unk 2209), (.unk 3003)], [(.sl [[(i 1), (i 0), (sb []), nl, nl]] false), (i 1), (sb []), (i 0), (sb []), (i 0), (sb []), nl, (.unk 2280), (.unk 2281), (.unk 2282), (.unk 2283), (.unk 2284), (.unk 2285), (.unk 2286), (.unk 2287), (.unk 2288), (.unk 2289), (.unk 3012)]] false), nl, (i 0), (.unk 3000)])
def q39 : PV := (.agg [(i 17), (i 0), (sb []), (sb []), (.sl [[(.unk 2060), (.unk 2061), (.unk 2062), (.unk 2063), (.unk 2064), (.unk 2065), (.unk 2066), (.unk 2067), (.unk 2068), (.unk 2069)]] false), nl, (.sl [[(.sl [[(i 2), (i 0), (.unk 200), nl, nl]] false), (i 1), (sb []), (i 0), (sb []), (i 0), (sb []), nl, (.unk 2100), (.unk 2101), (.unk 2102), (.unk 2103), (.unk 2104), (.unk 2105), (.unk 2106), (.unk 2107), (.unk 2108), (.unk 2109), (.unk 3001)]] false), nl, (i 0), (.unk 3000)])
def q40 : PV := (.agg [(i 17), (i 0), (sb []), (sb []), (.sl [[(.unk 2060), (.unk 2061), (.unk 2062), (.unk 2063), (.unk 2064), (.unk 2065), (.unk 2066), (.unk 2067), (.unk 2068), (.unk 2069)]] false), nl, (.sl [[(.sl [[(i 1), (i 0), (sb []), nl, nl]] false), (i 1), (sb []), (i 0), (sb []), (i 0), (sb []), nl, (.unk 2100), (.unk 2101), (.unk 2102), (.unk 2103), (.unk 2104), (.unk 2105), (.unk 2106), (.unk 2107), (.unk 2108), (.unk 2109), (.unk 3001)]] false), nl, (i 0), (.unk 3000)])
def q41 : PV := (.agg [(i 24), (i 0), (sb []), (sb []), (.sl [[(.unk 2040), (.unk 2041), (.unk 2042), (.unk 2043), (.unk 2044), (.unk 2045), (.unk 2046), (.unk 2047), (.unk 2048), (.unk 2049)], [(.unk 2080), (.unk 2081), (.unk 2082), (.unk 2083), (.unk 2084), (.unk 2085), (.unk 2086), (.unk 2087), (.unk 2088), (.unk 2089)]] false), nl, nl, nl, (i 0), (.unk 3000)])
def q42 : PV := (.agg [(i 23), (i 0), (sb []), (sb []), nl, nl, nl, nl, (i 0), (.unk 3000)])
def q43 : PV := (.agg [(i 22), (i 0), (sb []), (sb []), (.sl [[(.unk 2040), (.unk 2041), (.unk 2042), (.unk 2043), (.unk 2044), (.unk 2045), (.unk 2046), (.unk 2047), (.unk 2048), (.unk 2049)]] false), nl, nl, nl, (i 0), (.unk 3000)])
def q44 : PV := (.agg [(i 25), (i 0), (sb []), (sb []), (.sl [[(.unk 2200), (.unk 2201), (.unk 2202), (.unk 2203), (.unk 2204), (.unk 2205), (.unk 2206), (.unk 2207), (.unk 2208), (.unk 2209)]] false), nl, (.sl [[(.sl [[(i 2), (i 0), (.unk 200), nl, nl]] false), (i 5), (.unk 200), (i 0), (sb []), (i 0), (sb []), nl, (.unk 2160), (.unk 2161), (.unk 2162), (.unk 2163), (.unk 2164), (.unk 2165), (.unk 2166), (.unk 2167), (.unk 2168), (.unk 2169), (.unk 3001)]] false), nl, (i 0), (.unk 3000)])
def q45 : PV := (.agg [(i 25), (i 0), (sb []), (sb []), (.sl [[(.unk 2100), (.unk 2101), (.unk 2102), (.unk 2103), (.unk 2104), (.unk 2105), (.unk 2106), (.unk 2107), (.unk 2108), (.unk 2109)]] false), nl, (.sl [[(.sl [[(i 1), (i 0), (sb []), nl, nl]] false), (i 1), (sb []), (i 0), (sb []), (i 0), (sb []), nl, (.unk 2060), (.unk 2061), (.unk 2062), (.unk 2063), (.unk 2064), (.unk 2065), (.unk 2066), (.unk 2067), (.unk 2068), (.unk 2069), (.unk 3001)]] false), nl, (i 0), (.unk 3000)])
def outs : List PV := [q0, q1, q2, q3, q4, q5, q6, q7, q8, q9, q10, q11, q12, q13, q14, q15, q16, q17, q18, q19, q20, q21, q22, q23, q24, q25, q26, q27, q28, q29, q30, q31, q32, q33, q34, q35, q36, q37, q38, q39, q40, q41, q42, q43, q44, q45]
end Go.Ev.A
namespace Go.Ev
open Go.Proofs
noncomputable def fnsP : Fns := (.nd (.nd (.nd (.nd (.nd .lf none (.nd (.nd (.nd .lf (some e143) .lf) none (.nd .lf (some e207) .lf)) none .lf)) none (.nd (.nd .lf none (.nd (.nd .lf (some e167) .lf) (some e103) .lf)) none (.nd .lf (some e55) (.nd .lf none (.nd .lf (some e247) .lf))))) none (.nd (.nd (.nd .lf none (.nd (.nd .lf (some e163) .lf) (some e99) .lf)) none (.nd (.nd (.nd .lf (some e147) .lf) none .lf) none (.nd .lf none (.nd .lf (some e243) .lf)))) none (.nd (.nd (.nd (.nd .lf (some e139) .lf) none .lf) none .lf) (some e27) (.nd .lf (some e59) .lf)))) none (.nd (.nd (.nd (.nd .lf none (.nd .lf (some e97) .lf)) none (.nd (.nd (.nd .lf (some e145) .lf) none .lf) none (.nd .lf (some e113) .lf))) none (.nd (.nd (.nd (.nd .lf (some e137) .lf) none (.nd .lf (some e201) .lf)) none (.nd .lf (some e105) .lf)) none .lf)) (some e5) (.nd (.nd (.nd .lf none (.nd (.nd .lf (some e165) .lf) (some e101) .lf)) none .lf) none (.nd (.nd (.nd .lf none (.nd .lf (some e205) .lf)) none .lf) none (.nd (.nd .lf (some e93) .lf) none .lf))))) none (.nd (.nd (.nd (.nd (.nd (.nd .lf (some e64) .lf) none .lf) none .lf) none (.nd (.nd (.nd (.nd .lf (some e136) .lf) none (.nd .lf (some e200) .lf)) none (.nd .lf (some e104) .lf)) none (.nd .lf (some e56) .lf))) none (.nd (.nd (.nd (.nd .lf none (.nd .lf (some e196) .lf)) none (.nd (.nd .lf (some e164) .lf) (some e100) .lf)) none (.nd .lf (some e52) .lf)) none (.nd (.nd (.nd .lf none (.nd .lf (some e204) .lf)) none .lf) none (.nd .lf (some e60) .lf)))) none (.nd (.nd (.nd (.nd .lf none (.nd (.nd .lf (some e162) .lf) (some e98) (.nd .lf (some e226) .lf))) none (.nd (.nd (.nd .lf (some e146) .lf) none .lf) none .lf)) none (.nd (.nd (.nd (.nd .lf (some e138) .lf) none .lf) none (.nd .lf (some e106) .lf)) none (.nd .lf (some e58) .lf))) none (.nd (.nd (.nd (.nd .lf none (.nd .lf (some e198) .lf)) none (.nd .lf (some e102) .lf)) none (.nd .lf (some e54) .lf)) none (.nd (.nd (.nd (.nd .lf (some e142) .lf) none .lf) none (.nd .lf (some e110) (.nd .lf (some e238) .lf))) none (.nd .lf (some e62) .lf))))))
theorem fnsPOk [Env] : FTOk Tryz.prog fnsP := .of ⟨trivial, ⟨trivial, ⟨trivial, ⟨trivial, ⟨trivial, trivial, ⟨trivial, ⟨trivial, ⟨e143ok, trivial, trivial⟩, ⟨e207ok, trivial, trivial⟩⟩, trivial⟩⟩, ⟨trivial, ⟨trivial, trivial, ⟨e103ok, ⟨e167ok, trivial, trivial⟩, trivial⟩⟩, ⟨e55ok, trivial, ⟨trivial, trivial, ⟨e247ok, trivial, trivial⟩⟩⟩⟩⟩, ⟨trivial, ⟨trivial, ⟨trivial, trivial, ⟨e99ok, ⟨e163ok, trivial, trivial⟩, trivial⟩⟩, ⟨trivial, ⟨trivial, ⟨e147ok, trivial, trivial⟩, trivial⟩, ⟨trivial, trivial, ⟨e243ok, trivial, trivial⟩⟩⟩⟩, ⟨e27ok, ⟨trivial, ⟨trivial, ⟨e139ok, trivial, trivial⟩, trivial⟩, trivial⟩, ⟨e59ok, trivial, trivial⟩⟩⟩⟩, ⟨e5ok, ⟨trivial, ⟨trivial, ⟨trivial, trivial, ⟨e97ok, trivial, trivial⟩⟩, ⟨trivial, ⟨trivial, ⟨e145ok, trivial, trivial⟩, trivial⟩, ⟨e113ok, trivial, trivial⟩⟩⟩, ⟨trivial, ⟨trivial, ⟨trivial, ⟨e137ok, trivial, trivial⟩, ⟨e201ok, trivial, trivial⟩⟩, ⟨e105ok, trivial, trivial⟩⟩, trivial⟩⟩, ⟨trivial, ⟨trivial, ⟨trivial, trivial, ⟨e101ok, ⟨e165ok, trivial, trivial⟩, trivial⟩⟩, trivial⟩, ⟨trivial, ⟨trivial, ⟨trivial, trivial, ⟨e205ok, trivial, trivial⟩⟩, trivial⟩, ⟨trivial, ⟨e93ok, trivial, trivial⟩, trivial⟩⟩⟩⟩⟩, ⟨trivial, ⟨trivial, ⟨trivial, ⟨trivial, ⟨trivial, ⟨e64ok, trivial, trivial⟩, trivial⟩, trivial⟩, ⟨trivial, ⟨trivial, ⟨trivial, ⟨e136ok, trivial, trivial⟩, ⟨e200ok, trivial, trivial⟩⟩, ⟨e104ok, trivial, trivial⟩⟩, ⟨e56ok, trivial, trivial⟩⟩⟩, ⟨trivial, ⟨trivial, ⟨trivial, ⟨trivial, trivial, ⟨e196ok, trivial, trivial⟩⟩, ⟨e100ok, ⟨e164ok, trivial, trivial⟩, trivial⟩⟩, ⟨e52ok, trivial, trivial⟩⟩, ⟨trivial, ⟨trivial, ⟨trivial, trivial, ⟨e204ok, trivial, trivial⟩⟩, trivial⟩, ⟨e60ok, trivial, trivial⟩⟩⟩⟩, ⟨trivial, ⟨trivial, ⟨trivial, ⟨trivial, trivial, ⟨e98ok, ⟨e162ok, trivial, trivial⟩, ⟨e226ok, trivial, trivial⟩⟩⟩, ⟨trivial, ⟨trivial, ⟨e146ok, trivial, trivial⟩, trivial⟩, trivial⟩⟩, ⟨trivial, ⟨trivial, ⟨trivial, ⟨e138ok, trivial, trivial⟩, trivial⟩, ⟨e106ok, trivial, trivial⟩⟩, ⟨e58ok, trivial, trivial⟩⟩⟩, ⟨trivial, ⟨trivial, ⟨trivial, ⟨trivial, trivial, ⟨e198ok, trivial, trivial⟩⟩, ⟨e102ok, trivial, trivial⟩⟩, ⟨e54ok, trivial, trivial⟩⟩, ⟨trivial, ⟨trivial, ⟨trivial, ⟨e142ok, trivial, trivial⟩, trivial⟩, ⟨e110ok, trivial, ⟨e238ok, trivial, trivial⟩⟩⟩, ⟨e62ok, trivial, trivial⟩⟩⟩⟩⟩⟩
end Go.Ev
