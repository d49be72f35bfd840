-- Functions of the program and of the document as plain Lean, each with the proof that the code comes to it. Written by a program of this session (wip/tools/myprint.py, pack.py) over the kit's printer; Lean checks it.
import Derived.Test.YtnmbndkojpjkmaaZPackAlonePrt0
import Derived.Test.YtnmbndkojpjkmaaZPackAloneM1
import Derived.Test.YtnmbndkojpjkmaaZPackAloneM2
import Derived.Laws.CopyOwn
import Derived.Test.YtnmbndkojpjkmaaZPackAloneSh2
import Derived.Test.YtnmbndkojpjkmaaZPackAloneSh
namespace Go.Proofs.Ytnmbndkojpjkmaa.Prt
open Go.RowKit Go.Proofs.YtnmbndkojpjkmaaW.PrintWords Go.Proofs.YtnmbndkojpjkmaaW.PrintLast Go.Proofs.YtnmbndkojpjkmaaW.PrintMore
attribute [local go_sem] max2_int min2_int max_two min_two max_three min_three max_four min_four   -- for this text's walks alone
set_option linter.unusedVariables false
set_option linter.unusedSimpArgs false


/-- A row of scalars, as one block of cells. -/
theorem cpack_Write.intRow {k : IntKind} {e base : Nat} {ok : Nat→Prop} {w : World} {v : Value} {xs : List Int} (h : (Kd.int k).R e w base ok v xs) :
  (v=.slice none 0 0∧xs = [])∨∃ g cap cur,v=.slice (some ⟨g,0,none⟩) xs.length cap∧ok g∧base≤g∧w.heap[g]? = some (.cells cur e (0,0))∧xs.length≤cap∧cap≤maxLen∧cur.size=cap∧cur.toList.take xs.length=xs.map (Value.int k):=by
 obtain ⟨h0,inner,⟨h1,h2⟩,hr⟩:=h
 have hsz : (Kd.int k).sz=1:=rfl
 have hin : inner=xs.map (Value.int k):=by
  refine List.ext_getElem? fun j => ?_
  have hl : inner.length=xs.length:=by rw [h1,hsz,Nat.mul_one]
  rcases Nat.lt_or_ge j xs.length with hj|hj
  ·
   have:=hr.2 j _ (List.getElem?_eq_getElem hj)
   rw [hsz,Nat.mul_one] at this
   have h3 : (inner.drop j).take 1 = [Value.int k xs[j]]:=this
   have h4:=congrArg (fun l=>l[0]?) h3
   simp only [List.getElem?_take,List.getElem?_drop] at h4
   simp at h4
   simp [h4,hj]
  rw [List.getElem?_eq_none (by omega),List.getElem?_eq_none (by simp;omega)]
 rcases h2 with ⟨rfl,hn⟩ | ⟨g,cap,cur,rfl,hb,hh,hnc,hcm,hcs,ht⟩
 ·
  exact .inl ⟨rfl,List.eq_nil_of_length_eq_zero hn⟩
 rw [hsz,Nat.mul_one] at hcs ht
 exact .inr ⟨g,cap,cur,rfl,h0 g rfl,hb,hh,hnc,hcm,hcs,by rw [ht,hin]⟩
theorem cpack_Write.rowInt {k : IntKind} {e base : Nat} {ok : Nat→Prop} {w : World} {xs : List Int} {g cap : Nat} {cur : Array Value} (hg : ok g) (hb : base≤g) (hh : w.heap[g]? = some (.cells cur e (0,0))) (hn : xs.length≤cap) (hc : cap≤maxLen) (hs : cur.size=cap) (ht : cur.toList.take xs.length=xs.map (Value.int k)) :
  (Kd.int k).R e w base ok (.slice (some ⟨g,0,none⟩) xs.length cap) xs:=by
 have hsz : (Kd.int k).sz=1:=rfl
 refine ⟨fun q hq => ?_,xs.map (Value.int k),⟨by simp [hsz], .inr ⟨g,cap,cur,rfl,hb,hh,hn,hc,by rw [hsz,Nat.mul_one,hs],by rw [hsz,Nat.mul_one,ht]⟩⟩,by simp [hsz],fun j p hp => ?_⟩
 ·
  simp only [Value.ownBlock,Option.some.injEq] at hq;exact hq ▸ hg
 have : ((xs.map (Value.int k)).drop (j * 1)).take 1 = [Value.int k p]:=by
  rw [Nat.mul_one]
  obtain ⟨hj,hpj⟩:=List.getElem?_eq_some_iff.1 hp
  refine List.ext_getElem? fun i => ?_
  rcases i with _|i
  ·
   simp [List.getElem?_take,hp]
  simp [List.getElem?_take]
 exact this

theorem cpack_Write.copyRow {P : Program} {ops : Array Oper} {rest : List Oper} {o : Oper} {a : Act} {Q : Exit→Act→World→Prop} {k : IntKind} {w0 W : World} (base : Nat) (hgd : o.guard=none) (d s : Operand) (t e : TypeId)
  (ho : o.op=.call { callee:=.builtin .copy,args := #[d,s],argTypes := #[t,t] }) (ht : P.underlying t=some (.slice e)) {z : Value} {bytes : Nat} (hinfo : (P.info? e).map (fun i=>(i.zero,i.size,i.bytes))=some (some z,1,bytes))
  (v : Value) (xs ys : List Int) (A : Option Addr) (m c : Nat) (ok : Nat→Prop) (hd : a.eval d=v) (hs : a.eval s=.slice A m c)
  (HO : (Kd.int k).R e W base ok v xs) (HR : (Kd.int k).C W A m ys) (HB : Below base w0 W)
  (h : ∀ w1,(Kd.int k).R e w1 base ok v (ys.take xs.length ++ xs.drop ys.length)→Below base w0 w1→wpList P ops Q rest (a.put o.dst (goInt ((min m xs.length : Nat) : Int))) w1) :
  wpList P ops Q (o :: rest) a W:=by
 have hm : ys.length=m:=HR.1
 have hsz : (P.info? e).map (·.size)=some 1:=by
  obtain ⟨i0,hi,hz⟩:=Option.map_eq_some_iff.1 hinfo
  simp only [Prod.mk.injEq] at hz
  rw [hi,Option.map_some,hz.2.1]
 rcases cpack_Write.intRow HO with ⟨rfl,rfl⟩ | ⟨g,cap,cur,rfl,hok,hbg,hh,hnc,hcm,hcs,htk⟩
 ·
  refine wpList_copy_nothing hgd d s t t ho e ht hsz none A 0 0 m c hd hs (by simp) ?_
  have:=h W (by simpa using HO) HB
  simpa using this
 have hl : (ys.take xs.length).length=min m xs.length:=by simp [List.length_take,hm,Nat.min_comm]
 refine wpList_copy_splice hgd d s t t ho e ht hsz _ A xs.length cap m c hd hs g 0 cur.toList e (by simpa using hh) ((ys.take xs.length).map (Value.int k)) (by rw [List.length_map,hl]) (fun hp=>⟨rfl, ?_⟩) (by rw [List.length_map,hl];have : cur.toList.length=cap:=(by simpa using hcs);omega) (fun v hv=>by obtain ⟨x,_,rfl⟩:=List.mem_map.1 hv;rfl) base w0 HB hbg (fun w1 hg1 hb1 => ?_)
 ·
  rw [List.length_map,hl] at hp
  obtain ⟨ad,rfl,hc⟩:=HR.2.2 (by omega)
  refine ⟨ad,rfl,fun j v hj => ?_⟩
  rw [List.getElem?_map,List.getElem?_take] at hj
  split at hj
  ·
   rcases hy : ys[j]? with _|y
   ·
    rw [hy] at hj;simp at hj
   rw [hy] at hj
   simp only [Option.map_some,Option.some.injEq] at hj
   subst hj
   obtain ⟨cs,hcl,hcr,hcc⟩:=hc j y hy
   have hcr : cs = [Value.int k y]:=hcr
   subst hcr
   have:=hcc 0 _ rfl
   have h1 : (Kd.int k).sz=1:=rfl
   rwa [h1,Nat.mul_one,Nat.add_zero] at this
  simp at hj
 have hlen : (ys.take xs.length ++ xs.drop ys.length).length=xs.length:=by
  rw [List.length_append,List.length_drop,List.length_take];omega
 have hR : (Kd.int k).R e w1 base ok (.slice (some ⟨g,0,none⟩) (ys.take xs.length ++ xs.drop ys.length).length cap) (ys.take xs.length ++ xs.drop ys.length):=by
  refine cpack_Write.rowInt hok hbg hg1 (by omega) hcm ?_ ?_
  ·
   have:=length_splice cur.toList 0 ((ys.take xs.length).map (Value.int k)) (by rw [List.length_map,hl];have : cur.toList.length=cap:=(by simpa using hcs);omega)
   simp only [List.size_toArray,this]
   simpa using hcs
  rw [hlen]
  simp only [splice,List.take_zero,List.nil_append,List.length_map,Nat.zero_add,List.map_append]
  have hcur : cur.toList=xs.map (Value.int k) ++ cur.toList.drop xs.length:=by rw [← htk,List.take_append_drop]
  have h2 : (cur.toList.drop (ys.take xs.length).length)=(xs.drop (ys.take xs.length).length).map (Value.int k) ++ cur.toList.drop xs.length:=by
   conv=>lhs;rw [hcur]
   rw [List.drop_append_of_le_length (by rw [List.length_map,hl];omega),List.map_drop]
  rw [h2, ← List.append_assoc,List.take_append_of_le_length (by rw [List.length_append,List.length_map,List.length_map,List.length_drop];omega),List.take_of_length_le (by rw [List.length_append,List.length_map,List.length_map,List.length_drop];omega)]
  congr 2
  rcases Nat.le_total ys.length xs.length with h3|h3
  ·
   rw [List.length_take,Nat.min_eq_right h3]
  rw [List.length_take,Nat.min_eq_left h3,List.drop_eq_nil_of_le (Nat.le_refl _),List.drop_eq_nil_of_le h3]
 rw [hlen] at hR
 have:=h w1 hR hb1
 rwa [← hl, ← List.length_map (f:=Value.int k)] at this
mutual
def cpack_Write.j0 : Nat→Int→Int→List (List Int)→Bool→Bool→List (List Int)→List (List (List Int))→Option (List Int × Int)
 | 0,_,_,_,_,_,_,_=>none
 | k+1,x0,x1,x3,x41,aQ,aH,aT=>if x41=true then (some (([] : List Int),1)) else (if aQ=true then (cpack_Write.j1 k x0 x1 x3 1 aQ aH aT) else (cpack_Write.j1 k x0 x1 x3 0 aQ aH aT))
def cpack_Write.j1 : Nat→Int→Int→List (List Int)→Int→Bool→List (List Int)→List (List (List Int))→Option (List Int × Int)
 | 0,_,_,_,_,_,_,_=>none
 | k+1,x0,x1,x3,x10,aQ,aH,aT=>(coder_New.f).bind fun bN=>((coder_Put.f k bN.1 bN.2.1 bN.2.2 x10 (wrap64 (x10+1)) 2).bind fun bO=>(cpack_Write.l0 k x0 x1 x3 aH (aH.length : Int) 0 aQ aH aT bO.1 bO.2.1 bO.2.2.1))
def cpack_Write.l0 : Nat→Int→Int→List (List Int)→List (List Int)→Int→Int→Bool→List (List Int)→List (List (List Int))→Int→Int→List Int→Option (List Int × Int)
 | 0,_,_,_,_,_,_,_,_,_,_,_,_=>none
 | k+1,x0,x1,x3,x53,x54,x55,aQ,aH,aT,aI,aJ,aK=>if x55 < x54 then (if 0≤x55 then (if x55 < (x53.length : Int) then ((cpack_of.f x3 x55).bind fun bP=>((gain_Put.f k aI aJ aK (rd_L1 x53 x55) bP aQ).bind fun bQ=>(cpack_Write.l0 k x0 x1 x3 x53 x54 (wrap64 (x55+1)) aQ aH aT bQ.1 bQ.2.1 bQ.2.2.1))) else (none)) else (none)) else ((alloc_Pulses.f k x0 x1 aH).bind fun du=>(cpack_Write.l1 k x0 du.1 aT (aT.length : Int) 0 aI aJ aK))
def cpack_Write.l1 : Nat→Int→List (List Int)→List (List (List Int))→Int→Int→Int→Int→List Int→Option (List Int × Int)
 | 0,_,_,_,_,_,_,_,_=>none
 | k+1,x0,x15,x81,x82,x83,aI,aJ,aK=>if x83 < x82 then (if 0≤x83 then (if x83 < (x81.length : Int) then (cpack_Write.l2 k x0 x15 x83 x81 x82 x83 (rd_L2 x81 x83) ((rd_L2 x81 x83).length : Int) 0 aI aJ aK) else (none)) else (none)) else (if 0≤x0 then (if (x0 : Int).toNat≤281474976710656 then ((some (List.replicate (x0 : Int).toNat 0 : List Int)).bind fun bo=>((coder_Finish.f aI aJ aK).bind fun bi=>(some ((bi.take bo.length ++ bo.drop bi.length),0)))) else (none)) else (none))
def cpack_Write.l2 : Nat→Int→List (List Int)→Int→List (List (List Int))→Int→Int→List (List Int)→Int→Int→Int→Int→List Int→Option (List Int × Int)
 | 0,_,_,_,_,_,_,_,_,_,_,_,_=>none
 | k+1,x0,x15,x17,x81,x82,x83,x88,x89,x90,aI,aJ,aK=>if x90 < x89 then (if 0≤x90 then (if x90 < (x88.length : Int) then (if 0≤x17 then (if x17 < (x15.length : Int) then (if x90 < ((rd_L1 x15 x17).length : Int) then (if (rd (rd_L1 x15 x17) x90)=0 then (cpack_Write.l2 k x0 x15 x17 x81 x82 x83 x88 x89 (wrap64 (x90+1)) aI aJ aK) else ((band_Width.f x90).bind fun bR=>((comb_Count.f bR (rd (rd_L1 x15 x17) x90)).bind fun dv=>((comb_Index.f k (rd_L1 x88 x90)).bind fun dw=>((coder_PutNum.f k aI aJ aK dw.1 dv.1).bind fun bS=>(cpack_Write.l2 k x0 x15 x17 x81 x82 x83 x88 x89 (wrap64 (x90+1)) bS.1 bS.2.1 bS.2.2.1)))))) else (none)) else (none)) else (none)) else (none)) else (none)) else (cpack_Write.l1 k x0 x15 x81 x82 (wrap64 (x83+1)) aI aJ aK)
end
def cpack_Write.f (k : Nat) (a0 : Int) (a1 : Int) (aM : Bool) (al : List (List Int)) (ai : List (List (List Int))) (l3 : List (List Int)) : Option (List Int × Int):=(cpack_Right.f k a0 a1 aM al ai).bind fun cW=>(if cW=true then (if aM=true then (cpack_Write.j0 k a0 a1 l3 false aM al ai) else ((cpack_gains.f k a1 l3).bind fun bZ=>(cpack_Write.j0 k a0 a1 l3 (!bZ) aM al ai))) else (cpack_Write.j0 k a0 a1 l3 true aM al ai))
theorem cpack_Write.mono_l : ∀ k,(∀ y0 y1 y2 y3 y4 y5 y6,LeO (cpack_Write.j0 k y0 y1 y2 y3 y4 y5 y6) (cpack_Write.j0 (k+1) y0 y1 y2 y3 y4 y5 y6))∧(∀ y0 y1 y2 y3 y4 y5 y6,LeO (cpack_Write.j1 k y0 y1 y2 y3 y4 y5 y6) (cpack_Write.j1 (k+1) y0 y1 y2 y3 y4 y5 y6))∧(∀ y0 y1 y2 y3 y4 y5 y6 y7 y8 y9 y10 y11,LeO (cpack_Write.l0 k y0 y1 y2 y3 y4 y5 y6 y7 y8 y9 y10 y11) (cpack_Write.l0 (k+1) y0 y1 y2 y3 y4 y5 y6 y7 y8 y9 y10 y11))∧(∀ y0 y1 y2 y3 y4 y5 y6 y7,LeO (cpack_Write.l1 k y0 y1 y2 y3 y4 y5 y6 y7) (cpack_Write.l1 (k+1) y0 y1 y2 y3 y4 y5 y6 y7))∧(∀ y0 y1 y2 y3 y4 y5 y6 y7 y8 y9 y10 y11,LeO (cpack_Write.l2 k y0 y1 y2 y3 y4 y5 y6 y7 y8 y9 y10 y11) (cpack_Write.l2 (k+1) y0 y1 y2 y3 y4 y5 y6 y7 y8 y9 y10 y11))
 | 0=>⟨fun _ _ _ _ _ _ _ r h=>by simp [cpack_Write.j0] at h,fun _ _ _ _ _ _ _ r h=>by simp [cpack_Write.j1] at h,fun _ _ _ _ _ _ _ _ _ _ _ _ r h=>by simp [cpack_Write.l0] at h,fun _ _ _ _ _ _ _ _ r h=>by simp [cpack_Write.l1] at h,fun _ _ _ _ _ _ _ _ _ _ _ _ r h=>by simp [cpack_Write.l2] at h⟩
 | k+1=>by
  obtain ⟨ih0,ih1,ih2,ih3,ih4⟩:=cpack_Write.mono_l k
  refine ⟨?_, ?_, ?_, ?_, ?_⟩
  ·
   intro y0 y1 y2 y3 y4 y5 y6
   unfold cpack_Write.j0
   repeat' with_reducible first|apply ih0|apply ih1|apply ih2|apply ih3|apply ih4|apply alloc_Pulses.mono|apply coder_Put.mono|apply coder_PutNum.mono|apply comb_Index.mono|apply cpack_Right.mono|apply cpack_gains.mono|apply gain_Put.mono|apply yLr|apply yLn|apply yLi|apply yLb|intro _
  ·
   intro y0 y1 y2 y3 y4 y5 y6
   unfold cpack_Write.j1
   repeat' with_reducible first|apply ih0|apply ih1|apply ih2|apply ih3|apply ih4|apply alloc_Pulses.mono|apply coder_Put.mono|apply coder_PutNum.mono|apply comb_Index.mono|apply cpack_Right.mono|apply cpack_gains.mono|apply gain_Put.mono|apply yLr|apply yLn|apply yLi|apply yLb|intro _
  ·
   intro y0 y1 y2 y3 y4 y5 y6 y7 y8 y9 y10 y11
   unfold cpack_Write.l0
   repeat' with_reducible first|apply ih0|apply ih1|apply ih2|apply ih3|apply ih4|apply alloc_Pulses.mono|apply coder_Put.mono|apply coder_PutNum.mono|apply comb_Index.mono|apply cpack_Right.mono|apply cpack_gains.mono|apply gain_Put.mono|apply yLr|apply yLn|apply yLi|apply yLb|intro _
  ·
   intro y0 y1 y2 y3 y4 y5 y6 y7
   unfold cpack_Write.l1
   repeat' with_reducible first|apply ih0|apply ih1|apply ih2|apply ih3|apply ih4|apply alloc_Pulses.mono|apply coder_Put.mono|apply coder_PutNum.mono|apply comb_Index.mono|apply cpack_Right.mono|apply cpack_gains.mono|apply gain_Put.mono|apply yLr|apply yLn|apply yLi|apply yLb|intro _
  intro y0 y1 y2 y3 y4 y5 y6 y7 y8 y9 y10 y11
  unfold cpack_Write.l2
  repeat' with_reducible first|apply ih0|apply ih1|apply ih2|apply ih3|apply ih4|apply alloc_Pulses.mono|apply coder_Put.mono|apply coder_PutNum.mono|apply comb_Index.mono|apply cpack_Right.mono|apply cpack_gains.mono|apply gain_Put.mono|apply yLr|apply yLn|apply yLi|apply yLb|intro _
theorem cpack_Write.mono : ∀ a0 a1 a2 a3 a4 a5 k,LeO (cpack_Write.f k a0 a1 a2 a3 a4 a5) (cpack_Write.f (k+1) a0 a1 a2 a3 a4 a5):=by
 intro a0 a1 a2 a3 a4 a5 k
 obtain ⟨ih0,ih1,ih2,ih3,ih4⟩:=cpack_Write.mono_l k
 unfold cpack_Write.f
 repeat' with_reducible first|apply ih0|apply ih1|apply ih2|apply ih3|apply ih4|apply alloc_Pulses.mono|apply coder_Put.mono|apply coder_PutNum.mono|apply comb_Index.mono|apply cpack_Right.mono|apply cpack_gains.mono|apply gain_Put.mono|apply yLr|apply yLn|apply yLi|apply yLb|intro _
def cpack_Write.T10 : Bool × List (List Nat × List Nat):=(true, [([], []),([], []),([], []),([], []),([2,3], [2,3]),([], []),([5], [5]),([0,1,4,6,4], [0,1,4,6]),([7], [7]),([8], [8]),([8], [8]),([9,7,0,1,2,3,4,5,6,7,8,9], [9])])
def cpack_Write.B10 : List Nat := [0,0,0,0,12,0,32,127,255,511,511,1023]
theorem cpack_Write.tab10 : rtab .any (opsOf Try.f12 10)=cpack_Write.T10:=by kernel_rfl
theorem cpack_Write.bits10 : waitsOk cpack_Write.T10.2 cpack_Write.B10=true:=by kernel_rfl
def cpack_Write.T20 : Bool × List (List Nat × List Nat):=(true, [([], []),([0], [0]),([], []),([], []),([2,3], [2,3]),([4], [4]),([], []),([5,6], [5,6]),([7], [7]),([1,8,1], [1,8]),([9], [9]),([10], [10]),([10], [10]),([11,9,0,1,2,3,4,5,6,7,8,9,10,11], [11]),([12,13,0,1,2,3,4,5,6,7,8,9,10,11,12,13], [12])])
def cpack_Write.B20 : List Nat := [0,1,0,0,12,28,0,124,252,511,1023,2047,2047,4095,16383]
theorem cpack_Write.tab20 : rtab .any (opsOf Try.f12 20)=cpack_Write.T20:=by kernel_rfl
theorem cpack_Write.bits20 : waitsOk cpack_Write.T20.2 cpack_Write.B20=true:=by kernel_rfl
set_option maxHeartbeats 8000000 in
set_option maxRecDepth 100000 in
theorem cpack_Write.calls (k : Nat) (a0 : Int) (a1 : Int) (aM : Bool) (bc : Option Addr) (ba : Nat) (al : List (List Int)) (bf : Option Addr) (bd : Nat) (ai : List (List (List Int))) (A3 : Option Addr) (c3 : Nat) (l3 : List (List Int)) (r1 : List Int) (r2 : Int) (w : World) (hr2_1 : Kd.C (Kd.slice 3 (Kd.int .i64)) w bc al.length al) (hc2_1 : al.length≤ba) (hr2_2 : Kd.C (Kd.slice 49 (Kd.slice 3 (Kd.int .i64))) w bf ai.length ai) (hc2_2 : ai.length≤bd) (hr3 : Kd.C (Kd.slice 3 (Kd.int .i64)) w A3 l3.length l3) (hc3 : l3.length≤c3) (h : cpack_Write.f k a0 a1 aM al ai l3=some (r1,r2)) :
  Calls Try.prog 12 #[.int .i64 a0, .int .i64 a1, .agg #[.bool aM, .slice bc al.length ba, .slice bf ai.length bd], .slice A3 l3.length c3] w fun e w' => ∃ v0_ : Value,e=.returned (.tuple #[v0_, .int .i64 r2])∧Kd.R (Kd.int .u8) 5 w' w.heap.size (fun _=>True) v0_ r1∧Below w.heap.size w w' := by
 have hu25:=Try.underlying25;have hu54:=Try.underlying54;have bp:=zm hr2_1;have bw:=zm hc2_1;clear hr2_1 hc2_1;have bx:=zm hr2_2;have bT:=zm hc2_2;clear hr2_2 hc2_2;have HR3:=zm hr3;have HC3:=zm hc3;clear hr3 hc3;have HB:=zm (Below.refl w.heap.size w);have H:=h
 unfold cpack_Write.f at H
 clear h;have HC5:=zm H;clear H
 go_enter Try.func12,Try.ntmps12
 go_upto_region 1 with (first|((with_reducible refine gate_dst (N:=6) rfl ?_);refine ybx 6 #[.bool aM, .slice bc al.length ba, .slice bf ai.length bd] 25 ?_;intro aU hg w6 hbox hb;have ac:=zm (hbox);have eI:=ygw hg;have eJ:=ygw hg;replace HB:=ybs hb;clear hb hbox hg))
 (try simp only [Act.put,List.setIfInBounds_toArray,List.set_cons_zero,List.set_cons_succ])
 go_cut [41] (fun v41 wc => ∃ (kq : Nat) (bz : Bool),v41=.bool bz∧Aside0 (cpack_Write.j0 kq a0 a1 l3 bz aM al ai=some (r1,r2))∧Aside0 (kq≤k)∧Aside0 (wc.heap[aU]? = some (.cells #[.bool aM,(.slice bc al.length ba),(.slice bf ai.length bd)] 25 (0,0)))∧Aside0 (Below w.heap.size w wc))
 case first =>
  have H:=HC5.out;clear HC5
  obtain ⟨cW,A7,H⟩:=ybi H
  by_cases c8 : cW=true
  ·
   subst c8
   rw [if_pos rfl] at H
   by_cases c9 : aM=true
   ·
    subst c9
    rw [if_pos rfl] at H
    have H' := zm H
    clear H
    obtain ⟨_,_,_,_,_,_⟩:=yc3 ac
    go_wp2_with (first|((with_reducible refine gate_callee (f:=15) rfl ?_);refine ygl 29 Try.func15 #[.int .i64 a0, .int .i64 a1, .agg #[.bool true, .slice bc al.length ba, .slice bf ai.length bd]] ?_;(with_reducible refine (cpack_Right.calls k a0 a1 true _ _ al _ _ ai true _ ?am bw.out ?bg bT.out A7.out).mono ?_);(case am=>exact ycb bp);(case bg=>exact ycb bx);rintro e w11 ⟨rfl,hb⟩;refine ⟨_,rfl, ?_⟩;replace ac:=ybb ac hb;replace HB:=ybs hb;(try clear hb);obtain ⟨_,_,_,_,_,_⟩:=yc3 ac))
    go_meet
    case rel=>exact ⟨_,(false),yq,H',⟨yo⟩,⟨yk ac⟩,⟨yhb⟩⟩
   replace c9:=Bool.eq_false_iff.mpr c9
   subst c9
   rw [ynf] at H
   obtain ⟨bZ,A13,H⟩:=ybi H
   have H' := zm H
   clear H
   obtain ⟨_,_,_,_,_,_⟩:=yc3 ac
   go_wp2_with (first|((with_reducible refine gate_callee (f:=15) rfl ?_);refine ygl 29 Try.func15 #[.int .i64 a0, .int .i64 a1, .agg #[.bool false, .slice bc al.length ba, .slice bf ai.length bd]] ?_;(with_reducible refine (cpack_Right.calls k a0 a1 false _ _ al _ _ ai true _ ?am bw.out ?bg bT.out A7.out).mono ?_);(case am=>exact ycb bp);(case bg=>exact ycb bx);rintro e w15 ⟨rfl,hb⟩;refine ⟨_,rfl, ?_⟩;replace ac:=ybb ac hb;replace HB:=ybs hb;(try clear hb);obtain ⟨_,_,_,_,_,_⟩:=yc3 ac)|(go_at_call 25;(with_reducible refine (cpack_gains.calls k a1 _ _ l3 bZ _ ?am HC3.out A13.out).mono ?_);(case am=>exact ycb HR3);rintro e w' ⟨rfl,⟨nd,rfl⟩⟩))
   go_meet
   case rel=>exact ⟨_,(!bZ),yq,H',⟨yo⟩,⟨yk ac⟩,⟨yhb⟩⟩
  replace c8:=Bool.eq_false_iff.mpr c8
  subst c8
  rw [ynf] at H
  have H' := zm H
  clear H
  obtain ⟨_,_,_,_,_,_⟩:=yc3 ac
  go_wp2_with (first|((with_reducible refine gate_callee (f:=15) rfl ?_);refine ygl 29 Try.func15 #[.int .i64 a0, .int .i64 a1, .agg #[.bool aM, .slice bc al.length ba, .slice bf ai.length bd]] ?_;(with_reducible refine (cpack_Right.calls k a0 a1 aM _ _ al _ _ ai false _ ?am bw.out ?bg bT.out A7.out).mono ?_);(case am=>exact ycb bp);(case bg=>exact ycb bx);rintro e w18 ⟨rfl,hb⟩;refine ⟨_,rfl, ?_⟩;replace ac:=ybb ac hb;replace HB:=ybs hb;(try clear hb)))
  go_meet
  case rel=>exact ⟨_,(true),yq,H',⟨yo⟩,⟨yk ac⟩,⟨yhb⟩⟩
 case rest =>
  clear HC5
  try clear c3
  obtain ⟨kq,bz,rfl,HA,HJ4,ac,HB⟩:=hcut
  obtain ⟨kj4,rfl⟩:=ysu kq (fun h=>by subst h;exact absurd HA.out (by simp [cpack_Write.j0]))
  have H:=HA.out;clear HA
  simp only [cpack_Write.j0] at H
  by_cases c19 : bz=true
  ·
   subst c19
   rw [if_pos rfl] at H
   simp only [Option.some.injEq,Prod.mk.injEq] at H
   obtain ⟨rfl,rfl⟩:=H
   go_wp2
   go_ret2
   exact ⟨_,ye,yn,yhb⟩
  replace c19:=Bool.eq_false_iff.mpr c19
  subst c19
  rw [ynf] at H
  have cX:=zm H;clear H
  obtain ⟨b4,b5,b6,b7,b8,b9⟩:=yc3 ac
  go_upto_if 43 with (fail)
  go_cut [10] (fun v10 wc => ∃ (kq : Nat) (aX : Int),v10=.int .i64 aX∧Aside0 (cpack_Write.j1 kq a0 a1 l3 aX aM al ai=some (r1,r2))∧Aside0 (kq≤kj4)∧Aside0 (wc.heap[aU]? = some (.cells #[.bool aM,(.slice bc al.length ba),(.slice bf ai.length bd)] 25 (0,0)))∧Aside0 (Below w.heap.size w wc))
  case first =>
   have H:=cX.out;clear cX
   by_cases c22 : aM=true
   ·
    subst c22
    rw [if_pos rfl] at H
    have H' := zm H
    clear H
    go_wp2
    go_meet
    case rel=>exact ⟨_,(1),yq,H',⟨yom1 HJ4⟩,⟨yk ac⟩,⟨yhb⟩⟩
   replace c22:=Bool.eq_false_iff.mpr c22
   subst c22
   rw [ynf] at H
   have H' := zm H
   clear H
   go_wp2
   go_meet
   case rel=>exact ⟨_,(0),yq,H',⟨yom1 HJ4⟩,⟨yk ac⟩,⟨yhb⟩⟩
  case rest =>
   clear cX
   try clear b4
   try clear b5
   try clear b6
   try clear b7
   try clear b8
   try clear b9
   obtain ⟨kq,aX,rfl,HA,bq,ac,HB⟩:=hcut
   obtain ⟨cY,rfl⟩:=ysu kq (fun h=>by subst h;exact absurd HA.out (by simp [cpack_Write.j1]))
   have H:=HA.out;clear HA
   simp only [cpack_Write.j1] at H
   obtain ⟨⟨cZ,da,db⟩,A23,H⟩:=ybi H
   try dsimp only at H
   obtain ⟨⟨dc,dd,ca,d6⟩,A24,H⟩:=ybi H
   try dsimp only at H
   have H' := zm H
   clear H
   go_wp2_with (first|((with_reducible refine gate_callee (f:=27) rfl ?_);refine ygl 45 Try.func27 #[] ?_;(with_reducible refine (coder_New.calls  cZ da db _ A23.out).mono ?_);rintro e w25 ⟨eV,rfl,ho0,hb⟩;refine ⟨_,rfl, ?_⟩;have bb:=zm (Kd.R_lower ho0 (zE yhb));replace ac:=ybb ac hb;replace HB:=ybs hb;(try clear hb);(try clear ho0);obtain ⟨d7,d8,d9⟩:=Kd.R_slice bb.out;subst d9)|((with_reducible refine gate_callee (f:=26) rfl ?_);refine ygl 49 Try.func26 #[.agg #[.int .u64 cZ, .int .u32 da, .slice d7 db.length d8], .int .i64 aX, .int .i64 (wrap64 (aX+1)), .int .i64 2] ?_;(with_reducible refine (coder_Put.calls cY cZ da _ _ db aX (wrap64 (aX+1)) 2 dc dd ca d6 _ ?am ?bh A24.out).mono ?_);(case am=>exact yce (Kd.R_reads' bb.out).2.2);(case bh=>exact (Kd.R_reads' bb.out).2.1);rintro e w27 ⟨eW,rfl,ho0,hb⟩;refine ⟨_,rfl, ?_⟩;have bA:=zm (Kd.R_lower (Kd.R_new' ho0 (Kd.R_lt (yr bb))) (zE yhb));replace bb:=zm (Kd.R_elder' (yr bb) (Kd.R_base ho0) hb);replace ac:=ybb ac hb;replace HB:=ybs hb;(try clear hb);(try clear ho0))|((with_reducible refine gate_dst (N:=11) rfl ?_);refine ybx 11 #[.int .u64 0, .int .u32 0, .slice none 0 0] 54 ?_;intro ao hg w28 hbox hb;replace bb:=yRb bb hb;replace bA:=yRb bA hb;have ae:=zm (hbox);have eK:=ygw hg;have eL:=ygw hg;replace HB:=ybs hb;have av:=ynl ac hg;have aw:=yng ac hg;replace ac:=ybb ac hb;clear hb hbox hg;have:=aw.out;have:=av.out;obtain ⟨cb,ce,cf,cg,ch,ci⟩:=yc3 ae;obtain ⟨dx,dy,ea⟩:=Kd.R_slice bA.out;subst ea;obtain ⟨cj,ck,cl,cm,cn,co⟩:=yc3 ac))
   go_loopg [55] cY (fun kq v55 w' => ∃ (aV : Int) (aq : Int) (au : Int) (ax : List Int) (ah : Value),v55=.int .i64 aV∧Aside0 (cpack_Write.l0 kq a0 a1 l3 al (al.length : Int) aV aM al ai aq au ax=some (r1,r2))∧Aside0 (kq≤cY)∧Aside0 (Kd.V (Kd.int .u8) 5 w' w.heap.size (fun k_=>k_≠aU∧k_≠ao) ah ax)∧Aside0 (w'.heap[aU]? = some (.cells #[.bool aM,(.slice bc al.length ba),(.slice bf ai.length bd)] 25 (0,0)))∧Aside0 (w'.heap[ao]? = some (.cells #[.int .u64 aq, .int .u32 au,ah] 54 (0,0)))∧Aside0 (Below w.heap.size w w'))
   case atStart=>exact ⟨(0),(dc),(dd),(ca),(.slice dx ca.length dy),yq,H',⟨Nat.le_refl _⟩,⟨Kd.R_V (by (with_reducible repeat (first|apply zo|apply zp|apply zq));exact zG (zH (p:=⟨ao,2,none⟩) (zH (p:=⟨ao,1,none⟩) (zH (p:=⟨ao,0,none⟩) (Kd.R_types (Kd.R_types (Kd.R_types bA.out ac.out (by decide)) ae.out (by decide)) ae.out (by decide)) (fun _ hk=>hk.2) (.int .u64 dc)) (fun _ hk=>hk.2) (.int .u32 dd)) (fun _ hk=>hk.2) (.slice dx ca.length dy)) (fun _ hk=>⟨hk.1.1.2,hk.1.2⟩))⟩,⟨yk ac⟩,⟨ykp ae⟩,⟨yhb⟩⟩
   case round =>
    clear H'
    try clear cb
    try clear ce
    try clear cf
    try clear cj
    try clear ck
    try clear cl
    try clear cg
    try clear ch
    try clear ci
    try clear cm
    try clear cn
    try clear co
    obtain ⟨aV,aq,au,ax,ah,rfl,HA,HK3,aa,ac,ae,HB⟩:=hrel
    obtain ⟨k3,rfl⟩:=ysu gk (fun h=>by subst h;exact absurd HA.out (by simp [cpack_Write.l0]))
    have H:=HA.out;clear HA
    simp only [cpack_Write.l0] at H
    by_cases c33 : aV < (al.length : Int)
    ·
     rw [if_pos c33] at H
     have cP:=yD c33
     clear c33
     obtain ⟨c34,H⟩:=yif H
     have dz : decide (0≤aV)=true:=decide_eq_true c34
     clear c34
     obtain ⟨c35,H⟩:=yif H
     have dA : decide (aV < (al.length : Int))=true:=decide_eq_true c35
     clear c35
     obtain ⟨bP,A36,H⟩:=ybi H
     obtain ⟨⟨dB,dC,de,eb⟩,A37,H⟩:=ybi H
     try dsimp only at H
     have H' := zm H
     clear H
     have cp : 0≤(aV : Int):=yt
     have cq : aV < (al.length : Int):=yt
     obtain ⟨dD,df,dg,ec,bj,bB,bC⟩:=at_L1 bp.out aV cp cq
     cases ec
     replace bj:=yhx HB bj
     have cr:=zm bC;have ct:=zm bB;clear bC bB
     replace cp:=eq_true cp
     replace cq:=eq_true cq
     try go_wp2
     replace aa:=zm (zC aa.out)
     replace ac:=zm (zj ac.out)
     replace ae:=zm (zj ae.out)
     replace HB:=zm (zf HB.out)
     refine yst (fun w' => w'.cell? ⟨ao,0,none⟩=some (.int .u64 aq)∧w'.cell? ⟨ao,1,none⟩=some (.int .u32 au)∧w'.cell? ⟨ao,2,none⟩=some (ah)∧w'.cell? ⟨aU,0,none⟩=some (.bool aM)∧w'.cell? ⟨aU,1,none⟩=some (.slice (some dD) al.length ba)∧w'.cell? ⟨aU,2,none⟩=some (.slice bf ai.length bd)) [11] 12 cpack_Write.tab10 cpack_Write.bits10 (fun hHeld HT_ HW_ => ?_)
     generalize wr.drew=w38 at aa ac ae HB hHeld ⊢
     refine yp 1 62 HT_ ?_
     refine yp 2 63 HT_ ?_
     refine yp 3 64 HT_ ?_
     refine yp 5 66 HT_ ?_
     refine yl 0 61 HT_ HW_ hHeld ?_
     refine yl 6 67 HT_ HW_ hHeld ?_
     refine yw 4 65 HT_ (fun K hK => ?_)
     refine ygs Try.func29 #[.slice A3 l3.length c3, .int .i64 aV] ?_
     with_reducible refine (cpack_of.calls (fun k_=>k_ < w.heap.size) _ _ l3 aV bP _ ?am A36.out).mono ?_
     (case am=>exact Kd.V_mk HC3.out (Kd.F_below (Kd.C_F (Kd.heap_slice 3 (Kd.heap_int .i64)) HR3.out) yhb))
     rintro e w39 ⟨eX,rfl,ho0,hb⟩
     refine ⟨_,rfl, ?_⟩
     replace aa:=yVb aa hb
     have br:=yho (fun k_=>k_≠aU∧k_≠ao) ho0 (fun k_ hk_=>⟨yoB ac hk_,yoB ae hk_⟩)
     replace ac:=ybb ac hb
     replace ae:=ybb ae hb
     replace HB:=ybs hb
     (try clear hb)
     (try clear ho0)
     obtain ⟨dE,dF,dG⟩:=Kd.V_slice aa.out
     (first|subst dG|(injection dG with f1_ f2_ f3_;have f4_:=f1_.symm;have f5_:=f3_.symm;clear f1_ f2_ f3_;subst f4_;subst f5_))
     obtain ⟨ed,ee,dH⟩:=Kd.V_slice br.out
     (first|subst dH|(injection dH with f1_ f2_ f3_;have f4_:=f1_.symm;have f5_:=f3_.symm;clear f1_ f2_ f3_;subst f4_;subst f5_))
     refine hK.out _ _ yH (fun hHeld => ?_)
     clear hK K
     refine ym (some 65) ?_
     refine yw 7 68 HT_ (fun K hK => ?_)
     refine ygs Try.func28 #[.agg #[.int .u64 aq, .int .u32 au, .slice dE ax.length dF], .slice df (rd_L1 al aV).length dg, .slice ed bP.length ee, .bool aM] ?_
     with_reducible refine (gain_Put.calls k3 aq au (fun k_=>(k_≠aU∧k_≠ao)) _ _ ax _ _ (rd_L1 al aV) _ _ bP aM dB dC de eb _ ?am ?bh ?bg ?dI ?dJ A37.out).mono ?_
     (case am=>exact aa.out)
     (case bh=>exact ycb cr)
     (case bg=>exact ct.out)
     (case dI=>exact yce (Kd.V_reads' br.out).2.2)
     (case dJ=>exact (Kd.V_reads' br.out).2.1)
     rintro e w42 ⟨eY,rfl,ho0,hb⟩
     refine ⟨_,rfl, ?_⟩
     replace aa:=yVb aa hb
     replace br:=yVb br hb
     have cQ:=yho (fun k_=>k_≠aU∧k_≠ao) ho0 (fun k_ hk_=>⟨yoB ac hk_,yoB ae hk_⟩)
     replace ac:=ybb ac hb
     replace ae:=ybb ae hb
     replace HB:=ybs hb
     (try clear hb)
     (try clear ho0)
     obtain ⟨ef,eg,dK⟩:=Kd.V_slice cQ.out
     (first|subst dK|(injection dK with f1_ f2_ f3_;have f4_:=f1_.symm;have f5_:=f3_.symm;clear f1_ f2_ f3_;subst f4_;subst f5_))
     refine hK.out _ _ yH (fun hHeld => ?_)
     clear hK K
     refine ym (some 68) ?_
     refine yp 8 60 HT_ ?_
     refine yp 9 69 HT_ ?_
     refine yp 10 70 HT_ ?_
     refine last_ (i:=11) (N:=none) #[true,true,true,true,true,true,true,true,true,true,true,true] rfl rfl (one_of HT_.out (by kernel_rfl)) (by decide) (fun K hK => ?_)
     have eZ : w42.cell? ⟨ao,0,none⟩=some (.int .u64 aq):=(zs ae.out 0).trans rfl
     have hfs43:=zx ae.out 0
     have:=av.out
     have:=aw.out
     have e8 : w42.cell? ⟨ao,1,none⟩=some (.int .u32 au):=(zs ae.out 1).trans rfl
     have hfs44:=zx ae.out 1
     have:=av.out
     have:=aw.out
     have e9 : w42.cell? ⟨ao,2,none⟩=some (.slice dE ax.length dF):=(zs ae.out 2).trans rfl
     have hfs46:=zx ae.out 2
     have:=av.out
     have:=aw.out
     refine skip_ (w1 := ?_) (by rfl) rfl ?_ ?_
     rotate_left
     ·
      go_simp
      rfl
     refine hK.out _ _ ?_
     clear hK K
     refine done_ (done_of HT_.out (by kernel_rfl)) ?_
     try go_wp2
     go_roundg k3
     case measure=>exact yom3 HJ4 bq HK3
     case rel=>exact ⟨(wrap64 (aV+1)),(dB),(dC),(de),(.slice ef de.length eg),yq,H',⟨yom3 HJ4 bq HK3⟩,⟨yV0 cQ⟩,⟨yk ac⟩,⟨ykp ae⟩,⟨yhb⟩⟩
    rw [if_neg c33] at H
    have cP:=yG c33
    clear c33
    obtain ⟨⟨aW,eh⟩,A47,H⟩:=ybi H
    try dsimp only at H
    have H' := zm H
    clear H
    have:=av.out
    have:=aw.out
    obtain ⟨cu,cv,cw,cx,cy,cz⟩:=yc3 ac
    go_wp2_with (first|((with_reducible refine gate_callee (f:=30) rfl ?_);refine ygl 77 Try.func30 #[.int .i64 a0, .int .i64 a1, .slice bc al.length ba] ?_;(with_reducible refine (alloc_Pulses.calls k3 a0 a1 _ _ al aW eh _ ?am bw.out A47.out).mono ?_);(case am=>exact ycb bp);rintro e w50 ⟨cA,rfl,ho0,hb⟩;refine ⟨_,rfl, ?_⟩;replace aa:=zm (Kd.V_elder' (yr aa) (Kd.S_base ho0) hb);have dL:=zm (Kd.S_lower ho0 (zE yhb));replace ac:=ybb ac hb;replace ae:=ybb ae hb;replace HB:=ybs hb;(try clear hb);(try clear ho0);obtain ⟨cB,cC,cD,cE,cF,cG⟩:=yc3 ac))
    go_loopg [83] k3 (fun kq v83 w' => ∃ (af : Int) (ay : Int) (az : Int) (aA : List Int) (ah : Value),v83=.int .i64 af∧Aside0 (cpack_Write.l1 kq a0 aW ai (ai.length : Int) af ay az aA=some (r1,r2))∧Aside0 (kq≤k3)∧Aside0 (Kd.S (Kd.slice 3 (Kd.int .i64)) 49 w' w.heap.size (fun _=>True) cA aW)∧Aside0 (Kd.V (Kd.int .u8) 5 w' w.heap.size (fun k_=>some k_≠(cA : Value).ownBlock∧k_≠aU∧k_≠ao) ah aA)∧Aside0 (w'.heap[aU]? = some (.cells #[.bool aM,(.slice bc al.length ba),(.slice bf ai.length bd)] 25 (0,0)))∧Aside0 (w'.heap[ao]? = some (.cells #[.int .u64 ay, .int .u32 az,ah] 54 (0,0)))∧Aside0 (Below w.heap.size w w'))
    case atStart=>exact ⟨(0),(aq),(au),(ax),(ah),yq,H',⟨Nat.le_refl _⟩,⟨yr dL⟩,⟨yV0 aa⟩,⟨yk ac⟩,⟨yk ae⟩,⟨yhb⟩⟩
    case round =>
     clear H'
     try clear c3
     try clear cP
     try clear dz
     try clear dA
     try clear cu
     try clear cv
     try clear cw
     try clear cB
     try clear cC
     try clear cD
     try clear cx
     try clear cy
     try clear cz
     try clear cE
     try clear cF
     try clear cG
     try clear bj
     try clear cp
     try clear cq
     obtain ⟨af,ay,az,aA,ah,rfl,HA,HK4,ag,aa,ac,ae,HB⟩:=hrel
     obtain ⟨k4,rfl⟩:=ysu gk (fun h=>by subst h;exact absurd HA.out (by simp [cpack_Write.l1]))
     have H:=HA.out;clear HA
     simp only [cpack_Write.l1] at H
     by_cases c52 : af < (ai.length : Int)
     ·
      rw [if_pos c52] at H
      have cR:=yD c52
      clear c52
      obtain ⟨c53,H⟩:=yif H
      have dM : decide (0≤af)=true:=decide_eq_true c53
      clear c53
      obtain ⟨c54,H⟩:=yif H
      have dN : decide (af < (ai.length : Int))=true:=decide_eq_true c54
      clear c54
      have H' := zm H
      clear H
      have cH : 0≤(af : Int):=yt
      have cI : af < (ai.length : Int):=yt
      obtain ⟨dO,ei,ej,ek,bk,bD,bE⟩:=at_L2 bx.out af cH cI
      cases ek
      replace bk:=yhx HB bk
      have bF:=zm bE;have dZ:=zm bD;clear bE bD
      replace cH:=eq_true cH
      replace cI:=eq_true cI
      go_wp2
      go_loopg [90] k4 (fun kq v90 w' => ∃ (aj : Int) (aC : Int) (aD : Int) (aE : List Int) (ah : Value),v90=.int .i64 aj∧Aside0 (cpack_Write.l2 kq a0 aW af ai (ai.length : Int) af (rd_L2 ai af) ((rd_L2 ai af).length : Int) aj aC aD aE=some (r1,r2))∧Aside0 (kq≤k4)∧Aside0 (Kd.S (Kd.slice 3 (Kd.int .i64)) 49 w' w.heap.size (fun _=>True) cA aW)∧Aside0 (Kd.V (Kd.int .u8) 5 w' w.heap.size (fun k_=>some k_≠(cA : Value).ownBlock∧k_≠aU∧k_≠ao) ah aE)∧Aside0 (w'.heap[aU]? = some (.cells #[.bool aM,(.slice bc al.length ba),(.slice (some dO) ai.length bd)] 25 (0,0)))∧Aside0 (w'.heap[ao]? = some (.cells #[.int .u64 aC, .int .u32 aD,ah] 54 (0,0)))∧Aside0 (Below w.heap.size w w'))
      case atStart=>exact ⟨(0),(ay),(az),(aA),(ah),yq,H',⟨Nat.le_refl _⟩,⟨yr ag⟩,⟨yr aa⟩,⟨yk ac⟩,⟨yk ae⟩,⟨yhb⟩⟩
      case round =>
       clear H'
       try clear cR
       try clear dM
       try clear dN
       try clear bk
       try clear cH
       try clear cI
       obtain ⟨aj,aC,aD,aE,ah,rfl,HA,HK5,ag,aa,ac,ae,HB⟩:=hrel
       obtain ⟨k5,rfl⟩:=ysu gk (fun h=>by subst h;exact absurd HA.out (by simp [cpack_Write.l2]))
       have H:=HA.out;clear HA
       simp only [cpack_Write.l2] at H
       by_cases c55 : aj < ((rd_L2 ai af).length : Int)
       ·
        rw [if_pos c55] at H
        have dP:=yD c55
        clear c55
        obtain ⟨c56,H⟩:=yif H
        have eM : decide (0≤aj)=true:=decide_eq_true c56
        clear c56
        obtain ⟨c57,H⟩:=yif H
        have eN : decide (aj < ((rd_L2 ai af).length : Int))=true:=decide_eq_true c57
        clear c57
        obtain ⟨c58,H⟩:=yif H
        have eO : decide (0≤af)=true:=decide_eq_true c58
        clear c58
        obtain ⟨c59,H⟩:=yif H
        have eP : decide (af < (aW.length : Int))=true:=decide_eq_true c59
        clear c59
        obtain ⟨c60,H⟩:=yif H
        have eQ : decide (aj < ((rd_L1 aW af).length : Int))=true:=decide_eq_true c60
        clear c60
        by_cases c61 : (rd (rd_L1 aW af) aj)=0
        ·
         rw [if_pos c61] at H
         obtain ⟨dQ,dR⟩:=yE c61
         clear c61
         have H' := zm H
         clear H
         have bs : 0≤(aj : Int):=yt
         have bv : aj < ((rd_L2 ai af).length : Int):=yt
         obtain ⟨dS,bU,bV,dh,aY,aZ,a7⟩:=at_L1 bF.out aj bs bv
         cases dh
         replace aY:=yhx HB aY
         have bG:=zm a7;have bH:=zm aZ;clear a7 aZ
         replace bs:=eq_true bs
         replace bv:=eq_true bv
         obtain ⟨fa,fb,el⟩:=Kd.S_slice ag.out
         subst el
         have bl : 0≤(af : Int):=yt
         have bm : af < (aW.length : Int):=yt
         obtain ⟨bW,di,dj,dk,bn,a8,a9⟩:=at_L1 (Kd.S_reads' ag.out).2.2 af bl bm
         cases dk
         obtain ⟨ce340,hce340,hMe340,hcc340⟩:=Kd.S_get ag.out [] af bl (by first|exact bm|exact yt|(have e_:=(Kd.S_reads' ag.out).1;omega))
         obtain ⟨ve340_0,rfl,ge340_0⟩:=hMe340
         have hv340_0:=hcc340 0 _ rfl
         rw [Nat.add_zero,show ((Kd.slice 3 (Kd.int .i64))).sz=1 from rfl,Nat.mul_one] at hv340_0
         replace hv340_0:=Option.some.inj (hv340_0.symm.trans bn)
         rw [hv340_0] at ge340_0
         have ap:=zm (show Kd.R (Kd.int .i64) 3 _ _ _ _ (rd_L1 aW af) from ge340_0)
         clear hv340_0 ge340_0 hcc340 hce340;have ak:=zm a9;have cJ:=zm a8;clear a9 a8
         replace bl:=eq_true bl
         replace bm:=eq_true bm
         obtain ⟨dT,dl,cK,em,en⟩:=yai ak aj
         cases dl
         go_wp2
         go_roundg k5
         case measure=>exact yom5 HJ4 bq HK3 HK4 HK5
         case rel=>exact ⟨(wrap64 (aj+1)),(aC),(aD),(aE),(ah),yq,H',⟨yom5 HJ4 bq HK3 HK4 HK5⟩,⟨yr ag⟩,⟨yr aa⟩,⟨yk ac⟩,⟨yk ae⟩,⟨yhb⟩⟩
        rw [if_neg c61] at H
        obtain ⟨dQ,dR⟩:=yF c61
        obtain ⟨bR,A63,H⟩:=ybi H
        obtain ⟨⟨dm,eo⟩,A64,H⟩:=ybi H
        try dsimp only at H
        obtain ⟨⟨dp,ep⟩,A65,H⟩:=ybi H
        try dsimp only at H
        obtain ⟨⟨dq,dr,cL,eq⟩,A66,H⟩:=ybi H
        try dsimp only at H
        have H' := zm H
        clear H
        have bs : 0≤(aj : Int):=yt
        have bv : aj < ((rd_L2 ai af).length : Int):=yt
        obtain ⟨dS,bU,bV,dh,aY,aZ,a7⟩:=at_L1 bF.out aj bs bv
        cases dh
        replace aY:=yhx HB aY
        have bG:=zm a7;have bH:=zm aZ;clear a7 aZ
        replace bs:=eq_true bs
        replace bv:=eq_true bv
        obtain ⟨fc,fd,er⟩:=Kd.S_slice ag.out
        subst er
        have bl : 0≤(af : Int):=yt
        have bm : af < (aW.length : Int):=yt
        obtain ⟨bW,di,dj,dk,bn,a8,a9⟩:=at_L1 (Kd.S_reads' ag.out).2.2 af bl bm
        cases dk
        obtain ⟨ce340,hce340,hMe340,hcc340⟩:=Kd.S_get ag.out [] af bl (by first|exact bm|exact yt|(have e_:=(Kd.S_reads' ag.out).1;omega))
        obtain ⟨ve340_0,rfl,ge340_0⟩:=hMe340
        have hv340_0:=hcc340 0 _ rfl
        rw [Nat.add_zero,show ((Kd.slice 3 (Kd.int .i64))).sz=1 from rfl,Nat.mul_one] at hv340_0
        replace hv340_0:=Option.some.inj (hv340_0.symm.trans bn)
        rw [hv340_0] at ge340_0
        have ap:=zm (show Kd.R (Kd.int .i64) 3 _ _ _ _ (rd_L1 aW af) from ge340_0)
        clear hv340_0 ge340_0 hcc340 hce340;have ak:=zm a9;have cJ:=zm a8;clear a9 a8
        replace bl:=eq_true bl
        replace bm:=eq_true bm
        obtain ⟨dT,dl,cK,em,en⟩:=yai ak aj
        cases dl
        try go_wp2
        replace ag:=zm (Kd.S_drew ag.out)
        replace aa:=zm (zC aa.out)
        replace ap:=zm (zq ap.out)
        replace ac:=zm (zj ac.out)
        replace ae:=zm (zj ae.out)
        replace ak:=zm (Kd.C_drew ak.out)
        replace HB:=zm (zf HB.out)
        have cM : 0≤(af : Int):=yt
        have cN : af < (aW.length : Int):=yt
        obtain ⟨dU,es,dt,et,bI,bJ,bK⟩:=at_L1 (Kd.S_reads' ag.out).2.2 af cM cN
        obtain rfl : bW=dU:=(by injection et)
        obtain ⟨ce343,hce343,hMe343,hcc343⟩:=Kd.S_get ag.out [] af cM (by first|exact cN|exact yt|(have e_:=(Kd.S_reads' ag.out).1;omega))
        obtain ⟨ve343_0,rfl,ge343_0⟩:=hMe343
        have hv343_0:=hcc343 0 _ rfl
        rw [Nat.add_zero,show ((Kd.slice 3 (Kd.int .i64))).sz=1 from rfl,Nat.mul_one] at hv343_0
        replace hv343_0:=Option.some.inj (hv343_0.symm.trans bI)
        rw [hv343_0] at ge343_0
        have aN:=zm (show Kd.R (Kd.int .i64) 3 _ _ _ _ (rd_L1 aW af) from ge343_0)
        clear hv343_0 ge343_0 hcc343 hce343;have aG:=zm bK;have d5:=zm bJ;clear bK bJ
        replace cM:=eq_true cM
        replace cN:=eq_true cN
        obtain ⟨cS,eu,cO,fe,ff⟩:=yai aG aj
        cases eu
        refine yst (fun w' => w'.cell? (bW.add (af).toNat)=some (.slice (some cS) (rd_L1 aW af).length dt)∧w'.cell? (cS.add (aj).toNat)=some (.int .i64 (rd (rd_L1 aW af) aj))) [] 15 cpack_Write.tab20 cpack_Write.bits20 (fun hHeld HT_ HW_ => ?_)
        generalize wr.drew=w68 at ag aa ap ac ae ak HB aN aG bI cO hHeld ⊢
        refine yp 0 104 HT_ ?_
        refine yp 2 106 HT_ ?_
        refine yp 3 107 HT_ ?_
        refine yp 4 108 HT_ ?_
        refine yp 6 110 HT_ ?_
        refine yl 5 109 HT_ HW_ hHeld ?_
        refine yp 7 111 HT_ ?_
        refine yl 8 112 HT_ HW_ hHeld ?_
        refine yw 1 105 HT_ (fun K hK => ?_)
        refine ygs Try.func32 #[.int .i64 aj] ?_
        with_reducible refine (band_Width.calls aj bR _ A63.out).mono ?_
        rintro e w69 ⟨rfl,hb⟩
        have ev:=yhs hb hHeld.1
        have ew:=yhs hb hHeld.2
        refine ⟨_,rfl, ?_⟩
        replace ag:=ySb ag hb
        replace aa:=yVb aa hb
        replace ap:=yRb ap hb
        replace aN:=yRb aN hb
        replace ac:=ybb ac hb
        replace ae:=ybb ae hb
        replace ak:=yCb ak hb
        replace aG:=yCb aG hb
        replace HB:=ybs hb
        (try clear hb)
        refine hK.out _ _ yH (fun hHeld => ?_)
        clear hK K
        refine ym (some 105) ?_
        refine yw 9 113 HT_ (fun K hK => ?_)
        refine ygs Try.func31 #[.int .i64 bR, .int .i64 (rd (rd_L1 aW af) aj)] ?_
        with_reducible refine (comb_Count.calls bR (rd (rd_L1 aW af) aj) dm eo _ A64.out).mono ?_
        rintro e w70 ⟨rfl,hb⟩
        have ev:=yhs hb hHeld.1
        have ew:=yhs hb hHeld.2
        refine ⟨_,rfl, ?_⟩
        replace ag:=ySb ag hb
        replace aa:=yVb aa hb
        replace ap:=yRb ap hb
        replace aN:=yRb aN hb
        replace ac:=ybb ac hb
        replace ae:=ybb ae hb
        replace ak:=yCb ak hb
        replace aG:=yCb aG hb
        replace HB:=ybs hb
        (try clear hb)
        refine hK.out _ _ yH (fun hHeld => ?_)
        clear hK K
        refine ym (some 113) ?_
        refine yp 10 103 HT_ ?_
        refine yp 11 114 HT_ ?_
        refine yp 12 115 HT_ ?_
        refine yp 13 21 HT_ ?_
        refine yp 14 22 HT_ ?_
        refine done_ (done_of HT_.out (by kernel_rfl)) ?_
        try go_wp2_with (first|((with_reducible refine gate_callee (f:=33) rfl ?_);refine ygl 118 Try.func33 #[.slice bU (rd_L1 (rd_L2 ai af) aj).length bV] ?_;(with_reducible refine (comb_Index.calls k5 _ _ (rd_L1 (rd_L2 ai af) aj) dp ep _ ?am bH.out A65.out).mono ?_);(case am=>exact ycb bG);rintro e w71 ⟨rfl,hb⟩;refine ⟨_,rfl, ?_⟩;replace ag:=ySb ag hb;replace aa:=yVb aa hb;replace ap:=yRb ap hb;replace aN:=yRb aN hb;replace ac:=ybb ac hb;replace ae:=ybb ae hb;replace ak:=yCb ak hb;replace aG:=yCb aG hb;replace HB:=ybs hb;(try clear hb);have:=aw.out;have:=av.out;obtain ⟨_,_,_,_,_,_⟩:=yc3 ae;obtain ⟨ey,ez,eA⟩:=Kd.V_slice aa.out;subst eA)|((with_reducible refine gate_callee (f:=34) rfl ?_);refine ygl 125 Try.func34 #[.agg #[.int .u64 aC, .int .u32 aD, .slice ey aE.length ez], .int .u64 dp, .int .u64 dm] ?_;(with_reducible refine (coder_PutNum.calls k5 aC aD _ _ aE dp dm dq dr cL eq _ ?am ?bh A66.out).mono ?_);(case am=>exact yce (Kd.V_reads' aa.out).2.2);(case bh=>exact (Kd.V_reads' aa.out).2.1);rintro e w75 ⟨fg,rfl,ho0,hb⟩;refine ⟨_,rfl, ?_⟩;replace ag:=ySb ag hb;replace aa:=zm (Kd.V_elder' (yr aa) (Kd.R_base ho0) hb);replace ap:=yRb ap hb;replace aN:=yRb aN hb;have cT:=zm (Kd.R_lower ho0 (zE yhb));replace ac:=ybb ac hb;replace ae:=ybb ae hb;replace ak:=yCb ak hb;replace aG:=yCb aG hb;replace HB:=ybs hb;(try clear hb);(try clear ho0);obtain ⟨_,_,_,_,_,_⟩:=yc3 ae;obtain ⟨dV,dW,eB⟩:=Kd.R_slice cT.out;subst eB))
        go_roundg k5
        case measure=>exact yom5 HJ4 bq HK3 HK4 HK5
        case rel=>exact ⟨(wrap64 (aj+1)),(dq),(dr),(cL),(.slice dV cL.length dW),yq,H',⟨yom5 HJ4 bq HK3 HK4 HK5⟩,⟨yS1 ag ae⟩,⟨Kd.R_V (by (with_reducible repeat (first|apply zo|apply zp|apply zq));exact zG (zH (p:=⟨ao,2,none⟩) (zH (p:=⟨ao,1,none⟩) (zH (p:=⟨ao,0,none⟩) (Kd.R_types (Kd.R_types (Kd.R_types (Kd.R_apart' cT.out (Kd.S_typed ag.out) (by decide)) ac.out (by decide)) ae.out (by decide)) ae.out (by decide)) (fun _ hk=>hk.2) (.int .u64 dq)) (fun _ hk=>hk.2) (.int .u32 dr)) (fun _ hk=>hk.2) (.slice dV cL.length dW)) (fun _ hk=>⟨hk.1.1.1.2,⟨hk.1.1.2,hk.1.2⟩⟩))⟩,⟨yk ac⟩,⟨ykp ae⟩,⟨yhb⟩⟩
       rw [if_neg c55] at H
       have dP:=yG c55
       clear c55
       have H' := zm H
       clear H
       go_wp2
       go_roundg k5
       case measure=>exact yom5 HJ4 bq HK3 HK4 HK5
       case rel=>exact ⟨(wrap64 (af+1)),(aC),(aD),(aE),(ah),yq,H',⟨yom5 HJ4 bq HK3 HK4 HK5⟩,⟨yr ag⟩,⟨yr aa⟩,⟨yk ac⟩,⟨yk ae⟩,⟨yhb⟩⟩
     rw [if_neg c52] at H
     have cR:=yG c52
     clear c52
     obtain ⟨c78,H⟩:=yif H
     have eR:=eq_true c78
     have eS : decide (0≤a0)=true:=decide_eq_true c78
     clear c78
     obtain ⟨c79,H⟩:=yif H
     have eT:=eq_true c79
     have eU : decide ((a0 : Int).toNat≤281474976710656)=true:=decide_eq_true c79
     clear c79
     obtain ⟨bo,bX⟩ : ∃ y_ : List Int,y_=(List.replicate (a0 : Int).toNat 0):=⟨_,rfl⟩
     replace H : ((coder_Finish.f ay az aA).bind fun bi=>(some ((bi.take bo.length ++ bo.drop bi.length),0)))=some (r1,r2):=yrw bX H
     have cU:=zm bX;clear bX
     obtain ⟨bi,A80,H⟩:=ybi H
     by_cases c81 : True
     ·
      have _h:=c81;have LMc81:=zm c81;clear c81
      obtain ⟨eC,bY⟩ : ∃ y_ : List Int,y_=(bi.take bo.length ++ bo.drop bi.length):=⟨_,rfl⟩
      replace H : (some (eC,0))=some (r1,r2):=yrw bY H
      have dX:=zm bY;clear bY
      simp only [Option.some.injEq,Prod.mk.injEq] at H
      obtain ⟨rfl,rfl⟩:=H
      go_wp2_with (first|((with_reducible refine gate_dst (N:=131) rfl ?_);refine Kd.R_make (Kd.int .u8) _ 5 rfl (N:=131) rfl 28 _ _ rfl a0 rfl rfl Try.underlying28 (.int .u8 0) 1 info5 rfl (by decide) (by omega) 0 (ok:=fun _=>True) (okp:=fun _=>True) rfl (fun _ hk=>hk) trivial (yt) (Nat.le_trans (Nat.mul_le_mul_right _ (yt : a0.toNat≤281474976710656)) (by omega)) (Below.refl _ _) (Nat.le_refl _) ?_;intro eD w82 bM hb hg_ hnew_;clear hg_ hnew_;(first|rw [← cU.out] at bM|(simp only [Int.reduceToNat] at bM;rw [← cU.out] at bM));replace ag:=ySb ag hb;replace aa:=zm (Kd.V_elder' (yr aa) (Kd.R_base bM) hb);have bL:=zm (Kd.R_lower bM (zE yhb));replace ac:=ybb ac hb;replace ae:=ybb ae hb;replace HB:=ybs hb;clear hb bM;have:=aw.out;have:=av.out;obtain ⟨_,_,_,_,_,_⟩:=yc3 ae;obtain ⟨eE,eF,eG⟩:=Kd.V_slice aa.out;subst eG)|((with_reducible refine gate_callee (f:=35) rfl ?_);refine ygl 134 Try.func35 #[.agg #[.int .u64 ay, .int .u32 az, .slice eE aA.length eF]] ?_;(with_reducible refine (coder_Finish.calls ay az _ _ aA bi _ ?am ?bh A80.out).mono ?_);(case am=>exact yce (Kd.V_reads' aa.out).2.2);(case bh=>exact (Kd.V_reads' aa.out).2.1);rintro e w87 ⟨fh,rfl,ho0,hb⟩;refine ⟨_,rfl, ?_⟩;replace ag:=ySb ag hb;replace aa:=zm (Kd.V_elder' (yr aa) (Kd.R_base ho0) hb);have cV:=zm (Kd.R_lower (Kd.R_new' ho0 (Kd.R_lt (yr bL))) (zE yhb));replace bL:=zm (Kd.R_elder' (yr bL) (Kd.R_base ho0) hb);replace ac:=ybb ac hb;replace ae:=ybb ae hb;replace HB:=ybs hb;(try clear hb);(try clear ho0);obtain ⟨fi,fj,eH⟩:=Kd.R_slice cV.out;subst eH)|((with_reducible refine gate_builtin (b:=.copy) (xs := #[.tmp 132, .tmp 134]) rfl ?_);refine cpack_Write.copyRow (k:=.u8) (w0:=w) w.heap.size rfl (.tmp 132) (.tmp 134) 28 5 rfl Try.underlying28 info5 eD bo bi _ _ _ (fun _=>True) rfl rfl ?aO ?aR ?aB ?_;(case aO=>exact (yR0 bL));(case aR=>exact yce (Kd.R_reads' cV.out).2.2);(case aB=>exact yhb);intro w88 ho hb;rw [← dX.out] at ho;clear HB;have dY:=zm ho;have HB:=zm hb;clear ho hb))
      go_ret2
      exact ⟨_,ye,yR0 dY,yhb⟩
     exact absurd trivial c81
def w13_As.f (aj : Bool) (aa : List (List Int)) (ac : List (List (List Int))) : Option (Bool × (List (List Int)) × (List (List (List Int)))):=some (aj,aa,ac)
set_option maxHeartbeats 8000000 in
set_option maxRecDepth 100000 in
theorem w13_As.calls (aj : Bool) (ae : Nat→Prop) (am : Option Addr) (ao : Nat) (aa : List (List Int)) (af : Nat→Prop) (ap : Option Addr) (aq : Nat) (ac : List (List (List Int))) (r1 : Bool) (r2 : List (List Int)) (r3 : List (List (List Int))) (w : World) (av : Kd.V (Kd.slice 3 (Kd.int .i64)) 49 w w.heap.size (fun k_=>ae k_) (.slice am aa.length ao) aa) (aw : Kd.V (Kd.slice 49 (Kd.slice 3 (Kd.int .i64))) 22 w w.heap.size (fun k_=>af k_) (.slice ap ac.length aq) ac) (h : w13_As.f aj aa ac=some (r1,r2,r3)) :
  Calls Try.prog 14 #[.agg #[.bool aj, .slice am aa.length ao, .slice ap ac.length aq]] w fun e w' => ∃ v1_ v2_ : Value,e=.returned (.agg #[.bool r1,v1_,v2_])∧Kd.V (Kd.slice 3 (Kd.int .i64)) 49 w' w.heap.size (fun k_=>((ae k_∨af k_)∨w.heap.size≤k_)) v1_ r2∧Kd.V (Kd.slice 49 (Kd.slice 3 (Kd.int .i64))) 22 w' w.heap.size (fun k_=>((ae k_∨af k_)∨w.heap.size≤k_)) v2_ r3∧Below w.heap.size w w' := by
 have hu25:=Try.underlying25;have hu33:=Try.underlying33
 have ag:=zm (show Kd.V (Kd.slice 3 (Kd.int .i64)) 49 w w.heap.size (fun k_=>((ae k_∨af k_)∨w.heap.size≤k_)) (.slice am aa.length ao) aa from zy av (fun k_ hk => .inl (.inl hk)))
 have ah:=zm (show Kd.V (Kd.slice 49 (Kd.slice 3 (Kd.int .i64))) 22 w w.heap.size (fun k_=>((ae k_∨af k_)∨w.heap.size≤k_)) (.slice ap ac.length aq) ac from zy aw (fun k_ hk => .inl (.inr hk)))
 have HB:=zm (Below.refl w.heap.size w);have H:=h
 unfold w13_As.f at H
 clear h
 simp only [Option.some.injEq,Prod.mk.injEq] at H
 obtain ⟨rfl,rfl,rfl⟩:=H
 go_enter Try.func14,Try.ntmps14
 go_wp2_with (first|((with_reducible refine gate_dst (N:=1) rfl ?_);refine ybx 1 #[.bool aj, .slice am aa.length ao, .slice ap ac.length aq] 25 ?_;intro ay hg w2 hbox hb;replace ag:=yVe ag hg hb;replace ah:=yVe ah hg hb;have ai:=zm (hbox);have az:=ygw hg;have aA:=ygw hg;replace HB:=ybs hb;clear hb hbox hg)|((with_reducible refine gate_dst (N:=2) rfl ?_);refine ybx 2 #[.bool false, .slice none 0 0, .slice none 0 0] 33 ?_;intro ax hg w3 hbox hb;replace ag:=yVe ag hg hb;replace ah:=yVe ah hg hb;have au:=zm (hbox);have aC:=ygw hg;have aD:=ygw hg;replace HB:=ybs hb;have ak:=ynl ai hg;have al:=yng ai hg;replace ai:=ybb ai hb;clear hb hbox hg;have:=ak.out;have:=al.out;obtain ⟨_,_,_,_,_,_⟩:=yc3 ai;obtain ⟨_,_,_,_,_,_⟩:=yc3 au))
 refine bodyPost_ret (results_cell_row rfl _ _ ax 33 #[.bool aj, .slice am aa.length ao, .slice ap ac.length aq] (0,0) _ rfl (ykp au) Try.underlying33 rfl (by kernel_rfl)) rfl ?_
 exact ⟨_,_,ye,yV0 ag,yV0 ah,yhb⟩
def w13_wide.l0 : Nat→List (List Int)→Int→Option (Bool)
 | 0,_,_=>none
 | k+1,x0,x3=>if x3 < (x0.length : Int) then (if 0≤x3 then (if ((rd_L1 x0 x3).length : Int) > 60 then (some true) else (w13_wide.l0 k x0 (wrap64 (x3+1)))) else (none)) else (some (decide ((x0.length : Int) > 10)))
def w13_wide.f (k : Nat) (l0 : List (List Int)) : Option (Bool):=w13_wide.l0 k l0 0
theorem w13_wide.mono_l : ∀ k,(∀ y0 y1,LeO (w13_wide.l0 k y0 y1) (w13_wide.l0 (k+1) y0 y1))
 | 0=>fun _ _ r h=>by simp [w13_wide.l0] at h
 | k+1=>by
  have ih0:=w13_wide.mono_l k
  ·
   intro y0 y1
   unfold w13_wide.l0
   repeat' with_reducible first|apply ih0|apply yLr|apply yLn|apply yLi|apply yLb|intro _
theorem w13_wide.mono : ∀ a0 k,LeO (w13_wide.f k a0) (w13_wide.f (k+1) a0):=by
 intro a0 k
 have ih0:=w13_wide.mono_l k
 unfold w13_wide.f
 repeat' with_reducible first|apply ih0|apply yLr|apply yLn|apply yLi|apply yLb|intro _
set_option maxHeartbeats 8000000 in
set_option maxRecDepth 100000 in
theorem w13_wide.calls (k : Nat) (A0 : Option Addr) (c0 : Nat) (l0 : List (List Int)) (r : Bool) (w : World) (hr0 : Kd.C (Kd.slice 3 (Kd.int .i64)) w A0 l0.length l0) (hc0 : l0.length≤c0) (h : w13_wide.f k l0=some r) :
  Calls Try.prog 19 #[.slice A0 l0.length c0] w fun e w' => e=.returned (.bool r)∧Drawn0 w w' := by
 have HR0:=zm hr0;have HC0:=zm hc0;clear hr0 hc0;have H:=h
 unfold w13_wide.f at H
 clear h
 have H' := zm H
 clear H
 go_enter Try.func19,Try.ntmps19
 go_wp2
 go_loopg [3] k (fun kq v3 w' => ∃ (aa : Int),v3=.int .i64 aa∧Aside0 (w13_wide.l0 kq l0 aa=some r)∧Aside0 (kq≤k)∧Drawn0 w w')
 case atStart=>exact ⟨(0),yq,H',⟨Nat.le_refl _⟩,yd⟩
 case round =>
  clear H'
  obtain ⟨aa,rfl,HA,HK1,⟨m1,rfl⟩⟩:=hrel
  obtain ⟨k1,rfl⟩:=ysu gk (fun h=>by subst h;exact absurd HA.out (by simp [w13_wide.l0]))
  have H:=HA.out;clear HA
  simp only [w13_wide.l0] at H
  by_cases c2 : aa < (l0.length : Int)
  ·
   rw [if_pos c2] at H
   have ap:=yD c2
   clear c2
   obtain ⟨c3,H⟩:=yif H
   have av : decide (0≤aa)=true:=decide_eq_true c3
   clear c3
   by_cases c4 : ((rd_L1 l0 aa).length : Int) > 60
   ·
    rw [if_pos c4] at H
    have aq:=yDs c4
    have au : decide (60 < (rd_L1 l0 aa).length)=true:=decide_eq_true (by omega)
    clear c4
    obtain rfl:=Option.some.inj H
    have af : 0≤(aa : Int):=yt
    have ag : aa < (l0.length : Int):=yt
    obtain ⟨ao,ak,al,am,ah,ac,ae⟩:=at_L1 HR0.out aa af ag
    cases am
    have ai:=zm ae;have aj:=zm ac;clear ae ac
    replace af:=eq_true af
    replace ag:=eq_true ag
    go_wp2
    go_ret
    exact ⟨yq,yd⟩
   rw [if_neg c4] at H
   have aq:=yGs c4
   have au : decide (60 < (rd_L1 l0 aa).length)=false:=decide_eq_false (by omega)
   clear c4
   have H' := zm H
   clear H
   have af : 0≤(aa : Int):=yt
   have ag : aa < (l0.length : Int):=yt
   obtain ⟨ao,ak,al,am,ah,ac,ae⟩:=at_L1 HR0.out aa af ag
   cases am
   have ai:=zm ae;have aj:=zm ac;clear ae ac
   replace af:=eq_true af
   replace ag:=eq_true ag
   go_wp2
   go_roundg k1
   case measure=>exact yom1 HK1
   case rel=>exact ⟨(wrap64 (aa+1)),yq,H',⟨yom1 HK1⟩,yd⟩
  rw [if_neg c2] at H
  have ap:=yG c2
  clear c2
  obtain rfl:=Option.some.inj H
  go_wp2
  go_ret
  exact ⟨yq,yd⟩
mutual
def w13_great.j0 : Nat→Bool→Bool→List (List Int)→List (List (List Int))→Option (Bool)
 | 0,_,_,_,_=>none
 | k+1,x18,am,ao,ah=>if x18=true then (some true) else (w13_great.l0 k 0 am ao ah)
def w13_great.l0 : Nat→Int→Bool→List (List Int)→List (List (List Int))→Option (Bool)
 | 0,_,_,_,_=>none
 | k+1,x5,am,ao,ah=>if x5 < (ah.length : Int) then (if 0≤x5 then ((w13_wide.f k (rd_L2 ah x5)).bind fun aJ=>(if aJ=true then (some true) else (w13_great.l0 k (wrap64 (x5+1)) am ao ah))) else (none)) else (some false)
end
def w13_great.f (k : Nat) (al : Bool) (ac : List (List Int)) (aa : List (List (List Int))) (l1 : List (List Int)) : Option (Bool):=(w13_wide.f k ac).bind fun aK=>(if aK=true then (w13_great.j0 k true al ac aa) else ((w13_wide.f k l1).bind fun aM=>(if aM=true then (w13_great.j0 k true al ac aa) else (w13_great.j0 k (decide ((aa.length : Int) > 10)) al ac aa))))
theorem w13_great.mono_l : ∀ k,(∀ y0 y1 y2 y3,LeO (w13_great.j0 k y0 y1 y2 y3) (w13_great.j0 (k+1) y0 y1 y2 y3))∧(∀ y0 y1 y2 y3,LeO (w13_great.l0 k y0 y1 y2 y3) (w13_great.l0 (k+1) y0 y1 y2 y3))
 | 0=>⟨fun _ _ _ _ r h=>by simp [w13_great.j0] at h,fun _ _ _ _ r h=>by simp [w13_great.l0] at h⟩
 | k+1=>by
  obtain ⟨ih0,ih1⟩:=w13_great.mono_l k
  refine ⟨?_, ?_⟩
  ·
   intro y0 y1 y2 y3
   unfold w13_great.j0
   repeat' with_reducible first|apply ih0|apply ih1|apply w13_wide.mono|apply yLr|apply yLn|apply yLi|apply yLb|intro _
  intro y0 y1 y2 y3
  unfold w13_great.l0
  repeat' with_reducible first|apply ih0|apply ih1|apply w13_wide.mono|apply yLr|apply yLn|apply yLi|apply yLb|intro _
theorem w13_great.mono : ∀ a0 a1 a2 a3 k,LeO (w13_great.f k a0 a1 a2 a3) (w13_great.f (k+1) a0 a1 a2 a3):=by
 intro a0 a1 a2 a3 k
 obtain ⟨ih0,ih1⟩:=w13_great.mono_l k
 unfold w13_great.f
 repeat' with_reducible first|apply ih0|apply ih1|apply w13_wide.mono|apply yLr|apply yLn|apply yLi|apply yLb|intro _
set_option maxHeartbeats 8000000 in
set_option maxRecDepth 100000 in
theorem w13_great.calls (k : Nat) (al : Bool) (au : Option Addr) (av : Nat) (ac : List (List Int)) (aC : Option Addr) (aD : Nat) (aa : List (List (List Int))) (A1 : Option Addr) (c1 : Nat) (l1 : List (List Int)) (r : Bool) (w : World) (hr0_1 : Kd.C (Kd.slice 3 (Kd.int .i64)) w au ac.length ac) (hc0_1 : ac.length≤av) (hr0_2 : Kd.C (Kd.slice 49 (Kd.slice 3 (Kd.int .i64))) w aC aa.length aa) (hc0_2 : aa.length≤aD) (hr1 : Kd.C (Kd.slice 3 (Kd.int .i64)) w A1 l1.length l1) (hc1 : l1.length≤c1) (h : w13_great.f k al ac aa l1=some r) :
  Calls Try.prog 10 #[.agg #[.bool al, .slice au ac.length av, .slice aC aa.length aD], .slice A1 l1.length c1] w fun e w' => e=.returned (.bool r)∧Below w.heap.size w w' := by
 have hu25:=Try.underlying25;have aE:=zm hr0_1;have aG:=zm hc0_1;clear hr0_1 hc0_1;have aH:=zm hr0_2;have aU:=zm hc0_2;clear hr0_2 hc0_2;have HR1:=zm hr1;have HC1:=zm hc1;clear hr1 hc1;have HB:=zm (Below.refl w.heap.size w);have H:=h
 unfold w13_great.f at H
 clear h;have HC3:=zm H;clear H
 go_enter Try.func10,Try.ntmps10
 go_upto_region 1 with (first|((with_reducible refine gate_dst (N:=2) rfl ?_);(try (refine gate_guard (by rfl) ?_;dsimp only));refine ybx 2 #[.bool al, .slice au ac.length av, .slice aC aa.length aD] 25 ?_;intro aI hg w4 hbox hb;have ae:=zm (hbox);have aV:=ygw hg;have aW:=ygw hg;replace HB:=ybs hb;clear hb hbox hg))
 (try simp only [Act.put,List.setIfInBounds_toArray,List.set_cons_zero,List.set_cons_succ])
 go_cut [18] (fun v18 wc => ∃ (kq : Nat) (aA : Bool),v18=.bool aA∧Aside0 (w13_great.j0 kq aA al ac aa=some r)∧Aside0 (kq≤k)∧Aside0 (wc.heap[aI]? = some (.cells #[.bool al,(.slice au ac.length av),(.slice aC aa.length aD)] 25 (0,0)))∧Aside0 (Below w.heap.size w wc))
 case first =>
  have H:=HC3.out;clear HC3
  obtain ⟨aK,A5,H⟩:=ybi H
  by_cases c6 : aK=true
  ·
   subst c6
   rw [if_pos rfl] at H
   have H' := zm H
   clear H
   obtain ⟨_,_,_,_,_,_⟩:=yc3 ae
   go_wp2_with (first|((with_reducible refine gate_callee (f:=19) rfl ?_);refine ygl 8 Try.func19 #[.slice au ac.length av] ?_;(with_reducible refine (w13_wide.calls k _ _ ac true _ ?af aG.out A5.out).mono ?_);(case af=>exact ycb aE);rintro e w' ⟨rfl,⟨nd,rfl⟩⟩;refine ⟨_,rfl, ?_⟩))
   go_meet
   case rel=>exact ⟨_,(true),yq,H',⟨yo⟩,⟨yk ae⟩,⟨yhb⟩⟩
  replace c6:=Bool.eq_false_iff.mpr c6
  subst c6
  rw [ynf] at H
  obtain ⟨aM,A8,H⟩:=ybi H
  by_cases c9 : aM=true
  ·
   subst c9
   rw [if_pos rfl] at H
   have H' := zm H
   clear H
   obtain ⟨_,_,_,_,_,_⟩:=yc3 ae
   go_wp2_with (first|((with_reducible refine gate_callee (f:=19) rfl ?_);refine ygl 8 Try.func19 #[.slice au ac.length av] ?_;(with_reducible refine (w13_wide.calls k _ _ ac false _ ?af aG.out A5.out).mono ?_);(case af=>exact ycb aE);rintro e w' ⟨rfl,⟨nd,rfl⟩⟩;refine ⟨_,rfl, ?_⟩)|(go_at_call 19;(with_reducible refine (w13_wide.calls k _ _ l1 true _ ?af HC1.out A8.out).mono ?_);(case af=>exact ycb HR1);rintro e w' ⟨rfl,⟨nd,rfl⟩⟩))
   go_meet
   case rel=>exact ⟨_,(true),yq,H',⟨yo⟩,⟨yk ae⟩,⟨yhb⟩⟩
  replace c9:=Bool.eq_false_iff.mpr c9
  subst c9
  rw [ynf] at H
  have H' := zm H
  clear H
  obtain ⟨_,_,_,_,_,_⟩:=yc3 ae
  go_wp2_with (first|((with_reducible refine gate_callee (f:=19) rfl ?_);refine ygl 8 Try.func19 #[.slice au ac.length av] ?_;(with_reducible refine (w13_wide.calls k _ _ ac false _ ?af aG.out A5.out).mono ?_);(case af=>exact ycb aE);rintro e w' ⟨rfl,⟨nd,rfl⟩⟩;refine ⟨_,rfl, ?_⟩)|(go_at_call 19;(with_reducible refine (w13_wide.calls k _ _ l1 false _ ?af HC1.out A8.out).mono ?_);(case af=>exact ycb HR1);rintro e w' ⟨rfl,⟨nd,rfl⟩⟩))
  go_meet
  case rel=>exact ⟨_,(decide ((aa.length : Int) > 10)),yq,H',⟨yo⟩,⟨yk ae⟩,⟨yhb⟩⟩
 case rest =>
  clear HC3
  try clear c1
  obtain ⟨kq,aA,rfl,HA,HJ2,ae,HB⟩:=hcut
  obtain ⟨kj2,rfl⟩:=ysu kq (fun h=>by subst h;exact absurd HA.out (by simp [w13_great.j0]))
  have H:=HA.out;clear HA
  simp only [w13_great.j0] at H
  by_cases c12 : aA=true
  ·
   subst c12
   rw [if_pos rfl] at H
   obtain rfl:=Option.some.inj H
   go_wp2
   go_ret
   exact ⟨ye,yhb⟩
  replace c12:=Bool.eq_false_iff.mpr c12
  subst c12
  rw [ynf] at H
  have H' := zm H
  clear H
  go_wp2
  go_loopg [5] kj2 (fun kq v5 w' => ∃ (ag : Int),v5=.int .i64 ag∧Aside0 (w13_great.l0 kq ag al ac aa=some r)∧Aside0 (kq≤kj2)∧Aside0 (w'.heap[aI]? = some (.cells #[.bool al,(.slice au ac.length av),(.slice aC aa.length aD)] 25 (0,0)))∧Aside0 (Below w.heap.size w w'))
  case atStart=>exact ⟨(0),yq,H',⟨Nat.le_refl _⟩,⟨yk ae⟩,⟨yhb⟩⟩
  case round =>
   clear H'
   obtain ⟨ag,rfl,HA,HK2,ae,HB⟩:=hrel
   obtain ⟨k2,rfl⟩:=ysu gk (fun h=>by subst h;exact absurd HA.out (by simp [w13_great.l0]))
   have H:=HA.out;clear HA
   simp only [w13_great.l0] at H
   by_cases c13 : ag < (aa.length : Int)
   ·
    rw [if_pos c13] at H
    have aQ:=yD c13
    clear c13
    obtain ⟨c14,H⟩:=yif H
    have aX : decide (0≤ag)=true:=decide_eq_true c14
    clear c14
    obtain ⟨aJ,A15,H⟩:=ybi H
    by_cases c16 : aJ=true
    ·
     subst c16
     rw [if_pos rfl] at H
     obtain rfl:=Option.some.inj H
     obtain ⟨_,_,_,_,_,_⟩:=yc3 ae
     have aw : 0≤(ag : Int):=yt
     have ax : ag < (aa.length : Int):=yt
     obtain ⟨aT,ay,az,aN,ai,aj,ak⟩:=at_L2 aH.out ag aw ax
     cases aN
     replace ai:=yhx HB ai
     have ap:=zm ak;have aq:=zm aj;clear ak aj
     replace aw:=eq_true aw
     replace ax:=eq_true ax
     go_wp2_with (first|((with_reducible refine gate_callee (f:=19) rfl ?_);refine ygl 31 Try.func19 #[.slice ay (rd_L2 aa ag).length az] ?_;(with_reducible refine (w13_wide.calls k2 _ _ (rd_L2 aa ag) true _ ?af aq.out A15.out).mono ?_);(case af=>exact ycb ap);rintro e w' ⟨rfl,⟨nd,rfl⟩⟩;refine ⟨_,rfl, ?_⟩))
     go_ret
     exact ⟨ye,yhb⟩
    replace c16:=Bool.eq_false_iff.mpr c16
    subst c16
    rw [ynf] at H
    have H' := zm H
    clear H
    obtain ⟨_,_,_,_,_,_⟩:=yc3 ae
    have aw : 0≤(ag : Int):=yt
    have ax : ag < (aa.length : Int):=yt
    obtain ⟨aT,ay,az,aN,ai,aj,ak⟩:=at_L2 aH.out ag aw ax
    cases aN
    replace ai:=yhx HB ai
    have ap:=zm ak;have aq:=zm aj;clear ak aj
    replace aw:=eq_true aw
    replace ax:=eq_true ax
    go_wp2_with (first|((with_reducible refine gate_callee (f:=19) rfl ?_);refine ygl 31 Try.func19 #[.slice ay (rd_L2 aa ag).length az] ?_;(with_reducible refine (w13_wide.calls k2 _ _ (rd_L2 aa ag) false _ ?af aq.out A15.out).mono ?_);(case af=>exact ycb ap);rintro e w' ⟨rfl,⟨nd,rfl⟩⟩;refine ⟨_,rfl, ?_⟩))
    go_roundg k2
    case measure=>exact yom2 HJ2 HK2
    case rel=>exact ⟨(wrap64 (ag+1)),yq,H',⟨yom2 HJ2 HK2⟩,⟨yk ae⟩,⟨yhb⟩⟩
   rw [if_neg c13] at H
   have aQ:=yG c13
   clear c13
   obtain rfl:=Option.some.inj H
   obtain ⟨_,_,_,_,_,_⟩:=yc3 ae
   go_wp2
   go_ret
   exact ⟨ye,yhb⟩
def r06_Same.l0 : Nat→List Int→List Int→Int→Option (Bool)
 | 0,_,_,_=>none
 | k+1,x0,x1,x5=>if x5 < (x0.length : Int) then (if 0≤x5 then (if x5 < (x1.length : Int) then (if (rd x0 x5)=(rd x1 x5) then (r06_Same.l0 k x0 x1 (wrap64 (x5+1))) else (some false)) else (none)) else (none)) else (some true)
def r06_Same.f (k : Nat) (l0 : List Int) (l1 : List Int) : Option (Bool):=if (l0.length : Int)=(l1.length : Int) then (r06_Same.l0 k l0 l1 0) else (some false)
theorem r06_Same.mono_l : ∀ k,(∀ y0 y1 y2,LeO (r06_Same.l0 k y0 y1 y2) (r06_Same.l0 (k+1) y0 y1 y2))
 | 0=>fun _ _ _ r h=>by simp [r06_Same.l0] at h
 | k+1=>by
  have ih0:=r06_Same.mono_l k
  ·
   intro y0 y1 y2
   unfold r06_Same.l0
   repeat' with_reducible first|apply ih0|apply yLr|apply yLn|apply yLi|apply yLb|intro _
theorem r06_Same.mono : ∀ a0 a1 k,LeO (r06_Same.f k a0 a1) (r06_Same.f (k+1) a0 a1):=by
 intro a0 a1 k
 have ih0:=r06_Same.mono_l k
 unfold r06_Same.f
 repeat' with_reducible first|apply ih0|apply yLr|apply yLn|apply yLi|apply yLb|intro _
set_option maxHeartbeats 8000000 in
set_option maxRecDepth 100000 in
theorem r06_Same.calls (k : Nat) (A0 : Option Addr) (c0 : Nat) (l0 : List Int) (A1 : Option Addr) (c1 : Nat) (l1 : List Int) (r : Bool) (w : World) (hr0 : Kd.C (Kd.int .i64) w A0 l0.length l0) (hc0 : l0.length≤c0) (hr1 : Kd.C (Kd.int .i64) w A1 l1.length l1) (hc1 : l1.length≤c1) (h : r06_Same.f k l0 l1=some r) :
  Calls Try.prog 61 #[.slice A0 l0.length c0, .slice A1 l1.length c1] w fun e w' => e=.returned (.bool r)∧Drawn0 w w' := by
 have HR0:=zm hr0;have HC0:=zm hc0;clear hr0 hc0;have HR1:=zm hr1;have HC1:=zm hc1;clear hr1 hc1;have H:=h
 unfold r06_Same.f at H
 clear h
 by_cases c3 : (l0.length : Int)=(l1.length : Int)
 ·
  rw [if_pos c3] at H
  obtain ⟨ah,ai⟩:=yE c3
  have aj : (l0.length == l1.length)=true:=by first|simpa using c3|(simp at c3 ⊢; omega)
  clear c3
  have H' := zm H
  clear H
  go_enter Try.func61,Try.ntmps61
  go_wp2
  repeat (go_quiet (fail);try go_wp2)
  go_loopg [5] k (fun kq v5 w' => ∃ (aa : Int),v5=.int .i64 aa∧Aside0 (r06_Same.l0 kq l0 l1 aa=some r)∧Aside0 (kq≤k)∧Drawn0 w w')
  case atStart=>exact ⟨(0),yq,H',⟨Nat.le_refl _⟩,yd⟩
  case round =>
   clear H'
   try clear c1
   try clear ah
   try clear ai
   try clear aj
   obtain ⟨aa,rfl,HA,HK1,⟨m1,rfl⟩⟩:=hrel
   obtain ⟨k1,rfl⟩:=ysu gk (fun h=>by subst h;exact absurd HA.out (by simp [r06_Same.l0]))
   have H:=HA.out;clear HA
   simp only [r06_Same.l0] at H
   by_cases c4 : aa < (l0.length : Int)
   ·
    rw [if_pos c4] at H
    have am:=yD c4
    clear c4
    obtain ⟨c5,H⟩:=yif H
    have ax : decide (0≤aa)=true:=decide_eq_true c5
    clear c5
    obtain ⟨c6,H⟩:=yif H
    have ay : decide (aa < (l1.length : Int))=true:=decide_eq_true c6
    clear c6
    by_cases c7 : (rd l0 aa)=(rd l1 aa)
    ·
     rw [if_pos c7] at H
     obtain ⟨ao,ap⟩:=yE c7
     clear c7
     have H' := zm H
     clear H
     obtain ⟨ak,af,ac,aq,au⟩:=yai HR0 aa
     cases af
     obtain ⟨al,ag,ae,av,aw⟩:=yai HR1 aa
     cases ag
     go_wp2
     repeat (go_quiet (fail);try go_wp2)
     go_roundg k1
     case measure=>exact yom1 HK1
     case rel=>exact ⟨(wrap64 (aa+1)),yq,H',⟨yom1 HK1⟩,yd⟩
    rw [if_neg c7] at H
    obtain ⟨ao,ap⟩:=yF c7
    obtain rfl:=Option.some.inj H
    obtain ⟨ak,af,ac,aq,au⟩:=yai HR0 aa
    cases af
    obtain ⟨al,ag,ae,av,aw⟩:=yai HR1 aa
    cases ag
    go_wp2
    repeat (go_quiet (fail);try go_wp2)
    go_ret
    exact ⟨yq,yd⟩
   rw [if_neg c4] at H
   have am:=yG c4
   clear c4
   obtain rfl:=Option.some.inj H
   go_wp2
   repeat (go_quiet (fail);try go_wp2)
   go_ret
   exact ⟨yq,yd⟩
 rw [if_neg c3] at H
 obtain ⟨ah,ai⟩:=yF c3
 have aj : (l0.length == l1.length)=false:=by first|simpa using c3|(simp at c3 ⊢; omega)
 obtain rfl:=Option.some.inj H
 go_enter Try.func61,Try.ntmps61
 go_wp2
 repeat (go_quiet (fail);try go_wp2)
 go_ret
 exact ⟨yq,yd⟩
def r12_Same.l0 : Nat→List (List Int)→List (List Int)→Int→Option (Bool)
 | 0,_,_,_=>none
 | k+1,x0,x1,x5=>if x5 < (x0.length : Int) then (if 0≤x5 then (if x5 < (x1.length : Int) then ((r06_Same.f k (rd_L1 x0 x5) (rd_L1 x1 x5)).bind fun ax=>(if ax=true then (r12_Same.l0 k x0 x1 (wrap64 (x5+1))) else (some false))) else (none)) else (none)) else (some true)
def r12_Same.f (k : Nat) (l0 : List (List Int)) (l1 : List (List Int)) : Option (Bool):=if (l0.length : Int)=(l1.length : Int) then (r12_Same.l0 k l0 l1 0) else (some false)
theorem r12_Same.mono_l : ∀ k,(∀ y0 y1 y2,LeO (r12_Same.l0 k y0 y1 y2) (r12_Same.l0 (k+1) y0 y1 y2))
 | 0=>fun _ _ _ r h=>by simp [r12_Same.l0] at h
 | k+1=>by
  have ih0:=r12_Same.mono_l k
  ·
   intro y0 y1 y2
   unfold r12_Same.l0
   repeat' with_reducible first|apply ih0|apply r06_Same.mono|apply yLr|apply yLn|apply yLi|apply yLb|intro _
theorem r12_Same.mono : ∀ a0 a1 k,LeO (r12_Same.f k a0 a1) (r12_Same.f (k+1) a0 a1):=by
 intro a0 a1 k
 have ih0:=r12_Same.mono_l k
 unfold r12_Same.f
 repeat' with_reducible first|apply ih0|apply r06_Same.mono|apply yLr|apply yLn|apply yLi|apply yLb|intro _
set_option maxHeartbeats 8000000 in
set_option maxRecDepth 100000 in
theorem r12_Same.calls (k : Nat) (A0 : Option Addr) (c0 : Nat) (l0 : List (List Int)) (A1 : Option Addr) (c1 : Nat) (l1 : List (List Int)) (r : Bool) (w : World) (hr0 : Kd.C (Kd.slice 3 (Kd.int .i64)) w A0 l0.length l0) (hc0 : l0.length≤c0) (hr1 : Kd.C (Kd.slice 3 (Kd.int .i64)) w A1 l1.length l1) (hc1 : l1.length≤c1) (h : r12_Same.f k l0 l1=some r) :
  Calls Try.prog 24 #[.slice A0 l0.length c0, .slice A1 l1.length c1] w fun e w' => e=.returned (.bool r)∧Drawn0 w w' := by
 have HR0:=zm hr0;have HC0:=zm hc0;clear hr0 hc0;have HR1:=zm hr1;have HC1:=zm hc1;clear hr1 hc1;have H:=h
 unfold r12_Same.f at H
 clear h
 by_cases c3 : (l0.length : Int)=(l1.length : Int)
 ·
  rw [if_pos c3] at H
  obtain ⟨aG,aH⟩:=yE c3
  have aI : (l0.length == l1.length)=true:=by first|simpa using c3|(simp at c3 ⊢; omega)
  clear c3
  have H' := zm H
  clear H
  go_enter Try.func24,Try.ntmps24
  go_wp2
  repeat (go_quiet (fail);try go_wp2)
  go_loopg [5] k (fun kq v5 w' => ∃ (aa : Int),v5=.int .i64 aa∧Aside0 (r12_Same.l0 kq l0 l1 aa=some r)∧Aside0 (kq≤k)∧Drawn0 w w')
  case atStart=>exact ⟨(0),yq,H',⟨Nat.le_refl _⟩,yd⟩
  case round =>
   clear H'
   try clear c1
   try clear aG
   try clear aH
   try clear aI
   obtain ⟨aa,rfl,HA,HK1,⟨m1,rfl⟩⟩:=hrel
   obtain ⟨k1,rfl⟩:=ysu gk (fun h=>by subst h;exact absurd HA.out (by simp [r12_Same.l0]))
   have H:=HA.out;clear HA
   simp only [r12_Same.l0] at H
   by_cases c4 : aa < (l0.length : Int)
   ·
    rw [if_pos c4] at H
    have aM:=yD c4
    clear c4
    obtain ⟨c5,H⟩:=yif H
    have aN : decide (0≤aa)=true:=decide_eq_true c5
    clear c5
    obtain ⟨c6,H⟩:=yif H
    have aQ : decide (aa < (l1.length : Int))=true:=decide_eq_true c6
    clear c6
    obtain ⟨ax,A7,H⟩:=ybi H
    by_cases c8 : ax=true
    ·
     subst c8
     rw [if_pos rfl] at H
     have H' := zm H
     clear H
     have ao : 0≤(aa : Int):=yt
     have ap : aa < (l0.length : Int):=yt
     obtain ⟨aJ,ay,az,aA,av,aj,ak⟩:=at_L1 HR0.out aa ao ap
     cases aA
     have ac:=zm ak;have ae:=zm aj;clear ak aj
     replace ao:=eq_true ao
     replace ap:=eq_true ap
     have aq : 0≤(aa : Int):=yt
     have au : aa < (l1.length : Int):=yt
     obtain ⟨aK,aC,aD,aE,aw,al,am⟩:=at_L1 HR1.out aa aq au
     cases aE
     have af:=zm am;have ag:=zm al;clear am al
     replace aq:=eq_true aq
     replace au:=eq_true au
     go_wp2_with (first|(go_at_call 61;(with_reducible refine (r06_Same.calls k1 _ _ (rd_L1 l0 aa) _ _ (rd_L1 l1 aa) true _ ?ah ae.out ?ai ag.out A7.out).mono ?_);(case ah=>exact yce ac.out);(case ai=>exact yce af.out);rintro e w' ⟨rfl,⟨nd,rfl⟩⟩;(try exact yww)))
     repeat (go_quiet (first|(go_at_call 61;(with_reducible refine (r06_Same.calls k1 _ _ (rd_L1 l0 aa) _ _ (rd_L1 l1 aa) true _ ?ah ae.out ?ai ag.out A7.out).mono ?_);(case ah=>exact yce ac.out);(case ai=>exact yce af.out);rintro e w' ⟨rfl,⟨nd,rfl⟩⟩;(try exact yww)));try go_wp2_with (first|(go_at_call 61;(with_reducible refine (r06_Same.calls k1 _ _ (rd_L1 l0 aa) _ _ (rd_L1 l1 aa) true _ ?ah ae.out ?ai ag.out A7.out).mono ?_);(case ah=>exact yce ac.out);(case ai=>exact yce af.out);rintro e w' ⟨rfl,⟨nd,rfl⟩⟩;(try exact yww))))
     go_roundg k1
     case measure=>exact yom1 HK1
     case rel=>exact ⟨(wrap64 (aa+1)),yq,H',⟨yom1 HK1⟩,yd⟩
    replace c8:=Bool.eq_false_iff.mpr c8
    subst c8
    rw [ynf] at H
    obtain rfl:=Option.some.inj H
    have ao : 0≤(aa : Int):=yt
    have ap : aa < (l0.length : Int):=yt
    obtain ⟨aJ,ay,az,aA,av,aj,ak⟩:=at_L1 HR0.out aa ao ap
    cases aA
    have ac:=zm ak;have ae:=zm aj;clear ak aj
    replace ao:=eq_true ao
    replace ap:=eq_true ap
    have aq : 0≤(aa : Int):=yt
    have au : aa < (l1.length : Int):=yt
    obtain ⟨aK,aC,aD,aE,aw,al,am⟩:=at_L1 HR1.out aa aq au
    cases aE
    have af:=zm am;have ag:=zm al;clear am al
    replace aq:=eq_true aq
    replace au:=eq_true au
    go_wp2_with (first|(go_at_call 61;(with_reducible refine (r06_Same.calls k1 _ _ (rd_L1 l0 aa) _ _ (rd_L1 l1 aa) false _ ?ah ae.out ?ai ag.out A7.out).mono ?_);(case ah=>exact yce ac.out);(case ai=>exact yce af.out);rintro e w' ⟨rfl,⟨nd,rfl⟩⟩;(try exact yww)))
    repeat (go_quiet (first|(go_at_call 61;(with_reducible refine (r06_Same.calls k1 _ _ (rd_L1 l0 aa) _ _ (rd_L1 l1 aa) false _ ?ah ae.out ?ai ag.out A7.out).mono ?_);(case ah=>exact yce ac.out);(case ai=>exact yce af.out);rintro e w' ⟨rfl,⟨nd,rfl⟩⟩;(try exact yww)));try go_wp2_with (first|(go_at_call 61;(with_reducible refine (r06_Same.calls k1 _ _ (rd_L1 l0 aa) _ _ (rd_L1 l1 aa) false _ ?ah ae.out ?ai ag.out A7.out).mono ?_);(case ah=>exact yce ac.out);(case ai=>exact yce af.out);rintro e w' ⟨rfl,⟨nd,rfl⟩⟩;(try exact yww))))
    go_ret
    exact ⟨yq,yd⟩
   rw [if_neg c4] at H
   have aM:=yG c4
   clear c4
   obtain rfl:=Option.some.inj H
   go_wp2
   repeat (go_quiet (fail);try go_wp2)
   go_ret
   exact ⟨yq,yd⟩
 rw [if_neg c3] at H
 obtain ⟨aG,aH⟩:=yF c3
 have aI : (l0.length == l1.length)=false:=by first|simpa using c3|(simp at c3 ⊢; omega)
 obtain rfl:=Option.some.inj H
 go_enter Try.func24,Try.ntmps24
 go_wp2
 repeat (go_quiet (fail);try go_wp2)
 go_ret
 exact ⟨yq,yd⟩
mutual
def r13_Same.j0 : Nat→Bool→Bool→List (List Int)→List (List (List Int))→Bool→List (List Int)→List (List (List Int))→Option (Bool)
 | 0,_,_,_,_,_,_,_=>none
 | k+1,x27,aM,aN,ax,aQ,aT,ay=>if x27=true then (some false) else (r13_Same.l0 k 0 aM aN ax aQ aT ay)
def r13_Same.l0 : Nat→Int→Bool→List (List Int)→List (List (List Int))→Bool→List (List Int)→List (List (List Int))→Option (Bool)
 | 0,_,_,_,_,_,_,_=>none
 | k+1,x5,aM,aN,ax,aQ,aT,ay=>if x5 < (ax.length : Int) then (if 0≤x5 then (if x5 < (ay.length : Int) then ((r12_Same.f k (rd_L2 ax x5) (rd_L2 ay x5)).bind fun bo=>(if bo=true then (r13_Same.l0 k (wrap64 (x5+1)) aM aN ax aQ aT ay) else (some false))) else (none)) else (none)) else (some true)
end
def r13_Same.f (k : Nat) (am : Bool) (ak : List (List Int)) (ai : List (List (List Int))) (ao : Bool) (al : List (List Int)) (aj : List (List (List Int))) : Option (Bool):=if (am != ao)=true then (r13_Same.j0 k true am ak ai ao al aj) else ((r12_Same.f k ak al).bind fun bp=>(if bp=true then (r13_Same.j0 k ((ai.length : Int) != (aj.length : Int)) am ak ai ao al aj) else (r13_Same.j0 k true am ak ai ao al aj)))
theorem r13_Same.mono_l : ∀ k,(∀ y0 y1 y2 y3 y4 y5 y6,LeO (r13_Same.j0 k y0 y1 y2 y3 y4 y5 y6) (r13_Same.j0 (k+1) y0 y1 y2 y3 y4 y5 y6))∧(∀ y0 y1 y2 y3 y4 y5 y6,LeO (r13_Same.l0 k y0 y1 y2 y3 y4 y5 y6) (r13_Same.l0 (k+1) y0 y1 y2 y3 y4 y5 y6))
 | 0=>⟨fun _ _ _ _ _ _ _ r h=>by simp [r13_Same.j0] at h,fun _ _ _ _ _ _ _ r h=>by simp [r13_Same.l0] at h⟩
 | k+1=>by
  obtain ⟨ih0,ih1⟩:=r13_Same.mono_l k
  refine ⟨?_, ?_⟩
  ·
   intro y0 y1 y2 y3 y4 y5 y6
   unfold r13_Same.j0
   repeat' with_reducible first|apply ih0|apply ih1|apply r12_Same.mono|apply yLr|apply yLn|apply yLi|apply yLb|intro _
  intro y0 y1 y2 y3 y4 y5 y6
  unfold r13_Same.l0
  repeat' with_reducible first|apply ih0|apply ih1|apply r12_Same.mono|apply yLr|apply yLn|apply yLi|apply yLb|intro _
theorem r13_Same.mono : ∀ a0 a1 a2 a3 a4 a5 k,LeO (r13_Same.f k a0 a1 a2 a3 a4 a5) (r13_Same.f (k+1) a0 a1 a2 a3 a4 a5):=by
 intro a0 a1 a2 a3 a4 a5 k
 obtain ⟨ih0,ih1⟩:=r13_Same.mono_l k
 unfold r13_Same.f
 repeat' with_reducible first|apply ih0|apply ih1|apply r12_Same.mono|apply yLr|apply yLn|apply yLi|apply yLb|intro _
set_option maxHeartbeats 8000000 in
set_option maxRecDepth 100000 in
theorem r13_Same.calls (k : Nat) (am : Bool) (aU : Option Addr) (aV : Nat) (ak : List (List Int)) (aW : Option Addr) (aX : Nat) (ai : List (List (List Int))) (ao : Bool) (aY : Option Addr) (aZ : Nat) (al : List (List Int)) (a7 : Option Addr) (a8 : Nat) (aj : List (List (List Int))) (r : Bool) (w : World) (hr0_1 : Kd.C (Kd.slice 3 (Kd.int .i64)) w aU ak.length ak) (hc0_1 : ak.length≤aV) (hr0_2 : Kd.C (Kd.slice 49 (Kd.slice 3 (Kd.int .i64))) w aW ai.length ai) (hc0_2 : ai.length≤aX) (hr1_1 : Kd.C (Kd.slice 3 (Kd.int .i64)) w aY al.length al) (hc1_1 : al.length≤aZ) (hr1_2 : Kd.C (Kd.slice 49 (Kd.slice 3 (Kd.int .i64))) w a7 aj.length aj) (hc1_2 : aj.length≤a8) (h : r13_Same.f k am ak ai ao al aj=some r) :
  Calls Try.prog 22 #[.agg #[.bool am, .slice aU ak.length aV, .slice aW ai.length aX], .agg #[.bool ao, .slice aY al.length aZ, .slice a7 aj.length a8]] w fun e w' => e=.returned (.bool r)∧Below w.heap.size w w' := by
 have hu33:=Try.underlying33;have aH:=zm hr0_1;have aI:=zm hc0_1;clear hr0_1 hc0_1;have bi:=zm hr0_2;have bE:=zm hc0_2;clear hr0_2 hc0_2;have aJ:=zm hr1_1;have aK:=zm hc1_1;clear hr1_1 hc1_1;have bj:=zm hr1_2;have bF:=zm hc1_2;clear hr1_2 hc1_2;have HB:=zm (Below.refl w.heap.size w);have H:=h
 unfold r13_Same.f at H
 clear h;have HC3:=zm H;clear H
 go_enter Try.func22,Try.ntmps22
 go_upto_region 1 with (first|((with_reducible refine gate_dst (N:=2) rfl ?_);(try (refine gate_guard (by rfl) ?_;dsimp only));refine ybx 2 #[.bool am, .slice aU ak.length aV, .slice aW ai.length aX] 33 ?_;intro bd hg w4 hbox hb;have aa:=zm (hbox);have bk:=ygw hg;have bl:=ygw hg;replace HB:=ybs hb;clear hb hbox hg)|((with_reducible refine gate_dst (N:=3) rfl ?_);(try (refine gate_guard (by rfl) ?_;dsimp only));refine ybx 3 #[.bool ao, .slice aY al.length aZ, .slice a7 aj.length a8] 33 ?_;intro bf hg w5 hbox hb;have ap:=zm (hbox);have bm:=ygw hg;have bn:=ygw hg;replace HB:=ybs hb;have ag:=ynl aa hg;have ah:=yng aa hg;replace aa:=ybb aa hb;clear hb hbox hg))
 repeat (go_quiet (first|((with_reducible refine gate_dst (N:=2) rfl ?_);(try (refine gate_guard (by rfl) ?_;dsimp only));refine ybx 2 #[.bool am, .slice aU ak.length aV, .slice aW ai.length aX] 33 ?_;intro bd hg w4 hbox hb;have aa:=zm (hbox);have bk:=ygw hg;have bl:=ygw hg;replace HB:=ybs hb;clear hb hbox hg)|((with_reducible refine gate_dst (N:=3) rfl ?_);(try (refine gate_guard (by rfl) ?_;dsimp only));refine ybx 3 #[.bool ao, .slice aY al.length aZ, .slice a7 aj.length a8] 33 ?_;intro bf hg w5 hbox hb;have ap:=zm (hbox);have bm:=ygw hg;have bn:=ygw hg;replace HB:=ybs hb;have ag:=ynl aa hg;have ah:=yng aa hg;replace aa:=ybb aa hb;clear hb hbox hg));go_upto_region 1 with (first|((with_reducible refine gate_dst (N:=2) rfl ?_);(try (refine gate_guard (by rfl) ?_;dsimp only));refine ybx 2 #[.bool am, .slice aU ak.length aV, .slice aW ai.length aX] 33 ?_;intro bd hg w4 hbox hb;have aa:=zm (hbox);have bk:=ygw hg;have bl:=ygw hg;replace HB:=ybs hb;clear hb hbox hg)|((with_reducible refine gate_dst (N:=3) rfl ?_);(try (refine gate_guard (by rfl) ?_;dsimp only));refine ybx 3 #[.bool ao, .slice aY al.length aZ, .slice a7 aj.length a8] 33 ?_;intro bf hg w5 hbox hb;have ap:=zm (hbox);have bm:=ygw hg;have bn:=ygw hg;replace HB:=ybs hb;have ag:=ynl aa hg;have ah:=yng aa hg;replace aa:=ybb aa hb;clear hb hbox hg)))
 (try simp only [Act.put,List.setIfInBounds_toArray,List.set_cons_zero,List.set_cons_succ])
 go_cut [27] (fun v27 wc => ∃ (kq : Nat) (bg : Bool),v27=.bool bg∧Aside0 (r13_Same.j0 kq bg am ak ai ao al aj=some r)∧Aside0 (kq≤k)∧Aside0 (wc.heap[bd]? = some (.cells #[.bool am,(.slice aU ak.length aV),(.slice aW ai.length aX)] 33 (0,0)))∧Aside0 (wc.heap[bf]? = some (.cells #[.bool ao,(.slice aY al.length aZ),(.slice a7 aj.length a8)] 33 (0,0)))∧Aside0 (Below w.heap.size w wc))
 case first =>
  have H:=HC3.out;clear HC3
  by_cases c6 : (am != ao)=true
  ·
   rw [if_pos c6] at H
   have bh : (am != ao)=true:=c6
   (try (have bC : decide (am=ao)=false:=by simpa using c6))
   (try (have bD : (am == ao)=false:=by simpa using c6))
   (try (have bI : ¬ (am=ao):=by simpa using c6))
   clear c6
   (first|rw [bh]|(simp only [i64_w,i32_w];rw [bh])|skip)
   have H' := zm H
   clear H
   have:=ag.out
   have:=ah.out
   obtain ⟨_,_,_,_,_,_⟩:=yc3 aa
   obtain ⟨_,_,_,_,_,_⟩:=yc3 ap
   go_wp2
   repeat (go_quiet (fail);try go_wp2)
   go_meet
   case rel=>exact ⟨_,(true),yq,H',⟨yo⟩,⟨yk aa⟩,⟨yk ap⟩,⟨yhb⟩⟩
  rw [if_neg c6] at H
  have bh : (am != ao)=false:=by simpa using c6
  (try (have bC : decide (am=ao)=true:=by simpa using c6))
  (try (have bD : (am == ao)=true:=by simpa using c6))
  clear c6
  (first|rw [bh]|(simp only [i64_w,i32_w];rw [bh])|skip)
  obtain ⟨bp,A10,H⟩:=ybi H
  by_cases c11 : bp=true
  ·
   subst c11
   rw [if_pos rfl] at H
   have H' := zm H
   clear H
   have:=ag.out
   have:=ah.out
   obtain ⟨_,_,_,_,_,_⟩:=yc3 aa
   obtain ⟨_,_,_,_,_,_⟩:=yc3 ap
   go_wp2_with (first|(go_at_call 24;(with_reducible refine (r12_Same.calls k _ _ ak _ _ al true _ ?ac aI.out ?ae aK.out A10.out).mono ?_);(case ac=>exact ycb aH);(case ae=>exact ycb aJ);rintro e w' ⟨rfl,⟨nd,rfl⟩⟩;(try exact yww)))
   repeat (go_quiet (first|(go_at_call 24;(with_reducible refine (r12_Same.calls k _ _ ak _ _ al true _ ?ac aI.out ?ae aK.out A10.out).mono ?_);(case ac=>exact ycb aH);(case ae=>exact ycb aJ);rintro e w' ⟨rfl,⟨nd,rfl⟩⟩;(try exact yww)));try go_wp2_with (first|(go_at_call 24;(with_reducible refine (r12_Same.calls k _ _ ak _ _ al true _ ?ac aI.out ?ae aK.out A10.out).mono ?_);(case ac=>exact ycb aH);(case ae=>exact ycb aJ);rintro e w' ⟨rfl,⟨nd,rfl⟩⟩;(try exact yww))))
   go_meet
   case rel=>exact ⟨_,(((ai.length : Int) != (aj.length : Int))),yq,H',⟨yo⟩,⟨yk aa⟩,⟨yk ap⟩,⟨yhb⟩⟩
  replace c11:=Bool.eq_false_iff.mpr c11
  subst c11
  rw [ynf] at H
  have H' := zm H
  clear H
  have:=ag.out
  have:=ah.out
  obtain ⟨_,_,_,_,_,_⟩:=yc3 aa
  obtain ⟨_,_,_,_,_,_⟩:=yc3 ap
  go_wp2_with (first|(go_at_call 24;(with_reducible refine (r12_Same.calls k _ _ ak _ _ al false _ ?ac aI.out ?ae aK.out A10.out).mono ?_);(case ac=>exact ycb aH);(case ae=>exact ycb aJ);rintro e w' ⟨rfl,⟨nd,rfl⟩⟩;(try exact yww)))
  repeat (go_quiet (first|(go_at_call 24;(with_reducible refine (r12_Same.calls k _ _ ak _ _ al false _ ?ac aI.out ?ae aK.out A10.out).mono ?_);(case ac=>exact ycb aH);(case ae=>exact ycb aJ);rintro e w' ⟨rfl,⟨nd,rfl⟩⟩;(try exact yww)));try go_wp2_with (first|(go_at_call 24;(with_reducible refine (r12_Same.calls k _ _ ak _ _ al false _ ?ac aI.out ?ae aK.out A10.out).mono ?_);(case ac=>exact ycb aH);(case ae=>exact ycb aJ);rintro e w' ⟨rfl,⟨nd,rfl⟩⟩;(try exact yww))))
  go_meet
  case rel=>exact ⟨_,(true),yq,H',⟨yo⟩,⟨yk aa⟩,⟨yk ap⟩,⟨yhb⟩⟩
 case rest =>
  clear HC3
  obtain ⟨kq,bg,rfl,HA,HJ2,aa,ap,HB⟩:=hcut
  obtain ⟨kj2,rfl⟩:=ysu kq (fun h=>by subst h;exact absurd HA.out (by simp [r13_Same.j0]))
  have H:=HA.out;clear HA
  simp only [r13_Same.j0] at H
  by_cases c18 : bg=true
  ·
   subst c18
   rw [if_pos rfl] at H
   obtain rfl:=Option.some.inj H
   go_wp2
   repeat (go_quiet (fail);try go_wp2)
   go_ret
   exact ⟨ye,yhb⟩
  replace c18:=Bool.eq_false_iff.mpr c18
  subst c18
  rw [ynf] at H
  have H' := zm H
  clear H
  go_wp2
  repeat (go_quiet (fail);try go_wp2)
  go_loopg [5] kj2 (fun kq v5 w' => ∃ (af : Int),v5=.int .i64 af∧Aside0 (r13_Same.l0 kq af am ak ai ao al aj=some r)∧Aside0 (kq≤kj2)∧Aside0 (w'.heap[bd]? = some (.cells #[.bool am,(.slice aU ak.length aV),(.slice aW ai.length aX)] 33 (0,0)))∧Aside0 (w'.heap[bf]? = some (.cells #[.bool ao,(.slice aY al.length aZ),(.slice a7 aj.length a8)] 33 (0,0)))∧Aside0 (Below w.heap.size w w'))
  case atStart=>exact ⟨(0),yq,H',⟨Nat.le_refl _⟩,⟨yk aa⟩,⟨yk ap⟩,⟨yhb⟩⟩
  case round =>
   clear H'
   obtain ⟨af,rfl,HA,HK2,aa,ap,HB⟩:=hrel
   obtain ⟨k2,rfl⟩:=ysu gk (fun h=>by subst h;exact absurd HA.out (by simp [r13_Same.l0]))
   have H:=HA.out;clear HA
   simp only [r13_Same.l0] at H
   by_cases c19 : af < (ai.length : Int)
   ·
    rw [if_pos c19] at H
    have bz:=yD c19
    clear c19
    obtain ⟨c20,H⟩:=yif H
    have bG : decide (0≤af)=true:=decide_eq_true c20
    clear c20
    obtain ⟨c21,H⟩:=yif H
    have bH : decide (af < (aj.length : Int))=true:=decide_eq_true c21
    clear c21
    obtain ⟨bo,A22,H⟩:=ybi H
    by_cases c23 : bo=true
    ·
     subst c23
     rw [if_pos rfl] at H
     have H' := zm H
     clear H
     have:=ag.out
     have:=ah.out
     obtain ⟨_,_,_,_,_,_⟩:=yc3 aa
     have a9 : 0≤(af : Int):=yt
     have ba : af < (ai.length : Int):=yt
     obtain ⟨bA,bq,br,bs,az,aA,aC⟩:=at_L2 bi.out af a9 ba
     cases bs
     replace az:=yhx HB az
     have aq:=zm aC;have au:=zm aA;clear aC aA
     replace a9:=eq_true a9
     replace ba:=eq_true ba
     obtain ⟨_,_,_,_,_,_⟩:=yc3 ap
     have bb : 0≤(af : Int):=yt
     have bc : af < (aj.length : Int):=yt
     obtain ⟨bB,bv,bw,bx,aD,aE,aG⟩:=at_L2 bj.out af bb bc
     cases bx
     replace aD:=yhx HB aD
     have av:=zm aG;have aw:=zm aE;clear aG aE
     replace bb:=eq_true bb
     replace bc:=eq_true bc
     go_wp2_with (first|(go_at_call 24;(with_reducible refine (r12_Same.calls k2 _ _ (rd_L2 ai af) _ _ (rd_L2 aj af) true _ ?ac au.out ?ae aw.out A22.out).mono ?_);(case ac=>exact ycb aq);(case ae=>exact ycb av);rintro e w' ⟨rfl,⟨nd,rfl⟩⟩;(try exact yww)))
     repeat (go_quiet (first|(go_at_call 24;(with_reducible refine (r12_Same.calls k2 _ _ (rd_L2 ai af) _ _ (rd_L2 aj af) true _ ?ac au.out ?ae aw.out A22.out).mono ?_);(case ac=>exact ycb aq);(case ae=>exact ycb av);rintro e w' ⟨rfl,⟨nd,rfl⟩⟩;(try exact yww)));try go_wp2_with (first|(go_at_call 24;(with_reducible refine (r12_Same.calls k2 _ _ (rd_L2 ai af) _ _ (rd_L2 aj af) true _ ?ac au.out ?ae aw.out A22.out).mono ?_);(case ac=>exact ycb aq);(case ae=>exact ycb av);rintro e w' ⟨rfl,⟨nd,rfl⟩⟩;(try exact yww))))
     go_roundg k2
     case measure=>exact yom2 HJ2 HK2
     case rel=>exact ⟨(wrap64 (af+1)),yq,H',⟨yom2 HJ2 HK2⟩,⟨yk aa⟩,⟨yk ap⟩,⟨yhb⟩⟩
    replace c23:=Bool.eq_false_iff.mpr c23
    subst c23
    rw [ynf] at H
    obtain rfl:=Option.some.inj H
    have:=ag.out
    have:=ah.out
    obtain ⟨_,_,_,_,_,_⟩:=yc3 aa
    have a9 : 0≤(af : Int):=yt
    have ba : af < (ai.length : Int):=yt
    obtain ⟨bA,bq,br,bs,az,aA,aC⟩:=at_L2 bi.out af a9 ba
    cases bs
    replace az:=yhx HB az
    have aq:=zm aC;have au:=zm aA;clear aC aA
    replace a9:=eq_true a9
    replace ba:=eq_true ba
    obtain ⟨_,_,_,_,_,_⟩:=yc3 ap
    have bb : 0≤(af : Int):=yt
    have bc : af < (aj.length : Int):=yt
    obtain ⟨bB,bv,bw,bx,aD,aE,aG⟩:=at_L2 bj.out af bb bc
    cases bx
    replace aD:=yhx HB aD
    have av:=zm aG;have aw:=zm aE;clear aG aE
    replace bb:=eq_true bb
    replace bc:=eq_true bc
    go_wp2_with (first|(go_at_call 24;(with_reducible refine (r12_Same.calls k2 _ _ (rd_L2 ai af) _ _ (rd_L2 aj af) false _ ?ac au.out ?ae aw.out A22.out).mono ?_);(case ac=>exact ycb aq);(case ae=>exact ycb av);rintro e w' ⟨rfl,⟨nd,rfl⟩⟩;(try exact yww)))
    repeat (go_quiet (first|(go_at_call 24;(with_reducible refine (r12_Same.calls k2 _ _ (rd_L2 ai af) _ _ (rd_L2 aj af) false _ ?ac au.out ?ae aw.out A22.out).mono ?_);(case ac=>exact ycb aq);(case ae=>exact ycb av);rintro e w' ⟨rfl,⟨nd,rfl⟩⟩;(try exact yww)));try go_wp2_with (first|(go_at_call 24;(with_reducible refine (r12_Same.calls k2 _ _ (rd_L2 ai af) _ _ (rd_L2 aj af) false _ ?ac au.out ?ae aw.out A22.out).mono ?_);(case ac=>exact ycb aq);(case ae=>exact ycb av);rintro e w' ⟨rfl,⟨nd,rfl⟩⟩;(try exact yww))))
    go_ret
    exact ⟨ye,yhb⟩
   rw [if_neg c19] at H
   have bz:=yG c19
   clear c19
   obtain rfl:=Option.some.inj H
   have:=ag.out
   have:=ah.out
   obtain ⟨_,_,_,_,_,_⟩:=yc3 aa
   go_wp2
   repeat (go_quiet (fail);try go_wp2)
   go_ret
   exact ⟨ye,yhb⟩
def w13_knows.f (k : Nat)  : Option (Bool):=(some (([(([0,0,0,0,0] : List Int))] : List (List Int)) : List (List Int))).bind fun af=>((some (([(([(([0] : List Int)),(([0] : List Int)),(([0,0] : List Int)),(([0,0,0,0] : List Int)),(([0,0,0,0,0,0,0,0] : List Int))] : List (List Int)))] : List (List (List Int))) : List (List (List Int)))).bind fun ac=>((cpack_Write.f k 11 1 true af ac ([] : List (List Int))).bind fun au=>((cpack_Read.f k 11 1 au.1 ([] : List (List Int))).bind fun ak=>((cpack_Read.f k 11 1 (List.replicate 11 0) (([(([9,2,3,4,5] : List Int))] : List (List Int)))).bind fun ah=>(if (au.1.length : Int)=11 then (if au.2=0 then ((w13_As.f ak.1 ak.2.1 ak.2.2.1).bind fun ai=>((w13_As.f true af ac).bind fun aj=>((r13_Same.f k ai.1 ai.2.1 ai.2.2 aj.1 aj.2.1 aj.2.2).bind fun a8=>(if a8=true then (if ak.2.2.2=0 then (if ah.1=true then (none) else ((r12_Same.f k ah.2.1 (([(([6,0,0,1,2] : List Int))] : List (List Int)))).bind fun aU=>(if aU=true then (if ah.2.2.2=0 then ((cpack_Right.f k 11 1 true af ac).bind fun aQ=>(some aQ)) else (none)) else (none)))) else (none)) else (none))))) else (none)) else (none))))))
theorem w13_knows.mono : ∀ k,LeO (w13_knows.f k ) (w13_knows.f (k+1) ):=by
 intro  k
 unfold w13_knows.f
 repeat' with_reducible first|apply cpack_Read.mono|apply cpack_Right.mono|apply cpack_Write.mono|apply r12_Same.mono|apply r13_Same.mono|apply yLr|apply yLn|apply yLi|apply yLb|intro _
def w13_knows.T5 : Bool × List (List Nat × List Nat):=(true, [([], []),([0], [0]),([1], [1]),([2], [2]),([3], [3]),([4,3], [3,4]),([3,5], [3,5]),([6,3], [6]),([7], [7]),([8,7,7], [7,8]),([7], [7]),([10,9,7], [7,10]),([9,11,11,7], [7,9,11]),([7,12], [7,12]),([13,12], [13]),([14], [14]),([15,14], [14,15]),([14,16], [14,16]),([17,14], [17]),([18], [18]),([19,18], [18,19]),([20,18], [18,20]),([18,21], [18,21]),([22,18], [22]),([23], [23]),([24,23], [23,24]),([23], [23]),([26,23], [23,26]),([25,27,23,23], [23,25,27]),([23,28], [23,28]),([29,28], [29]),([30], [30]),([31,30], [30,31]),([30,32], [30,32]),([33,30], [33]),([34], [34]),([35,34,34], [34,35]),([34,36], [34,36]),([37,36,0,1,2,3,4,5,6,7,8,9,10,11,12,13,14,15,16,17,18,19,20,21,22,23,24,25,26,27,28,29,30,31,32,33,34,35,36,37], [37])])
def w13_knows.B5 : List Nat := [0,1,3,7,15,31,63,127,255,511,255,2047,4095,8191,16383,32767,65535,131071,262143,524287,1048575,2097151,4194303,8388607,16777215,33554431,16777215,83886079,268435455,536870911,1073741823,2147483647,4294967295,8589934591,17179869183,34359738367,68719476735,137438953471,274877906943]
theorem w13_knows.tab5 : rtab .any (opsOf Try.f11 5)=w13_knows.T5:=by kernel_rfl
theorem w13_knows.bits5 : waitsOk w13_knows.T5.2 w13_knows.B5=true:=by kernel_rfl
set_option maxHeartbeats 8000000 in
set_option maxRecDepth 100000 in
theorem w13_knows.calls (k : Nat)  (r : Bool) (w : World) (h : w13_knows.f k  = some r) :
  Calls Try.prog 11 #[] w fun e w' => e=.returned (.bool r)∧Below w.heap.size w w' := by
 have hu25:=Try.underlying25;have HB:=zm (Below.refl w.heap.size w);have H:=h
 unfold w13_knows.f at H
 clear h
 obtain ⟨bO,cf⟩ : ∃ y_ : List Int,y_=(([0,0,0,0,0] : List Int)):=⟨_,rfl⟩
 replace H : ((some (([bO] : List (List Int)) : List (List Int))).bind fun af=>((some (([(([(([0] : List Int)),(([0] : List Int)),(([0,0] : List Int)),(([0,0,0,0] : List Int)),(([0,0,0,0,0,0,0,0] : List Int))] : List (List Int)))] : List (List (List Int))) : List (List (List Int)))).bind fun ac=>((cpack_Write.f k 11 1 true af ac ([] : List (List Int))).bind fun au=>((cpack_Read.f k 11 1 au.1 ([] : List (List Int))).bind fun ak=>((cpack_Read.f k 11 1 (List.replicate 11 0) (([(([9,2,3,4,5] : List Int))] : List (List Int)))).bind fun ah=>(if (au.1.length : Int)=11 then (if au.2=0 then ((w13_As.f ak.1 ak.2.1 ak.2.2.1).bind fun ai=>((w13_As.f true af ac).bind fun aj=>((r13_Same.f k ai.1 ai.2.1 ai.2.2 aj.1 aj.2.1 aj.2.2).bind fun a8=>(if a8=true then (if ak.2.2.2=0 then (if ah.1=true then (none) else ((r12_Same.f k ah.2.1 (([(([6,0,0,1,2] : List Int))] : List (List Int)))).bind fun aU=>(if aU=true then (if ah.2.2.2=0 then ((cpack_Right.f k 11 1 true af ac).bind fun aQ=>(some aQ)) else (none)) else (none)))) else (none)) else (none))))) else (none)) else (none)))))))=some r:=yrw cf H
 have cg:=zm cf;clear cf
 obtain ⟨af,ch⟩ : ∃ y_ : List (List Int),y_=(([bO] : List (List Int))):=⟨_,rfl⟩
 replace H : ((some (([(([(([0] : List Int)),(([0] : List Int)),(([0,0] : List Int)),(([0,0,0,0] : List Int)),(([0,0,0,0,0,0,0,0] : List Int))] : List (List Int)))] : List (List (List Int))) : List (List (List Int)))).bind fun ac=>((cpack_Write.f k 11 1 true af ac ([] : List (List Int))).bind fun au=>((cpack_Read.f k 11 1 au.1 ([] : List (List Int))).bind fun ak=>((cpack_Read.f k 11 1 (List.replicate 11 0) (([(([9,2,3,4,5] : List Int))] : List (List Int)))).bind fun ah=>(if (au.1.length : Int)=11 then (if au.2=0 then ((w13_As.f ak.1 ak.2.1 ak.2.2.1).bind fun ai=>((w13_As.f true af ac).bind fun aj=>((r13_Same.f k ai.1 ai.2.1 ai.2.2 aj.1 aj.2.1 aj.2.2).bind fun a8=>(if a8=true then (if ak.2.2.2=0 then (if ah.1=true then (none) else ((r12_Same.f k ah.2.1 (([(([6,0,0,1,2] : List Int))] : List (List Int)))).bind fun aU=>(if aU=true then (if ah.2.2.2=0 then ((cpack_Right.f k 11 1 true af ac).bind fun aQ=>(some aQ)) else (none)) else (none)))) else (none)) else (none))))) else (none)) else (none))))))=some r:=yrw ch H
 have ci:=zm ch;clear ch
 obtain ⟨bA,cj⟩ : ∃ y_ : List Int,y_=(([0] : List Int)):=⟨_,rfl⟩
 replace H : ((some (([(([bA,(([0] : List Int)),(([0,0] : List Int)),(([0,0,0,0] : List Int)),(([0,0,0,0,0,0,0,0] : List Int))] : List (List Int)))] : List (List (List Int))) : List (List (List Int)))).bind fun ac=>((cpack_Write.f k 11 1 true af ac ([] : List (List Int))).bind fun au=>((cpack_Read.f k 11 1 au.1 ([] : List (List Int))).bind fun ak=>((cpack_Read.f k 11 1 (List.replicate 11 0) (([(([9,2,3,4,5] : List Int))] : List (List Int)))).bind fun ah=>(if (au.1.length : Int)=11 then (if au.2=0 then ((w13_As.f ak.1 ak.2.1 ak.2.2.1).bind fun ai=>((w13_As.f true af ac).bind fun aj=>((r13_Same.f k ai.1 ai.2.1 ai.2.2 aj.1 aj.2.1 aj.2.2).bind fun a8=>(if a8=true then (if ak.2.2.2=0 then (if ah.1=true then (none) else ((r12_Same.f k ah.2.1 (([(([6,0,0,1,2] : List Int))] : List (List Int)))).bind fun aU=>(if aU=true then (if ah.2.2.2=0 then ((cpack_Right.f k 11 1 true af ac).bind fun aQ=>(some aQ)) else (none)) else (none)))) else (none)) else (none))))) else (none)) else (none))))))=some r:=yrw cj H
 have ck:=zm cj;clear cj
 obtain ⟨bE,cl⟩ : ∃ y_ : List Int,y_=(([0] : List Int)):=⟨_,rfl⟩
 replace H : ((some (([(([bA,bE,(([0,0] : List Int)),(([0,0,0,0] : List Int)),(([0,0,0,0,0,0,0,0] : List Int))] : List (List Int)))] : List (List (List Int))) : List (List (List Int)))).bind fun ac=>((cpack_Write.f k 11 1 true af ac ([] : List (List Int))).bind fun au=>((cpack_Read.f k 11 1 au.1 ([] : List (List Int))).bind fun ak=>((cpack_Read.f k 11 1 (List.replicate 11 0) (([(([9,2,3,4,5] : List Int))] : List (List Int)))).bind fun ah=>(if (au.1.length : Int)=11 then (if au.2=0 then ((w13_As.f ak.1 ak.2.1 ak.2.2.1).bind fun ai=>((w13_As.f true af ac).bind fun aj=>((r13_Same.f k ai.1 ai.2.1 ai.2.2 aj.1 aj.2.1 aj.2.2).bind fun a8=>(if a8=true then (if ak.2.2.2=0 then (if ah.1=true then (none) else ((r12_Same.f k ah.2.1 (([(([6,0,0,1,2] : List Int))] : List (List Int)))).bind fun aU=>(if aU=true then (if ah.2.2.2=0 then ((cpack_Right.f k 11 1 true af ac).bind fun aQ=>(some aQ)) else (none)) else (none)))) else (none)) else (none))))) else (none)) else (none))))))=some r:=yrw cl H
 have cm:=zm cl;clear cl
 obtain ⟨bI,cn⟩ : ∃ y_ : List Int,y_=(([0,0] : List Int)):=⟨_,rfl⟩
 replace H : ((some (([(([bA,bE,bI,(([0,0,0,0] : List Int)),(([0,0,0,0,0,0,0,0] : List Int))] : List (List Int)))] : List (List (List Int))) : List (List (List Int)))).bind fun ac=>((cpack_Write.f k 11 1 true af ac ([] : List (List Int))).bind fun au=>((cpack_Read.f k 11 1 au.1 ([] : List (List Int))).bind fun ak=>((cpack_Read.f k 11 1 (List.replicate 11 0) (([(([9,2,3,4,5] : List Int))] : List (List Int)))).bind fun ah=>(if (au.1.length : Int)=11 then (if au.2=0 then ((w13_As.f ak.1 ak.2.1 ak.2.2.1).bind fun ai=>((w13_As.f true af ac).bind fun aj=>((r13_Same.f k ai.1 ai.2.1 ai.2.2 aj.1 aj.2.1 aj.2.2).bind fun a8=>(if a8=true then (if ak.2.2.2=0 then (if ah.1=true then (none) else ((r12_Same.f k ah.2.1 (([(([6,0,0,1,2] : List Int))] : List (List Int)))).bind fun aU=>(if aU=true then (if ah.2.2.2=0 then ((cpack_Right.f k 11 1 true af ac).bind fun aQ=>(some aQ)) else (none)) else (none)))) else (none)) else (none))))) else (none)) else (none))))))=some r:=yrw cn H
 have co:=zm cn;clear cn
 obtain ⟨bL,cp⟩ : ∃ y_ : List Int,y_=(([0,0,0,0] : List Int)):=⟨_,rfl⟩
 replace H : ((some (([(([bA,bE,bI,bL,(([0,0,0,0,0,0,0,0] : List Int))] : List (List Int)))] : List (List (List Int))) : List (List (List Int)))).bind fun ac=>((cpack_Write.f k 11 1 true af ac ([] : List (List Int))).bind fun au=>((cpack_Read.f k 11 1 au.1 ([] : List (List Int))).bind fun ak=>((cpack_Read.f k 11 1 (List.replicate 11 0) (([(([9,2,3,4,5] : List Int))] : List (List Int)))).bind fun ah=>(if (au.1.length : Int)=11 then (if au.2=0 then ((w13_As.f ak.1 ak.2.1 ak.2.2.1).bind fun ai=>((w13_As.f true af ac).bind fun aj=>((r13_Same.f k ai.1 ai.2.1 ai.2.2 aj.1 aj.2.1 aj.2.2).bind fun a8=>(if a8=true then (if ak.2.2.2=0 then (if ah.1=true then (none) else ((r12_Same.f k ah.2.1 (([(([6,0,0,1,2] : List Int))] : List (List Int)))).bind fun aU=>(if aU=true then (if ah.2.2.2=0 then ((cpack_Right.f k 11 1 true af ac).bind fun aQ=>(some aQ)) else (none)) else (none)))) else (none)) else (none))))) else (none)) else (none))))))=some r:=yrw cp H
 have cq:=zm cp;clear cp
 obtain ⟨bP,cr⟩ : ∃ y_ : List Int,y_=(([0,0,0,0,0,0,0,0] : List Int)):=⟨_,rfl⟩
 replace H : ((some (([(([bA,bE,bI,bL,bP] : List (List Int)))] : List (List (List Int))) : List (List (List Int)))).bind fun ac=>((cpack_Write.f k 11 1 true af ac ([] : List (List Int))).bind fun au=>((cpack_Read.f k 11 1 au.1 ([] : List (List Int))).bind fun ak=>((cpack_Read.f k 11 1 (List.replicate 11 0) (([(([9,2,3,4,5] : List Int))] : List (List Int)))).bind fun ah=>(if (au.1.length : Int)=11 then (if au.2=0 then ((w13_As.f ak.1 ak.2.1 ak.2.2.1).bind fun ai=>((w13_As.f true af ac).bind fun aj=>((r13_Same.f k ai.1 ai.2.1 ai.2.2 aj.1 aj.2.1 aj.2.2).bind fun a8=>(if a8=true then (if ak.2.2.2=0 then (if ah.1=true then (none) else ((r12_Same.f k ah.2.1 (([(([6,0,0,1,2] : List Int))] : List (List Int)))).bind fun aU=>(if aU=true then (if ah.2.2.2=0 then ((cpack_Right.f k 11 1 true af ac).bind fun aQ=>(some aQ)) else (none)) else (none)))) else (none)) else (none))))) else (none)) else (none))))))=some r:=yrw cr H
 have ct:=zm cr;clear cr
 obtain ⟨bQ,cu⟩ : ∃ y_ : List (List Int),y_=(([bA,bE,bI,bL,bP] : List (List Int))):=⟨_,rfl⟩
 replace H : ((some (([bQ] : List (List (List Int))) : List (List (List Int)))).bind fun ac=>((cpack_Write.f k 11 1 true af ac ([] : List (List Int))).bind fun au=>((cpack_Read.f k 11 1 au.1 ([] : List (List Int))).bind fun ak=>((cpack_Read.f k 11 1 (List.replicate 11 0) (([(([9,2,3,4,5] : List Int))] : List (List Int)))).bind fun ah=>(if (au.1.length : Int)=11 then (if au.2=0 then ((w13_As.f ak.1 ak.2.1 ak.2.2.1).bind fun ai=>((w13_As.f true af ac).bind fun aj=>((r13_Same.f k ai.1 ai.2.1 ai.2.2 aj.1 aj.2.1 aj.2.2).bind fun a8=>(if a8=true then (if ak.2.2.2=0 then (if ah.1=true then (none) else ((r12_Same.f k ah.2.1 (([(([6,0,0,1,2] : List Int))] : List (List Int)))).bind fun aU=>(if aU=true then (if ah.2.2.2=0 then ((cpack_Right.f k 11 1 true af ac).bind fun aQ=>(some aQ)) else (none)) else (none)))) else (none)) else (none))))) else (none)) else (none))))))=some r:=yrw cu H
 have cv:=zm cu;clear cu
 obtain ⟨ac,cw⟩ : ∃ y_ : List (List (List Int)),y_=(([bQ] : List (List (List Int)))):=⟨_,rfl⟩
 replace H : ((cpack_Write.f k 11 1 true af ac ([] : List (List Int))).bind fun au=>((cpack_Read.f k 11 1 au.1 ([] : List (List Int))).bind fun ak=>((cpack_Read.f k 11 1 (List.replicate 11 0) (([(([9,2,3,4,5] : List Int))] : List (List Int)))).bind fun ah=>(if (au.1.length : Int)=11 then (if au.2=0 then ((w13_As.f ak.1 ak.2.1 ak.2.2.1).bind fun ai=>((w13_As.f true af ac).bind fun aj=>((r13_Same.f k ai.1 ai.2.1 ai.2.2 aj.1 aj.2.1 aj.2.2).bind fun a8=>(if a8=true then (if ak.2.2.2=0 then (if ah.1=true then (none) else ((r12_Same.f k ah.2.1 (([(([6,0,0,1,2] : List Int))] : List (List Int)))).bind fun aU=>(if aU=true then (if ah.2.2.2=0 then ((cpack_Right.f k 11 1 true af ac).bind fun aQ=>(some aQ)) else (none)) else (none)))) else (none)) else (none))))) else (none)) else (none)))))=some r:=yrw cw H
 have cx:=zm cw;clear cw
 obtain ⟨⟨aD,cy⟩,A1,H⟩:=ybi H
 try dsimp only at H
 obtain ⟨⟨bJ,aE,aG,cz⟩,A2,H⟩:=ybi H
 try dsimp only at H
 obtain ⟨aT,cA⟩ : ∃ y_ : List Int,y_=(List.replicate 11 0):=⟨_,rfl⟩
 replace H : ((cpack_Read.f k 11 1 aT (([(([9,2,3,4,5] : List Int))] : List (List Int)))).bind fun ah=>(if (aD.length : Int)=11 then (if cy=0 then ((w13_As.f bJ aE aG).bind fun ai=>((w13_As.f true af ac).bind fun aj=>((r13_Same.f k ai.1 ai.2.1 ai.2.2 aj.1 aj.2.1 aj.2.2).bind fun a8=>(if a8=true then (if cz=0 then (if ah.1=true then (none) else ((r12_Same.f k ah.2.1 (([(([6,0,0,1,2] : List Int))] : List (List Int)))).bind fun aU=>(if aU=true then (if ah.2.2.2=0 then ((cpack_Right.f k 11 1 true af ac).bind fun aQ=>(some aQ)) else (none)) else (none)))) else (none)) else (none))))) else (none)) else (none)))=some r:=yrw cA H
 have cB:=zm cA;clear cA
 obtain ⟨bR,cC⟩ : ∃ y_ : List Int,y_=(([9,2,3,4,5] : List Int)):=⟨_,rfl⟩
 replace H : ((cpack_Read.f k 11 1 aT (([bR] : List (List Int)))).bind fun ah=>(if (aD.length : Int)=11 then (if cy=0 then ((w13_As.f bJ aE aG).bind fun ai=>((w13_As.f true af ac).bind fun aj=>((r13_Same.f k ai.1 ai.2.1 ai.2.2 aj.1 aj.2.1 aj.2.2).bind fun a8=>(if a8=true then (if cz=0 then (if ah.1=true then (none) else ((r12_Same.f k ah.2.1 (([(([6,0,0,1,2] : List Int))] : List (List Int)))).bind fun aU=>(if aU=true then (if ah.2.2.2=0 then ((cpack_Right.f k 11 1 true af ac).bind fun aQ=>(some aQ)) else (none)) else (none)))) else (none)) else (none))))) else (none)) else (none)))=some r:=yrw cC H
 have cD:=zm cC;clear cC
 obtain ⟨a7,cE⟩ : ∃ y_ : List (List Int),y_=(([bR] : List (List Int))):=⟨_,rfl⟩
 replace H : ((cpack_Read.f k 11 1 aT a7).bind fun ah=>(if (aD.length : Int)=11 then (if cy=0 then ((w13_As.f bJ aE aG).bind fun ai=>((w13_As.f true af ac).bind fun aj=>((r13_Same.f k ai.1 ai.2.1 ai.2.2 aj.1 aj.2.1 aj.2.2).bind fun a8=>(if a8=true then (if cz=0 then (if ah.1=true then (none) else ((r12_Same.f k ah.2.1 (([(([6,0,0,1,2] : List Int))] : List (List Int)))).bind fun aU=>(if aU=true then (if ah.2.2.2=0 then ((cpack_Right.f k 11 1 true af ac).bind fun aQ=>(some aQ)) else (none)) else (none)))) else (none)) else (none))))) else (none)) else (none)))=some r:=yrw cE H
 have cF:=zm cE;clear cE
 obtain ⟨⟨em,aV,a9,cN⟩,A3,H⟩:=ybi H
 try dsimp only at H
 by_cases c4 : (aD.length : Int)=11
 ·
  rw [if_pos c4] at H
  obtain ⟨dC,dD⟩:=yE c4
  clear c4
  by_cases c5 : cy=0
  ·
   rw [if_pos c5] at H
   obtain ⟨dE,dF⟩:=yE c5
   clear c5
   obtain ⟨⟨cP,cQ,cR⟩,A6,H⟩:=ybi H
   try dsimp only at H
   obtain ⟨⟨cS,cT,cU⟩,A7,H⟩:=ybi H
   try dsimp only at H
   obtain ⟨a8,A8,H⟩:=ybi H
   obtain ⟨c9,H⟩:=yif H
   subst c9
   by_cases c10 : cz=0
   ·
    rw [if_pos c10] at H
    obtain ⟨cV,cW⟩:=yE c10
    clear c10
    obtain ⟨c11,H⟩:=yie H
    replace c11:=Bool.eq_false_iff.mpr c11
    subst c11
    obtain ⟨bS,cG⟩ : ∃ y_ : List Int,y_=(([6,0,0,1,2] : List Int)):=⟨_,rfl⟩
    replace H : ((r12_Same.f k aV (([bS] : List (List Int)))).bind fun aU=>(if aU=true then (if cN=0 then ((cpack_Right.f k 11 1 true af ac).bind fun aQ=>(some aQ)) else (none)) else (none)))=some r:=yrw cG H
    have cH:=zm cG;clear cG
    obtain ⟨cO,cI⟩ : ∃ y_ : List (List Int),y_=(([bS] : List (List Int))):=⟨_,rfl⟩
    replace H : ((r12_Same.f k aV cO).bind fun aU=>(if aU=true then (if cN=0 then ((cpack_Right.f k 11 1 true af ac).bind fun aQ=>(some aQ)) else (none)) else (none)))=some r:=yrw cI H
    have cJ:=zm cI;clear cI
    obtain ⟨aU,A12,H⟩:=ybi H
    obtain ⟨c13,H⟩:=yif H
    subst c13
    by_cases c14 : cN=0
    ·
     rw [if_pos c14] at H
     obtain ⟨cX,cY⟩:=yE c14
     clear c14
     obtain ⟨aQ,A15,H⟩:=ybi H
     obtain rfl:=Option.some.inj H
     go_enter Try.func11,Try.ntmps11
     try go_wp2_with (first|((with_reducible refine gate_dst (N:=8) rfl ?_);(try (refine gate_guard (by rfl) ?_;dsimp only));refine Kd.R_lit (Kd.int .i64) _ 3 ?hg (N:=8) ?hd (xs:=([0,0,0,0,0] : List Int)) (inner := [.int .i64 0, .int .i64 0, .int .i64 0, .int .i64 0, .int .i64 0]) (ok:=fun _=>True) (okp:=fun _=>True) ?hr ?hp (fun _ hk=>hk) trivial (Below.refl _ _) (Nat.le_refl _) (by simp) ?_;(case hd=>rfl);(case hg=>rfl);(case hr=>first|(go_simp;done)|(go_simp;rfl));(case hp=>exact (Reps.one (show Kd.M (Kd.int .i64) _ _ _ 0 [.int .i64 0] from rfl) (Reps.one (show Kd.M (Kd.int .i64) _ _ _ 0 [.int .i64 0] from rfl) (Reps.one (show Kd.M (Kd.int .i64) _ _ _ 0 [.int .i64 0] from rfl) (Reps.one (show Kd.M (Kd.int .i64) _ _ _ 0 [.int .i64 0] from rfl) (Reps.one (show Kd.M (Kd.int .i64) _ _ _ 0 [.int .i64 0] from rfl) (Reps.none _ _)))))));intro en w16 b5 hb hg_ hnew_;clear hg_ hnew_;(first|rw [← cg.out] at b5|(simp only [Int.reduceToNat] at b5;rw [← cg.out] at b5)|rw [show (List.replicate (Int.toNat 11) (0 : Int))=bO from cg.out.symm] at b5);have bW:=zm (Kd.R_lower b5 (zE yhb));replace HB:=ybs hb;clear hb b5;obtain ⟨cZ,da,dG⟩:=Kd.R_slice bW.out;subst dG)|((with_reducible refine gate_dst (N:=9) rfl ?_);(try (refine gate_guard (by rfl) ?_;dsimp only));refine Kd.N_lit (Kd.slice 3 (Kd.int .i64)) _ 49 ?hg (N' := 9) ?hd (xs:=([bO] : List (List Int))) (inner := [.slice cZ bO.length da]) (ok:=(fun _=>True)) (okp:=(fun _=>True)) ?hr ?hp (fun _ hk=>hk) ((show ∀ k_,w16.heap.size≤k_→(fun _=>True) k_ from fun k_ hk=>trivial) _ (Nat.le_refl _)) (Below.refl _ _) (Nat.le_refl _) (by simp) ?_;(case hd=>rfl);(case hg=>rfl);(case hr=>first|(go_simp;done)|(go_simp;rfl));(case hp=>exact (Reps.one (show Kd.FK (Kd.slice 3 (Kd.int .i64)) _ _ bO [.slice cZ bO.length da] from (Kd.FK_slice_mk (Kd.R_reads' (zG (ok' := (fun _=>True)) (bW.out) (fun k_ hk=>trivial))).2.1 (Kd.R_F (zG (ok' := (fun _=>True)) (bW.out) (fun k_ hk=>trivial))))) (Reps.none _ _)));intro bp w19 b6 hb hg_ hnew_;clear hg_ hnew_;(first|rw [← ci.out] at b6|(simp only [Int.reduceToNat] at b6;rw [← ci.out] at b6)|rw [show (List.replicate (Int.toNat 11) (0 : Int))=af from ci.out.symm] at b6);have aa:=zm (Kd.N_lower b6 (zE yhb));replace HB:=ybs hb;clear bW;clear hb b6)|((with_reducible refine gate_dst (N:=10) rfl ?_);(try (refine gate_guard (by rfl) ?_;dsimp only));refine Kd.R_lit (Kd.int .i64) _ 3 ?hg (N:=10) ?hd (xs:=([0] : List Int)) (inner := [.int .i64 0]) (ok:=fun _=>True) (okp:=fun _=>True) ?hr ?hp (fun _ hk=>hk) trivial (Below.refl _ _) (Nat.le_refl _) (by simp) ?_;(case hd=>rfl);(case hg=>rfl);(case hr=>first|(go_simp;done)|(go_simp;rfl));(case hp=>exact (Reps.one (show Kd.M (Kd.int .i64) _ _ _ 0 [.int .i64 0] from rfl) (Reps.none _ _)));intro eo w21 bT hb hg_ hnew_;clear hg_ hnew_;(first|rw [← ck.out] at bT|(simp only [Int.reduceToNat] at bT;rw [← ck.out] at bT)|rw [show (List.replicate (Int.toNat 11) (0 : Int))=bA from ck.out.symm] at bT);replace aa:=zm (Kd.N_elder' (yr aa) (Kd.R_base bT) hb);have bc:=zm (Kd.R_lower bT (zE yhb));replace HB:=ybs hb;clear hb bT)|((with_reducible refine gate_dst (N:=11) rfl ?_);(try (refine gate_guard (by rfl) ?_;dsimp only));refine Kd.R_lit (Kd.int .i64) _ 3 ?hg (N:=11) ?hd (xs:=([0] : List Int)) (inner := [.int .i64 0]) (ok:=fun _=>True) (okp:=fun _=>True) ?hr ?hp (fun _ hk=>hk) trivial (Below.refl _ _) (Nat.le_refl _) (by simp) ?_;(case hd=>rfl);(case hg=>rfl);(case hr=>first|(go_simp;done)|(go_simp;rfl));(case hp=>exact (Reps.one (show Kd.M (Kd.int .i64) _ _ _ 0 [.int .i64 0] from rfl) (Reps.none _ _)));intro ep w23 bM hb hg_ hnew_;clear hg_ hnew_;(first|rw [← cm.out] at bM|(simp only [Int.reduceToNat] at bM;rw [← cm.out] at bM)|rw [show (List.replicate (Int.toNat 11) (0 : Int))=bE from cm.out.symm] at bM);replace aa:=zm (Kd.N_elder' (yr aa) (Kd.R_base bM) hb);have bm:=zm (Kd.R_lower (Kd.R_new' bM (Kd.R_lt (yr bc))) (zE yhb));replace bc:=zm (Kd.R_elder' (yr bc) (Kd.R_base bM) hb);replace HB:=ybs hb;clear hb bM)|((with_reducible refine gate_dst (N:=12) rfl ?_);(try (refine gate_guard (by rfl) ?_;dsimp only));refine Kd.R_lit (Kd.int .i64) _ 3 ?hg (N:=12) ?hd (xs:=([0,0] : List Int)) (inner := [.int .i64 0, .int .i64 0]) (ok:=fun _=>True) (okp:=fun _=>True) ?hr ?hp (fun _ hk=>hk) trivial (Below.refl _ _) (Nat.le_refl _) (by simp) ?_;(case hd=>rfl);(case hg=>rfl);(case hr=>first|(go_simp;done)|(go_simp;rfl));(case hp=>exact (Reps.one (show Kd.M (Kd.int .i64) _ _ _ 0 [.int .i64 0] from rfl) (Reps.one (show Kd.M (Kd.int .i64) _ _ _ 0 [.int .i64 0] from rfl) (Reps.none _ _))));intro eq w25 bK hb hg_ hnew_;clear hg_ hnew_;(first|rw [← co.out] at bK|(simp only [Int.reduceToNat] at bK;rw [← co.out] at bK)|rw [show (List.replicate (Int.toNat 11) (0 : Int))=bI from co.out.symm] at bK);replace aa:=zm (Kd.N_elder' (yr aa) (Kd.R_base bK) hb);have bz:=zm (Kd.R_lower (Kd.R_new' (Kd.R_new' bK (Kd.R_lt (yr bc))) (Kd.R_lt (yr bm))) (zE yhb));replace bc:=zm (Kd.R_elder' (yr bc) (Kd.R_base bK) hb);replace bm:=zm (Kd.R_elder' (yr bm) (Kd.R_base bK) hb);replace HB:=ybs hb;clear hb bK)|((with_reducible refine gate_dst (N:=13) rfl ?_);(try (refine gate_guard (by rfl) ?_;dsimp only));refine Kd.R_lit (Kd.int .i64) _ 3 ?hg (N:=13) ?hd (xs:=([0,0,0,0] : List Int)) (inner := [.int .i64 0, .int .i64 0, .int .i64 0, .int .i64 0]) (ok:=fun _=>True) (okp:=fun _=>True) ?hr ?hp (fun _ hk=>hk) trivial (Below.refl _ _) (Nat.le_refl _) (by simp) ?_;(case hd=>rfl);(case hg=>rfl);(case hr=>first|(go_simp;done)|(go_simp;rfl));(case hp=>exact (Reps.one (show Kd.M (Kd.int .i64) _ _ _ 0 [.int .i64 0] from rfl) (Reps.one (show Kd.M (Kd.int .i64) _ _ _ 0 [.int .i64 0] from rfl) (Reps.one (show Kd.M (Kd.int .i64) _ _ _ 0 [.int .i64 0] from rfl) (Reps.one (show Kd.M (Kd.int .i64) _ _ _ 0 [.int .i64 0] from rfl) (Reps.none _ _))))));intro er w27 bF hb hg_ hnew_;clear hg_ hnew_;(first|rw [← cq.out] at bF|(simp only [Int.reduceToNat] at bF;rw [← cq.out] at bF)|rw [show (List.replicate (Int.toNat 11) (0 : Int))=bL from cq.out.symm] at bF);replace aa:=zm (Kd.N_elder' (yr aa) (Kd.R_base bF) hb);have bB:=zm (Kd.R_lower (Kd.R_new' (Kd.R_new' (Kd.R_new' bF (Kd.R_lt (yr bc))) (Kd.R_lt (yr bm))) (Kd.R_lt (yr bz))) (zE yhb));replace bc:=zm (Kd.R_elder' (yr bc) (Kd.R_base bF) hb);replace bm:=zm (Kd.R_elder' (yr bm) (Kd.R_base bF) hb);replace bz:=zm (Kd.R_elder' (yr bz) (Kd.R_base bF) hb);replace HB:=ybs hb;clear hb bF)|((with_reducible refine gate_dst (N:=14) rfl ?_);(try (refine gate_guard (by rfl) ?_;dsimp only));refine Kd.R_lit (Kd.int .i64) _ 3 ?hg (N:=14) ?hd (xs:=([0,0,0,0,0,0,0,0] : List Int)) (inner := [.int .i64 0, .int .i64 0, .int .i64 0, .int .i64 0, .int .i64 0, .int .i64 0, .int .i64 0, .int .i64 0]) (ok:=fun _=>True) (okp:=fun _=>True) ?hr ?hp (fun _ hk=>hk) trivial (Below.refl _ _) (Nat.le_refl _) (by simp) ?_;(case hd=>rfl);(case hg=>rfl);(case hr=>first|(go_simp;done)|(go_simp;rfl));(case hp=>exact (Reps.one (show Kd.M (Kd.int .i64) _ _ _ 0 [.int .i64 0] from rfl) (Reps.one (show Kd.M (Kd.int .i64) _ _ _ 0 [.int .i64 0] from rfl) (Reps.one (show Kd.M (Kd.int .i64) _ _ _ 0 [.int .i64 0] from rfl) (Reps.one (show Kd.M (Kd.int .i64) _ _ _ 0 [.int .i64 0] from rfl) (Reps.one (show Kd.M (Kd.int .i64) _ _ _ 0 [.int .i64 0] from rfl) (Reps.one (show Kd.M (Kd.int .i64) _ _ _ 0 [.int .i64 0] from rfl) (Reps.one (show Kd.M (Kd.int .i64) _ _ _ 0 [.int .i64 0] from rfl) (Reps.one (show Kd.M (Kd.int .i64) _ _ _ 0 [.int .i64 0] from rfl) (Reps.none _ _))))))))));intro es w29 bC hb hg_ hnew_;clear hg_ hnew_;(first|rw [← ct.out] at bC|(simp only [Int.reduceToNat] at bC;rw [← ct.out] at bC)|rw [show (List.replicate (Int.toNat 11) (0 : Int))=bP from ct.out.symm] at bC);replace aa:=zm (Kd.N_elder' (yr aa) (Kd.R_base bC) hb);have bX:=zm (Kd.R_lower (Kd.R_new' (Kd.R_new' (Kd.R_new' (Kd.R_new' bC (Kd.R_lt (yr bc))) (Kd.R_lt (yr bm))) (Kd.R_lt (yr bz))) (Kd.R_lt (yr bB))) (zE yhb));replace bc:=zm (Kd.R_elder' (yr bc) (Kd.R_base bC) hb);replace bm:=zm (Kd.R_elder' (yr bm) (Kd.R_base bC) hb);replace bz:=zm (Kd.R_elder' (yr bz) (Kd.R_base bC) hb);replace bB:=zm (Kd.R_elder' (yr bB) (Kd.R_base bC) hb);replace HB:=ybs hb;clear hb bC;obtain ⟨db,dc,dH⟩:=Kd.R_slice bc.out;subst dH;obtain ⟨dd,de,dI⟩:=Kd.R_slice bm.out;subst dI;obtain ⟨df,dg,dJ⟩:=Kd.R_slice bz.out;subst dJ;obtain ⟨dh,di,dK⟩:=Kd.R_slice bB.out;subst dK;obtain ⟨dj,dk,dL⟩:=Kd.R_slice bX.out;subst dL)|((with_reducible refine gate_dst (N:=15) rfl ?_);(try (refine gate_guard (by rfl) ?_;dsimp only));refine Kd.N_lit (Kd.slice 3 (Kd.int .i64)) _ 49 ?hg (N' := 15) ?hd (xs:=([bA,bE,bI,bL,bP] : List (List Int))) (inner := [.slice db bA.length dc, .slice dd bE.length de, .slice df bI.length dg, .slice dh bL.length di, .slice dj bP.length dk]) (ok:=(fun k_=>some k_≠(bp : Value).ownBlock)) (okp:=(fun k_=>some k_≠(bp : Value).ownBlock)) ?hr ?hp (fun _ hk=>hk) ((show ∀ k_,w29.heap.size≤k_→(fun k_=>some k_≠(bp : Value).ownBlock) k_ from fun k_ hk=>Kd.fresh' (Kd.N_lt (yr aa)) k_ hk) _ (Nat.le_refl _)) (Below.refl _ _) (Nat.le_refl _) (by simp) ?_;(case hd=>rfl);(case hg=>rfl);(case hr=>first|(go_simp;done)|(go_simp;rfl));(case hp=>exact (Reps.one (show Kd.FK (Kd.slice 3 (Kd.int .i64)) _ _ bA [.slice db bA.length dc] from (Kd.FK_slice_mk (Kd.R_reads' (zG (ok' := (fun k_=>some k_≠(bp : Value).ownBlock)) (Kd.R_apart' (bc.out) (Kd.N_typed aa.out) (by decide)) (fun k_ hk=>hk.2))).2.1 (Kd.R_F (zG (ok' := (fun k_=>some k_≠(bp : Value).ownBlock)) (Kd.R_apart' (bc.out) (Kd.N_typed aa.out) (by decide)) (fun k_ hk=>hk.2))))) (Reps.one (show Kd.FK (Kd.slice 3 (Kd.int .i64)) _ _ bE [.slice dd bE.length de] from (Kd.FK_slice_mk (Kd.R_reads' (zG (ok' := (fun k_=>some k_≠(bp : Value).ownBlock)) (Kd.R_apart' (bm.out) (Kd.N_typed aa.out) (by decide)) (fun k_ hk=>hk.2))).2.1 (Kd.R_F (zG (ok' := (fun k_=>some k_≠(bp : Value).ownBlock)) (Kd.R_apart' (bm.out) (Kd.N_typed aa.out) (by decide)) (fun k_ hk=>hk.2))))) (Reps.one (show Kd.FK (Kd.slice 3 (Kd.int .i64)) _ _ bI [.slice df bI.length dg] from (Kd.FK_slice_mk (Kd.R_reads' (zG (ok' := (fun k_=>some k_≠(bp : Value).ownBlock)) (Kd.R_apart' (bz.out) (Kd.N_typed aa.out) (by decide)) (fun k_ hk=>hk.2))).2.1 (Kd.R_F (zG (ok' := (fun k_=>some k_≠(bp : Value).ownBlock)) (Kd.R_apart' (bz.out) (Kd.N_typed aa.out) (by decide)) (fun k_ hk=>hk.2))))) (Reps.one (show Kd.FK (Kd.slice 3 (Kd.int .i64)) _ _ bL [.slice dh bL.length di] from (Kd.FK_slice_mk (Kd.R_reads' (zG (ok' := (fun k_=>some k_≠(bp : Value).ownBlock)) (Kd.R_apart' (bB.out) (Kd.N_typed aa.out) (by decide)) (fun k_ hk=>hk.2))).2.1 (Kd.R_F (zG (ok' := (fun k_=>some k_≠(bp : Value).ownBlock)) (Kd.R_apart' (bB.out) (Kd.N_typed aa.out) (by decide)) (fun k_ hk=>hk.2))))) (Reps.one (show Kd.FK (Kd.slice 3 (Kd.int .i64)) _ _ bP [.slice dj bP.length dk] from (Kd.FK_slice_mk (Kd.R_reads' (zG (ok' := (fun k_=>some k_≠(bp : Value).ownBlock)) (Kd.R_apart' (bX.out) (Kd.N_typed aa.out) (by decide)) (fun k_ hk=>hk.2))).2.1 (Kd.R_F (zG (ok' := (fun k_=>some k_≠(bp : Value).ownBlock)) (Kd.R_apart' (bX.out) (Kd.N_typed aa.out) (by decide)) (fun k_ hk=>hk.2))))) (Reps.none _ _)))))));intro et w36 bU hb hg_ hnew_;clear hg_ hnew_;(first|rw [← cv.out] at bU|(simp only [Int.reduceToNat] at bU;rw [← cv.out] at bU)|rw [show (List.replicate (Int.toNat 11) (0 : Int))=bQ from cv.out.symm] at bU);replace aa:=zm (Kd.N_elder' (yr aa) (Kd.N_base bU) hb);have bY:=zm (Kd.N_lower bU (zE yhb));replace HB:=ybs hb;clear bc;clear bm;clear bz;clear bB;clear bX;clear hb bU;obtain ⟨dl,dm,dM⟩:=Kd.N_slice bY.out;subst dM)|((with_reducible refine gate_dst (N:=16) rfl ?_);(try (refine gate_guard (by rfl) ?_;dsimp only));refine Kd.N_lit (Kd.slice 49 (Kd.slice 3 (Kd.int .i64))) _ 22 ?hg (N' := 16) ?hd (xs:=([bQ] : List (List (List Int)))) (inner := [.slice dl bQ.length dm]) (ok:=(fun k_=>some k_≠(bp : Value).ownBlock)) (okp:=(fun k_=>some k_≠(bp : Value).ownBlock)) ?hr ?hp (fun _ hk=>hk) ((show ∀ k_,w36.heap.size≤k_→(fun k_=>some k_≠(bp : Value).ownBlock) k_ from fun k_ hk=>Kd.fresh' (Kd.N_lt (yr aa)) k_ hk) _ (Nat.le_refl _)) (Below.refl _ _) (Nat.le_refl _) (by simp) ?_;(case hd=>rfl);(case hg=>rfl);(case hr=>first|(go_simp;done)|(go_simp;rfl));(case hp=>exact (Reps.one (show Kd.FK (Kd.slice 49 (Kd.slice 3 (Kd.int .i64))) _ _ bQ [.slice dl bQ.length dm] from (Kd.FK_slice_mk (Kd.N_reads' (Kd.N_mono (ok' := (fun k_=>some k_≠(bp : Value).ownBlock)) (bY.out) (fun k_ hk=>hk))).2.1 (Kd.N_F (Kd.N_mono (ok' := (fun k_=>some k_≠(bp : Value).ownBlock)) (bY.out) (fun k_ hk=>hk))))) (Reps.none _ _)));intro eu w39 bV hb hg_ hnew_;clear hg_ hnew_;(first|rw [← cx.out] at bV|(simp only [Int.reduceToNat] at bV;rw [← cx.out] at bV)|rw [show (List.replicate (Int.toNat 11) (0 : Int))=ac from cx.out.symm] at bV);replace aa:=zm (Kd.N_elder' (yr aa) (Kd.N_base bV) hb);have ae:=zm (Kd.N_lower bV (zE yhb));replace HB:=ybs hb;clear bY;clear hb bV;obtain ⟨aJ,aH,dN⟩:=Kd.N_slice ae.out;subst dN;obtain ⟨aK,aI,dO⟩:=Kd.N_slice aa.out;subst dO)|((with_reducible refine gate_dst (N:=1) rfl ?_);(try (refine gate_guard (by rfl) ?_;dsimp only));refine ybx 1 #[.bool false, .slice none 0 0, .slice none 0 0] 25 ?_;intro av hg w43 hbox hb;replace aa:=zm (Kd.N_below (Kd.N_elderB (yr aa) av (Nat.le_of_eq hg.symm)) hb);replace ae:=zm (Kd.N_below (Kd.N_elderB (yr ae) av (Nat.le_of_eq hg.symm)) hb);have ag:=zm (hbox);have eg:=ygw hg;have eh:=ygw hg;replace HB:=ybs hb;clear hb hbox hg;obtain ⟨_,_,_,_,_,_⟩:=yc3 ag)|((with_reducible refine gate_callee (f:=12) rfl ?_);refine ygl 20 Try.func12 #[.int .i64 11, .int .i64 1, .agg #[.bool true, .slice aK af.length aI, .slice aJ ac.length aH], .slice none 0 0] ?_;(refine (cpack_Write.calls k 11 1 true _ _ af _ _ ac _ _ ([] : List (List Int)) aD cy _ ?bg ?bh ?bq ?br ?cK ?cL A1.out).mono ?_);(case bg=>refine (Kd.N_reads' (e:=49) (base:=w.heap.size) (ok:=fun k_=>(some k_≠(.slice aJ ac.length aH : Value).ownBlock∧k_≠av)) (n:=af.length) (c:=aI) ?_).2.2;refine' Kd.N_mono ?own_ ?hk_;(case own_=>exact (yN0 aa));(case hk_=>exact fun k_ hk_=>⟨hk_.1.2,hk_.2⟩));(case bh=>exact (Kd.N_reads' aa.out).2.1);(case bq=>refine (Kd.N_reads' (e:=22) (base:=w.heap.size) (ok:=fun k_=>(some k_≠(.slice aK af.length aI : Value).ownBlock∧k_≠av)) (n:=ac.length) (c:=aH) ?_).2.2;exact (yN0 ae));(case br=>exact (Kd.N_reads' ae.out).2.1);(case cK=>exact Kd.C_nil _ _);(case cL=>exact Nat.le_refl _);rintro e w45 ⟨ev,rfl,ho0,hb⟩;refine ⟨_,rfl, ?_⟩;replace aa:=zm (Kd.N_elder' (yN0 aa) (Kd.R_base ho0) hb);replace ae:=zm (Kd.N_elder' (yN0 ae) (Kd.R_base ho0) hb);have al:=zm (Kd.R_lower ho0 (zE yhb));replace ag:=zm (zF (g:=av) (o:=.cells #[.bool true, .slice aK af.length aI, .slice aJ ac.length aH] 25 (0,0)) (ykp ag) hb);replace HB:=ybs hb;(try clear hb);(try clear ho0);obtain ⟨aM,aN,dP⟩:=Kd.R_slice al.out;subst dP)|((with_reducible refine gate_callee (f:=20) rfl ?_);refine ygl 25 Try.func20 #[.int .i64 11, .int .i64 1, .slice aM aD.length aN, .slice none 0 0] ?_;(refine (cpack_Read.calls k 11 1 _ _ aD _ _ ([] : List (List Int)) bJ aE aG cz _ ?bg ?bh ?bq ?br A2.out).mono ?_);(case bg=>exact yce (Kd.R_reads' al.out).2.2);(case bh=>exact (Kd.R_reads' al.out).2.1);(case bq=>exact Kd.C_nil _ _);(case br=>exact Nat.le_refl _);rintro e w47 ⟨dQ,dR,rfl,ho0,ho1,hb⟩;refine ⟨_,rfl, ?_⟩;have ao:=zm (Kd.N_lower (Kd.N_mono (ok' := fun k_=>some k_≠(dR : Value).ownBlock∧some k_≠(.slice aK af.length aI : Value).ownBlock∧some k_≠(.slice aJ ac.length aH : Value).ownBlock∧some k_≠(.slice aM aD.length aN : Value).ownBlock∧k_≠av) (Kd.S_N (Kd.S_bound (Kd.S_apart' ho0 (Kd.R_typed ho1) (by decide)))) (fun k_ hk_=>⟨hk_.1.2,(Kd.fresh' (Kd.N_lt (yr aa)) k_ hk_.2.1),(Kd.fresh' (Kd.N_lt (yr ae)) k_ hk_.2.1),(Kd.fresh' (Kd.R_lt (yr al)) k_ hk_.2.1),(Kd.freshB (yk ag) k_ hk_.2.1)⟩)) (zE yhb));have ap:=zm (Kd.N_lower (Kd.N_mono (ok' := fun k_=>some k_≠(dQ : Value).ownBlock∧some k_≠(.slice aK af.length aI : Value).ownBlock∧some k_≠(.slice aJ ac.length aH : Value).ownBlock∧some k_≠(.slice aM aD.length aN : Value).ownBlock∧k_≠av) (Kd.R_N (Kd.R_bound ho1)) (fun k_ hk_=>⟨hk_.1,(Kd.fresh' (Kd.N_lt (yr aa)) k_ hk_.2.1),(Kd.fresh' (Kd.N_lt (yr ae)) k_ hk_.2.1),(Kd.fresh' (Kd.R_lt (yr al)) k_ hk_.2.1),(Kd.freshB (yk ag) k_ hk_.2.1)⟩)) (zE yhb));replace aa:=zm (Kd.N_mono (Kd.N_told (Kd.N_told (Kd.N_old (yr aa) hb) (Kd.S_base ho0)) (Kd.R_base ho1)) (fun _ h_=>h_.1));replace ae:=zm (Kd.N_mono (Kd.N_told (Kd.N_told (Kd.N_old (yr ae) hb) (Kd.S_base ho0)) (Kd.R_base ho1)) (fun _ h_=>h_.1));replace al:=yRb al hb;replace ag:=ybb ag hb;replace HB:=ybs hb;(try clear hb);(try clear ho0);(try clear ho1))|((with_reducible refine gate_dst (N:=4) rfl ?_);(try (refine gate_guard (by rfl) ?_;dsimp only));refine ybx 4 #[.bool false, .slice none 0 0, .slice none 0 0] 25 ?_;intro aw hg w48 hbox hb;replace aa:=zm (Kd.N_below (Kd.N_elderB (yr aa) aw (Nat.le_of_eq hg.symm)) hb);replace ae:=zm (Kd.N_below (Kd.N_elderB (yr ae) aw (Nat.le_of_eq hg.symm)) hb);replace al:=yRb al hb;replace ao:=zm (Kd.N_below (Kd.N_elderB (yr ao) aw (Nat.le_of_eq hg.symm)) hb);replace ap:=zm (Kd.N_below (Kd.N_elderB (yr ap) aw (Nat.le_of_eq hg.symm)) hb);have am:=zm (hbox);have ei:=ygw hg;have ej:=ygw hg;replace HB:=ybs hb;have b7:=ynl ag hg;have b8:=yng ag hg;replace ag:=ybb ag hb;clear hb hbox hg;have:=b8.out;have:=b7.out;obtain ⟨_,_,_,_,_,_⟩:=yc3 am;obtain ⟨aW,aX,dS⟩:=Kd.N_slice ao.out;subst dS;obtain ⟨aY,aZ,dT⟩:=Kd.N_slice ap.out;subst dT)|((with_reducible refine gate_dst (N:=29) rfl ?_);(try (refine gate_guard (by rfl) ?_;dsimp only));refine Kd.R_make (Kd.int .u8) _ 5 rfl (N:=29) rfl 28 _ _ rfl 11 rfl rfl Try.underlying28 (.int .u8 0) 1 info5 rfl (by decide) (by omega) 0 (ok:=fun _=>True) (okp:=fun _=>True) rfl (fun _ hk=>hk) trivial (by omega) (by omega) (Below.refl _ _) (Nat.le_refl _) ?_;intro cM w53 bD hb hg_ hnew_;clear hg_ hnew_;(first|rw [← cB.out] at bD|(simp only [Int.reduceToNat] at bD;rw [← cB.out] at bD)|rw [show (List.replicate (Int.toNat 11) (0 : Int))=aT from cB.out.symm] at bD);replace aa:=zm (Kd.N_elder' (yN0 aa) (Kd.R_base bD) hb);replace ae:=zm (Kd.N_elder' (yN0 ae) (Kd.R_base bD) hb);replace ao:=zm (Kd.N_elder' (yN0 ao) (Kd.R_base bD) hb);replace ap:=zm (Kd.N_elder' (yN0 ap) (Kd.R_base bD) hb);have aq:=zm (Kd.R_lower (Kd.R_new' bD (Kd.R_lt (yR1 al am))) (zE yhb));replace al:=zm (Kd.R_elder' (yR1 al am) (Kd.R_base bD) hb);replace ag:=ybb ag hb;replace am:=zm (zF (g:=aw) (o:=.cells #[.bool bJ, .slice aW aE.length aX, .slice aY aG.length aZ] 25 (0,0)) (ykp am) hb);replace HB:=ybs hb;clear hb bD)|((with_reducible refine gate_dst (N:=30) rfl ?_);(try (refine gate_guard (by rfl) ?_;dsimp only));refine Kd.R_lit (Kd.int .i64) _ 3 ?hg (N:=30) ?hd (xs:=([9,2,3,4,5] : List Int)) (inner := [.int .i64 9, .int .i64 2, .int .i64 3, .int .i64 4, .int .i64 5]) (ok:=fun _=>True) (okp:=fun _=>True) ?hr ?hp (fun _ hk=>hk) trivial (Below.refl _ _) (Nat.le_refl _) (by simp) ?_;(case hd=>rfl);(case hg=>rfl);(case hr=>first|(go_simp;done)|(go_simp;rfl));(case hp=>exact (Reps.one (show Kd.M (Kd.int .i64) _ _ _ 9 [.int .i64 9] from rfl) (Reps.one (show Kd.M (Kd.int .i64) _ _ _ 2 [.int .i64 2] from rfl) (Reps.one (show Kd.M (Kd.int .i64) _ _ _ 3 [.int .i64 3] from rfl) (Reps.one (show Kd.M (Kd.int .i64) _ _ _ 4 [.int .i64 4] from rfl) (Reps.one (show Kd.M (Kd.int .i64) _ _ _ 5 [.int .i64 5] from rfl) (Reps.none _ _)))))));intro ew w55 bG hb hg_ hnew_;clear hg_ hnew_;(first|rw [← cD.out] at bG|(simp only [Int.reduceToNat] at bG;rw [← cD.out] at bG)|rw [show (List.replicate (Int.toNat 11) (0 : Int))=bR from cD.out.symm] at bG);replace aa:=zm (Kd.N_elder' (yr aa) (Kd.R_base bG) hb);replace ae:=zm (Kd.N_elder' (yr ae) (Kd.R_base bG) hb);replace al:=yRb al hb;replace ao:=zm (Kd.N_elder' (yr ao) (Kd.R_base bG) hb);replace ap:=zm (Kd.N_elder' (yr ap) (Kd.R_base bG) hb);replace aq:=yRb aq hb;have bZ:=zm (Kd.R_lower bG (zE yhb));replace ag:=ybb ag hb;replace am:=ybb am hb;replace HB:=ybs hb;clear hb bG;obtain ⟨dp,dq,dU⟩:=Kd.R_slice bZ.out;subst dU)|((with_reducible refine gate_dst (N:=31) rfl ?_);(try (refine gate_guard (by rfl) ?_;dsimp only));refine Kd.N_lit (Kd.slice 3 (Kd.int .i64)) _ 49 ?hg (N' := 31) ?hd (xs:=([bR] : List (List Int))) (inner := [.slice dp bR.length dq]) (ok:=(fun k_=>some k_≠(.slice aK af.length aI : Value).ownBlock∧some k_≠(.slice aJ ac.length aH : Value).ownBlock∧some k_≠(.slice aM aD.length aN : Value).ownBlock∧some k_≠(.slice aW aE.length aX : Value).ownBlock∧some k_≠(.slice aY aG.length aZ : Value).ownBlock∧some k_≠(cM : Value).ownBlock∧k_≠av∧k_≠aw)) (okp:=(fun k_=>some k_≠(.slice aK af.length aI : Value).ownBlock∧some k_≠(.slice aJ ac.length aH : Value).ownBlock∧some k_≠(.slice aM aD.length aN : Value).ownBlock∧some k_≠(.slice aW aE.length aX : Value).ownBlock∧some k_≠(.slice aY aG.length aZ : Value).ownBlock∧some k_≠(cM : Value).ownBlock∧k_≠av∧k_≠aw)) ?hr ?hp (fun _ hk=>hk) ((show ∀ k_,w55.heap.size≤k_→(fun k_=>some k_≠(.slice aK af.length aI : Value).ownBlock∧some k_≠(.slice aJ ac.length aH : Value).ownBlock∧some k_≠(.slice aM aD.length aN : Value).ownBlock∧some k_≠(.slice aW aE.length aX : Value).ownBlock∧some k_≠(.slice aY aG.length aZ : Value).ownBlock∧some k_≠(cM : Value).ownBlock∧k_≠av∧k_≠aw) k_ from fun k_ hk=>⟨Kd.fresh' (Kd.N_lt (yr aa)) k_ hk,Kd.fresh' (Kd.N_lt (yr ae)) k_ hk,Kd.fresh' (Kd.R_lt (yr al)) k_ hk,Kd.fresh' (Kd.N_lt (yr ao)) k_ hk,Kd.fresh' (Kd.N_lt (yr ap)) k_ hk,Kd.fresh' (Kd.R_lt (yr aq)) k_ hk,Kd.freshB (yk ag) k_ hk,Kd.freshB (yk am) k_ hk⟩) _ (Nat.le_refl _)) (Below.refl _ _) (Nat.le_refl _) (by simp) ?_;(case hd=>rfl);(case hg=>rfl);(case hr=>first|(go_simp;done)|(go_simp;rfl));(case hp=>exact (Reps.one (show Kd.FK (Kd.slice 3 (Kd.int .i64)) _ _ bR [.slice dp bR.length dq] from (Kd.FK_slice_mk (Kd.R_reads' (zG (ok' := (fun k_=>some k_≠(.slice aK af.length aI : Value).ownBlock∧some k_≠(.slice aJ ac.length aH : Value).ownBlock∧some k_≠(.slice aM aD.length aN : Value).ownBlock∧some k_≠(.slice aW aE.length aX : Value).ownBlock∧some k_≠(.slice aY aG.length aZ : Value).ownBlock∧some k_≠(cM : Value).ownBlock∧k_≠av∧k_≠aw)) (Kd.R_types (Kd.R_types (Kd.R_apart' (Kd.R_apart' (Kd.R_apart' (Kd.R_apart' (Kd.R_apart' (Kd.R_apart' (bZ.out) (Kd.N_typed aa.out) (by decide)) (Kd.N_typed ae.out) (by decide)) (Kd.R_typed al.out) (by decide)) (Kd.N_typed ao.out) (by decide)) (Kd.N_typed ap.out) (by decide)) (Kd.R_typed aq.out) (by decide)) ag.out (by decide)) am.out (by decide)) (fun k_ hk=>⟨hk.1.1.1.1.1.1.1.2,⟨hk.1.1.1.1.1.1.2,⟨hk.1.1.1.1.1.2,⟨hk.1.1.1.1.2,⟨hk.1.1.1.2,⟨hk.1.1.2,⟨hk.1.2,hk.2⟩⟩⟩⟩⟩⟩⟩))).2.1 (Kd.R_F (zG (ok' := (fun k_=>some k_≠(.slice aK af.length aI : Value).ownBlock∧some k_≠(.slice aJ ac.length aH : Value).ownBlock∧some k_≠(.slice aM aD.length aN : Value).ownBlock∧some k_≠(.slice aW aE.length aX : Value).ownBlock∧some k_≠(.slice aY aG.length aZ : Value).ownBlock∧some k_≠(cM : Value).ownBlock∧k_≠av∧k_≠aw)) (Kd.R_types (Kd.R_types (Kd.R_apart' (Kd.R_apart' (Kd.R_apart' (Kd.R_apart' (Kd.R_apart' (Kd.R_apart' (bZ.out) (Kd.N_typed aa.out) (by decide)) (Kd.N_typed ae.out) (by decide)) (Kd.R_typed al.out) (by decide)) (Kd.N_typed ao.out) (by decide)) (Kd.N_typed ap.out) (by decide)) (Kd.R_typed aq.out) (by decide)) ag.out (by decide)) am.out (by decide)) (fun k_ hk=>⟨hk.1.1.1.1.1.1.1.2,⟨hk.1.1.1.1.1.1.2,⟨hk.1.1.1.1.1.2,⟨hk.1.1.1.1.2,⟨hk.1.1.1.2,⟨hk.1.1.2,⟨hk.1.2,hk.2⟩⟩⟩⟩⟩⟩⟩))))) (Reps.none _ _)));intro ey w58 bH hb hg_ hnew_;clear hg_ hnew_;(first|rw [← cF.out] at bH|(simp only [Int.reduceToNat] at bH;rw [← cF.out] at bH)|rw [show (List.replicate (Int.toNat 11) (0 : Int))=a7 from cF.out.symm] at bH);replace aa:=zm (Kd.N_elder' (yr aa) (Kd.N_base bH) hb);replace ae:=zm (Kd.N_elder' (yr ae) (Kd.N_base bH) hb);replace al:=yRb al hb;replace ao:=zm (Kd.N_elder' (yr ao) (Kd.N_base bH) hb);replace ap:=zm (Kd.N_elder' (yr ap) (Kd.N_base bH) hb);replace aq:=yRb aq hb;have ay:=zm (Kd.N_lower bH (zE yhb));replace ag:=ybb ag hb;replace am:=ybb am hb;replace HB:=ybs hb;clear bZ;clear hb bH;obtain ⟨ba,bb,dV⟩:=Kd.R_slice aq.out;subst dV;obtain ⟨bi,bj,dW⟩:=Kd.N_slice ay.out;subst dW)|((with_reducible refine gate_callee (f:=20) rfl ?_);refine ygl 32 Try.func20 #[.int .i64 11, .int .i64 1, .slice ba aT.length bb, .slice bi a7.length bj] ?_;(with_reducible refine (cpack_Read.calls k 11 1 _ _ aT _ _ a7 false aV a9 cN _ ?bg ?bh ?bq ?br A3.out).mono ?_);(case bg=>exact yce (Kd.R_reads' aq.out).2.2);(case bh=>exact (Kd.R_reads' aq.out).2.1);(case bq=>exact yce (Kd.N_reads' ay.out).2.2);(case br=>exact (Kd.N_reads' ay.out).2.1);rintro e w62 ⟨dX,dY,rfl,ho0,ho1,hb⟩;refine ⟨_,rfl, ?_⟩;have az:=zm (Kd.N_lower (Kd.N_mono (ok' := fun k_=>some k_≠(dY : Value).ownBlock∧some k_≠(.slice aK af.length aI : Value).ownBlock∧some k_≠(.slice aJ ac.length aH : Value).ownBlock∧some k_≠(.slice aM aD.length aN : Value).ownBlock∧some k_≠(.slice aW aE.length aX : Value).ownBlock∧some k_≠(.slice aY aG.length aZ : Value).ownBlock∧some k_≠(.slice ba aT.length bb : Value).ownBlock∧some k_≠(.slice bi a7.length bj : Value).ownBlock∧k_≠av∧k_≠aw) (Kd.S_N (Kd.S_bound (Kd.S_apart' ho0 (Kd.R_typed ho1) (by decide)))) (fun k_ hk_=>⟨hk_.1.2,(Kd.fresh' (Kd.N_lt (yr aa)) k_ hk_.2.1),(Kd.fresh' (Kd.N_lt (yr ae)) k_ hk_.2.1),(Kd.fresh' (Kd.R_lt (yr al)) k_ hk_.2.1),(Kd.fresh' (Kd.N_lt (yr ao)) k_ hk_.2.1),(Kd.fresh' (Kd.N_lt (yr ap)) k_ hk_.2.1),(Kd.fresh' (Kd.R_lt (yr aq)) k_ hk_.2.1),(Kd.fresh' (Kd.N_lt (yr ay)) k_ hk_.2.1),(Kd.freshB (yk ag) k_ hk_.2.1),(Kd.freshB (yk am) k_ hk_.2.1)⟩)) (zE yhb));have aA:=zm (Kd.N_lower (Kd.N_mono (ok' := fun k_=>some k_≠(dX : Value).ownBlock∧some k_≠(.slice aK af.length aI : Value).ownBlock∧some k_≠(.slice aJ ac.length aH : Value).ownBlock∧some k_≠(.slice aM aD.length aN : Value).ownBlock∧some k_≠(.slice aW aE.length aX : Value).ownBlock∧some k_≠(.slice aY aG.length aZ : Value).ownBlock∧some k_≠(.slice ba aT.length bb : Value).ownBlock∧some k_≠(.slice bi a7.length bj : Value).ownBlock∧k_≠av∧k_≠aw) (Kd.R_N (Kd.R_bound ho1)) (fun k_ hk_=>⟨hk_.1,(Kd.fresh' (Kd.N_lt (yr aa)) k_ hk_.2.1),(Kd.fresh' (Kd.N_lt (yr ae)) k_ hk_.2.1),(Kd.fresh' (Kd.R_lt (yr al)) k_ hk_.2.1),(Kd.fresh' (Kd.N_lt (yr ao)) k_ hk_.2.1),(Kd.fresh' (Kd.N_lt (yr ap)) k_ hk_.2.1),(Kd.fresh' (Kd.R_lt (yr aq)) k_ hk_.2.1),(Kd.fresh' (Kd.N_lt (yr ay)) k_ hk_.2.1),(Kd.freshB (yk ag) k_ hk_.2.1),(Kd.freshB (yk am) k_ hk_.2.1)⟩)) (zE yhb));replace aa:=zm (Kd.N_mono (Kd.N_told (Kd.N_told (Kd.N_old (yr aa) hb) (Kd.S_base ho0)) (Kd.R_base ho1)) (fun _ h_=>h_.1));replace ae:=zm (Kd.N_mono (Kd.N_told (Kd.N_told (Kd.N_old (yr ae) hb) (Kd.S_base ho0)) (Kd.R_base ho1)) (fun _ h_=>h_.1));replace al:=yRb al hb;replace ao:=zm (Kd.N_mono (Kd.N_told (Kd.N_told (Kd.N_old (yr ao) hb) (Kd.S_base ho0)) (Kd.R_base ho1)) (fun _ h_=>h_.1));replace ap:=zm (Kd.N_mono (Kd.N_told (Kd.N_told (Kd.N_old (yr ap) hb) (Kd.S_base ho0)) (Kd.R_base ho1)) (fun _ h_=>h_.1));replace aq:=yRb aq hb;replace ay:=zm (Kd.N_mono (Kd.N_told (Kd.N_told (Kd.N_old (yr ay) hb) (Kd.S_base ho0)) (Kd.R_base ho1)) (fun _ h_=>h_.1));replace ag:=ybb ag hb;replace am:=ybb am hb;replace HB:=ybs hb;(try clear hb);(try clear ho0);(try clear ho1))|((with_reducible refine gate_dst (N:=6) rfl ?_);(try (refine gate_guard (by rfl) ?_;dsimp only));refine ybx 6 #[.bool false, .slice none 0 0, .slice none 0 0] 25 ?_;intro ax hg w63 hbox hb;replace aa:=zm (Kd.N_below (Kd.N_elderB (yr aa) ax (Nat.le_of_eq hg.symm)) hb);replace ae:=zm (Kd.N_below (Kd.N_elderB (yr ae) ax (Nat.le_of_eq hg.symm)) hb);replace al:=yRb al hb;replace ao:=zm (Kd.N_below (Kd.N_elderB (yr ao) ax (Nat.le_of_eq hg.symm)) hb);replace ap:=zm (Kd.N_below (Kd.N_elderB (yr ap) ax (Nat.le_of_eq hg.symm)) hb);replace aq:=yRb aq hb;replace ay:=zm (Kd.N_below (Kd.N_elderB (yr ay) ax (Nat.le_of_eq hg.symm)) hb);replace az:=zm (Kd.N_below (Kd.N_elderB (yr az) ax (Nat.le_of_eq hg.symm)) hb);replace aA:=zm (Kd.N_below (Kd.N_elderB (yr aA) ax (Nat.le_of_eq hg.symm)) hb);have aC:=zm (hbox);have ek:=ygw hg;have el:=ygw hg;replace HB:=ybs hb;have b9:=ynl ag hg;have ca:=yng ag hg;replace ag:=ybb ag hb;have cb:=ynl am hg;have ce:=yng am hg;replace am:=ybb am hb;clear hb hbox hg;have:=ca.out;have:=b9.out;have:=ce.out;have:=cb.out;obtain ⟨_,_,_,_,_,_⟩:=yc3 aC;obtain ⟨bd,bf,dZ⟩:=Kd.N_slice az.out;subst dZ;obtain ⟨bk,bl,d5⟩:=Kd.N_slice aA.out;subst d5))
     obtain ⟨w69,hw_⟩ : ∃ x,x=(((w63.setCell ⟨ax,0,none⟩ (.bool false)).setCell ⟨ax,1,none⟩ (.slice bd aV.length bf)).setCell ⟨ax,2,none⟩ (.slice bk a9.length bl)):=⟨_,rfl⟩
     rw [← hw_]
     replace aa : Aside0 (Kd.N (Kd.slice 3 (Kd.int .i64)) 49 w69 w.heap.size (fun k_=>some k_≠(.slice aJ ac.length aH : Value).ownBlock∧some k_≠(.slice aM aD.length aN : Value).ownBlock∧some k_≠(.slice aW aE.length aX : Value).ownBlock∧some k_≠(.slice aY aG.length aZ : Value).ownBlock∧some k_≠(.slice ba aT.length bb : Value).ownBlock∧some k_≠(.slice bi a7.length bj : Value).ownBlock∧some k_≠(.slice bd aV.length bf : Value).ownBlock∧some k_≠(.slice bk a9.length bl : Value).ownBlock∧k_≠av∧k_≠aw∧k_≠ax) (.slice aK af.length aI) af):=⟨by rw [hw_];exact (yN0 aa)⟩
     replace ae : Aside0 (Kd.N (Kd.slice 49 (Kd.slice 3 (Kd.int .i64))) 22 w69 w.heap.size (fun k_=>some k_≠(.slice aK af.length aI : Value).ownBlock∧some k_≠(.slice aM aD.length aN : Value).ownBlock∧some k_≠(.slice aW aE.length aX : Value).ownBlock∧some k_≠(.slice aY aG.length aZ : Value).ownBlock∧some k_≠(.slice ba aT.length bb : Value).ownBlock∧some k_≠(.slice bi a7.length bj : Value).ownBlock∧some k_≠(.slice bd aV.length bf : Value).ownBlock∧some k_≠(.slice bk a9.length bl : Value).ownBlock∧k_≠av∧k_≠aw∧k_≠ax) (.slice aJ ac.length aH) ac):=⟨by rw [hw_];exact (yN0 ae)⟩
     replace al : Aside0 (Kd.R (Kd.int .u8) 5 w69 w.heap.size (fun k_=>some k_≠(.slice ba aT.length bb : Value).ownBlock) (.slice aM aD.length aN) aD):=⟨by rw [hw_];exact (yR1 al aC)⟩
     replace ao : Aside0 (Kd.N (Kd.slice 3 (Kd.int .i64)) 49 w69 w.heap.size (fun k_=>some k_≠(.slice aK af.length aI : Value).ownBlock∧some k_≠(.slice aJ ac.length aH : Value).ownBlock∧some k_≠(.slice aM aD.length aN : Value).ownBlock∧some k_≠(.slice aY aG.length aZ : Value).ownBlock∧some k_≠(.slice ba aT.length bb : Value).ownBlock∧some k_≠(.slice bi a7.length bj : Value).ownBlock∧some k_≠(.slice bd aV.length bf : Value).ownBlock∧some k_≠(.slice bk a9.length bl : Value).ownBlock∧k_≠av∧k_≠aw∧k_≠ax) (.slice aW aE.length aX) aE):=⟨by rw [hw_];exact (yN0 ao)⟩
     replace ap : Aside0 (Kd.N (Kd.slice 49 (Kd.slice 3 (Kd.int .i64))) 22 w69 w.heap.size (fun k_=>some k_≠(.slice aK af.length aI : Value).ownBlock∧some k_≠(.slice aJ ac.length aH : Value).ownBlock∧some k_≠(.slice aM aD.length aN : Value).ownBlock∧some k_≠(.slice aW aE.length aX : Value).ownBlock∧some k_≠(.slice ba aT.length bb : Value).ownBlock∧some k_≠(.slice bi a7.length bj : Value).ownBlock∧some k_≠(.slice bd aV.length bf : Value).ownBlock∧some k_≠(.slice bk a9.length bl : Value).ownBlock∧k_≠av∧k_≠aw∧k_≠ax) (.slice aY aG.length aZ) aG):=⟨by rw [hw_];exact (yN0 ap)⟩
     replace aq : Aside0 (Kd.R (Kd.int .u8) 5 w69 w.heap.size (fun k_=>some k_≠(.slice aM aD.length aN : Value).ownBlock) (.slice ba aT.length bb) aT):=⟨by rw [hw_];exact (yR1 aq aC)⟩
     replace ay : Aside0 (Kd.N (Kd.slice 3 (Kd.int .i64)) 49 w69 w.heap.size (fun k_=>some k_≠(.slice aK af.length aI : Value).ownBlock∧some k_≠(.slice aJ ac.length aH : Value).ownBlock∧some k_≠(.slice aM aD.length aN : Value).ownBlock∧some k_≠(.slice aW aE.length aX : Value).ownBlock∧some k_≠(.slice aY aG.length aZ : Value).ownBlock∧some k_≠(.slice ba aT.length bb : Value).ownBlock∧some k_≠(.slice bd aV.length bf : Value).ownBlock∧some k_≠(.slice bk a9.length bl : Value).ownBlock∧k_≠av∧k_≠aw∧k_≠ax) (.slice bi a7.length bj) a7):=⟨by rw [hw_];exact (yN0 ay)⟩
     replace az : Aside0 (Kd.N (Kd.slice 3 (Kd.int .i64)) 49 w69 w.heap.size (fun k_=>some k_≠(.slice aK af.length aI : Value).ownBlock∧some k_≠(.slice aJ ac.length aH : Value).ownBlock∧some k_≠(.slice aM aD.length aN : Value).ownBlock∧some k_≠(.slice aW aE.length aX : Value).ownBlock∧some k_≠(.slice aY aG.length aZ : Value).ownBlock∧some k_≠(.slice ba aT.length bb : Value).ownBlock∧some k_≠(.slice bi a7.length bj : Value).ownBlock∧some k_≠(.slice bk a9.length bl : Value).ownBlock∧k_≠av∧k_≠aw∧k_≠ax) (.slice bd aV.length bf) aV):=⟨by rw [hw_];exact (yN0 az)⟩
     replace aA : Aside0 (Kd.N (Kd.slice 49 (Kd.slice 3 (Kd.int .i64))) 22 w69 w.heap.size (fun k_=>some k_≠(.slice aK af.length aI : Value).ownBlock∧some k_≠(.slice aJ ac.length aH : Value).ownBlock∧some k_≠(.slice aM aD.length aN : Value).ownBlock∧some k_≠(.slice aW aE.length aX : Value).ownBlock∧some k_≠(.slice aY aG.length aZ : Value).ownBlock∧some k_≠(.slice ba aT.length bb : Value).ownBlock∧some k_≠(.slice bi a7.length bj : Value).ownBlock∧some k_≠(.slice bd aV.length bf : Value).ownBlock∧k_≠av∧k_≠aw∧k_≠ax) (.slice bk a9.length bl) a9):=⟨by rw [hw_];exact (yN0 aA)⟩
     replace ag : Aside0 (w69.heap[av]? = some (.cells #[.bool true, .slice aK af.length aI, .slice aJ ac.length aH] 25 (0,0))):=⟨by rw [hw_];exact (yk ag)⟩
     replace am : Aside0 (w69.heap[aw]? = some (.cells #[.bool bJ, .slice aW aE.length aX, .slice aY aG.length aZ] 25 (0,0))):=⟨by rw [hw_];exact (yk am)⟩
     replace aC : Aside0 (w69.heap[ax]? = some (.cells #[.bool false, .slice bd aV.length bf, .slice bk a9.length bl] 25 (0,0))):=⟨by rw [hw_];exact (ykp aC)⟩
     replace HB : Aside0 (Below w.heap.size w w69):=⟨by rw [hw_];exact (yhb)⟩
     clear hw_
     replace aa:=zm (Kd.N_drew aa.out)
     replace ae:=zm (Kd.N_drew ae.out)
     replace al:=zm (zq al.out)
     replace ao:=zm (Kd.N_drew ao.out)
     replace ap:=zm (Kd.N_drew ap.out)
     replace aq:=zm (zq aq.out)
     replace ay:=zm (Kd.N_drew ay.out)
     replace az:=zm (Kd.N_drew az.out)
     replace aA:=zm (Kd.N_drew aA.out)
     replace ag:=zm (zj ag.out)
     replace am:=zm (zj am.out)
     replace aC:=zm (zj aC.out)
     replace HB:=zm (zf HB.out)
     refine yst (fun w' => w'.cell? ⟨aw,0,none⟩=some (.bool bJ)∧w'.cell? ⟨aw,1,none⟩=some (.slice aW aE.length aX)∧w'.cell? ⟨aw,2,none⟩=some (.slice aY aG.length aZ)∧w'.cell? ⟨av,0,none⟩=some (.bool true)∧w'.cell? ⟨av,1,none⟩=some (.slice aK af.length aI)∧w'.cell? ⟨av,2,none⟩=some (.slice aJ ac.length aH)∧w'.cell? ⟨ax,0,none⟩=some (.bool false)∧w'.cell? ⟨ax,1,none⟩=some (.slice bd aV.length bf)∧w'.cell? ⟨ax,2,none⟩=some (.slice bk a9.length bl)) [] 39 w13_knows.tab5 w13_knows.bits5 (fun hHeld HT_ HW_ => ?_)
     generalize w69.drew=w70 at aa ae al ao ap aq ay az aA ag am aC HB hHeld ⊢
     refine yp 0 35 HT_ ?_
     refine yp 1 36 HT_ ?_
     refine yp 2 37 HT_ ?_
     refine yp 3 38 HT_ ?_
     refine yp 4 39 HT_ ?_
     refine yp 5 40 HT_ ?_
     refine yp 6 41 HT_ ?_
     refine yp 7 42 HT_ ?_
     refine yl 8 43 HT_ HW_ hHeld ?_
     refine yl 10 45 HT_ HW_ hHeld ?_
     refine yw 9 44 HT_ (fun K hK => ?_)
     refine ygs Try.func14 #[.agg #[.bool bJ, .slice aW aE.length aX, .slice aY aG.length aZ]] ?_
     with_reducible refine (w13_As.calls bJ (fun k_=>(some k_≠(.slice aK af.length aI : Value).ownBlock∧(some k_≠(.slice aJ ac.length aH : Value).ownBlock∧(some k_≠(.slice aM aD.length aN : Value).ownBlock∧(some k_≠(.slice aY aG.length aZ : Value).ownBlock∧(some k_≠(.slice ba aT.length bb : Value).ownBlock∧(some k_≠(.slice bi a7.length bj : Value).ownBlock∧(some k_≠(.slice bd aV.length bf : Value).ownBlock∧(some k_≠(.slice bk a9.length bl : Value).ownBlock∧(k_≠av∧(k_≠aw∧k_≠ax))))))))))) _ _ aE (fun k_=>(some k_≠(.slice aK af.length aI : Value).ownBlock∧(some k_≠(.slice aJ ac.length aH : Value).ownBlock∧(some k_≠(.slice aM aD.length aN : Value).ownBlock∧(some k_≠(.slice aW aE.length aX : Value).ownBlock∧(some k_≠(.slice ba aT.length bb : Value).ownBlock∧(some k_≠(.slice bi a7.length bj : Value).ownBlock∧(some k_≠(.slice bd aV.length bf : Value).ownBlock∧(some k_≠(.slice bk a9.length bl : Value).ownBlock∧(k_≠av∧(k_≠aw∧k_≠ax))))))))))) _ _ aG cP cQ cR _ ?bg ?bh A6.out).mono ?_
     (case bg=>exact Kd.N_V (ao.out))
     (case bh=>exact Kd.N_V (ap.out))
     rintro e w71 ⟨ez,eA,rfl,ho0,ho1,hb⟩
     refine ⟨_,rfl, ?_⟩
     replace ao:=yNb ao hb
     replace ap:=yNb ap hb
     have bn:=yho (fun k_=>some k_≠(.slice aK af.length aI : Value).ownBlock∧some k_≠(.slice aJ ac.length aH : Value).ownBlock∧some k_≠(.slice aM aD.length aN : Value).ownBlock∧some k_≠(.slice ba aT.length bb : Value).ownBlock∧some k_≠(.slice bi a7.length bj : Value).ownBlock∧some k_≠(.slice bd aV.length bf : Value).ownBlock∧some k_≠(.slice bk a9.length bl : Value).ownBlock∧k_≠av∧k_≠aw∧k_≠ax) ho0 (fun k_ hk_=>⟨yoN aa hk_,yoN ae hk_,yoR al hk_,yoR aq hk_,yoN ay hk_,yoN az hk_,yoN aA hk_,yoB ag hk_,yoB am hk_,yoB aC hk_⟩)
     have bo:=yho (fun k_=>some k_≠(.slice aK af.length aI : Value).ownBlock∧some k_≠(.slice aJ ac.length aH : Value).ownBlock∧some k_≠(.slice aM aD.length aN : Value).ownBlock∧some k_≠(.slice ba aT.length bb : Value).ownBlock∧some k_≠(.slice bi a7.length bj : Value).ownBlock∧some k_≠(.slice bd aV.length bf : Value).ownBlock∧some k_≠(.slice bk a9.length bl : Value).ownBlock∧k_≠av∧k_≠aw∧k_≠ax) ho1 (fun k_ hk_=>⟨yoN aa hk_,yoN ae hk_,yoR al hk_,yoR aq hk_,yoN ay hk_,yoN az hk_,yoN aA hk_,yoB ag hk_,yoB am hk_,yoB aC hk_⟩)
     replace aa:=yNb aa hb
     replace ae:=yNb ae hb
     replace al:=yRb al hb
     replace aq:=yRb aq hb
     replace ay:=yNb ay hb
     replace az:=yNb az hb
     replace aA:=yNb aA hb
     replace ag:=ybb ag hb
     replace am:=ybb am hb
     replace aC:=ybb aC hb
     replace HB:=ybs hb
     (try clear hb)
     (try clear ho0)
     (try clear ho1)
     refine hK.out _ _ yH (fun hHeld => ?_)
     clear hK K
     refine ym (some 44) ?_
     refine yw 11 46 HT_ (fun K hK => ?_)
     refine ygs Try.func14 #[.agg #[.bool true, .slice aK af.length aI, .slice aJ ac.length aH]] ?_
     with_reducible refine (w13_As.calls true (fun k_=>(some k_≠(.slice aJ ac.length aH : Value).ownBlock∧(some k_≠(.slice aM aD.length aN : Value).ownBlock∧(some k_≠(.slice aW aE.length aX : Value).ownBlock∧(some k_≠(.slice aY aG.length aZ : Value).ownBlock∧(some k_≠(.slice ba aT.length bb : Value).ownBlock∧(some k_≠(.slice bi a7.length bj : Value).ownBlock∧(some k_≠(.slice bd aV.length bf : Value).ownBlock∧(some k_≠(.slice bk a9.length bl : Value).ownBlock∧(k_≠av∧(k_≠aw∧k_≠ax))))))))))) _ _ af (fun k_=>(some k_≠(.slice aK af.length aI : Value).ownBlock∧(some k_≠(.slice aM aD.length aN : Value).ownBlock∧(some k_≠(.slice aW aE.length aX : Value).ownBlock∧(some k_≠(.slice aY aG.length aZ : Value).ownBlock∧(some k_≠(.slice ba aT.length bb : Value).ownBlock∧(some k_≠(.slice bi a7.length bj : Value).ownBlock∧(some k_≠(.slice bd aV.length bf : Value).ownBlock∧(some k_≠(.slice bk a9.length bl : Value).ownBlock∧(k_≠av∧(k_≠aw∧k_≠ax))))))))))) _ _ ac cS cT cU _ ?bg ?bh A7.out).mono ?_
     (case bg=>exact Kd.N_V (aa.out))
     (case bh=>exact Kd.N_V (ae.out))
     rintro e w72 ⟨eB,eC,rfl,ho0,ho1,hb⟩
     refine ⟨_,rfl, ?_⟩
     replace aa:=yNb aa hb
     replace ae:=yNb ae hb
     replace bn:=yVb bn hb
     replace bo:=yVb bo hb
     have bs:=yho (fun k_=>some k_≠(.slice aM aD.length aN : Value).ownBlock∧some k_≠(.slice aW aE.length aX : Value).ownBlock∧some k_≠(.slice aY aG.length aZ : Value).ownBlock∧some k_≠(.slice ba aT.length bb : Value).ownBlock∧some k_≠(.slice bi a7.length bj : Value).ownBlock∧some k_≠(.slice bd aV.length bf : Value).ownBlock∧some k_≠(.slice bk a9.length bl : Value).ownBlock∧k_≠av∧k_≠aw∧k_≠ax) ho0 (fun k_ hk_=>⟨yoR al hk_,yoN ao hk_,yoN ap hk_,yoR aq hk_,yoN ay hk_,yoN az hk_,yoN aA hk_,yoB ag hk_,yoB am hk_,yoB aC hk_⟩)
     have bv:=yho (fun k_=>some k_≠(.slice aM aD.length aN : Value).ownBlock∧some k_≠(.slice aW aE.length aX : Value).ownBlock∧some k_≠(.slice aY aG.length aZ : Value).ownBlock∧some k_≠(.slice ba aT.length bb : Value).ownBlock∧some k_≠(.slice bi a7.length bj : Value).ownBlock∧some k_≠(.slice bd aV.length bf : Value).ownBlock∧some k_≠(.slice bk a9.length bl : Value).ownBlock∧k_≠av∧k_≠aw∧k_≠ax) ho1 (fun k_ hk_=>⟨yoR al hk_,yoN ao hk_,yoN ap hk_,yoR aq hk_,yoN ay hk_,yoN az hk_,yoN aA hk_,yoB ag hk_,yoB am hk_,yoB aC hk_⟩)
     replace al:=yRb al hb
     replace ao:=yNb ao hb
     replace ap:=yNb ap hb
     replace aq:=yRb aq hb
     replace ay:=yNb ay hb
     replace az:=yNb az hb
     replace aA:=yNb aA hb
     replace ag:=ybb ag hb
     replace am:=ybb am hb
     replace aC:=ybb aC hb
     replace HB:=ybs hb
     (try clear hb)
     (try clear ho0)
     (try clear ho1)
     obtain ⟨d6,d7,dr⟩:=Kd.V_slice bn.out
     (first|subst dr|(injection dr with f1_ f2_ f3_;have f4_:=f1_.symm;have f5_:=f3_.symm;clear f1_ f2_ f3_;subst f4_;subst f5_))
     obtain ⟨d8,d9,dt⟩:=Kd.V_slice bo.out
     (first|subst dt|(injection dt with f1_ f2_ f3_;have f4_:=f1_.symm;have f5_:=f3_.symm;clear f1_ f2_ f3_;subst f4_;subst f5_))
     obtain ⟨ea,eb,du⟩:=Kd.V_slice bs.out
     (first|subst du|(injection du with f1_ f2_ f3_;have f4_:=f1_.symm;have f5_:=f3_.symm;clear f1_ f2_ f3_;subst f4_;subst f5_))
     obtain ⟨ec,ed,dv⟩:=Kd.V_slice bv.out
     (first|subst dv|(injection dv with f1_ f2_ f3_;have f4_:=f1_.symm;have f5_:=f3_.symm;clear f1_ f2_ f3_;subst f4_;subst f5_))
     refine hK.out _ _ yH (fun hHeld => ?_)
     clear hK K
     refine ym (some 46) ?_
     refine yw 12 47 HT_ (fun K hK => ?_)
     refine ygs Try.func22 #[.agg #[.bool cP, .slice d6 cQ.length d7, .slice d8 cR.length d9], .agg #[.bool cS, .slice ea cT.length eb, .slice ec cU.length ed]] ?_
     with_reducible refine (r13_Same.calls k cP _ _ cQ _ _ cR cS _ _ cT _ _ cU true _ ?bg ?bh ?bq ?br ?cK ?cL ?dw ?dx A8.out).mono ?_
     (case bg=>exact yce (Kd.V_reads' bn.out).2.2)
     (case bh=>exact (Kd.V_reads' bn.out).2.1)
     (case bq=>exact yce (Kd.V_reads' bo.out).2.2)
     (case br=>exact (Kd.V_reads' bo.out).2.1)
     (case cK=>exact yce (Kd.V_reads' bs.out).2.2)
     (case cL=>exact (Kd.V_reads' bs.out).2.1)
     (case dw=>exact yce (Kd.V_reads' bv.out).2.2)
     (case dx=>exact (Kd.V_reads' bv.out).2.1)
     rintro e w77 ⟨rfl,hb⟩
     refine ⟨_,rfl, ?_⟩
     replace aa:=yNb aa hb
     replace ae:=yNb ae hb
     replace al:=yRb al hb
     replace ao:=yNb ao hb
     replace ap:=yNb ap hb
     replace aq:=yRb aq hb
     replace ay:=yNb ay hb
     replace az:=yNb az hb
     replace aA:=yNb aA hb
     replace bn:=yVb bn hb
     replace bo:=yVb bo hb
     replace bs:=yVb bs hb
     replace bv:=yVb bv hb
     replace ag:=ybb ag hb
     replace am:=ybb am hb
     replace aC:=ybb aC hb
     replace HB:=ybs hb
     (try clear hb)
     refine hK.out _ _ yH (fun hHeld => ?_)
     clear hK K
     refine ym (some 47) ?_
     refine yp 13 48 HT_ ?_
     refine yp 14 49 HT_ ?_
     refine yp 15 50 HT_ ?_
     refine yp 16 51 HT_ ?_
     refine yp 17 52 HT_ ?_
     refine yp 18 53 HT_ ?_
     refine yp 19 54 HT_ ?_
     refine yl 20 55 HT_ HW_ hHeld ?_
     refine yp 21 56 HT_ ?_
     refine yp 22 57 HT_ ?_
     refine yp 23 58 HT_ ?_
     refine yp 24 59 HT_ ?_
     refine yl 25 60 HT_ HW_ hHeld ?_
     refine yw 26 61 HT_ (fun K hK => ?_)
     refine Kd.R_lit_step (Kd.int .i64) _ 3 ?hg (N:=61) ?hd (xs:=([6,0,0,1,2] : List Int)) (inner := [.int .i64 6, .int .i64 0, .int .i64 0, .int .i64 1, .int .i64 2]) (ok:=fun _=>True) (okp:=fun _=>True) ?hr ?hp (fun _ hk=>hk) trivial (Below.refl _ _) (Nat.le_refl _) (by simp) ?_;(case hd=>rfl);(case hg=>rfl);(case hr=>first|(go_simp;done)|(go_simp;rfl));(case hp=>exact (Reps.one (show Kd.M (Kd.int .i64) _ _ _ 6 [.int .i64 6] from rfl) (Reps.one (show Kd.M (Kd.int .i64) _ _ _ 0 [.int .i64 0] from rfl) (Reps.one (show Kd.M (Kd.int .i64) _ _ _ 0 [.int .i64 0] from rfl) (Reps.one (show Kd.M (Kd.int .i64) _ _ _ 1 [.int .i64 1] from rfl) (Reps.one (show Kd.M (Kd.int .i64) _ _ _ 2 [.int .i64 2] from rfl) (Reps.none _ _)))))))
     intro eD w78 bw hb hg_ hnew_
     clear hg_ hnew_
     (first|rw [← cH.out] at bw|(simp only [Int.reduceToNat] at bw;rw [← cH.out] at bw)|rw [show (List.replicate (Int.toNat 11) (0 : Int))=bS from cH.out.symm] at bw)
     replace aa:=zm (Kd.N_elder' (yr aa) (Kd.R_base bw) hb)
     replace ae:=zm (Kd.N_elder' (yr ae) (Kd.R_base bw) hb)
     replace al:=yRb al hb
     replace ao:=zm (Kd.N_elder' (yr ao) (Kd.R_base bw) hb)
     replace ap:=zm (Kd.N_elder' (yr ap) (Kd.R_base bw) hb)
     replace aq:=yRb aq hb
     replace ay:=zm (Kd.N_elder' (yr ay) (Kd.R_base bw) hb)
     replace az:=zm (Kd.N_elder' (yr az) (Kd.R_base bw) hb)
     replace aA:=zm (Kd.N_elder' (yr aA) (Kd.R_base bw) hb)
     replace bn:=zm (Kd.V_elder' (yr bn) (Kd.R_base bw) hb)
     replace bo:=zm (Kd.V_elder' (yr bo) (Kd.R_base bw) hb)
     replace bs:=zm (Kd.V_elder' (yr bs) (Kd.R_base bw) hb)
     replace bv:=zm (Kd.V_elder' (yr bv) (Kd.R_base bw) hb)
     have b4:=zm (Kd.R_lower bw (zE yhb))
     replace ag:=ybb ag hb
     replace am:=ybb am hb
     replace aC:=ybb aC hb
     replace HB:=ybs hb
     clear hb bw
     obtain ⟨dy,dz,dA⟩:=Kd.R_slice b4.out
     (first|subst dA|(injection dA with f1_ f2_ f3_;have f4_:=f1_.symm;have f5_:=f3_.symm;clear f1_ f2_ f3_;subst f4_;subst f5_))
     refine hK.out _ _ yH (fun hHeld => ?_)
     clear hK K
     refine ym (some 61) ?_
     refine yw 27 62 HT_ (fun K hK => ?_)
     refine Kd.N_lit_step (Kd.slice 3 (Kd.int .i64)) _ 49 ?hg (N' := 62) ?hd (xs:=([bS] : List (List Int))) (inner := [.slice dy bS.length dz]) (ok:=(fun k_=>some k_≠(.slice aK af.length aI : Value).ownBlock∧some k_≠(.slice aJ ac.length aH : Value).ownBlock∧some k_≠(.slice aM aD.length aN : Value).ownBlock∧some k_≠(.slice aW aE.length aX : Value).ownBlock∧some k_≠(.slice aY aG.length aZ : Value).ownBlock∧some k_≠(.slice ba aT.length bb : Value).ownBlock∧some k_≠(.slice bi a7.length bj : Value).ownBlock∧some k_≠(.slice bd aV.length bf : Value).ownBlock∧some k_≠(.slice bk a9.length bl : Value).ownBlock∧k_≠av∧k_≠aw∧k_≠ax)) (okp:=(fun k_=>some k_≠(.slice aK af.length aI : Value).ownBlock∧some k_≠(.slice aJ ac.length aH : Value).ownBlock∧some k_≠(.slice aM aD.length aN : Value).ownBlock∧some k_≠(.slice aW aE.length aX : Value).ownBlock∧some k_≠(.slice aY aG.length aZ : Value).ownBlock∧some k_≠(.slice ba aT.length bb : Value).ownBlock∧some k_≠(.slice bi a7.length bj : Value).ownBlock∧some k_≠(.slice bd aV.length bf : Value).ownBlock∧some k_≠(.slice bk a9.length bl : Value).ownBlock∧k_≠av∧k_≠aw∧k_≠ax)) ?hr ?hp (fun _ hk=>hk) ((show ∀ k_,w78.heap.size≤k_→(fun k_=>some k_≠(.slice aK af.length aI : Value).ownBlock∧some k_≠(.slice aJ ac.length aH : Value).ownBlock∧some k_≠(.slice aM aD.length aN : Value).ownBlock∧some k_≠(.slice aW aE.length aX : Value).ownBlock∧some k_≠(.slice aY aG.length aZ : Value).ownBlock∧some k_≠(.slice ba aT.length bb : Value).ownBlock∧some k_≠(.slice bi a7.length bj : Value).ownBlock∧some k_≠(.slice bd aV.length bf : Value).ownBlock∧some k_≠(.slice bk a9.length bl : Value).ownBlock∧k_≠av∧k_≠aw∧k_≠ax) k_ from fun k_ hk=>⟨Kd.fresh' (Kd.N_lt (yr aa)) k_ hk,Kd.fresh' (Kd.N_lt (yr ae)) k_ hk,Kd.fresh' (Kd.R_lt (yr al)) k_ hk,Kd.fresh' (Kd.N_lt (yr ao)) k_ hk,Kd.fresh' (Kd.N_lt (yr ap)) k_ hk,Kd.fresh' (Kd.R_lt (yr aq)) k_ hk,Kd.fresh' (Kd.N_lt (yr ay)) k_ hk,Kd.fresh' (Kd.N_lt (yr az)) k_ hk,Kd.fresh' (Kd.N_lt (yr aA)) k_ hk,Kd.freshB (yk ag) k_ hk,Kd.freshB (yk am) k_ hk,Kd.freshB (yk aC) k_ hk⟩) _ (Nat.le_refl _)) (Below.refl _ _) (Nat.le_refl _) (by simp) ?_;(case hd=>rfl);(case hg=>rfl);(case hr=>first|(go_simp;done)|(go_simp;rfl));(case hp=>exact (Reps.one (show Kd.FK (Kd.slice 3 (Kd.int .i64)) _ _ bS [.slice dy bS.length dz] from (Kd.FK_slice_mk (Kd.R_reads' (zG (ok' := (fun k_=>some k_≠(.slice aK af.length aI : Value).ownBlock∧some k_≠(.slice aJ ac.length aH : Value).ownBlock∧some k_≠(.slice aM aD.length aN : Value).ownBlock∧some k_≠(.slice aW aE.length aX : Value).ownBlock∧some k_≠(.slice aY aG.length aZ : Value).ownBlock∧some k_≠(.slice ba aT.length bb : Value).ownBlock∧some k_≠(.slice bi a7.length bj : Value).ownBlock∧some k_≠(.slice bd aV.length bf : Value).ownBlock∧some k_≠(.slice bk a9.length bl : Value).ownBlock∧k_≠av∧k_≠aw∧k_≠ax)) (Kd.R_types (Kd.R_types (Kd.R_types (Kd.R_apart' (Kd.R_apart' (Kd.R_apart' (Kd.R_apart' (Kd.R_apart' (Kd.R_apart' (Kd.R_apart' (Kd.R_apart' (Kd.R_apart' (b4.out) (Kd.N_typed aa.out) (by decide)) (Kd.N_typed ae.out) (by decide)) (Kd.R_typed al.out) (by decide)) (Kd.N_typed ao.out) (by decide)) (Kd.N_typed ap.out) (by decide)) (Kd.R_typed aq.out) (by decide)) (Kd.N_typed ay.out) (by decide)) (Kd.N_typed az.out) (by decide)) (Kd.N_typed aA.out) (by decide)) ag.out (by decide)) am.out (by decide)) aC.out (by decide)) (fun k_ hk=>⟨hk.1.1.1.1.1.1.1.1.1.1.1.2,⟨hk.1.1.1.1.1.1.1.1.1.1.2,⟨hk.1.1.1.1.1.1.1.1.1.2,⟨hk.1.1.1.1.1.1.1.1.2,⟨hk.1.1.1.1.1.1.1.2,⟨hk.1.1.1.1.1.1.2,⟨hk.1.1.1.1.1.2,⟨hk.1.1.1.1.2,⟨hk.1.1.1.2,⟨hk.1.1.2,⟨hk.1.2,hk.2⟩⟩⟩⟩⟩⟩⟩⟩⟩⟩⟩))).2.1 (Kd.R_F (zG (ok' := (fun k_=>some k_≠(.slice aK af.length aI : Value).ownBlock∧some k_≠(.slice aJ ac.length aH : Value).ownBlock∧some k_≠(.slice aM aD.length aN : Value).ownBlock∧some k_≠(.slice aW aE.length aX : Value).ownBlock∧some k_≠(.slice aY aG.length aZ : Value).ownBlock∧some k_≠(.slice ba aT.length bb : Value).ownBlock∧some k_≠(.slice bi a7.length bj : Value).ownBlock∧some k_≠(.slice bd aV.length bf : Value).ownBlock∧some k_≠(.slice bk a9.length bl : Value).ownBlock∧k_≠av∧k_≠aw∧k_≠ax)) (Kd.R_types (Kd.R_types (Kd.R_types (Kd.R_apart' (Kd.R_apart' (Kd.R_apart' (Kd.R_apart' (Kd.R_apart' (Kd.R_apart' (Kd.R_apart' (Kd.R_apart' (Kd.R_apart' (b4.out) (Kd.N_typed aa.out) (by decide)) (Kd.N_typed ae.out) (by decide)) (Kd.R_typed al.out) (by decide)) (Kd.N_typed ao.out) (by decide)) (Kd.N_typed ap.out) (by decide)) (Kd.R_typed aq.out) (by decide)) (Kd.N_typed ay.out) (by decide)) (Kd.N_typed az.out) (by decide)) (Kd.N_typed aA.out) (by decide)) ag.out (by decide)) am.out (by decide)) aC.out (by decide)) (fun k_ hk=>⟨hk.1.1.1.1.1.1.1.1.1.1.1.2,⟨hk.1.1.1.1.1.1.1.1.1.1.2,⟨hk.1.1.1.1.1.1.1.1.1.2,⟨hk.1.1.1.1.1.1.1.1.2,⟨hk.1.1.1.1.1.1.1.2,⟨hk.1.1.1.1.1.1.2,⟨hk.1.1.1.1.1.2,⟨hk.1.1.1.1.2,⟨hk.1.1.1.2,⟨hk.1.1.2,⟨hk.1.2,hk.2⟩⟩⟩⟩⟩⟩⟩⟩⟩⟩⟩))))) (Reps.none _ _)))
     intro eE w81 bx hb hg_ hnew_
     clear hg_ hnew_
     (first|rw [← cJ.out] at bx|(simp only [Int.reduceToNat] at bx;rw [← cJ.out] at bx)|rw [show (List.replicate (Int.toNat 11) (0 : Int))=cO from cJ.out.symm] at bx)
     replace aa:=zm (Kd.N_elder' (yr aa) (Kd.N_base bx) hb)
     replace ae:=zm (Kd.N_elder' (yr ae) (Kd.N_base bx) hb)
     replace al:=yRb al hb
     replace ao:=zm (Kd.N_elder' (yr ao) (Kd.N_base bx) hb)
     replace ap:=zm (Kd.N_elder' (yr ap) (Kd.N_base bx) hb)
     replace aq:=yRb aq hb
     replace ay:=zm (Kd.N_elder' (yr ay) (Kd.N_base bx) hb)
     replace az:=zm (Kd.N_elder' (yr az) (Kd.N_base bx) hb)
     replace aA:=zm (Kd.N_elder' (yr aA) (Kd.N_base bx) hb)
     replace bn:=zm (Kd.V_elder' (yr bn) (Kd.N_base bx) hb)
     replace bo:=zm (Kd.V_elder' (yr bo) (Kd.N_base bx) hb)
     replace bs:=zm (Kd.V_elder' (yr bs) (Kd.N_base bx) hb)
     replace bv:=zm (Kd.V_elder' (yr bv) (Kd.N_base bx) hb)
     have bN:=zm (Kd.N_lower bx (zE yhb))
     replace ag:=ybb ag hb
     replace am:=ybb am hb
     replace aC:=ybb aC hb
     replace HB:=ybs hb
     clear b4 hb bx
     obtain ⟨ee,ef,dB⟩:=Kd.N_slice bN.out
     (first|subst dB|(injection dB with f1_ f2_ f3_;have f4_:=f1_.symm;have f5_:=f3_.symm;clear f1_ f2_ f3_;subst f4_;subst f5_))
     refine hK.out _ _ yH (fun hHeld => ?_)
     clear hK K
     refine ym (some 62) ?_
     refine yw 28 63 HT_ (fun K hK => ?_)
     refine ygs Try.func24 #[.slice bd aV.length bf, .slice ee cO.length ef] ?_
     with_reducible refine (r12_Same.calls k _ _ aV _ _ cO true _ ?bg ?bh ?bq ?br A12.out).mono ?_
     (case bg=>exact yce (Kd.N_reads' az.out).2.2)
     (case bh=>exact (Kd.N_reads' az.out).2.1)
     (case bq=>exact yce (Kd.N_reads' bN.out).2.2)
     (case br=>exact (Kd.N_reads' bN.out).2.1)
     rintro e w' ⟨rfl,⟨nd,rfl⟩⟩
     refine ⟨_,rfl, ?_⟩
     refine hK.out _ _ yH (fun hHeld => ?_)
     clear hK K
     refine ym (some 63) ?_
     refine yp 29 64 HT_ ?_
     refine yp 30 65 HT_ ?_
     refine yp 31 66 HT_ ?_
     refine yp 32 67 HT_ ?_
     refine yp 33 68 HT_ ?_
     refine yp 34 69 HT_ ?_
     refine yl 35 70 HT_ HW_ hHeld ?_
     refine yw 36 71 HT_ (fun K hK => ?_)
     refine ygs Try.func15 #[.int .i64 11, .int .i64 1, .agg #[.bool true, .slice aK af.length aI, .slice aJ ac.length aH]] ?_
     with_reducible refine (cpack_Right.calls k 11 1 true _ _ af _ _ ac aQ _ ?bg ?bh ?bq ?br A15.out).mono ?_
     (case bg=>exact yce (Kd.N_reads' aa.out).2.2)
     (case bh=>exact (Kd.N_reads' aa.out).2.1)
     (case bq=>exact yce (Kd.N_reads' ae.out).2.2)
     (case br=>exact (Kd.N_reads' ae.out).2.1)
     rintro e w84 ⟨rfl,hb⟩
     refine ⟨_,rfl, ?_⟩
     replace aa:=yNb aa hb
     replace ae:=yNb ae hb
     replace al:=yRb al hb
     replace ao:=yNb ao hb
     replace ap:=yNb ap hb
     replace aq:=yRb aq hb
     replace ay:=yNb ay hb
     replace az:=yNb az hb
     replace aA:=yNb aA hb
     replace bn:=yVb bn hb
     replace bo:=yVb bo hb
     replace bs:=yVb bs hb
     replace bv:=yVb bv hb
     replace bN:=yNb bN hb
     replace ag:=ybb ag hb
     replace am:=ybb am hb
     replace aC:=ybb aC hb
     replace HB:=ybs hb
     (try clear hb)
     refine hK.out _ _ yH (fun hHeld => ?_)
     clear hK K
     refine ym (some 71) ?_
     refine yp 37 72 HT_ ?_
     refine yp 38 0 HT_ ?_
     refine done_ (done_of HT_.out (by kernel_rfl)) ?_
     try go_wp2
     go_ret
     exact ⟨ye,yhb⟩
    rw [if_neg c14] at H
    obtain ⟨cX,cY⟩:=yF c14
    exact absurd H (by simp)
   rw [if_neg c10] at H
   obtain ⟨cV,cW⟩:=yF c10
   exact absurd H (by simp)
  rw [if_neg c5] at H
  obtain ⟨dE,dF⟩:=yF c5
  exact absurd H (by simp)
 rw [if_neg c4] at H
 obtain ⟨dC,dD⟩:=yF c4
 exact absurd H (by simp)
mutual
def w13_PackAlone.j0 : Nat→Int→Int→List (List Int)→List (List Int)→Bool→Bool→List (List Int)→List (List (List Int))→Option (Bool)
 | 0,_,_,_,_,_,_,_,_=>none
 | k+1,x0,x1,x3,x4,x25,cb,bf,bg=>if x25=true then ((w13_knows.f k).bind fun bB=>(some bB)) else ((cpack_Write.f k x0 x1 true bf bg x3).bind fun aI=>((cpack_Write.f k x0 x1 true bf bg x4).bind fun bC=>(if aI.2=bC.2 then (w13_PackAlone.j1 k x0 x1 x3 x4 aI.1 aI.2 ((strOfNums aI.1).toList != (strOfNums bC.1).toList)) else (w13_PackAlone.j1 k x0 x1 x3 x4 aI.1 aI.2 true))))
def w13_PackAlone.j1 : Nat→Int→Int→List (List Int)→List (List Int)→List Int→Int→Bool→Option (Bool)
 | 0,_,_,_,_,_,_,_=>none
 | k+1,x0,x1,x3,x4,x11,x12,x53=>if x53=true then (none) else (if x12=0 then ((cpack_Read.f k x0 x1 x11 x3).bind fun aV=>((cpack_Read.f k x0 x1 x11 x4).bind fun bd=>(if aV.2.2.2=0 then (if bd.2.2.2=0 then ((w13_As.f aV.1 aV.2.1 aV.2.2.1).bind fun bo=>((w13_As.f bd.1 bd.2.1 bd.2.2.1).bind fun bp=>((r13_Same.f k bo.1 bo.2.1 bo.2.2 bp.1 bp.2.1 bp.2.2).bind fun b4=>(if b4=true then (if aV.1=true then ((w13_knows.f k).bind fun bD=>(some bD)) else (none)) else (none))))) else (none)) else (none)))) else ((w13_knows.f k).bind fun bE=>(some bE)))
end
def w13_PackAlone.f (k : Nat) (a0 : Int) (a1 : Int) (aJ : Bool) (av : List (List Int)) (aw : List (List (List Int))) (l3 : List (List Int)) (l4 : List (List Int)) : Option (Bool):=(w13_great.f k aJ av aw l3).bind fun bF=>(if bF=true then (w13_PackAlone.j0 k a0 a1 l3 l4 true aJ av aw) else ((w13_wide.f k l4).bind fun br=>(w13_PackAlone.j0 k a0 a1 l3 l4 br aJ av aw)))
theorem w13_PackAlone.mono_l : ∀ k,(∀ y0 y1 y2 y3 y4 y5 y6 y7,LeO (w13_PackAlone.j0 k y0 y1 y2 y3 y4 y5 y6 y7) (w13_PackAlone.j0 (k+1) y0 y1 y2 y3 y4 y5 y6 y7))∧(∀ y0 y1 y2 y3 y4 y5 y6,LeO (w13_PackAlone.j1 k y0 y1 y2 y3 y4 y5 y6) (w13_PackAlone.j1 (k+1) y0 y1 y2 y3 y4 y5 y6))
 | 0=>⟨fun _ _ _ _ _ _ _ _ r h=>by simp [w13_PackAlone.j0] at h,fun _ _ _ _ _ _ _ r h=>by simp [w13_PackAlone.j1] at h⟩
 | k+1=>by
  obtain ⟨ih0,ih1⟩:=w13_PackAlone.mono_l k
  refine ⟨?_, ?_⟩
  ·
   intro y0 y1 y2 y3 y4 y5 y6 y7
   unfold w13_PackAlone.j0
   repeat' with_reducible first|apply ih0|apply ih1|apply cpack_Read.mono|apply cpack_Write.mono|apply w13_great.mono|apply w13_knows.mono|apply w13_wide.mono|apply r13_Same.mono|apply yLr|apply yLn|apply yLi|apply yLb|intro _
  intro y0 y1 y2 y3 y4 y5 y6
  unfold w13_PackAlone.j1
  repeat' with_reducible first|apply ih0|apply ih1|apply cpack_Read.mono|apply cpack_Write.mono|apply w13_great.mono|apply w13_knows.mono|apply w13_wide.mono|apply r13_Same.mono|apply yLr|apply yLn|apply yLi|apply yLb|intro _
theorem w13_PackAlone.mono : ∀ a0 a1 a2 a3 a4 a5 a6 k,LeO (w13_PackAlone.f k a0 a1 a2 a3 a4 a5 a6) (w13_PackAlone.f (k+1) a0 a1 a2 a3 a4 a5 a6):=by
 intro a0 a1 a2 a3 a4 a5 a6 k
 obtain ⟨ih0,ih1⟩:=w13_PackAlone.mono_l k
 unfold w13_PackAlone.f
 repeat' with_reducible first|apply ih0|apply ih1|apply cpack_Read.mono|apply cpack_Write.mono|apply w13_great.mono|apply w13_knows.mono|apply w13_wide.mono|apply r13_Same.mono|apply yLr|apply yLn|apply yLi|apply yLb|intro _
def w13_PackAlone.T12 : Bool × List (List Nat × List Nat):=(true, [([], []),([0], [0]),([1], [1]),([2], [2]),([3,2], [2,3]),([2,4], [2,4]),([5,2], [5]),([6], [6]),([7,6,6], [6,7]),([6], [6]),([9,8,6], [6,9]),([8,10,10,6], [6,8,10]),([6,11], [6,11]),([12,11], [12]),([13], [13]),([14,13], [13,14]),([13,15], [13,15]),([16,13], [16]),([17,17], [17]),([17,18], [17,18]),([19,18,0,1,2,3,4,5,6,7,8,9,10,11,12,13,14,15,16,17,18,19], [19])])
def w13_PackAlone.B12 : List Nat := [0,1,3,7,15,31,63,127,255,127,1023,2047,4095,8191,16383,32767,65535,131071,262143,524287,1048575]
theorem w13_PackAlone.tab12 : rtab .any (opsOf Try.f9 12)=w13_PackAlone.T12:=by kernel_rfl
theorem w13_PackAlone.bits12 : waitsOk w13_PackAlone.T12.2 w13_PackAlone.B12=true:=by kernel_rfl
set_option maxHeartbeats 8000000 in
set_option maxRecDepth 100000 in
theorem w13_PackAlone.calls (k : Nat) (a0 : Int) (a1 : Int) (aJ : Bool) (aW : Option Addr) (aX : Nat) (av : List (List Int)) (aY : Option Addr) (aZ : Nat) (aw : List (List (List Int))) (A3 : Option Addr) (c3 : Nat) (l3 : List (List Int)) (A4 : Option Addr) (c4 : Nat) (l4 : List (List Int)) (r : Bool) (w : World) (hr2_1 : Kd.C (Kd.slice 3 (Kd.int .i64)) w aW av.length av) (hc2_1 : av.length≤aX) (hr2_2 : Kd.C (Kd.slice 49 (Kd.slice 3 (Kd.int .i64))) w aY aw.length aw) (hc2_2 : aw.length≤aZ) (hr3 : Kd.C (Kd.slice 3 (Kd.int .i64)) w A3 l3.length l3) (hc3 : l3.length≤c3) (hr4 : Kd.C (Kd.slice 3 (Kd.int .i64)) w A4 l4.length l4) (hc4 : l4.length≤c4) (h : w13_PackAlone.f k a0 a1 aJ av aw l3 l4=some r) :
  Calls Try.prog 9 #[.int .i64 a0, .int .i64 a1, .agg #[.bool aJ, .slice aW av.length aX, .slice aY aw.length aZ], .slice A3 l3.length c3, .slice A4 l4.length c4] w fun e w' => e=.returned (.bool r)∧Below w.heap.size w w' := by
 have hu25:=Try.underlying25;have bs:=zm hr2_1;have bv:=zm hc2_1;clear hr2_1 hc2_1;have bw:=zm hr2_2;have bx:=zm hc2_2;clear hr2_2 hc2_2;have HR3:=zm hr3;have HC3:=zm hc3;clear hr3 hc3;have HR4:=zm hr4;have HC4:=zm hc4;clear hr4 hc4;have HB:=zm (Below.refl w.heap.size w);have H:=h
 unfold w13_PackAlone.f at H
 clear h;have HC6:=zm H;clear H
 go_enter Try.func9,Try.ntmps9
 go_upto_region 1 with (first|((with_reducible refine gate_dst (N:=7) rfl ?_);refine ybx 7 #[.bool aJ, .slice aW av.length aX, .slice aY aw.length aZ] 25 ?_;intro ap hg w7 hbox hb;have aa:=zm (hbox);have cu:=ygw hg;have cv:=ygw hg;replace HB:=ybs hb;clear hb hbox hg))
 (try simp only [Act.put,List.setIfInBounds_toArray,List.set_cons_zero,List.set_cons_succ])
 go_cut [25] (fun v25 wc => ∃ (kq : Nat) (bz : Bool),v25=.bool bz∧Aside0 (w13_PackAlone.j0 kq a0 a1 l3 l4 bz aJ av aw=some r)∧Aside0 (kq≤k)∧Aside0 (wc.heap[ap]? = some (.cells #[.bool aJ,(.slice aW av.length aX),(.slice aY aw.length aZ)] 25 (0,0)))∧Aside0 (Below w.heap.size w wc))
 case first =>
  have H:=HC6.out;clear HC6
  replace H:=ybi H;obtain ⟨bF,A8,H⟩:=H
  by_cases c9 : bF=true
  ·
   subst c9
   rw [if_pos rfl] at H
   have H' := zm H
   clear H
   obtain ⟨_,_,_,_,_,_⟩:=yc3 aa
   go_wp2_with (first|((with_reducible refine gate_callee (f:=10) rfl ?_);refine ygl 21 Try.func10 #[.agg #[.bool aJ, .slice aW av.length aX, .slice aY aw.length aZ], .slice A3 l3.length c3] ?_;(with_reducible refine (w13_great.calls k aJ _ _ av _ _ aw _ _ l3 true _ ?al bv.out ?az bx.out ?aG HC3.out A8.out).mono ?_);(case al=>exact ycb bs);(case az=>exact ycb bw);(case aG=>exact ycb HR3);rintro e w11 ⟨rfl,hb⟩;refine ⟨_,rfl, ?_⟩;replace aa:=ybb aa hb;replace HB:=ybs hb;(try clear hb)))
   go_meet
   case rel=>exact ⟨_,(true),yq,H',⟨yo⟩,⟨yk aa⟩,⟨yhb⟩⟩
  replace c9:=Bool.eq_false_iff.mpr c9
  subst c9
  rw [ynf] at H
  replace H:=ybi H;obtain ⟨br,A12,H⟩:=H
  have H' := zm H
  clear H
  obtain ⟨_,_,_,_,_,_⟩:=yc3 aa
  go_wp2_with (first|((with_reducible refine gate_callee (f:=10) rfl ?_);refine ygl 21 Try.func10 #[.agg #[.bool aJ, .slice aW av.length aX, .slice aY aw.length aZ], .slice A3 l3.length c3] ?_;(with_reducible refine (w13_great.calls k aJ _ _ av _ _ aw _ _ l3 false _ ?al bv.out ?az bx.out ?aG HC3.out A8.out).mono ?_);(case al=>exact ycb bs);(case az=>exact ycb bw);(case aG=>exact ycb HR3);rintro e w14 ⟨rfl,hb⟩;refine ⟨_,rfl, ?_⟩;replace aa:=ybb aa hb;replace HB:=ybs hb;(try clear hb))|(go_at_call 19;(with_reducible refine (w13_wide.calls k _ _ l4 br _ ?al HC4.out A12.out).mono ?_);(case al=>exact ycb HR4);rintro e w' ⟨rfl,⟨nd,rfl⟩⟩))
  go_meet
  case rel=>exact ⟨_,(br),yq,H',⟨yo⟩,⟨yk aa⟩,⟨yhb⟩⟩
 case rest =>
  clear HC6
  try clear c3
  try clear c4
  obtain ⟨kq,bz,rfl,HA,HJ5,aa,HB⟩:=hcut
  obtain ⟨kj5,rfl⟩:=ysu kq (fun h=>by subst h;exact absurd HA.out (by simp [w13_PackAlone.j0]))
  have H:=HA.out;clear HA
  simp only [w13_PackAlone.j0] at H
  by_cases c15 : bz=true
  ·
   subst c15
   rw [if_pos rfl] at H
   replace H:=ybi H;obtain ⟨bB,A16,H⟩:=H
   obtain rfl:=Option.some.inj H
   go_wp2_with (first|((with_reducible refine gate_callee (f:=11) rfl ?_);refine ygl 26 Try.func11 #[] ?_;(with_reducible refine (w13_knows.calls kj5  bB _ A16.out).mono ?_);rintro e w17 ⟨rfl,hb⟩;refine ⟨_,rfl, ?_⟩;replace aa:=ybb aa hb;replace HB:=ybs hb;(try clear hb)))
   go_ret
   exact ⟨ye,yhb⟩
  replace c15:=Bool.eq_false_iff.mpr c15
  subst c15
  rw [ynf] at H
  replace H:=ybi H;obtain ⟨⟨am,bA⟩,A18,H⟩:=H
  try dsimp only at H
  replace H:=ybi H;obtain ⟨⟨b5,b6⟩,A19,H⟩:=H
  try dsimp only at H
  have b9:=zm H;clear H
  obtain ⟨bO,bP,bQ,bR,bS,bT⟩:=yc3 aa
  go_upto_region 6 with (first|((with_reducible refine gate_callee (f:=12) rfl ?_);refine ygl 33 Try.func12 #[.int .i64 a0, .int .i64 a1, .agg #[.bool true, .slice aW av.length aX, .slice aY aw.length aZ], .slice A3 l3.length c3] ?_;(with_reducible refine (cpack_Write.calls kj5 a0 a1 true _ _ av _ _ aw _ _ l3 am bA _ ?al bv.out ?az bx.out ?aG HC3.out A18.out).mono ?_);(case al=>exact Kd.C_below bs.out yhb);(case az=>exact Kd.C_below bw.out yhb);(case aG=>exact Kd.C_below HR3.out yhb);rintro e w22 ⟨ce,rfl,ho0,hb⟩;refine ⟨_,rfl, ?_⟩;have aK:=zm (Kd.R_lower ho0 (zE yhb));replace aa:=zm (zF (g:=ap) (o:=.cells #[.bool true, .slice aW av.length aX, .slice aY aw.length aZ] 25 (0,0)) (ykp aa) hb);replace HB:=ybs hb;(try clear hb);(try clear ho0);obtain ⟨bU,bV,bW,bX,bY,bZ⟩:=yc3 aa)|((with_reducible refine gate_callee (f:=12) rfl ?_);refine ygl 41 Try.func12 #[.int .i64 a0, .int .i64 a1, .agg #[.bool true, .slice aW av.length aX, .slice aY aw.length aZ], .slice A4 l4.length c4] ?_;(with_reducible refine (cpack_Write.calls kj5 a0 a1 true _ _ av _ _ aw _ _ l4 b5 b6 _ ?al bv.out ?az bx.out ?aG HC4.out A19.out).mono ?_);(case al=>exact ycb bs);(case az=>exact ycb bw);(case aG=>exact ycb HR4);rintro e w24 ⟨cN,rfl,ho0,hb⟩;refine ⟨_,rfl, ?_⟩;have ca:=zm (Kd.R_lower (Kd.R_new' ho0 (Kd.R_lt (yr aK))) (zE yhb));replace aK:=zm (Kd.R_elder' (yr aK) (Kd.R_base ho0) hb);replace aa:=ybb aa hb;replace HB:=ybs hb;(try clear hb);(try clear ho0)))
  (try simp only [Act.put,List.setIfInBounds_toArray,List.set_cons_zero,List.set_cons_succ])
  go_cut [53] (fun v53 wc => ∃ (kq : Nat) (bq : Bool),v53=.bool bq∧Aside0 (w13_PackAlone.j1 kq a0 a1 l3 l4 am bA bq=some r)∧Aside0 (kq≤kj5)∧Aside0 (Kd.R (Kd.int .u8) 5 wc w.heap.size (fun _=>True) ce am)∧Aside0 (wc.heap[ap]? = some (.cells #[.bool true,(.slice aW av.length aX),(.slice aY aw.length aZ)] 25 (0,0)))∧Aside0 (Below w.heap.size w wc))
  case first =>
   have H:=b9.out;clear b9
   by_cases c25 : bA=b6
   ·
    rw [if_pos c25] at H
    obtain ⟨bh,cf⟩:=yE c25
    clear c25
    (first|rw [bh]|(simp only [i64_w,i32_w];rw [bh])|skip)
    have H' := zm H
    clear H
    have hcv26:=own_string (P:=Try.prog) Try.underlying28 Try.underlying5 Try.underlying9 (Kd.own_of_R aK.out)
    have hcv27:=own_string (P:=Try.prog) Try.underlying28 Try.underlying5 Try.underlying9 (Kd.own_of_R ca.out)
    go_wp2
    go_meet
    case rel=>exact ⟨_,(((strOfNums am).toList != (strOfNums b5).toList)),yq,H',⟨yom1 HJ5⟩,⟨yR0 aK⟩,⟨yk aa⟩,⟨yhb⟩⟩
   rw [if_neg c25] at H
   obtain ⟨bh,cf⟩:=yF c25
   (first|rw [bh]|(simp only [i64_w,i32_w];rw [bh])|skip)
   have H' := zm H
   clear H
   go_wp2
   go_meet
   case rel=>exact ⟨_,(true),yq,H',⟨yom1 HJ5⟩,⟨yR0 aK⟩,⟨yk aa⟩,⟨yhb⟩⟩
  case rest =>
   clear b9
   try clear c3
   try clear c4
   try clear bO
   try clear bP
   try clear bQ
   try clear bU
   try clear bV
   try clear bW
   try clear bR
   try clear bS
   try clear bT
   try clear bX
   try clear bY
   try clear bZ
   obtain ⟨kq,bq,rfl,HA,cX,af,aa,HB⟩:=hcut
   obtain ⟨bG,rfl⟩:=ysu kq (fun h=>by subst h;exact absurd HA.out (by simp [w13_PackAlone.j1]))
   have H:=HA.out;clear HA
   simp only [w13_PackAlone.j1] at H
   replace H:=yie H;obtain ⟨c28,H⟩:=H
   replace c28:=Bool.eq_false_iff.mpr c28
   subst c28
   by_cases c29 : bA=0
   ·
    rw [if_pos c29] at H
    obtain ⟨cg,ch⟩:=yE c29
    clear c29
    replace H:=ybi H;obtain ⟨⟨cO,aq,ax,b7⟩,A30,H⟩:=H
    try dsimp only at H
    replace H:=ybi H;obtain ⟨⟨bc,au,ay,b8⟩,A31,H⟩:=H
    try dsimp only at H
    by_cases c32 : b7=0
    ·
     rw [if_pos c32] at H
     obtain ⟨ci,cj⟩:=yE c32
     clear c32
     by_cases c33 : b8=0
     ·
      rw [if_pos c33] at H
      obtain ⟨ck,cl⟩:=yE c33
      clear c33
      replace H:=ybi H;obtain ⟨⟨bH,bI,bJ⟩,A34,H⟩:=H
      try dsimp only at H
      replace H:=ybi H;obtain ⟨⟨bK,bL,bM⟩,A35,H⟩:=H
      try dsimp only at H
      replace H:=ybi H;obtain ⟨b4,A36,H⟩:=H
      replace H:=yif H;obtain ⟨c37,H⟩:=H
      try subst c37
      replace H:=yif H;obtain ⟨c38,H⟩:=H
      try subst c38
      replace H:=ybi H;obtain ⟨bD,A39,H⟩:=H
      obtain rfl:=Option.some.inj H
      obtain ⟨a7,aU,cw⟩:=Kd.R_slice af.out
      subst cw
      try go_wp2_with (first|((with_reducible refine gate_callee (f:=20) rfl ?_);refine ygl 62 Try.func20 #[.int .i64 a0, .int .i64 a1, .slice a7 am.length aU, .slice A3 l3.length c3] ?_;(with_reducible refine (cpack_Read.calls bG a0 a1 _ _ am _ _ l3 true aq ax b7 _ ?al ?aH ?az HC3.out A30.out).mono ?_);(case al=>exact yce (Kd.R_reads' af.out).2.2);(case aH=>exact (Kd.R_reads' af.out).2.1);(case az=>exact ycb HR3);rintro e w41 ⟨cP,cQ,rfl,ho0,ho1,hb⟩;refine ⟨_,rfl, ?_⟩;replace af:=yRb af hb;have ah:=zm (Kd.S_lower ho0 (zE yhb));have ag:=zm (Kd.R_lower ho1 (zE yhb));replace aa:=ybb aa hb;replace HB:=ybs hb;(try clear hb);(try clear ho0);(try clear ho1))|((with_reducible refine gate_dst (N:=15) rfl ?_);refine ybx 15 #[.bool false, .slice none 0 0, .slice none 0 0] 25 ?_;intro ao hg w42 hbox hb;replace af:=yRb af hb;replace ah:=ySb ah hb;replace ag:=yRb ag hb;have ac:=zm (hbox);have cx:=ygw hg;have cy:=ygw hg;replace HB:=ybs hb;have bi:=ynl aa hg;have bj:=yng aa hg;replace aa:=ybb aa hb;clear hb hbox hg;have:=bj.out;have:=bi.out;obtain ⟨_,_,_,_,_,_⟩:=yc3 ac;obtain ⟨aM,aN,cz⟩:=Kd.S_slice ah.out;subst cz;obtain ⟨a8,a9,cA⟩:=Kd.R_slice ag.out;subst cA)|((with_reducible refine gate_callee (f:=20) rfl ?_);refine ygl 70 Try.func20 #[.int .i64 a0, .int .i64 a1, .slice a7 am.length aU, .slice A4 l4.length c4] ?_;(with_reducible refine (cpack_Read.calls bG a0 a1 _ _ am _ _ l4 bc au ay b8 _ ?al ?aH ?az ?bN A31.out).mono ?_);(case al=>refine (Kd.R_reads' (e:=5) (base:=w.heap.size) (ok:=fun k_=>True) (n:=am.length) (c:=aU) ?_).2.2;exact (yR1 af ac));(case aH=>exact (Kd.R_reads' af.out).2.1);(case az=>exact Kd.C_below HR4.out yhb);(case bN=>exact HC4.out);rintro e w47 ⟨cR,cS,rfl,ho0,ho1,hb⟩;refine ⟨_,rfl, ?_⟩;replace af:=zm (Kd.R_below (yR1 af ac) hb);have aj:=zm (Kd.S_lower (Kd.S_new' ho0 (Kd.S_lt (yS1 ah ac))) (zE yhb));have ai:=zm (Kd.R_lower (Kd.R_new' (Kd.R_new' ho1 (Kd.S_lt (yS1 ah ac))) (Kd.R_lt (yR1 ag ac))) (zE yhb));replace ah:=zm (Kd.S_elder' (yS1 ah ac) (Kd.S_base ho0) hb);replace ag:=zm (zG (Kd.R_told (Kd.R_told (Kd.R_old (yR1 ag ac) hb) (Kd.S_base ho0)) (Kd.R_base ho1)) (fun _ h_=>h_.1));replace aa:=ybb aa hb;replace ac:=zm (zF (g:=ao) (o:=.cells #[.bool true, .slice aM aq.length aN, .slice a8 ax.length a9] 25 (0,0)) (ykp ac) hb);replace HB:=ybs hb;(try clear hb);(try clear ho0);(try clear ho1))|((with_reducible refine gate_dst (N:=17) rfl ?_);refine ybx 17 #[.bool false, .slice none 0 0, .slice none 0 0] 25 ?_;intro ak hg w48 hbox hb;replace af:=yRb af hb;replace ah:=ySb ah hb;replace ag:=yRb ag hb;replace aj:=ySb aj hb;replace ai:=yRb ai hb;have ae:=zm (hbox);have cB:=ygw hg;have cC:=ygw hg;replace HB:=ybs hb;have bk:=ynl aa hg;have bl:=yng aa hg;replace aa:=ybb aa hb;have bm:=ynl ac hg;have bn:=yng ac hg;replace ac:=ybb ac hb;clear hb hbox hg;have:=bl.out;have:=bk.out;have:=bn.out;have:=bm.out;obtain ⟨_,_,_,_,_,_⟩:=yc3 ae;obtain ⟨aQ,aT,cD⟩:=Kd.S_slice aj.out;subst cD;obtain ⟨ba,bb,cE⟩:=Kd.R_slice ai.out;subst cE))
      obtain ⟨w54,hw_⟩ : ∃ x,x=(((w48.setCell ⟨ak,0,none⟩ (.bool bc)).setCell ⟨ak,1,none⟩ (.slice aQ au.length aT)).setCell ⟨ak,2,none⟩ (.slice ba ay.length bb)):=⟨_,rfl⟩
      rw [← hw_]
      replace af : Aside0 (Kd.R (Kd.int .u8) 5 w54 w.heap.size (fun _=>True) (.slice a7 am.length aU) am):=⟨by rw [hw_];exact (yR1 af ae)⟩
      replace ah : Aside0 (Kd.S (Kd.slice 3 (Kd.int .i64)) 49 w54 w.heap.size (fun k_=>some k_≠(.slice aQ au.length aT : Value).ownBlock) (.slice aM aq.length aN) aq):=⟨by rw [hw_];exact (yS1 ah ae)⟩
      replace ag : Aside0 (Kd.R (Kd.slice 49 (Kd.slice 3 (Kd.int .i64))) 22 w54 w.heap.size (fun k_=>some k_≠(.slice aM aq.length aN : Value).ownBlock∧some k_≠(.slice aQ au.length aT : Value).ownBlock∧some k_≠(.slice ba ay.length bb : Value).ownBlock) (.slice a8 ax.length a9) ax):=⟨by rw [hw_];exact (yR1 ag ae)⟩
      replace aj : Aside0 (Kd.S (Kd.slice 3 (Kd.int .i64)) 49 w54 w.heap.size (fun k_=>some k_≠(.slice aM aq.length aN : Value).ownBlock) (.slice aQ au.length aT) au):=⟨by rw [hw_];exact (yS1 aj ae)⟩
      replace ai : Aside0 (Kd.R (Kd.slice 49 (Kd.slice 3 (Kd.int .i64))) 22 w54 w.heap.size (fun k_=>some k_≠(.slice aM aq.length aN : Value).ownBlock∧some k_≠(.slice a8 ax.length a9 : Value).ownBlock∧some k_≠(.slice aQ au.length aT : Value).ownBlock) (.slice ba ay.length bb) ay):=⟨by rw [hw_];exact (yR1 ai ae)⟩
      replace aa : Aside0 (w54.heap[ap]? = some (.cells #[.bool true, .slice aW av.length aX, .slice aY aw.length aZ] 25 (0,0))):=⟨by rw [hw_];exact (yk aa)⟩
      replace ac : Aside0 (w54.heap[ao]? = some (.cells #[.bool true, .slice aM aq.length aN, .slice a8 ax.length a9] 25 (0,0))):=⟨by rw [hw_];exact (yk ac)⟩
      replace ae : Aside0 (w54.heap[ak]? = some (.cells #[.bool bc, .slice aQ au.length aT, .slice ba ay.length bb] 25 (0,0))):=⟨by rw [hw_];exact (ykp ae)⟩
      replace HB : Aside0 (Below w.heap.size w w54):=⟨by rw [hw_];exact (yhb)⟩
      clear hw_
      replace af:=zm (zq af.out)
      replace ah:=zm (Kd.S_drew ah.out)
      replace ag:=zm (zq ag.out)
      replace aj:=zm (Kd.S_drew aj.out)
      replace ai:=zm (zq ai.out)
      replace aa:=zm (zj aa.out)
      replace ac:=zm (zj ac.out)
      replace ae:=zm (zj ae.out)
      replace HB:=zm (zf HB.out)
      refine yst (fun w' => w'.cell? ⟨ao,0,none⟩=some (.bool true)∧w'.cell? ⟨ao,1,none⟩=some (.slice aM aq.length aN)∧w'.cell? ⟨ao,2,none⟩=some (.slice a8 ax.length a9)∧w'.cell? ⟨ak,0,none⟩=some (.bool bc)∧w'.cell? ⟨ak,1,none⟩=some (.slice aQ au.length aT)∧w'.cell? ⟨ak,2,none⟩=some (.slice ba ay.length bb)) [] 21 w13_PackAlone.tab12 w13_PackAlone.bits12 (fun hHeld HT_ HW_ => ?_)
      generalize w54.drew=w55 at af ah ag aj ai aa ac ae HB hHeld ⊢
      refine yp 0 73 HT_ ?_
      refine yp 1 74 HT_ ?_
      refine yp 2 75 HT_ ?_
      refine yp 3 76 HT_ ?_
      refine yp 4 77 HT_ ?_
      refine yp 5 78 HT_ ?_
      refine yp 6 79 HT_ ?_
      refine yl 7 80 HT_ HW_ hHeld ?_
      refine yl 9 82 HT_ HW_ hHeld ?_
      refine yw 8 81 HT_ (fun K hK => ?_)
      refine ygs Try.func14 #[.agg #[.bool true, .slice aM aq.length aN, .slice a8 ax.length a9]] ?_
      with_reducible refine (w13_As.calls true (fun k_=>((((((some k_≠(.slice aQ au.length aT : Value).ownBlock∧some k_≠(.slice a7 am.length aU : Value).ownBlock)∧some k_≠(.slice a8 ax.length a9 : Value).ownBlock)∧some k_≠(.slice ba ay.length bb : Value).ownBlock)∧k_≠ap)∧k_≠ao)∧k_≠ak)) _ _ aq (fun k_=>(((((some k_≠(.slice aM aq.length aN : Value).ownBlock∧(some k_≠(.slice aQ au.length aT : Value).ownBlock∧some k_≠(.slice ba ay.length bb : Value).ownBlock))∧some k_≠(.slice a7 am.length aU : Value).ownBlock)∧k_≠ap)∧k_≠ao)∧k_≠ak)) _ _ ax bH bI bJ _ ?al ?aH A34.out).mono ?_
      (case al=>exact Kd.S_V (Kd.S_types (Kd.S_types (Kd.S_types (Kd.S_apart' (Kd.S_apart' (Kd.S_apart' (ah.out) (Kd.R_typed af.out) (by decide)) (Kd.R_typed ag.out) (by decide)) (Kd.R_typed ai.out) (by decide)) aa.out (by decide)) ac.out (by decide)) ae.out (by decide)))
      (case aH=>exact Kd.R_V (Kd.R_types (Kd.R_types (Kd.R_types (Kd.R_apart' (ag.out) (Kd.R_typed af.out) (by decide)) aa.out (by decide)) ac.out (by decide)) ae.out (by decide)))
      rintro e w56 ⟨cT,cU,rfl,ho0,ho1,hb⟩
      refine ⟨_,rfl, ?_⟩
      replace ah:=ySb ah hb
      replace ag:=yRb ag hb
      have aA:=yho (fun k_=>some k_≠(.slice a7 am.length aU : Value).ownBlock∧some k_≠(.slice aQ au.length aT : Value).ownBlock∧some k_≠(.slice ba ay.length bb : Value).ownBlock∧k_≠ap∧k_≠ao∧k_≠ak) ho0 (fun k_ hk_=>⟨yoR af hk_,yoS aj hk_,yoR ai hk_,yoB aa hk_,yoB ac hk_,yoB ae hk_⟩)
      have aC:=yho (fun k_=>some k_≠(.slice a7 am.length aU : Value).ownBlock∧some k_≠(.slice aQ au.length aT : Value).ownBlock∧some k_≠(.slice ba ay.length bb : Value).ownBlock∧k_≠ap∧k_≠ao∧k_≠ak) ho1 (fun k_ hk_=>⟨yoR af hk_,yoS aj hk_,yoR ai hk_,yoB aa hk_,yoB ac hk_,yoB ae hk_⟩)
      replace af:=yRb af hb
      replace aj:=ySb aj hb
      replace ai:=yRb ai hb
      replace aa:=ybb aa hb
      replace ac:=ybb ac hb
      replace ae:=ybb ae hb
      replace HB:=ybs hb
      (try clear hb)
      (try clear ho0)
      (try clear ho1)
      refine hK.out _ _ yH (fun hHeld => ?_)
      clear hK K
      refine ym (some 81) ?_
      refine yw 10 83 HT_ (fun K hK => ?_)
      refine ygs Try.func14 #[.agg #[.bool bc, .slice aQ au.length aT, .slice ba ay.length bb]] ?_
      with_reducible refine (w13_As.calls bc (fun k_=>((((((some k_≠(.slice aM aq.length aN : Value).ownBlock∧some k_≠(.slice a7 am.length aU : Value).ownBlock)∧some k_≠(.slice a8 ax.length a9 : Value).ownBlock)∧some k_≠(.slice ba ay.length bb : Value).ownBlock)∧k_≠ap)∧k_≠ao)∧k_≠ak)) _ _ au (fun k_=>(((((some k_≠(.slice aM aq.length aN : Value).ownBlock∧(some k_≠(.slice a8 ax.length a9 : Value).ownBlock∧some k_≠(.slice aQ au.length aT : Value).ownBlock))∧some k_≠(.slice a7 am.length aU : Value).ownBlock)∧k_≠ap)∧k_≠ao)∧k_≠ak)) _ _ ay bK bL bM _ ?al ?aH A35.out).mono ?_
      (case al=>exact Kd.S_V (Kd.S_types (Kd.S_types (Kd.S_types (Kd.S_apart' (Kd.S_apart' (Kd.S_apart' (aj.out) (Kd.R_typed af.out) (by decide)) (Kd.R_typed ag.out) (by decide)) (Kd.R_typed ai.out) (by decide)) aa.out (by decide)) ac.out (by decide)) ae.out (by decide)))
      (case aH=>exact Kd.R_V (Kd.R_types (Kd.R_types (Kd.R_types (Kd.R_apart' (ai.out) (Kd.R_typed af.out) (by decide)) aa.out (by decide)) ac.out (by decide)) ae.out (by decide)))
      rintro e w57 ⟨cV,cW,rfl,ho0,ho1,hb⟩
      refine ⟨_,rfl, ?_⟩
      replace aj:=ySb aj hb
      replace ai:=yRb ai hb
      replace aA:=yVb aA hb
      replace aC:=yVb aC hb
      have aD:=yho (fun k_=>some k_≠(.slice a7 am.length aU : Value).ownBlock∧some k_≠(.slice aM aq.length aN : Value).ownBlock∧some k_≠(.slice a8 ax.length a9 : Value).ownBlock∧k_≠ap∧k_≠ao∧k_≠ak) ho0 (fun k_ hk_=>⟨yoR af hk_,yoS ah hk_,yoR ag hk_,yoB aa hk_,yoB ac hk_,yoB ae hk_⟩)
      have aE:=yho (fun k_=>some k_≠(.slice a7 am.length aU : Value).ownBlock∧some k_≠(.slice aM aq.length aN : Value).ownBlock∧some k_≠(.slice a8 ax.length a9 : Value).ownBlock∧k_≠ap∧k_≠ao∧k_≠ak) ho1 (fun k_ hk_=>⟨yoR af hk_,yoS ah hk_,yoR ag hk_,yoB aa hk_,yoB ac hk_,yoB ae hk_⟩)
      replace af:=yRb af hb
      replace ah:=ySb ah hb
      replace ag:=yRb ag hb
      replace aa:=ybb aa hb
      replace ac:=ybb ac hb
      replace ae:=ybb ae hb
      replace HB:=ybs hb
      (try clear hb)
      (try clear ho0)
      (try clear ho1)
      obtain ⟨cF,cG,cm⟩:=Kd.V_slice aA.out
      (first|subst cm|(injection cm with f1_ f2_ f3_;have f4_:=f1_.symm;have f5_:=f3_.symm;clear f1_ f2_ f3_;subst f4_;subst f5_))
      obtain ⟨cH,cI,cn⟩:=Kd.V_slice aC.out
      (first|subst cn|(injection cn with f1_ f2_ f3_;have f4_:=f1_.symm;have f5_:=f3_.symm;clear f1_ f2_ f3_;subst f4_;subst f5_))
      obtain ⟨cJ,cK,co⟩:=Kd.V_slice aD.out
      (first|subst co|(injection co with f1_ f2_ f3_;have f4_:=f1_.symm;have f5_:=f3_.symm;clear f1_ f2_ f3_;subst f4_;subst f5_))
      obtain ⟨cL,cM,cp⟩:=Kd.V_slice aE.out
      (first|subst cp|(injection cp with f1_ f2_ f3_;have f4_:=f1_.symm;have f5_:=f3_.symm;clear f1_ f2_ f3_;subst f4_;subst f5_))
      refine hK.out _ _ yH (fun hHeld => ?_)
      clear hK K
      refine ym (some 83) ?_
      refine yw 11 84 HT_ (fun K hK => ?_)
      refine ygs Try.func22 #[.agg #[.bool bH, .slice cF bI.length cG, .slice cH bJ.length cI], .agg #[.bool bK, .slice cJ bL.length cK, .slice cL bM.length cM]] ?_
      with_reducible refine (r13_Same.calls bG bH _ _ bI _ _ bJ bK _ _ bL _ _ bM true _ ?al ?aH ?az ?bN ?aG ?cq ?cr ?ct A36.out).mono ?_
      (case al=>exact yce (Kd.V_reads' aA.out).2.2)
      (case aH=>exact (Kd.V_reads' aA.out).2.1)
      (case az=>exact yce (Kd.V_reads' aC.out).2.2)
      (case bN=>exact (Kd.V_reads' aC.out).2.1)
      (case aG=>exact yce (Kd.V_reads' aD.out).2.2)
      (case cq=>exact (Kd.V_reads' aD.out).2.1)
      (case cr=>exact yce (Kd.V_reads' aE.out).2.2)
      (case ct=>exact (Kd.V_reads' aE.out).2.1)
      rintro e w62 ⟨rfl,hb⟩
      refine ⟨_,rfl, ?_⟩
      replace af:=yRb af hb
      replace ah:=ySb ah hb
      replace ag:=yRb ag hb
      replace aj:=ySb aj hb
      replace ai:=yRb ai hb
      replace aA:=yVb aA hb
      replace aC:=yVb aC hb
      replace aD:=yVb aD hb
      replace aE:=yVb aE hb
      replace aa:=ybb aa hb
      replace ac:=ybb ac hb
      replace ae:=ybb ae hb
      replace HB:=ybs hb
      (try clear hb)
      refine hK.out _ _ yH (fun hHeld => ?_)
      clear hK K
      refine ym (some 84) ?_
      refine yp 12 85 HT_ ?_
      refine yp 13 86 HT_ ?_
      refine yp 14 87 HT_ ?_
      refine yl 15 88 HT_ HW_ hHeld ?_
      refine yp 16 89 HT_ ?_
      refine yp 17 90 HT_ ?_
      refine yw 18 91 HT_ (fun K hK => ?_)
      refine ygs Try.func11 #[] ?_
      with_reducible refine (w13_knows.calls bG  bD _ A39.out).mono ?_
      rintro e w63 ⟨rfl,hb⟩
      refine ⟨_,rfl, ?_⟩
      replace af:=yRb af hb
      replace ah:=ySb ah hb
      replace ag:=yRb ag hb
      replace aj:=ySb aj hb
      replace ai:=yRb ai hb
      replace aA:=yVb aA hb
      replace aC:=yVb aC hb
      replace aD:=yVb aD hb
      replace aE:=yVb aE hb
      replace aa:=ybb aa hb
      replace ac:=ybb ac hb
      replace ae:=ybb ae hb
      replace HB:=ybs hb
      (try clear hb)
      refine hK.out _ _ yH (fun hHeld => ?_)
      clear hK K
      refine ym (some 91) ?_
      refine yp 19 92 HT_ ?_
      refine yp 20 10 HT_ ?_
      refine done_ (done_of HT_.out (by kernel_rfl)) ?_
      try go_wp2
      go_ret
      exact ⟨ye,yhb⟩
     rw [if_neg c33] at H
     obtain ⟨ck,cl⟩:=yF c33
     exact absurd H (by simp)
    rw [if_neg c32] at H
    obtain ⟨ci,cj⟩:=yF c32
    exact absurd H (by simp)
   rw [if_neg c29] at H
   obtain ⟨cg,ch⟩:=yF c29
   replace H:=ybi H;obtain ⟨bE,A64,H⟩:=H
   obtain rfl:=Option.some.inj H
   go_wp2_with (first|((with_reducible refine gate_callee (f:=11) rfl ?_);refine ygl 56 Try.func11 #[] ?_;(with_reducible refine (w13_knows.calls bG  bE _ A64.out).mono ?_);rintro e w65 ⟨rfl,hb⟩;refine ⟨_,rfl, ?_⟩;replace af:=yRb af hb;replace aa:=ybb aa hb;replace HB:=ybs hb;(try clear hb)))
   go_ret
   exact ⟨ye,yhb⟩
def r12_Right.f (a0 : Int) (a1 : Int) : Option (Bool):=if a0≤60 then (if a1=1 then (if a0 ≥ 11 then (some true) else (if a1=2 then (some (decide (a0 ≥ 17))) else (some false))) else (if a1=2 then (some (decide (a0 ≥ 17))) else (some false))) else (some false)
set_option maxHeartbeats 8000000 in
set_option maxRecDepth 100000 in
theorem r12_Right.calls (a0 : Int) (a1 : Int) (r : Bool) (w : World) (h : r12_Right.f a0 a1=some r) :
  Calls Try.prog 23 #[.int .i64 a0, .int .i64 a1] w fun e w' => e=.returned (.bool r)∧Drawn0 w w' := by
 have H:=h
 unfold r12_Right.f at H
 clear h
 by_cases c3 : a0≤60
 ·
  rw [if_pos c3] at H
  have aa:=yD c3
  clear c3
  by_cases c4 : a1=1
  ·
   rw [if_pos c4] at H
   obtain ⟨ac,ae⟩:=yE c4
   clear c4
   by_cases c5 : a0 ≥ 11
   ·
    rw [if_pos c5] at H
    have af:=yDl c5
    clear c5
    obtain rfl:=Option.some.inj H
    go_enter Try.func23,Try.ntmps23
    go_wp2
    go_ret
    exact ⟨yq,yd⟩
   rw [if_neg c5] at H
   have af:=yGl c5
   clear c5
   by_cases c6 : a1=2
   ·
    rw [if_pos c6] at H
    obtain ⟨ag,ah⟩:=yE c6
    clear c6
    obtain rfl:=Option.some.inj H
    go_enter Try.func23,Try.ntmps23
    go_wp2
    go_ret
    exact ⟨yq,yd⟩
   rw [if_neg c6] at H
   obtain ⟨ag,ah⟩:=yF c6
   obtain rfl:=Option.some.inj H
   go_enter Try.func23,Try.ntmps23
   go_wp2
   go_ret
   exact ⟨yq,yd⟩
  rw [if_neg c4] at H
  obtain ⟨ac,ae⟩:=yF c4
  by_cases c7 : a1=2
  ·
   rw [if_pos c7] at H
   obtain ⟨ai,aj⟩:=yE c7
   clear c7
   obtain rfl:=Option.some.inj H
   go_enter Try.func23,Try.ntmps23
   go_wp2
   go_ret
   exact ⟨yq,yd⟩
  rw [if_neg c7] at H
  obtain ⟨ai,aj⟩:=yF c7
  obtain rfl:=Option.some.inj H
  go_enter Try.func23,Try.ntmps23
  go_wp2
  go_ret
  exact ⟨yq,yd⟩
 rw [if_neg c3] at H
 have aa:=yG c3
 clear c3
 obtain rfl:=Option.some.inj H
 go_enter Try.func23,Try.ntmps23
 go_wp2
 go_ret
 exact ⟨yq,yd⟩
def r12_Room.f (a0 : Int) (a1 : Int) : Option (Int):=(r12_Right.f a0 a1).bind fun aa=>(if aa=true then (if a1=1 then (some (wrap64 ((wrap64 (8 * a0)) - 86))) else (some (wrap64 (Int.tdiv (wrap64 ((wrap64 (8 * a0)) - 131)) 2)))) else (some 0))
set_option maxHeartbeats 8000000 in
set_option maxRecDepth 100000 in
theorem r12_Room.calls (a0 : Int) (a1 : Int) (r : Int) (w : World) (h : r12_Room.f a0 a1=some r) :
  Calls Try.prog 84 #[.int .i64 a0, .int .i64 a1] w fun e w' => e=.returned (.int .i64 r)∧Drawn0 w w' := by
 have H:=h
 unfold r12_Room.f at H
 clear h
 obtain ⟨aa,A3,H⟩:=ybi H
 by_cases c4 : aa=true
 ·
  subst c4
  rw [if_pos rfl] at H
  by_cases c5 : a1=1
  ·
   rw [if_pos c5] at H
   obtain ⟨ac,ae⟩:=yE c5
   clear c5
   obtain rfl:=Option.some.inj H
   go_enter Try.func84,Try.ntmps84
   go_wp2_with (first|((with_reducible refine gate_callee (f:=23) rfl ?_);refine ygl 7 Try.func23 #[.int .i64 a0, .int .i64 a1] ?_;(with_reducible refine (r12_Right.calls a0 a1 true _ A3.out).mono ?_);rintro e w' ⟨rfl,⟨nd,rfl⟩⟩;refine ⟨_,rfl, ?_⟩))
   go_ret
   exact ⟨yq,yd⟩
  rw [if_neg c5] at H
  obtain ⟨ac,ae⟩:=yF c5
  obtain rfl:=Option.some.inj H
  go_enter Try.func84,Try.ntmps84
  go_wp2_with (first|((with_reducible refine gate_callee (f:=23) rfl ?_);refine ygl 7 Try.func23 #[.int .i64 a0, .int .i64 a1] ?_;(with_reducible refine (r12_Right.calls a0 a1 true _ A3.out).mono ?_);rintro e w' ⟨rfl,⟨nd,rfl⟩⟩;refine ⟨_,rfl, ?_⟩))
  go_ret
  exact ⟨yq,yd⟩
 replace c4:=Bool.eq_false_iff.mpr c4
 subst c4
 rw [ynf] at H
 obtain rfl:=Option.some.inj H
 go_enter Try.func84,Try.ntmps84
 go_wp2_with (first|((with_reducible refine gate_callee (f:=23) rfl ?_);refine ygl 7 Try.func23 #[.int .i64 a0, .int .i64 a1] ?_;(with_reducible refine (r12_Right.calls a0 a1 false _ A3.out).mono ?_);rintro e w' ⟨rfl,⟨nd,rfl⟩⟩;refine ⟨_,rfl, ?_⟩))
 go_ret
 exact ⟨yq,yd⟩
mutual
def r06_Row.l0 : Nat→Int→List Int→Int→Option (List Int)
 | 0,_,_,_=>none
 | k+1,x0,x3,x4=>if x4≤12 then (if x4=0 then (if x3.length < 17592186044416 then (r06_Row.l0 k x0 (x3 ++ [1]) (wrap64 (x4+1))) else (none)) else (if x3.length < 17592186044416 then (r06_Row.l0 k x0 (x3 ++ [0]) (wrap64 (x4+1))) else (none))) else (r06_Row.l1 k x0 x3 0)
def r06_Row.l1 : Nat→Int→List Int→Int→Option (List Int)
 | 0,_,_,_=>none
 | k+1,x0,x3,x5=>if x5 < x0 then (r06_Row.l2 k x0 x3 x5 ([] : List Int) 0) else (some x3)
def r06_Row.l2 : Nat→Int→List Int→Int→List Int→Int→Option (List Int)
 | 0,_,_,_,_,_=>none
 | k+1,x0,x3,x5,x6,x7=>if x7≤12 then (if 0≤x7 then (if x7 < (x3.length : Int) then (r06_Row.l3 k x0 x3 x5 x6 x7 (rd x3 x7) 1) else (none)) else (none)) else (r06_Row.l1 k x0 x6 (wrap64 (x5+1)))
def r06_Row.l3 : Nat→Int→List Int→Int→List Int→Int→Int→Int→Option (List Int)
 | 0,_,_,_,_,_,_,_=>none
 | k+1,x0,x3,x5,x6,x7,x8,x9=>if x9≤x7 then (if 0≤(wrap64 (x7 - x9)) then (if (wrap64 (x7 - x9)) < (x3.length : Int) then (r06_Row.l3 k x0 x3 x5 x6 x7 (IntKind.u64.wrap (x8+(IntKind.u64.wrap (2 * (rd x3 (wrap64 (x7 - x9))))))) (wrap64 (x9+1))) else (none)) else (none)) else (if x6.length < 17592186044416 then (r06_Row.l2 k x0 x3 x5 (x6 ++ [x8]) (wrap64 (x7+1))) else (none))
end
def r06_Row.f (k : Nat) (a0 : Int) : Option (List Int):=r06_Row.l0 k a0 ([] : List Int) 0
theorem r06_Row.mono_l : ∀ k,(∀ y0 y1 y2,LeO (r06_Row.l0 k y0 y1 y2) (r06_Row.l0 (k+1) y0 y1 y2))∧(∀ y0 y1 y2,LeO (r06_Row.l1 k y0 y1 y2) (r06_Row.l1 (k+1) y0 y1 y2))∧(∀ y0 y1 y2 y3 y4,LeO (r06_Row.l2 k y0 y1 y2 y3 y4) (r06_Row.l2 (k+1) y0 y1 y2 y3 y4))∧(∀ y0 y1 y2 y3 y4 y5 y6,LeO (r06_Row.l3 k y0 y1 y2 y3 y4 y5 y6) (r06_Row.l3 (k+1) y0 y1 y2 y3 y4 y5 y6))
 | 0=>⟨fun _ _ _ r h=>by simp [r06_Row.l0] at h,fun _ _ _ r h=>by simp [r06_Row.l1] at h,fun _ _ _ _ _ r h=>by simp [r06_Row.l2] at h,fun _ _ _ _ _ _ _ r h=>by simp [r06_Row.l3] at h⟩
 | k+1=>by
  obtain ⟨ih0,ih1,ih2,ih3⟩:=r06_Row.mono_l k
  refine ⟨?_, ?_, ?_, ?_⟩
  ·
   intro y0 y1 y2
   unfold r06_Row.l0
   repeat' with_reducible first|apply ih0|apply ih1|apply ih2|apply ih3|apply yLr|apply yLn|apply yLi|apply yLb|intro _
  ·
   intro y0 y1 y2
   unfold r06_Row.l1
   repeat' with_reducible first|apply ih0|apply ih1|apply ih2|apply ih3|apply yLr|apply yLn|apply yLi|apply yLb|intro _
  ·
   intro y0 y1 y2 y3 y4
   unfold r06_Row.l2
   repeat' with_reducible first|apply ih0|apply ih1|apply ih2|apply ih3|apply yLr|apply yLn|apply yLi|apply yLb|intro _
  intro y0 y1 y2 y3 y4 y5 y6
  unfold r06_Row.l3
  repeat' with_reducible first|apply ih0|apply ih1|apply ih2|apply ih3|apply yLr|apply yLn|apply yLi|apply yLb|intro _
theorem r06_Row.mono : ∀ a0 k,LeO (r06_Row.f k a0) (r06_Row.f (k+1) a0):=by
 intro a0 k
 obtain ⟨ih0,ih1,ih2,ih3⟩:=r06_Row.mono_l k
 unfold r06_Row.f
 repeat' with_reducible first|apply ih0|apply ih1|apply ih2|apply ih3|apply yLr|apply yLn|apply yLi|apply yLb|intro _
set_option maxHeartbeats 8000000 in
set_option maxRecDepth 100000 in
theorem r06_Row.calls (k : Nat) (a0 : Int) (r : List Int) (w : World) (h : r06_Row.f k a0=some r) :
  Calls Try.prog 81 #[.int .i64 a0] w fun e w' => ∃ v0_ : Value,e=.returned (v0_)∧Kd.R (Kd.int .u64) 51 w' w.heap.size (fun _=>True) v0_ r∧Below w.heap.size w w' := by
 have HB:=zm (Below.refl w.heap.size w);have H:=h
 unfold r06_Row.f at H
 clear h
 have H' := zm H
 clear H
 go_enter Try.func81,Try.ntmps81
 go_wp2
 go_loopg [3,4] k (fun kq v3 v4 w' => ∃ (ag : List Int) (af : Int),v4=.int .i64 af∧Aside0 (r06_Row.l0 kq a0 ag af=some r)∧Aside0 (kq≤k)∧Aside0 (Kd.R (Kd.int .u64) 51 w' w.heap.size (fun _=>True) v3 ag)∧Aside0 (Below w.heap.size w w'))
 case atStart=>exact ⟨(([] : List Int)),(0),yq,H',⟨Nat.le_refl _⟩,⟨yn⟩,⟨yhb⟩⟩
 case round =>
  clear H'
  obtain ⟨ag,af,rfl,HA,HK1,aa,HB⟩:=hrel
  obtain ⟨k1,rfl⟩:=ysu gk (fun h=>by subst h;exact absurd HA.out (by simp [r06_Row.l0]))
  have H:=HA.out;clear HA
  simp only [r06_Row.l0] at H
  by_cases c2 : af≤12
  ·
   rw [if_pos c2] at H
   have aD:=yD c2
   clear c2
   by_cases c3 : af=0
   ·
    rw [if_pos c3] at H
    obtain ⟨a7,a8⟩:=yE c3
    clear c3
    obtain ⟨c4,H⟩:=yif H
    have LMc4:=zm c4;clear c4
    obtain ⟨aE,aq⟩ : ∃ y_ : List Int,y_=(ag ++ [1]):=⟨_,rfl⟩
    replace H : (r06_Row.l0 k1 a0 aE (wrap64 (af+1)))=some r:=yrw aq H
    have aG:=zm aq;clear aq
    have H' := zm H
    clear H
    go_wp2_with (first|((with_reducible refine gate_builtin (b:=.append) (xs := #[.tmp 16, .tmp 17]) rfl ?_);at_builtin;refine Kd.R_append (Kd.int .u64) (w0:=w) w.heap.size rfl (.tmp 16) (.tmp 17) 126 51 (.int .u64 0) 8 rfl Try.underlying126 info51 rfl (by decide) (by omega) u3 ag 1 [.int .u64 1] (fun _=>True) (fun _=>False) rfl rfl ?aP (fun _ hk=>hk.elim) ?aF ?aO ?aB ?aS ?aL ?_;(case aP=>exact rfl);(case aB=>exact yhb);(case aF=>exact (fun _ _=>trivial));(case aO=>exact (yr aa));(case aS=>exact (zE yhb));(case aL=>have:=LMc4.out;omega);intro bf w5 ho hb hg hat;rw [← aG.out] at ho;replace HB:=zm (hb);have aH:=zm (ho);clear aa;clear ho hb hg hat))
    go_roundg k1
    case measure=>exact yom1 HK1
    case rel=>exact ⟨(aE),(wrap64 (af+1)),yq,H',⟨yom1 HK1⟩,⟨yr aH⟩,⟨yhb⟩⟩
   rw [if_neg c3] at H
   obtain ⟨a7,a8⟩:=yF c3
   obtain ⟨c6,H⟩:=yif H
   have LMc6:=zm c6;clear c6
   obtain ⟨aI,au⟩ : ∃ y_ : List Int,y_=(ag ++ [0]):=⟨_,rfl⟩
   replace H : (r06_Row.l0 k1 a0 aI (wrap64 (af+1)))=some r:=yrw au H
   have aJ:=zm au;clear au
   have H' := zm H
   clear H
   go_wp2_with (first|((with_reducible refine gate_builtin (b:=.append) (xs := #[.tmp 19, .tmp 20]) rfl ?_);at_builtin;refine Kd.R_append (Kd.int .u64) (w0:=w) w.heap.size rfl (.tmp 19) (.tmp 20) 126 51 (.int .u64 0) 8 rfl Try.underlying126 info51 rfl (by decide) (by omega) u3 ag 0 [.int .u64 0] (fun _=>True) (fun _=>False) rfl rfl ?aP (fun _ hk=>hk.elim) ?aF ?aO ?aB ?aS ?aL ?_;(case aP=>exact rfl);(case aB=>exact yhb);(case aF=>exact (fun _ _=>trivial));(case aO=>exact (yr aa));(case aS=>exact (zE yhb));(case aL=>have:=LMc6.out;omega);intro bg w7 ho hb hg hat;rw [← aJ.out] at ho;replace HB:=zm (hb);have aK:=zm (ho);clear aa;clear ho hb hg hat))
   go_roundg k1
   case measure=>exact yom1 HK1
   case rel=>exact ⟨(aI),(wrap64 (af+1)),yq,H',⟨yom1 HK1⟩,⟨yr aK⟩,⟨yhb⟩⟩
  rw [if_neg c2] at H
  have aD:=yG c2
  clear c2
  have H' := zm H
  clear H
  go_wp2
  go_loopg [3,5] k1 (fun kq v3 v5 w' => ∃ (ac : List Int) (ah : Int),v5=.int .i64 ah∧Aside0 (r06_Row.l1 kq a0 ac ah=some r)∧Aside0 (kq≤k1)∧Aside0 (Kd.R (Kd.int .u64) 51 w' w.heap.size (fun _=>True) v3 ac)∧Aside0 (Below w.heap.size w w'))
  case atStart=>exact ⟨(ag),(0),yq,H',⟨Nat.le_refl _⟩,⟨yr aa⟩,⟨yhb⟩⟩
  case round =>
   clear H'
   try clear aD
   try clear c3
   obtain ⟨ac,ah,rfl,HA,HK2,aa,HB⟩:=hrel
   obtain ⟨k2,rfl⟩:=ysu gk (fun h=>by subst h;exact absurd HA.out (by simp [r06_Row.l1]))
   have H:=HA.out;clear HA
   simp only [r06_Row.l1] at H
   by_cases c8 : ah < a0
   ·
    rw [if_pos c8] at H
    have aM:=yD c8
    clear c8
    have H' := zm H
    clear H
    go_wp2
    go_loopg [6,7] k2 (fun kq v6 v7 w' => ∃ (ai : List Int) (ae : Int),v7=.int .i64 ae∧Aside0 (r06_Row.l2 kq a0 ac ah ai ae=some r)∧Aside0 (kq≤k2)∧Aside0 (Kd.R (Kd.int .u64) 51 w' w.heap.size (fun k_=>some k_≠(v6 : Value).ownBlock) u3 ac)∧Aside0 (Kd.R (Kd.int .u64) 51 w' w.heap.size (fun k_=>some k_≠(u3 : Value).ownBlock) v6 ai)∧Aside0 (Below w.heap.size w w'))
    case atStart=>exact ⟨(([] : List Int)),(0),yq,H',⟨Nat.le_refl _⟩,⟨yR0 aa⟩,⟨yn⟩,⟨yhb⟩⟩
    case round =>
     clear H'
     try clear aM
     obtain ⟨ai,ae,rfl,HA,HK3,aa,ap,HB⟩:=hrel
     obtain ⟨k3,rfl⟩:=ysu gk (fun h=>by subst h;exact absurd HA.out (by simp [r06_Row.l2]))
     have H:=HA.out;clear HA
     simp only [r06_Row.l2] at H
     by_cases c9 : ae≤12
     ·
      rw [if_pos c9] at H
      have aN:=yD c9
      clear c9
      obtain ⟨c10,H⟩:=yif H
      have aQ : decide (0≤ae)=true:=decide_eq_true c10
      clear c10
      obtain ⟨c11,H⟩:=yif H
      have aT : decide (ae < (ac.length : Int))=true:=decide_eq_true c11
      clear c11
      have H' := zm H
      clear H
      obtain ⟨bh,az,a9⟩:=Kd.R_slice aa.out
      subst a9
      have aw : 0≤(ae : Int):=yt
      have ax : ae < (ac.length : Int):=yt
      obtain ⟨am,ba,ay⟩:=Kd.at_int (Kd.R_reads' aa.out).2.2 ae aw ax
      cases ba
      replace aw:=eq_true aw
      replace ax:=eq_true ax
      go_wp2
      go_loopg [8,9] k3 (fun kq v8 v9 w' => ∃ (aj : Int) (ak : Int),v8=.int .u64 aj∧v9=.int .i64 ak∧Aside0 (r06_Row.l3 kq a0 ac ah ai ae aj ak=some r)∧Aside0 (kq≤k3)∧Aside0 (Kd.R (Kd.int .u64) 51 w' w.heap.size (fun k_=>some k_≠(u6 : Value).ownBlock) (.slice (some am) ac.length az) ac)∧Aside0 (Kd.R (Kd.int .u64) 51 w' w.heap.size (fun k_=>some k_≠((.slice (some am) ac.length az) : Value).ownBlock) u6 ai)∧Aside0 (Below w.heap.size w w'))
      case atStart=>exact ⟨(rd ac ae),(1),yq,yq,H',⟨Nat.le_refl _⟩,⟨yr aa⟩,⟨yr ap⟩,⟨yhb⟩⟩
      case round =>
       clear H'
       try clear aN
       try clear aQ
       try clear aT
       try clear ay
       try clear aw
       try clear ax
       obtain ⟨aj,ak,rfl,rfl,HA,HK4,aa,ap,HB⟩:=hrel
       obtain ⟨k4,rfl⟩:=ysu gk (fun h=>by subst h;exact absurd HA.out (by simp [r06_Row.l3]))
       have H:=HA.out;clear HA
       simp only [r06_Row.l3] at H
       by_cases c13 : ak≤ae
       ·
        rw [if_pos c13] at H
        have aU:=yD c13
        clear c13
        obtain ⟨al,ao⟩ : ∃ j_ : Int,(wrap64 (ae - ak))=j_:=⟨_,rfl⟩
        (first|rw [ao] at H|simp only [ao] at H)
        have hji14w : (IntKind.i64.wrap (ae - ak))=al:=(i64_w _).trans ao
        obtain ⟨c15,H⟩:=yif H
        have bc : decide (0≤(al))=true:=decide_eq_true c15
        clear c15
        obtain ⟨c16,H⟩:=yif H
        have bd : decide ((al) < (ac.length : Int))=true:=decide_eq_true c16
        clear c16
        have H' := zm H
        clear H
        have aA : 0≤((al) : Int):=yt
        have aC : (al) < (ac.length : Int):=yt
        obtain ⟨aV,bb,aZ⟩:=Kd.at_int (Kd.R_reads' aa.out).2.2 (al) aA aC
        obtain rfl : am=aV:=(by injection bb)
        replace aA:=eq_true aA
        replace aC:=eq_true aC
        go_wp2
        go_roundg k4
        case measure=>exact yom4 HK1 HK2 HK3 HK4
        case rel=>exact ⟨(IntKind.u64.wrap (aj+(IntKind.u64.wrap (2 * (rd ac (al)))))),(wrap64 (ak+1)),(by first|rfl|(simp;done)|(simp only [← ao] <;> (first|rfl|simp))|(simp [*];done)),yq,H',⟨yom4 HK1 HK2 HK3 HK4⟩,⟨yr aa⟩,⟨yr ap⟩,⟨yhb⟩⟩
       rw [if_neg c13] at H
       have aU:=yG c13
       clear c13
       obtain ⟨c17,H⟩:=yif H
       have LMc17:=zm c17;clear c17
       obtain ⟨aW,av⟩ : ∃ y_ : List Int,y_=(ai ++ [aj]):=⟨_,rfl⟩
       replace H : (r06_Row.l2 k4 a0 ac ah aW (wrap64 (ae+1)))=some r:=yrw av H
       have aX:=zm av;clear av
       have H' := zm H
       clear H
       go_wp2_with (first|((with_reducible refine gate_builtin (b:=.append) (xs := #[.tmp 49, .tmp 51]) rfl ?_);at_builtin;refine Kd.R_append (Kd.int .u64) (w0:=w) w.heap.size rfl (.tmp 49) (.tmp 51) 126 51 (.int .u64 0) 8 rfl Try.underlying126 info51 rfl (by decide) (by omega) u6 ai aj [.int .u64 aj] (fun k_=>some k_≠(.slice (some am) ac.length az : Value).ownBlock) (fun _=>False) rfl rfl ?aP (fun _ hk=>hk.elim) ?aF ?aO ?aB ?aS ?aL ?_;(case aP=>exact rfl);(case aB=>exact yhb);(case aF=>exact (fun k_ hk=>Kd.fresh' (Kd.R_lt (yr aa)) k_ hk));(case aO=>exact (yr ap));(case aS=>exact (zE yhb));(case aL=>have:=LMc17.out;omega);intro bi w18 ho hb hg hat;rw [← aX.out] at ho;replace aa:=zm (Kd.R_after (ok:=(fun _=>True)) (yR0 aa) hg hat);replace HB:=zm (hb);have aY:=zm (ho);clear ap;clear ho hb hg hat))
       go_roundg k4
       case measure=>exact yom4 HK1 HK2 HK3 HK4
       case rel=>exact ⟨(aW),(wrap64 (ae+1)),yq,H',⟨yom4 HK1 HK2 HK3 HK4⟩,⟨yR0 aa⟩,⟨yr aY⟩,⟨yhb⟩⟩
     rw [if_neg c9] at H
     have aN:=yG c9
     clear c9
     have H' := zm H
     clear H
     go_wp2
     go_roundg k3
     case measure=>exact yom3 HK1 HK2 HK3
     case rel=>exact ⟨(ai),(wrap64 (ah+1)),yq,H',⟨yom3 HK1 HK2 HK3⟩,⟨yR0 ap⟩,⟨yhb⟩⟩
   rw [if_neg c8] at H
   have aM:=yG c8
   clear c8
   obtain rfl:=Option.some.inj H
   go_wp2
   go_ret
   exact ⟨_,ye,yr aa,yhb⟩
def r06_Size.l0 : Nat→Int→Int→Option (Int)
 | 0,_,_=>none
 | k+1,x0,x3=>if x3≤12 then (if x0=x3 then (some x3) else (if x0=(wrap64 (-x3)) then (some x3) else (r06_Size.l0 k x0 (wrap64 (x3+1))))) else (some 13)
def r06_Size.f (k : Nat) (a0 : Int) : Option (Int):=r06_Size.l0 k a0 0
theorem r06_Size.mono_l : ∀ k,(∀ y0 y1,LeO (r06_Size.l0 k y0 y1) (r06_Size.l0 (k+1) y0 y1))
 | 0=>fun _ _ r h=>by simp [r06_Size.l0] at h
 | k+1=>by
  have ih0:=r06_Size.mono_l k
  ·
   intro y0 y1
   unfold r06_Size.l0
   repeat' with_reducible first|apply ih0|apply yLr|apply yLn|apply yLi|apply yLb|intro _
theorem r06_Size.mono : ∀ a0 k,LeO (r06_Size.f k a0) (r06_Size.f (k+1) a0):=by
 intro a0 k
 have ih0:=r06_Size.mono_l k
 unfold r06_Size.f
 repeat' with_reducible first|apply ih0|apply yLr|apply yLn|apply yLi|apply yLb|intro _
set_option maxHeartbeats 8000000 in
set_option maxRecDepth 100000 in
theorem r06_Size.calls (k : Nat) (a0 : Int) (r : Int) (w : World) (h : r06_Size.f k a0=some r) :
  Calls Try.prog 80 #[.int .i64 a0] w fun e w' => e=.returned (.int .i64 r)∧Drawn0 w w' := by
 have H:=h
 unfold r06_Size.f at H
 clear h
 have H' := zm H
 clear H
 go_enter Try.func80,Try.ntmps80
 go_wp2
 go_loopg [3] k (fun kq v3 w' => ∃ (aa : Int),v3=.int .i64 aa∧Aside0 (r06_Size.l0 kq a0 aa=some r)∧Aside0 (kq≤k)∧Drawn0 w w')
 case atStart=>exact ⟨(0),yq,H',⟨Nat.le_refl _⟩,yd⟩
 case round =>
  clear H'
  obtain ⟨aa,rfl,HA,HK1,⟨m1,rfl⟩⟩:=hrel
  obtain ⟨k1,rfl⟩:=ysu gk (fun h=>by subst h;exact absurd HA.out (by simp [r06_Size.l0]))
  have H:=HA.out;clear HA
  simp only [r06_Size.l0] at H
  by_cases c2 : aa≤12
  ·
   rw [if_pos c2] at H
   have ac:=yD c2
   clear c2
   by_cases c3 : a0=aa
   ·
    rw [if_pos c3] at H
    obtain ⟨ae,af⟩:=yE c3
    clear c3
    obtain rfl:=Option.some.inj H
    go_wp2
    go_ret
    exact ⟨yq,yd⟩
   rw [if_neg c3] at H
   obtain ⟨ae,af⟩:=yF c3
   by_cases c4 : a0=(wrap64 (-aa))
   ·
    rw [if_pos c4] at H
    obtain ⟨ag,ah⟩:=yE c4
    clear c4
    obtain rfl:=Option.some.inj H
    go_wp2
    go_ret
    exact ⟨yq,yd⟩
   rw [if_neg c4] at H
   obtain ⟨ag,ah⟩:=yF c4
   have H' := zm H
   clear H
   go_wp2
   go_roundg k1
   case measure=>exact yom1 HK1
   case rel=>exact ⟨(wrap64 (aa+1)),yq,H',⟨yom1 HK1⟩,yd⟩
  rw [if_neg c2] at H
  have ac:=yG c2
  clear c2
  obtain rfl:=Option.some.inj H
  go_wp2
  go_ret
  exact ⟨yq,yd⟩
def r06_Pulses.l0 : Nat→List Int→Int→Int→Option (Int)
 | 0,_,_,_=>none
 | k+1,x0,x3,x4=>if x4 < (x0.length : Int) then (if 0≤x4 then ((r06_Size.f k (rd x0 x4)).bind fun ac=>(r06_Pulses.l0 k x0 (wrap64 (x3+ac)) (wrap64 (x4+1)))) else (none)) else (some x3)
def r06_Pulses.f (k : Nat) (l0 : List Int) : Option (Int):=r06_Pulses.l0 k l0 0 0
theorem r06_Pulses.mono_l : ∀ k,(∀ y0 y1 y2,LeO (r06_Pulses.l0 k y0 y1 y2) (r06_Pulses.l0 (k+1) y0 y1 y2))
 | 0=>fun _ _ _ r h=>by simp [r06_Pulses.l0] at h
 | k+1=>by
  have ih0:=r06_Pulses.mono_l k
  ·
   intro y0 y1 y2
   unfold r06_Pulses.l0
   repeat' with_reducible first|apply ih0|apply r06_Size.mono|apply yLr|apply yLn|apply yLi|apply yLb|intro _
theorem r06_Pulses.mono : ∀ a0 k,LeO (r06_Pulses.f k a0) (r06_Pulses.f (k+1) a0):=by
 intro a0 k
 have ih0:=r06_Pulses.mono_l k
 unfold r06_Pulses.f
 repeat' with_reducible first|apply ih0|apply r06_Size.mono|apply yLr|apply yLn|apply yLi|apply yLb|intro _
set_option maxHeartbeats 8000000 in
set_option maxRecDepth 100000 in
theorem r06_Pulses.calls (k : Nat) (A0 : Option Addr) (c0 : Nat) (l0 : List Int) (r : Int) (w : World) (hr0 : Kd.C (Kd.int .i64) w A0 l0.length l0) (hc0 : l0.length≤c0) (h : r06_Pulses.f k l0=some r) :
  Calls Try.prog 40 #[.slice A0 l0.length c0] w fun e w' => e=.returned (.int .i64 r)∧Drawn0 w w' := by
 have HR0:=zm hr0;have HC0:=zm hc0;clear hr0 hc0;have H:=h
 unfold r06_Pulses.f at H
 clear h
 have H' := zm H
 clear H
 go_enter Try.func40,Try.ntmps40
 go_wp2
 go_loopg [3,4] k (fun kq v3 v4 w' => ∃ (ae : Int) (aa : Int),v3=.int .i64 ae∧v4=.int .i64 aa∧Aside0 (r06_Pulses.l0 kq l0 ae aa=some r)∧Aside0 (kq≤k)∧Drawn0 w w')
 case atStart=>exact ⟨(0),(0),yq,yq,H',⟨Nat.le_refl _⟩,yd⟩
 case round =>
  clear H'
  obtain ⟨ae,aa,rfl,rfl,HA,HK1,⟨m1,rfl⟩⟩:=hrel
  obtain ⟨k1,rfl⟩:=ysu gk (fun h=>by subst h;exact absurd HA.out (by simp [r06_Pulses.l0]))
  have H:=HA.out;clear HA
  simp only [r06_Pulses.l0] at H
  by_cases c2 : aa < (l0.length : Int)
  ·
   rw [if_pos c2] at H
   have ag:=yD c2
   clear c2
   obtain ⟨c3,H⟩:=yif H
   have aj : decide (0≤aa)=true:=decide_eq_true c3
   clear c3
   obtain ⟨ac,A4,H⟩:=ybi H
   have H' := zm H
   clear H
   obtain ⟨ai,ah,af,ak,al⟩:=yai HR0 aa
   cases ah
   go_wp2_with (first|((with_reducible refine gate_callee (f:=80) rfl ?_);refine ygl 16 Try.func80 #[.int .i64 (rd l0 aa)] ?_;(with_reducible refine (r06_Size.calls k1 (rd l0 aa) ac _ A4.out).mono ?_);rintro e w' ⟨rfl,⟨nd,rfl⟩⟩;refine ⟨_,rfl, ?_⟩))
   go_roundg k1
   case measure=>exact yom1 HK1
   case rel=>exact ⟨(wrap64 (ae+ac)),(wrap64 (aa+1)),yq,yq,H',⟨yom1 HK1⟩,yd⟩
  rw [if_neg c2] at H
  have ag:=yG c2
  clear c2
  obtain rfl:=Option.some.inj H
  go_wp2
  go_ret
  exact ⟨yq,yd⟩
def r03_Log2.f : Nat→Int→Option (Int)
 | 0,_=>none
 | k+1,a0=>if a0=0 then (some (-1)) else ((r03_Log2.f k (IntKind.u64.wrap (Int.tdiv a0 2))).bind fun aa=>(some (wrap64 (1+aa))))
theorem r03_Log2.mono_l : ∀ k,(∀ y0,LeO (r03_Log2.f k y0) (r03_Log2.f (k+1) y0))
 | 0=>fun _ r h=>by simp [r03_Log2.f] at h
 | k+1=>by
  have ih0:=r03_Log2.mono_l k
  ·
   intro y0
   unfold r03_Log2.f
   repeat' with_reducible first|apply ih0|apply yLr|apply yLn|apply yLi|apply yLb|intro _
theorem r03_Log2.mono : ∀ a0 k,LeO (r03_Log2.f k a0) (r03_Log2.f (k+1) a0):=by
 intro a0 k
 have ih0:=r03_Log2.mono_l k
 exact ih0 a0
set_option maxHeartbeats 8000000 in
set_option maxRecDepth 100000 in
theorem r03_Log2.calls (k : Nat) : ∀ (a0 : Int) (r : Int) (w : World) (h : r03_Log2.f k a0=some r),
  Calls Try.prog 102 #[.int .u64 a0] w fun e w' => e=.returned (.int .i64 r)∧Drawn0 w w' := by
 induction k using Nat.strongRecOn with
 | _ k ih =>
 intro a0 r w h
 cases k with
 | zero=>exact absurd h (by simp [r03_Log2.f])
 | succ k =>
 simp only [r03_Log2.f] at h
 have H : (if a0=0 then (some (-1)) else ((r03_Log2.f k (IntKind.u64.wrap (Int.tdiv a0 2))).bind fun aa=>(some (wrap64 (1+aa)))))=some r:=h
 clear h
 by_cases c2 : a0=0
 ·
  rw [if_pos c2] at H
  obtain ⟨ac,ae⟩:=yE c2
  clear c2
  obtain rfl:=Option.some.inj H
  go_enter Try.func102,Try.ntmps102
  go_wp2
  go_ret
  exact ⟨yq,yd⟩
 rw [if_neg c2] at H
 obtain ⟨ac,ae⟩:=yF c2
 obtain ⟨aa,A3,H⟩:=ybi H
 obtain rfl:=Option.some.inj H
 go_enter Try.func102,Try.ntmps102
 go_wp2_with (first|((with_reducible refine gate_callee (f:=102) rfl ?_);refine ygl 7 Try.func102 #[.int .u64 (IntKind.u64.wrap (Int.tdiv a0 2))] ?_;(with_reducible refine (ih k (by omega) (IntKind.u64.wrap (Int.tdiv a0 2)) aa _ A3.out).mono ?_);rintro e w' ⟨rfl,⟨nd,rfl⟩⟩;refine ⟨_,rfl, ?_⟩))
 go_ret
 exact ⟨yq,yd⟩
def r06_Count.f (k : Nat) (a0 : Int) (a1 : Int) : Option (Int):=(r06_Row.f k a0).bind fun aa=>(if 0≤a1 then (if a1 < (aa.length : Int) then (some (rd aa a1)) else (none)) else (none))
theorem r06_Count.mono : ∀ a0 a1 k,LeO (r06_Count.f k a0 a1) (r06_Count.f (k+1) a0 a1):=by
 intro a0 a1 k
 unfold r06_Count.f
 repeat' with_reducible first|apply r06_Row.mono|apply yLr|apply yLn|apply yLi|apply yLb|intro _
set_option maxHeartbeats 8000000 in
set_option maxRecDepth 100000 in
theorem r06_Count.calls (k : Nat) (a0 : Int) (a1 : Int) (r : Int) (w : World) (h : r06_Count.f k a0 a1=some r) :
  Calls Try.prog 43 #[.int .i64 a0, .int .i64 a1] w fun e w' => e=.returned (.int .u64 r)∧Below w.heap.size w w' := by
 have HB:=zm (Below.refl w.heap.size w);have H:=h
 unfold r06_Count.f at H
 clear h
 obtain ⟨aa,A3,H⟩:=ybi H
 obtain ⟨c4,H⟩:=yif H
 have aj : decide (0≤a1)=true:=decide_eq_true c4
 clear c4
 obtain ⟨c5,H⟩:=yif H
 have ak : decide (a1 < (aa.length : Int))=true:=decide_eq_true c5
 clear c5
 obtain rfl:=Option.some.inj H
 go_enter Try.func43,Try.ntmps43
 go_wp2_with (first|((with_reducible refine gate_callee (f:=81) rfl ?_);refine ygl 6 Try.func81 #[.int .i64 a0] ?_;(with_reducible refine (r06_Row.calls k a0 aa _ A3.out).mono ?_);rintro e w6 ⟨al,rfl,ho0,hb⟩;refine ⟨_,rfl, ?_⟩;have ac:=zm (Kd.R_lower ho0 (zE yhb));replace HB:=ybs hb;(try clear hb);(try clear ho0);obtain ⟨Ao7,co7,eo7⟩:=Kd.R_slice ac.out;subst eo7;have ae : 0≤(a1 : Int):=yt;have af : a1 < (aa.length : Int):=yt;obtain ⟨ai,ah,ag⟩:=Kd.at_int (Kd.R_reads' ac.out).2.2 a1 ae af;cases ah;replace ae:=eq_true ae;replace af:=eq_true af))
 go_ret
 exact ⟨ye,yhb⟩
def r06_order.l0 : Nat→Int→List Int→Int→Option (List Int)
 | 0,_,_,_=>none
 | k+1,x0,x3,x4=>if x4≤x0 then ((some (([x4,wrap64 (-x4)] : List Int) : List Int)).bind fun ac=>(if x3.length+ac.length < 17592186044416 then (r06_order.l0 k x0 (x3 ++ ac) (wrap64 (x4+1))) else (none))) else (some x3)
def r06_order.f (k : Nat) (a0 : Int) : Option (List Int):=r06_order.l0 k a0 (([0] : List Int)) 1
theorem r06_order.mono_l : ∀ k,(∀ y0 y1 y2,LeO (r06_order.l0 k y0 y1 y2) (r06_order.l0 (k+1) y0 y1 y2))
 | 0=>fun _ _ _ r h=>by simp [r06_order.l0] at h
 | k+1=>by
  have ih0:=r06_order.mono_l k
  ·
   intro y0 y1 y2
   unfold r06_order.l0
   repeat' with_reducible first|apply ih0|apply yLr|apply yLn|apply yLi|apply yLb|intro _
theorem r06_order.mono : ∀ a0 k,LeO (r06_order.f k a0) (r06_order.f (k+1) a0):=by
 intro a0 k
 have ih0:=r06_order.mono_l k
 unfold r06_order.f
 repeat' with_reducible first|apply ih0|apply yLr|apply yLn|apply yLi|apply yLb|intro _
set_option maxHeartbeats 8000000 in
set_option maxRecDepth 100000 in
theorem r06_order.calls (k : Nat) (a0 : Int) (r : List Int) (w : World) (h : r06_order.f k a0=some r) :
  Calls Try.prog 82 #[.int .i64 a0] w fun e w' => ∃ v0_ : Value,e=.returned (v0_)∧Kd.R (Kd.int .i64) 3 w' w.heap.size (fun _=>True) v0_ r∧Below w.heap.size w w' := by
 have HB:=zm (Below.refl w.heap.size w);have H:=h
 unfold r06_order.f at H
 clear h
 obtain ⟨am,ah⟩ : ∃ y_ : List Int,y_=(([0] : List Int)):=⟨_,rfl⟩
 replace H : (r06_order.l0 k a0 am 1)=some r:=yrw ah H
 have ak:=zm ah;clear ah
 have H' := zm H
 clear H
 go_enter Try.func82,Try.ntmps82
 go_wp2_with (first|((with_reducible refine gate_dst (N:=5) rfl ?_);refine Kd.R_lit (Kd.int .i64) _ 3 ?hg (N:=5) ?hd (xs:=([0] : List Int)) (inner := [.int .i64 0]) (ok:=fun _=>True) (okp:=fun _=>True) ?hr ?hp (fun _ hk=>hk) trivial (Below.refl _ _) (Nat.le_refl _) (by simp) ?_;(case hd=>rfl);(case hg=>rfl);(case hr=>first|(go_simp;done)|(go_simp;rfl));(case hp=>exact (Reps.one (show Kd.M (Kd.int .i64) _ _ _ 0 [.int .i64 0] from rfl) (Reps.none _ _)));intro aw w2 ho3 hb hg_ hnew_;clear hg_ hnew_;(first|rw [← ak.out] at ho3|(simp only [Int.reduceToNat] at ho3;rw [← ak.out] at ho3));have ao:=zm (Kd.R_lower ho3 (zE yhb));replace HB:=ybs hb;clear hb ho3))
 go_loopg [3,4] k (fun kq v3 v4 w' => ∃ (af : List Int) (aa : Int),v4=.int .i64 aa∧Aside0 (r06_order.l0 kq a0 af aa=some r)∧Aside0 (kq≤k)∧Aside0 (Kd.R (Kd.int .i64) 3 w' w.heap.size (fun _=>True) v3 af)∧Aside0 (Below w.heap.size w w'))
 case atStart=>exact ⟨(am),(1),yq,H',⟨Nat.le_refl _⟩,⟨yr ao⟩,⟨yhb⟩⟩
 case round =>
  clear H'
  obtain ⟨af,aa,rfl,HA,HK1,ag,HB⟩:=hrel
  obtain ⟨k1,rfl⟩:=ysu gk (fun h=>by subst h;exact absurd HA.out (by simp [r06_order.l0]))
  have H:=HA.out;clear HA
  simp only [r06_order.l0] at H
  by_cases c4 : aa≤a0
  ·
   rw [if_pos c4] at H
   have av:=yD c4
   clear c4
   obtain ⟨ac,ai⟩ : ∃ y_ : List Int,y_=(([aa,wrap64 (-aa)] : List Int)):=⟨_,rfl⟩
   replace H : (if af.length+ac.length < 17592186044416 then (r06_order.l0 k1 a0 (af ++ ac) (wrap64 (aa+1))) else (none))=some r:=yrw ai H
   have al:=zm ai;clear ai
   obtain ⟨c5,H⟩:=yif H
   have LMc5:=zm c5;clear c5
   obtain ⟨ap,aj⟩ : ∃ y_ : List Int,y_=(af ++ ac):=⟨_,rfl⟩
   replace H : (r06_order.l0 k1 a0 ap (wrap64 (aa+1)))=some r:=yrw aj H
   have aq:=zm aj;clear aj
   have H' := zm H
   clear H
   go_wp2_with (first|((with_reducible refine gate_dst (N:=15) rfl ?_);refine Kd.R_lit (Kd.int .i64) _ 3 ?hg (N:=15) ?hd (xs:=([aa,wrap64 (-aa)] : List Int)) (inner := [.int .i64 aa, .int .i64 (wrap64 (-aa))]) (ok:=fun _=>True) (okp:=fun _=>True) ?hr ?hp (fun _ hk=>hk) trivial (Below.refl _ _) (Nat.le_refl _) (by simp) ?_;(case hd=>rfl);(case hg=>rfl);(case hr=>first|(go_simp;done)|(go_simp;rfl));(case hp=>exact (Reps.one (show Kd.M (Kd.int .i64) _ _ _ aa [.int .i64 aa] from rfl) (Reps.one (show Kd.M (Kd.int .i64) _ _ _ (wrap64 (-aa)) [.int .i64 (wrap64 (-aa))] from rfl) (Reps.none _ _))));intro ax w6 ho7 hb hg_ hnew_;clear hg_ hnew_;(first|rw [← al.out] at ho7|(simp only [Int.reduceToNat] at ho7;rw [← al.out] at ho7));have ae:=zm (Kd.R_lower (Kd.R_new' ho7 (Kd.R_lt (yr ag))) (zE yhb));replace ag:=zm (Kd.R_elder' (yr ag) (Kd.R_base ho7) hb);replace HB:=ybs hb;clear hb ho7;obtain ⟨Ao9,co9,eo9⟩:=Kd.R_slice ae.out;subst eo9)|((with_reducible refine gate_builtin (b:=.append) (xs := #[.tmp 11, .tmp 15]) rfl ?_);at_builtin;refine Kd.R_append_rows (Kd.int .i64) (w0:=w) w.heap.size rfl (.tmp 11) (.tmp 15) 49 3 (.int .i64 0) 8 rfl Try.underlying49 info3 rfl (by decide) (by omega) u3 af ac _ _ _ (fun k_=>some k_≠(.slice Ao9 ac.length co9 : Value).ownBlock) (fun _=>False) rfl rfl ?aO ?aR (fun _ _ h=>h) (fun _ h=>h.elim) ?aF ?aB ?aS ?aL ?_;(case aR=>exact yce (Kd.R_reads' ae.out).2.2);(case aB=>exact yhb);(case aF=>exact (fun k_ hk=>Kd.fresh' (Kd.R_lt (yr ae)) k_ hk));(case aO=>exact (yR0 ag));(case aS=>exact (zE yhb));(case aL=>have:=LMc5.out;omega);intro ay w8 ho hb hg hat;rw [← aq.out] at ho;replace ae:=zm (Kd.R_after (ok:=(fun _=>True)) (yr ae) hg hat);replace HB:=zm (hb);have au:=zm (ho);clear ag;clear ho hb hg hat))
   go_roundg k1
   case measure=>exact yom1 HK1
   case rel=>exact ⟨(ap),(wrap64 (aa+1)),yq,H',⟨yom1 HK1⟩,⟨yR0 au⟩,⟨yhb⟩⟩
  rw [if_neg c4] at H
  have av:=yG c4
  clear c4
  obtain rfl:=Option.some.inj H
  go_wp2
  go_ret
  exact ⟨_,ye,yr ag,yhb⟩
mutual
def r06_Index.l0 : Nat→List Int→Int→Int→Int→Option (Int)
 | 0,_,_,_,_=>none
 | k+1,x0,x3,x4,x5=>if x5 < (x0.length : Int) then ((r06_Row.f k (wrap64 ((wrap64 ((x0.length : Int) - x5)) - 1))).bind fun ai=>((r06_order.f k x3).bind fun ae=>(r06_Index.l1 k x0 x3 x4 x5 ai ae 0))) else (some x4)
def r06_Index.l1 : Nat→List Int→Int→Int→Int→List Int→List Int→Int→Option (Int)
 | 0,_,_,_,_,_,_,_=>none
 | k+1,x0,x3,x4,x5,x6,x7,x8=>if x8 < (x7.length : Int) then (if 0≤x8 then (if 0≤x5 then (if x5 < (x0.length : Int) then (if (rd x7 x8)=(rd x0 x5) then ((r06_Size.f k (rd x0 x5)).bind fun aD=>(r06_Index.l0 k x0 (wrap64 (x3 - aD)) x4 (wrap64 (x5+1)))) else ((r06_Size.f k (rd x7 x8)).bind fun am=>(if 0≤(wrap64 (x3 - am)) then (if (wrap64 (x3 - am)) < (x6.length : Int) then (r06_Index.l1 k x0 x3 (IntKind.u64.wrap (x4+(rd x6 (wrap64 (x3 - am))))) x5 x6 x7 (wrap64 (x8+1))) else (none)) else (none)))) else (none)) else (none)) else (none)) else (if 0≤x5 then (if x5 < (x0.length : Int) then ((r06_Size.f k (rd x0 x5)).bind fun aE=>(r06_Index.l0 k x0 (wrap64 (x3 - aE)) x4 (wrap64 (x5+1)))) else (none)) else (none))
end
def r06_Index.f (k : Nat) (l0 : List Int) : Option (Int):=(r06_Pulses.f k l0).bind fun aG=>(r06_Index.l0 k l0 aG 0 0)
theorem r06_Index.mono_l : ∀ k,(∀ y0 y1 y2 y3,LeO (r06_Index.l0 k y0 y1 y2 y3) (r06_Index.l0 (k+1) y0 y1 y2 y3))∧(∀ y0 y1 y2 y3 y4 y5 y6,LeO (r06_Index.l1 k y0 y1 y2 y3 y4 y5 y6) (r06_Index.l1 (k+1) y0 y1 y2 y3 y4 y5 y6))
 | 0=>⟨fun _ _ _ _ r h=>by simp [r06_Index.l0] at h,fun _ _ _ _ _ _ _ r h=>by simp [r06_Index.l1] at h⟩
 | k+1=>by
  obtain ⟨ih0,ih1⟩:=r06_Index.mono_l k
  refine ⟨?_, ?_⟩
  ·
   intro y0 y1 y2 y3
   unfold r06_Index.l0
   repeat' with_reducible first|apply ih0|apply ih1|apply r06_Pulses.mono|apply r06_Row.mono|apply r06_Size.mono|apply r06_order.mono|apply yLr|apply yLn|apply yLi|apply yLb|intro _
  intro y0 y1 y2 y3 y4 y5 y6
  unfold r06_Index.l1
  repeat' with_reducible first|apply ih0|apply ih1|apply r06_Pulses.mono|apply r06_Row.mono|apply r06_Size.mono|apply r06_order.mono|apply yLr|apply yLn|apply yLi|apply yLb|intro _
theorem r06_Index.mono : ∀ a0 k,LeO (r06_Index.f k a0) (r06_Index.f (k+1) a0):=by
 intro a0 k
 obtain ⟨ih0,ih1⟩:=r06_Index.mono_l k
 unfold r06_Index.f
 repeat' with_reducible first|apply ih0|apply ih1|apply r06_Pulses.mono|apply r06_Row.mono|apply r06_Size.mono|apply r06_order.mono|apply yLr|apply yLn|apply yLi|apply yLb|intro _
set_option maxHeartbeats 8000000 in
set_option maxRecDepth 100000 in
theorem r06_Index.calls (k : Nat) (A0 : Option Addr) (c0 : Nat) (l0 : List Int) (r : Int) (w : World) (hr0 : Kd.C (Kd.int .i64) w A0 l0.length l0) (hc0 : l0.length≤c0) (h : r06_Index.f k l0=some r) :
  Calls Try.prog 42 #[.slice A0 l0.length c0] w fun e w' => e=.returned (.int .u64 r)∧Below w.heap.size w w' := by
 have HR0:=zm hr0;have HC0:=zm hc0;clear hr0 hc0;have HB:=zm (Below.refl w.heap.size w);have H:=h
 unfold r06_Index.f at H
 clear h
 obtain ⟨aG,A2,H⟩:=ybi H
 have H' := zm H
 clear H
 go_enter Try.func42,Try.ntmps42
 go_wp2_with (first|(go_at_call 40;(with_reducible refine (r06_Pulses.calls k _ _ l0 aG _ ?ao HC0.out A2.out).mono ?_);(case ao=>exact yce HR0.out);rintro e w' ⟨rfl,⟨nd,rfl⟩⟩;(try exact yww)))
 repeat (go_quiet (first|(go_at_call 40;(with_reducible refine (r06_Pulses.calls k _ _ l0 aG _ ?ao HC0.out A2.out).mono ?_);(case ao=>exact yce HR0.out);rintro e w' ⟨rfl,⟨nd,rfl⟩⟩;(try exact yww)));try go_wp2_with (first|(go_at_call 40;(with_reducible refine (r06_Pulses.calls k _ _ l0 aG _ ?ao HC0.out A2.out).mono ?_);(case ao=>exact yce HR0.out);rintro e w' ⟨rfl,⟨nd,rfl⟩⟩;(try exact yww))))
 go_loopg [3,4,5] k (fun kq v3 v4 v5 w' => ∃ (aj : Int) (aM : Int) (aa : Int),v3=.int .i64 aj∧v4=.int .u64 aM∧v5=.int .i64 aa∧Aside0 (r06_Index.l0 kq l0 aj aM aa=some r)∧Aside0 (kq≤k)∧Aside0 (Below w.heap.size w w'))
 case atStart=>exact ⟨(aG),(0),(0),yq,yq,yq,H',⟨Nat.le_refl _⟩,⟨yhb⟩⟩
 case round =>
  clear H'
  obtain ⟨aj,aM,aa,rfl,rfl,rfl,HA,HK1,HB⟩:=hrel
  obtain ⟨k1,rfl⟩:=ysu gk (fun h=>by subst h;exact absurd HA.out (by simp [r06_Index.l0]))
  have H:=HA.out;clear HA
  simp only [r06_Index.l0] at H
  by_cases c3 : aa < (l0.length : Int)
  ·
   rw [if_pos c3] at H
   have bc:=yD c3
   clear c3
   obtain ⟨ai,A4,H⟩:=ybi H
   obtain ⟨ae,A5,H⟩:=ybi H
   have H' := zm H
   clear H
   go_wp2_with (first|(go_at_call 81;(with_reducible refine (r06_Row.calls k1 (wrap64 ((wrap64 ((l0.length : Int) - aa)) - 1)) ai _ A4.out).mono ?_);rintro e w6 ⟨aV,rfl,ho0,hb⟩;have af:=zm (Kd.R_lower ho0 (zE yhb));replace HB:=ybs hb;(try clear hb);(try clear ho0))|(go_at_call 82;(with_reducible refine (r06_order.calls k1 aj ae _ A5.out).mono ?_);rintro e w7 ⟨aW,rfl,ho0,hb⟩;replace af:=yRb af hb;have aI:=zm (Kd.R_lower ho0 (zE yhb));replace HB:=ybs hb;(try clear hb);(try clear ho0)))
   repeat (go_quiet (first|(go_at_call 81;(with_reducible refine (r06_Row.calls k1 (wrap64 ((wrap64 ((l0.length : Int) - aa)) - 1)) ai _ A4.out).mono ?_);rintro e w6 ⟨aV,rfl,ho0,hb⟩;have af:=zm (Kd.R_lower ho0 (zE yhb));replace HB:=ybs hb;(try clear hb);(try clear ho0))|(go_at_call 82;(with_reducible refine (r06_order.calls k1 aj ae _ A5.out).mono ?_);rintro e w7 ⟨aW,rfl,ho0,hb⟩;replace af:=yRb af hb;have aI:=zm (Kd.R_lower ho0 (zE yhb));replace HB:=ybs hb;(try clear hb);(try clear ho0)));try go_wp2_with (first|(go_at_call 81;(with_reducible refine (r06_Row.calls k1 (wrap64 ((wrap64 ((l0.length : Int) - aa)) - 1)) ai _ A4.out).mono ?_);rintro e w6 ⟨aV,rfl,ho0,hb⟩;have af:=zm (Kd.R_lower ho0 (zE yhb));replace HB:=ybs hb;(try clear hb);(try clear ho0))|(go_at_call 82;(with_reducible refine (r06_order.calls k1 aj ae _ A5.out).mono ?_);rintro e w7 ⟨aW,rfl,ho0,hb⟩;replace af:=yRb af hb;have aI:=zm (Kd.R_lower ho0 (zE yhb));replace HB:=ybs hb;(try clear hb);(try clear ho0))))
   go_loopg [4,8] k1 (fun kq v4 v8 w' => ∃ (aH : Int) (ac : Int),v4=.int .u64 aH∧v8=.int .i64 ac∧Aside0 (r06_Index.l1 kq l0 aj aH aa ai ae ac=some r)∧Aside0 (kq≤k1)∧Aside0 (Kd.R (Kd.int .u64) 51 w' w.heap.size (fun _=>True) aV ai)∧Aside0 (Kd.R (Kd.int .i64) 3 w' w.heap.size (fun _=>True) aW ae)∧Aside0 (Below w.heap.size w w'))
   case atStart=>exact ⟨(aM),(0),yq,yq,H',⟨Nat.le_refl _⟩,⟨yr af⟩,⟨yr aI⟩,⟨yhb⟩⟩
   case round =>
    clear H'
    try clear bc
    obtain ⟨aH,ac,rfl,rfl,HA,HK2,aq,au,HB⟩:=hrel
    obtain ⟨k2,rfl⟩:=ysu gk (fun h=>by subst h;exact absurd HA.out (by simp [r06_Index.l1]))
    have H:=HA.out;clear HA
    simp only [r06_Index.l1] at H
    by_cases c8 : ac < (ae.length : Int)
    ·
     rw [if_pos c8] at H
     have bl:=yD c8
     clear c8
     obtain ⟨c9,H⟩:=yif H
     have bC : decide (0≤ac)=true:=decide_eq_true c9
     clear c9
     obtain ⟨c10,H⟩:=yif H
     have bs : decide (0≤aa)=true:=decide_eq_true c10
     clear c10
     obtain ⟨c11,H⟩:=yif H
     have bv : decide (aa < (l0.length : Int))=true:=decide_eq_true c11
     clear c11
     by_cases c12 : (rd ae ac)=(rd l0 aa)
     ·
      rw [if_pos c12] at H
      obtain ⟨bd,bf⟩:=yE c12
      clear c12
      obtain ⟨aD,A13,H⟩:=ybi H
      have H' := zm H
      clear H
      obtain ⟨bD,bE,bm⟩:=Kd.R_slice au.out
      subst bm
      have av : 0≤(ac : Int):=yt
      have aw : ac < (ae.length : Int):=yt
      obtain ⟨aQ,aX,aN⟩:=Kd.at_int (Kd.R_reads' au.out).2.2 ac av aw
      cases aX
      replace av:=eq_true av
      replace aw:=eq_true aw
      have ax : 0≤(aa : Int):=yt
      have ay : aa < (l0.length : Int):=yt
      obtain ⟨aT,aY,ag⟩:=Kd.at_int HR0.out aa ax ay
      cases aY
      replace ag:=yhx HB ag
      replace ax:=eq_true ax
      replace ay:=eq_true ay
      have aZ : 0≤(aa : Int):=yt
      have a7 : aa < (l0.length : Int):=yt
      obtain ⟨bg,bn,az⟩:=Kd.at_int HR0.out aa aZ a7
      obtain rfl : aT=bg:=(by injection bn)
      replace az:=yhx HB az
      replace aZ:=eq_true aZ
      replace a7:=eq_true a7
      go_wp2_with (first|(go_at_call 80;(with_reducible refine (r06_Size.calls k2 (rd l0 aa) aD _ A13.out).mono ?_);rintro e w' ⟨rfl,⟨nd,rfl⟩⟩;(try exact yww)))
      repeat (go_quiet (first|(go_at_call 80;(with_reducible refine (r06_Size.calls k2 (rd l0 aa) aD _ A13.out).mono ?_);rintro e w' ⟨rfl,⟨nd,rfl⟩⟩;(try exact yww)));try go_wp2_with (first|(go_at_call 80;(with_reducible refine (r06_Size.calls k2 (rd l0 aa) aD _ A13.out).mono ?_);rintro e w' ⟨rfl,⟨nd,rfl⟩⟩;(try exact yww))))
      go_roundg k2
      case measure=>exact yom2 HK1 HK2
      case rel=>exact ⟨(wrap64 (aj - aD)),(aH),(wrap64 (aa+1)),yq,yq,yq,H',⟨yom2 HK1 HK2⟩,⟨yhb⟩⟩
     rw [if_neg c12] at H
     obtain ⟨bd,bf⟩:=yF c12
     obtain ⟨am,A15,H⟩:=ybi H
     obtain ⟨ah,ap⟩ : ∃ j_ : Int,(wrap64 (aj - am))=j_:=⟨_,rfl⟩
     (first|rw [ap] at H|simp only [ap] at H)
     (try rw [ap] at A15)
     have hji16w : (IntKind.i64.wrap (aj - am))=ah:=(i64_w _).trans ap
     obtain ⟨c17,H⟩:=yif H
     have bw : decide (0≤(ah))=true:=decide_eq_true c17
     clear c17
     obtain ⟨c18,H⟩:=yif H
     have bx : decide ((ah) < (ai.length : Int))=true:=decide_eq_true c18
     clear c18
     have H' := zm H
     clear H
     obtain ⟨bF,bG,bo⟩:=Kd.R_slice au.out
     subst bo
     have av : 0≤(ac : Int):=yt
     have aw : ac < (ae.length : Int):=yt
     obtain ⟨aQ,aX,aN⟩:=Kd.at_int (Kd.R_reads' au.out).2.2 ac av aw
     cases aX
     replace av:=eq_true av
     replace aw:=eq_true aw
     have ax : 0≤(aa : Int):=yt
     have ay : aa < (l0.length : Int):=yt
     obtain ⟨aT,aY,ag⟩:=Kd.at_int HR0.out aa ax ay
     cases aY
     replace ag:=yhx HB ag
     replace ax:=eq_true ax
     replace ay:=eq_true ay
     have a8 : 0≤(ac : Int):=yt
     have a9 : ac < (ae.length : Int):=yt
     obtain ⟨bh,bp,bk⟩:=Kd.at_int (Kd.R_reads' au.out).2.2 ac a8 a9
     obtain rfl : aQ=bh:=(by injection bp)
     replace a8:=eq_true a8
     replace a9:=eq_true a9
     go_wp2_with (first|(go_at_call 80;(with_reducible refine (r06_Size.calls k2 (rd ae ac) am _ A15.out).mono ?_);rintro e w' ⟨rfl,⟨nd,rfl⟩⟩;(try exact yww);obtain ⟨bi,bj,aJ⟩:=Kd.R_slice aq.out;subst aJ;have ak : 0≤((ah) : Int):=yt;have al : (ah) < (ai.length : Int):=yt;obtain ⟨aU,aK,aA⟩:=Kd.at_int (Kd.R_reads' aq.out).2.2 (ah) ak al;cases aK;replace ak:=eq_true ak;replace al:=eq_true al))
     repeat (go_quiet (first|(go_at_call 80;(with_reducible refine (r06_Size.calls k2 (rd ae ac) am _ A15.out).mono ?_);rintro e w' ⟨rfl,⟨nd,rfl⟩⟩;(try exact yww);obtain ⟨bi,bj,aJ⟩:=Kd.R_slice aq.out;subst aJ;have ak : 0≤((ah) : Int):=yt;have al : (ah) < (ai.length : Int):=yt;obtain ⟨aU,aK,aA⟩:=Kd.at_int (Kd.R_reads' aq.out).2.2 (ah) ak al;cases aK;replace ak:=eq_true ak;replace al:=eq_true al));try go_wp2_with (first|(go_at_call 80;(with_reducible refine (r06_Size.calls k2 (rd ae ac) am _ A15.out).mono ?_);rintro e w' ⟨rfl,⟨nd,rfl⟩⟩;(try exact yww);obtain ⟨bi,bj,aJ⟩:=Kd.R_slice aq.out;subst aJ;have ak : 0≤((ah) : Int):=yt;have al : (ah) < (ai.length : Int):=yt;obtain ⟨aU,aK,aA⟩:=Kd.at_int (Kd.R_reads' aq.out).2.2 (ah) ak al;cases aK;replace ak:=eq_true ak;replace al:=eq_true al)))
     go_roundg k2
     case measure=>exact yom2 HK1 HK2
     case rel=>exact ⟨(IntKind.u64.wrap (aH+(rd ai (ah)))),(wrap64 (ac+1)),(by first|rfl|(simp;done)|(simp only [← ap] <;> (first|rfl|simp))|(simp [*];done)),yq,H',⟨yom2 HK1 HK2⟩,⟨yr aq⟩,⟨yr au⟩,⟨yhb⟩⟩
    rw [if_neg c8] at H
    have bl:=yG c8
    clear c8
    obtain ⟨c21,H⟩:=yif H
    have bz : decide (0≤aa)=true:=decide_eq_true c21
    clear c21
    obtain ⟨c22,H⟩:=yif H
    have bA : decide (aa < (l0.length : Int))=true:=decide_eq_true c22
    clear c22
    obtain ⟨aE,A23,H⟩:=ybi H
    have H' := zm H
    clear H
    obtain ⟨bH,bI,bq⟩:=Kd.R_slice au.out
    subst bq
    have ba : 0≤(aa : Int):=yt
    have bb : aa < (l0.length : Int):=yt
    obtain ⟨bB,br,aC⟩:=Kd.at_int HR0.out aa ba bb
    cases br
    replace aC:=yhx HB aC
    replace ba:=eq_true ba
    replace bb:=eq_true bb
    go_wp2_with (first|(go_at_call 80;(with_reducible refine (r06_Size.calls k2 (rd l0 aa) aE _ A23.out).mono ?_);rintro e w' ⟨rfl,⟨nd,rfl⟩⟩;(try exact yww)))
    repeat (go_quiet (first|(go_at_call 80;(with_reducible refine (r06_Size.calls k2 (rd l0 aa) aE _ A23.out).mono ?_);rintro e w' ⟨rfl,⟨nd,rfl⟩⟩;(try exact yww)));try go_wp2_with (first|(go_at_call 80;(with_reducible refine (r06_Size.calls k2 (rd l0 aa) aE _ A23.out).mono ?_);rintro e w' ⟨rfl,⟨nd,rfl⟩⟩;(try exact yww))))
    go_roundg k2
    case measure=>exact yom2 HK1 HK2
    case rel=>exact ⟨(wrap64 (aj - aE)),(aH),(wrap64 (aa+1)),yq,yq,yq,H',⟨yom2 HK1 HK2⟩,⟨yhb⟩⟩
  rw [if_neg c3] at H
  have bc:=yG c3
  clear c3
  obtain rfl:=Option.some.inj H
  go_wp2
  repeat (go_quiet (fail);try go_wp2)
  go_ret
  exact ⟨ye,yhb⟩
def r06_Cost.f (k : Nat) (a0 : Int) (a1 : Int) : Option (Int):=(r06_Count.f k a0 a1).bind fun aa=>(if (IntKind.u64.wrap (aa - 1)) < 65536 then ((r03_Log2.f k (IntKind.u64.wrap (aa - 1))).bind fun ac=>(some (wrap64 (1+ac)))) else ((r03_Log2.f k (IntKind.u64.wrap (Int.tdiv (IntKind.u64.wrap (aa - 1)) 65536))).bind fun ae=>(some (wrap64 (17+ae)))))
theorem r06_Cost.mono : ∀ a0 a1 k,LeO (r06_Cost.f k a0 a1) (r06_Cost.f (k+1) a0 a1):=by
 intro a0 a1 k
 unfold r06_Cost.f
 repeat' with_reducible first|apply r03_Log2.mono|apply r06_Count.mono|apply yLr|apply yLn|apply yLi|apply yLb|intro _
set_option maxHeartbeats 8000000 in
set_option maxRecDepth 100000 in
theorem r06_Cost.calls (k : Nat) (a0 : Int) (a1 : Int) (r : Int) (w : World) (h : r06_Cost.f k a0 a1=some r) :
  Calls Try.prog 101 #[.int .i64 a0, .int .i64 a1] w fun e w' => e=.returned (.int .i64 r)∧Below w.heap.size w w' := by
 have HB:=zm (Below.refl w.heap.size w);have H:=h
 unfold r06_Cost.f at H
 clear h
 obtain ⟨aa,A3,H⟩:=ybi H
 by_cases c4 : (IntKind.u64.wrap (aa - 1)) < 65536
 ·
  rw [if_pos c4] at H
  have af:=yD c4
  clear c4
  obtain ⟨ac,A5,H⟩:=ybi H
  obtain rfl:=Option.some.inj H
  go_enter Try.func101,Try.ntmps101
  go_wp2_with (first|((with_reducible refine gate_callee (f:=43) rfl ?_);refine ygl 8 Try.func43 #[.int .i64 a0, .int .i64 a1] ?_;(with_reducible refine (r06_Count.calls k a0 a1 aa _ A3.out).mono ?_);rintro e w6 ⟨rfl,hb⟩;refine ⟨_,rfl, ?_⟩;replace HB:=ybs hb;(try clear hb))|((with_reducible refine gate_callee (f:=102) rfl ?_);refine ygl 13 Try.func102 #[.int .u64 (IntKind.u64.wrap (aa - 1))] ?_;(with_reducible refine (r03_Log2.calls k (IntKind.u64.wrap (aa - 1)) ac _ A5.out).mono ?_);rintro e w' ⟨rfl,⟨nd,rfl⟩⟩;refine ⟨_,rfl, ?_⟩))
  go_ret
  exact ⟨ye,yhb⟩
 rw [if_neg c4] at H
 have af:=yG c4
 clear c4
 obtain ⟨ae,A7,H⟩:=ybi H
 obtain rfl:=Option.some.inj H
 go_enter Try.func101,Try.ntmps101
 go_wp2_with (first|((with_reducible refine gate_callee (f:=43) rfl ?_);refine ygl 8 Try.func43 #[.int .i64 a0, .int .i64 a1] ?_;(with_reducible refine (r06_Count.calls k a0 a1 aa _ A3.out).mono ?_);rintro e w8 ⟨rfl,hb⟩;refine ⟨_,rfl, ?_⟩;replace HB:=ybs hb;(try clear hb))|((with_reducible refine gate_callee (f:=102) rfl ?_);refine ygl 17 Try.func102 #[.int .u64 (IntKind.u64.wrap (Int.tdiv (IntKind.u64.wrap (aa - 1)) 65536))] ?_;(with_reducible refine (r03_Log2.calls k (IntKind.u64.wrap (Int.tdiv (IntKind.u64.wrap (aa - 1)) 65536)) ae _ A7.out).mono ?_);rintro e w' ⟨rfl,⟨nd,rfl⟩⟩;refine ⟨_,rfl, ?_⟩))
 go_ret
 exact ⟨ye,yhb⟩
def r10_Width.j0 : Nat→Int→Bool→Option (Int)
 | 0,_,_=>none
 | k+1,x3,x4=>if x4=true then (some 1) else (if x3=2 then (some 2) else (if x3=3 then (some 4) else (if x3=4 then (some 8) else (some 0))))
def r10_Width.f (k : Nat) (a0 : Int) : Option (Int):=if a0=0 then (r10_Width.j0 k a0 (a0 == 0)) else (r10_Width.j0 k a0 (a0 == 1))
theorem r10_Width.mono_l : ∀ k,(∀ y0 y1,LeO (r10_Width.j0 k y0 y1) (r10_Width.j0 (k+1) y0 y1))
 | 0=>fun _ _ r h=>by simp [r10_Width.j0] at h
 | k+1=>by
  have ih0:=r10_Width.mono_l k
  ·
   intro y0 y1
   unfold r10_Width.j0
   repeat' with_reducible first|apply ih0|apply yLr|apply yLn|apply yLi|apply yLb|intro _
theorem r10_Width.mono : ∀ a0 k,LeO (r10_Width.f k a0) (r10_Width.f (k+1) a0):=by
 intro a0 k
 have ih0:=r10_Width.mono_l k
 unfold r10_Width.f
 repeat' with_reducible first|apply ih0|apply yLr|apply yLn|apply yLi|apply yLb|intro _
set_option maxHeartbeats 8000000 in
set_option maxRecDepth 100000 in
theorem r10_Width.calls (k : Nat) (a0 : Int) (r : Int) (w : World) (h : r10_Width.f k a0=some r) :
  Calls Try.prog 46 #[.int .i64 a0] w fun e w' => e=.returned (.int .i64 r)∧Drawn0 w w' := by
 have H:=h
 unfold r10_Width.f at H
 clear h;have HC2:=zm H;clear H
 go_enter Try.func46,Try.ntmps46
 go_upto_if 4 with (fail)
 go_cut [4] (fun v4 wc => ∃ (kq : Nat) (ac : Bool),v4=.bool ac∧Aside0 (r10_Width.j0 kq a0 ac=some r)∧Aside0 (kq≤k)∧Drawn0 w wc)
 case first =>
  have H:=HC2.out;clear HC2
  by_cases c3 : a0=0
  ·
   rw [if_pos c3] at H
   obtain ⟨aa,ae⟩:=yE c3
   clear c3
   (first|rw [aa]|(simp only [i64_w,i32_w];rw [aa])|skip)
   have H' := zm H
   clear H
   go_wp2
   go_meet
   case rel=>exact ⟨_,((a0 == 0)),yq,H',⟨yo⟩,yd⟩
  rw [if_neg c3] at H
  obtain ⟨aa,ae⟩:=yF c3
  (first|rw [aa]|(simp only [i64_w,i32_w];rw [aa])|skip)
  have H' := zm H
  clear H
  go_wp2
  go_meet
  case rel=>exact ⟨_,((a0 == 1)),yq,H',⟨yo⟩,yd⟩
 case rest =>
  clear HC2
  obtain ⟨kq,ac,rfl,HA,HJ1,⟨mc1,rfl⟩⟩:=hcut
  obtain ⟨kj1,rfl⟩:=ysu kq (fun h=>by subst h;exact absurd HA.out (by simp [r10_Width.j0]))
  have H:=HA.out;clear HA
  simp only [r10_Width.j0] at H
  by_cases c4 : ac=true
  ·
   subst c4
   rw [if_pos rfl] at H
   obtain rfl:=Option.some.inj H
   go_wp2
   go_ret
   exact ⟨yq,yd⟩
  replace c4:=Bool.eq_false_iff.mpr c4
  subst c4
  rw [ynf] at H
  by_cases c5 : a0=2
  ·
   rw [if_pos c5] at H
   obtain ⟨af,ag⟩:=yE c5
   clear c5
   obtain rfl:=Option.some.inj H
   go_wp2
   go_ret
   exact ⟨yq,yd⟩
  rw [if_neg c5] at H
  obtain ⟨af,ag⟩:=yF c5
  by_cases c6 : a0=3
  ·
   rw [if_pos c6] at H
   obtain ⟨ah,ai⟩:=yE c6
   clear c6
   obtain rfl:=Option.some.inj H
   go_wp2
   go_ret
   exact ⟨yq,yd⟩
  rw [if_neg c6] at H
  obtain ⟨ah,ai⟩:=yF c6
  by_cases c7 : a0=4
  ·
   rw [if_pos c7] at H
   obtain ⟨aj,ak⟩:=yE c7
   clear c7
   obtain rfl:=Option.some.inj H
   go_wp2
   go_ret
   exact ⟨yq,yd⟩
  rw [if_neg c7] at H
  obtain ⟨aj,ak⟩:=yF c7
  obtain rfl:=Option.some.inj H
  go_wp2
  go_ret
  exact ⟨yq,yd⟩
def r12_More.f (l0 : List Int) (a1 : Int) : Option (List Int):=(some (([] : List Int) : List Int)).bind fun ae=>(if ae.length+l0.length < 17592186044416 then ((some (ae ++ l0 : List Int)).bind fun aa=>(if 0≤a1 then (if a1 < (aa.length : Int) then (some (aa.set (a1 : Int).toNat (wrap64 ((rd aa a1)+1)))) else (none)) else (none))) else (none))
set_option maxHeartbeats 8000000 in
set_option maxRecDepth 100000 in
theorem r12_More.calls (A0 : Option Addr) (c0 : Nat) (l0 : List Int) (a1 : Int) (r : List Int) (w : World) (hr0 : Kd.C (Kd.int .i64) w A0 l0.length l0) (hc0 : l0.length≤c0) (h : r12_More.f l0 a1=some r) :
  Calls Try.prog 96 #[.slice A0 l0.length c0, .int .i64 a1] w fun e w' => ∃ v0_ : Value,e=.returned (v0_)∧Kd.R (Kd.int .i64) 3 w' w.heap.size (fun _=>True) v0_ r∧Below w.heap.size w w' := by
 have HR0:=zm hr0;have HC0:=zm hc0;clear hr0 hc0;have HB:=zm (Below.refl w.heap.size w);have H:=h
 unfold r12_More.f at H
 clear h
 obtain ⟨ae,af⟩ : ∃ y_ : List Int,y_=(([] : List Int)):=⟨_,rfl⟩
 replace H : (if ae.length+l0.length < 17592186044416 then ((some (ae ++ l0 : List Int)).bind fun aa=>(if 0≤a1 then (if a1 < (aa.length : Int) then (some (aa.set (a1 : Int).toNat (wrap64 ((rd aa a1)+1)))) else (none)) else (none))) else (none))=some r:=yrw af H
 have aj:=zm af;clear af
 obtain ⟨c3,H⟩:=yif H
 have LMc3:=zm c3;clear c3
 obtain ⟨aa,ag⟩ : ∃ y_ : List Int,y_=(ae ++ l0):=⟨_,rfl⟩
 replace H : (if 0≤a1 then (if a1 < (aa.length : Int) then (some (aa.set (a1 : Int).toNat (wrap64 ((rd aa a1)+1)))) else (none)) else (none))=some r:=yrw ag H
 have ap:=zm ag;clear ag
 obtain ⟨c4,H⟩:=yif H
 have aE : decide (0≤a1)=true:=decide_eq_true c4
 clear c4
 obtain ⟨c5,H⟩:=yif H
 have aG : decide (a1 < (aa.length : Int))=true:=decide_eq_true c5
 clear c5
 obtain ⟨aq,ah⟩ : ∃ y_ : List Int,y_=(aa.set (a1 : Int).toNat (wrap64 ((rd aa a1)+1))):=⟨_,rfl⟩
 replace H : (some aq)=some r:=yrw ah H
 have au:=zm ah;clear ah
 obtain rfl:=Option.some.inj H
 go_enter Try.func96,Try.ntmps96
 go_wp2_with (first|((with_reducible refine gate_dst (N:=6) rfl ?_);refine Kd.R_lit (Kd.int .i64) _ 3 ?hg (N:=6) ?hd (xs:=([] : List Int)) (inner := []) (ok:=fun _=>True) (okp:=fun _=>True) ?hr ?hp (fun _ hk=>hk) trivial (Below.refl _ _) (Nat.le_refl _) (by simp) ?_;(case hd=>rfl);(case hg=>rfl);(case hr=>first|(go_simp;done)|(go_simp;rfl));(case hp=>exact (Reps.none _ _));intro av w7 ho8 hb hg_ hnew_;clear hg_ hnew_;(first|rw [← aj.out] at ho8|(simp only [Int.reduceToNat] at ho8;rw [← aj.out] at ho8));have ak:=zm (Kd.R_lower ho8 (zE yhb));replace HB:=ybs hb;clear hb ho8)|((with_reducible refine gate_builtin (b:=.append) (xs := #[.tmp 6, .tmp 7]) rfl ?_);at_builtin;refine Kd.R_append_rows (Kd.int .i64) (w0:=w) w.heap.size rfl (.tmp 6) (.tmp 7) 49 3 (.int .i64 0) 8 rfl Try.underlying49 info3 rfl (by decide) (by omega) av ae l0 _ _ _ (fun _=>True) (fun _=>False) rfl rfl ?aO ?aR (fun _ _ h=>h) (fun _ h=>h.elim) ?aF ?aB ?aS ?aL ?_;(case aR=>exact ycb HR0);(case aB=>exact yhb);(case aF=>exact (fun _ _=>trivial));(case aO=>exact (yr ak));(case aS=>exact (zE yhb));(case aL=>have:=LMc3.out;omega);intro aH w9 ho hb hg hat;rw [← ap.out] at ho;replace HB:=zm (hb);have ac:=zm (ho);clear ak;clear ho hb hg hat;obtain ⟨aI,aw,ax⟩:=Kd.R_slice ac.out;subst ax;have al : 0≤(a1 : Int):=yt;have am : a1 < (aa.length : Int):=yt;obtain ⟨az,ay,ai⟩:=Kd.at_int (Kd.R_reads' ac.out).2.2 a1 al am;cases ay;replace al:=eq_true al;replace am:=eq_true am;have p6 : 0≤(a1 : Int):=yt;have q6 : (a1 : Int) < ((aa.length : Int) : Int):=yt;obtain ⟨go6,co6,eo6,gb6,gl6,cl6,HG6⟩:=Kd.R_form ac.out (by omega);(first|cases eo6|(injection eo6 with ea_ en_ ec_;(first|subst ea_|(injection ea_ with ea_;subst ea_));subst ec_;clear en_));have GB6:=zm gb6;have GG6:=zm HG6;clear gb6 gl6 HG6;(first|simp only [add_plain] at ai|skip);obtain ⟨aA,aC⟩:=Kd.R_celln 0 ac.out (a1 : Int) p6 q6;replace p6:=eq_true p6;replace q6:=eq_true q6;obtain ⟨aD,hz11_⟩:=Kd.R_celln 0 ac.out (a1 : Int) (yt) (yt);have ao:=Kd.R_putg ac.out (a1 : Int) (wrap64 ((rd aa a1)+1)))|((with_reducible refine gate_store (t:=3) (p:=16) rfl ?_);refine store_event (t:=3) (p:=16) (v := ?vo_w12) (w1:=(w9.setCell ⟨go6,(a1 : Int).toNat,none⟩ (.int .i64 (wrap64 ((rd aa a1)+1))))) ?hg ?ho ?hn ?hr ?_;(case ho=>rfl);(case hg=>rfl);(case hn=>rfl);(case hr=>first|(go_simp;done)|(go_simp;rfl));intro w12 hw;have hg : w9.grownBy w12 (some go6):=(by rw [hw];exact ao.2);have hp_ : Kd.R (Kd.int .i64) 3 w12 w.heap.size (fun _=>True) (.slice (some ⟨go6,0,none⟩) aa.length aw) aq:=(by rw [hw,au.out];exact ao.1);clear ao;replace ac:=zm (hp_);replace HB:=zm ((by rw [hw];exact zk (HB.out) GB6.out : Below w.heap.size w w12));clear hg hw hp_))
 go_ret
 exact ⟨_,ye,yr ac,yhb⟩
def r12_Spent.l0 : Nat→List Int→Int→Int→Option (Int)
 | 0,_,_,_=>none
 | k+1,x0,x3,x4=>if x4 < 5 then ((r10_Width.f k x4).bind fun ae=>(if 0≤x4 then (if x4 < (x0.length : Int) then ((r06_Cost.f k ae (rd x0 x4)).bind fun af=>(r12_Spent.l0 k x0 (wrap64 (x3+af)) (wrap64 (x4+1)))) else (none)) else (none))) else (some x3)
def r12_Spent.f (k : Nat) (l0 : List Int) : Option (Int):=r12_Spent.l0 k l0 0 0
theorem r12_Spent.mono_l : ∀ k,(∀ y0 y1 y2,LeO (r12_Spent.l0 k y0 y1 y2) (r12_Spent.l0 (k+1) y0 y1 y2))
 | 0=>fun _ _ _ r h=>by simp [r12_Spent.l0] at h
 | k+1=>by
  have ih0:=r12_Spent.mono_l k
  ·
   intro y0 y1 y2
   unfold r12_Spent.l0
   repeat' with_reducible first|apply ih0|apply r06_Cost.mono|apply r10_Width.mono|apply yLr|apply yLn|apply yLi|apply yLb|intro _
theorem r12_Spent.mono : ∀ a0 k,LeO (r12_Spent.f k a0) (r12_Spent.f (k+1) a0):=by
 intro a0 k
 have ih0:=r12_Spent.mono_l k
 unfold r12_Spent.f
 repeat' with_reducible first|apply ih0|apply r06_Cost.mono|apply r10_Width.mono|apply yLr|apply yLn|apply yLi|apply yLb|intro _
def r12_Spent.T5 : Bool × List (List Nat × List Nat):=(true, [([], []),([], []),([1], [1]),([], []),([], []),([3,4], [3,4]),([5], [5]),([2,6,2], [2,6]),([0,7], [0,7]),([8,7,0,1,2,3,4,5,6,7,8], [0,8])])
def r12_Spent.B5 : List Nat := [0,0,2,0,0,24,56,126,255,511]
theorem r12_Spent.tab5 : rtab .any (opsOf Try.f99 5)=r12_Spent.T5:=by kernel_rfl
theorem r12_Spent.bits5 : waitsOk r12_Spent.T5.2 r12_Spent.B5=true:=by kernel_rfl
set_option maxHeartbeats 8000000 in
set_option maxRecDepth 100000 in
theorem r12_Spent.calls (k : Nat) (A0 : Option Addr) (c0 : Nat) (l0 : List Int) (r : Int) (w : World) (hr0 : Kd.C (Kd.int .i64) w A0 l0.length l0) (hc0 : l0.length≤c0) (h : r12_Spent.f k l0=some r) :
  Calls Try.prog 99 #[.slice A0 l0.length c0] w fun e w' => e=.returned (.int .i64 r)∧Below w.heap.size w w' := by
 have HR0:=zm hr0;have HC0:=zm hc0;clear hr0 hc0;have HB:=zm (Below.refl w.heap.size w);have H:=h
 unfold r12_Spent.f at H
 clear h
 have H' := zm H
 clear H
 go_enter Try.func99,Try.ntmps99
 go_wp2
 go_loopg [3,4] k (fun kq v3 v4 w' => ∃ (ag : Int) (aa : Int),v3=.int .i64 ag∧v4=.int .i64 aa∧Aside0 (r12_Spent.l0 kq l0 ag aa=some r)∧Aside0 (kq≤k)∧Aside0 (Below w.heap.size w w'))
 case atStart=>exact ⟨(0),(0),yq,yq,H',⟨Nat.le_refl _⟩,⟨yhb⟩⟩
 case round =>
  clear H'
  obtain ⟨ag,aa,rfl,rfl,HA,HK1,HB⟩:=hrel
  obtain ⟨k1,rfl⟩:=ysu gk (fun h=>by subst h;exact absurd HA.out (by simp [r12_Spent.l0]))
  have H:=HA.out;clear HA
  simp only [r12_Spent.l0] at H
  by_cases c2 : aa < 5
  ·
   rw [if_pos c2] at H
   have ak:=yD c2
   clear c2
   obtain ⟨ae,A3,H⟩:=ybi H
   obtain ⟨c4,H⟩:=yif H
   have am : decide (0≤aa)=true:=decide_eq_true c4
   clear c4
   obtain ⟨c5,H⟩:=yif H
   have ao : decide (aa < (l0.length : Int))=true:=decide_eq_true c5
   clear c5
   obtain ⟨af,A6,H⟩:=ybi H
   have H' := zm H
   clear H
   try go_wp2
   replace HB:=zm (zf HB.out)
   have ah : 0≤(aa : Int):=yt
   have ai : aa < (l0.length : Int):=yt
   obtain ⟨aj,al,ac⟩:=Kd.at_int HR0.out aa ah ai
   have hw705_0:=ac
   cases al
   replace ac:=yhx HB ac
   replace ah:=eq_true ah
   replace ai:=eq_true ai
   refine start_ (n:=10) (S:=fun w' => w'.cell? (aj.add (aa).toNat)=some (.int .i64 (rd l0 aa))) (ds := []) #[false,false,false,false,false,false,false,false,false,false] (by kernel_rfl) rfl rfl ((yhx HB hw705_0 :)) (fun hHeld => ?_);refine with_tabW r12_Spent.tab5 r12_Spent.bits5 (fun HT_ HW_ => ?_)
   generalize wr.drew=w7 at HB ac hHeld ⊢
   refine yp 0 9 HT_ ?_
   refine yp 1 10 HT_ ?_
   refine yp 3 12 HT_ ?_
   refine yp 4 13 HT_ ?_
   refine yp 5 14 HT_ ?_
   refine yl 6 15 HT_ HW_ hHeld ?_
   refine yw 2 11 HT_ (fun K hK => ?_)
   refine ygs Try.func46 #[.int .i64 aa] ?_
   with_reducible refine (r10_Width.calls k1 aa ae _ A3.out).mono ?_
   rintro e w' ⟨rfl,⟨nd,rfl⟩⟩
   refine ⟨_,rfl, ?_⟩
   refine hK.out _ _ ((yhx HB hw705_0 :)) (fun hHeld => ?_)
   clear hK K
   refine ym (some 11) ?_
   refine yw 7 16 HT_ (fun K hK => ?_)
   refine ygs Try.func101 #[.int .i64 ae, .int .i64 (rd l0 aa)] ?_
   with_reducible refine (r06_Cost.calls k1 ae (rd l0 aa) af _ A6.out).mono ?_
   rintro e w8 ⟨rfl,hb⟩
   refine ⟨_,rfl, ?_⟩
   replace HB:=ybs hb
   (try clear hb)
   refine hK.out _ _ ((yhx HB hw705_0 :)) (fun hHeld => ?_)
   clear hK K
   refine ym (some 16) ?_
   refine yp 8 17 HT_ ?_
   refine yp 9 3 HT_ ?_
   refine done_ (done_of HT_.out (by kernel_rfl)) ?_
   try go_wp2
   go_roundg k1
   case measure=>exact yom1 HK1
   case rel=>exact ⟨(wrap64 (ag+af)),(wrap64 (aa+1)),yq,yq,H',⟨yom1 HK1⟩,⟨yhb⟩⟩
  rw [if_neg c2] at H
  have ak:=yG c2
  clear c2
  obtain rfl:=Option.some.inj H
  go_wp2
  go_ret
  exact ⟨ye,yhb⟩
def r12_May.j0 : Nat→List Int→Int→Int→Bool→Option (Bool)
 | 0,_,_,_,_=>none
 | k+1,x1,x2,x3,x32=>if x32=true then (some false) else ((r12_More.f x1 x2).bind fun am=>((r12_Spent.f k am).bind fun aw=>(some (decide (aw≤x3)))))
def r12_May.f (k : Nat) (l0 : List Int) (l1 : List Int) (a2 : Int) (a3 : Int) : Option (Bool):=if 0≤a2 then (if a2 < (l0.length : Int) then (if (rd l0 a2) < 1 then (r12_May.j0 k l1 a2 a3 true) else (if a2 < (l1.length : Int) then (if (rd l1 a2) ≥ 12 then (r12_May.j0 k l1 a2 a3 true) else ((r10_Width.f k a2).bind fun ao=>(if ao=1 then (r12_May.j0 k l1 a2 a3 (decide ((rd l1 a2) > 0))) else (r12_May.j0 k l1 a2 a3 false)))) else (none))) else (none)) else (none)
theorem r12_May.mono_l : ∀ k,(∀ y0 y1 y2 y3,LeO (r12_May.j0 k y0 y1 y2 y3) (r12_May.j0 (k+1) y0 y1 y2 y3))
 | 0=>fun _ _ _ _ r h=>by simp [r12_May.j0] at h
 | k+1=>by
  have ih0:=r12_May.mono_l k
  ·
   intro y0 y1 y2 y3
   unfold r12_May.j0
   repeat' with_reducible first|apply ih0|apply r10_Width.mono|apply r12_Spent.mono|apply yLr|apply yLn|apply yLi|apply yLb|intro _
theorem r12_May.mono : ∀ a0 a1 a2 a3 k,LeO (r12_May.f k a0 a1 a2 a3) (r12_May.f (k+1) a0 a1 a2 a3):=by
 intro a0 a1 a2 a3 k
 have ih0:=r12_May.mono_l k
 unfold r12_May.f
 repeat' with_reducible first|apply ih0|apply r10_Width.mono|apply r12_Spent.mono|apply yLr|apply yLn|apply yLi|apply yLb|intro _
set_option maxHeartbeats 8000000 in
set_option maxRecDepth 100000 in
theorem r12_May.calls (k : Nat) (A0 : Option Addr) (c0 : Nat) (l0 : List Int) (A1 : Option Addr) (c1 : Nat) (l1 : List Int) (a2 : Int) (a3 : Int) (r : Bool) (w : World) (hr0 : Kd.C (Kd.int .i64) w A0 l0.length l0) (hc0 : l0.length≤c0) (hr1 : Kd.C (Kd.int .i64) w A1 l1.length l1) (hc1 : l1.length≤c1) (h : r12_May.f k l0 l1 a2 a3=some r) :
  Calls Try.prog 95 #[.slice A0 l0.length c0, .slice A1 l1.length c1, .int .i64 a2, .int .i64 a3] w fun e w' => e=.returned (.bool r)∧Below w.heap.size w w' := by
 have HR0:=zm hr0;have HC0:=zm hc0;clear hr0 hc0;have HR1:=zm hr1;have HC1:=zm hc1;clear hr1 hc1;have HB:=zm (Below.refl w.heap.size w);have H:=h
 unfold r12_May.f at H
 clear h;have HC5:=zm H;clear H
 go_enter Try.func95,Try.ntmps95
 go_upto_region 1 with (fail)
 go_cut [32] (fun v32 wc => ∃ (kq : Nat) (ak : Bool),v32=.bool ak∧Aside0 (r12_May.j0 kq l1 a2 a3 ak=some r)∧Aside0 (kq≤k)∧Aside0 (Below w.heap.size w wc))
 case first =>
  have H:=HC5.out;clear HC5
  obtain ⟨c6,H⟩:=yif H
  have az : decide (0≤a2)=true:=decide_eq_true c6
  clear c6
  (first|rw [az]|(simp only [i64_w,i32_w];rw [az])|skip)
  obtain ⟨c7,H⟩:=yif H
  have aN : decide (a2 < (l0.length : Int))=true:=decide_eq_true c7
  clear c7
  by_cases c8 : (rd l0 a2) < 1
  ·
   rw [if_pos c8] at H
   have aH:=yD c8
   clear c8
   have H' := zm H
   clear H
   have ae : 0≤(a2 : Int):=yt
   have af : a2 < (l0.length : Int):=yt
   obtain ⟨ap,aj,aa⟩:=Kd.at_int HR0.out a2 ae af
   cases aj
   replace aa:=yhx HB aa
   replace ae:=eq_true ae
   replace af:=eq_true af
   go_wp2
   go_meet
   case rel=>exact ⟨_,(true),yq,H',⟨yo⟩,⟨yhb⟩⟩
  rw [if_neg c8] at H
  have aH:=yG c8
  clear c8
  obtain ⟨c9,H⟩:=yif H
  have aQ : decide (a2 < (l1.length : Int))=true:=decide_eq_true c9
  clear c9
  by_cases c10 : (rd l1 a2) ≥ 12
  ·
   rw [if_pos c10] at H
   have aA:=yDl c10
   clear c10
   have H' := zm H
   clear H
   have ae : 0≤(a2 : Int):=yt
   have af : a2 < (l0.length : Int):=yt
   obtain ⟨ap,aj,aa⟩:=Kd.at_int HR0.out a2 ae af
   cases aj
   replace aa:=yhx HB aa
   replace ae:=eq_true ae
   replace af:=eq_true af
   have ag : 0≤(a2 : Int):=yt
   have ah : a2 < (l1.length : Int):=yt
   obtain ⟨aq,au,ac⟩:=Kd.at_int HR1.out a2 ag ah
   cases au
   replace ac:=yhx HB ac
   replace ag:=eq_true ag
   replace ah:=eq_true ah
   go_wp2
   go_meet
   case rel=>exact ⟨_,(true),yq,H',⟨yo⟩,⟨yhb⟩⟩
  rw [if_neg c10] at H
  have aA:=yGl c10
  clear c10
  obtain ⟨ao,A11,H⟩:=ybi H
  by_cases c12 : ao=1
  ·
   rw [if_pos c12] at H
   obtain ⟨aC,aD⟩:=yE c12
   clear c12
   have H' := zm H
   clear H
   have ae : 0≤(a2 : Int):=yt
   have af : a2 < (l0.length : Int):=yt
   obtain ⟨ap,aj,aa⟩:=Kd.at_int HR0.out a2 ae af
   cases aj
   replace aa:=yhx HB aa
   replace ae:=eq_true ae
   replace af:=eq_true af
   have ag : 0≤(a2 : Int):=yt
   have ah : a2 < (l1.length : Int):=yt
   obtain ⟨aq,au,ac⟩:=Kd.at_int HR1.out a2 ag ah
   cases au
   replace ac:=yhx HB ac
   replace ag:=eq_true ag
   replace ah:=eq_true ah
   go_wp2_with (first|(go_at_call 46;(with_reducible refine (r10_Width.calls k a2 ao _ A11.out).mono ?_);rintro e w' ⟨rfl,⟨nd,rfl⟩⟩;have ax : 0≤(a2 : Int):=yt;have ay : a2 < (l1.length : Int):=yt;obtain ⟨aE,aI,al⟩:=Kd.at_int HR1.out a2 ax ay;obtain rfl : aq=aE:=(by injection aI);replace al:=yhx HB al;replace ax:=eq_true ax;replace ay:=eq_true ay))
   go_meet
   case rel=>exact ⟨_,(decide ((rd l1 a2) > 0)),yq,H',⟨yo⟩,⟨yhb⟩⟩
  rw [if_neg c12] at H
  obtain ⟨aC,aD⟩:=yF c12
  have H' := zm H
  clear H
  have ae : 0≤(a2 : Int):=yt
  have af : a2 < (l0.length : Int):=yt
  obtain ⟨ap,aj,aa⟩:=Kd.at_int HR0.out a2 ae af
  cases aj
  replace aa:=yhx HB aa
  replace ae:=eq_true ae
  replace af:=eq_true af
  have ag : 0≤(a2 : Int):=yt
  have ah : a2 < (l1.length : Int):=yt
  obtain ⟨aq,au,ac⟩:=Kd.at_int HR1.out a2 ag ah
  cases au
  replace ac:=yhx HB ac
  replace ag:=eq_true ag
  replace ah:=eq_true ah
  go_wp2_with (first|(go_at_call 46;(with_reducible refine (r10_Width.calls k a2 ao _ A11.out).mono ?_);rintro e w' ⟨rfl,⟨nd,rfl⟩⟩))
  go_meet
  case rel=>exact ⟨_,(false),yq,H',⟨yo⟩,⟨yhb⟩⟩
 case rest =>
  clear HC5
  try clear c1
  obtain ⟨kq,ak,rfl,HA,HJ4,HB⟩:=hcut
  obtain ⟨kj4,rfl⟩:=ysu kq (fun h=>by subst h;exact absurd HA.out (by simp [r12_May.j0]))
  have H:=HA.out;clear HA
  simp only [r12_May.j0] at H
  by_cases c13 : ak=true
  ·
   subst c13
   rw [if_pos rfl] at H
   obtain rfl:=Option.some.inj H
   go_wp2
   go_ret
   exact ⟨ye,yhb⟩
  replace c13:=Bool.eq_false_iff.mpr c13
  subst c13
  rw [ynf] at H
  obtain ⟨am,A14,H⟩:=ybi H
  obtain ⟨aw,A15,H⟩:=ybi H
  obtain rfl:=Option.some.inj H
  go_wp2_with (first|((with_reducible refine gate_callee (f:=96) rfl ?_);refine ygl 35 Try.func96 #[.slice A1 l1.length c1, .int .i64 a2] ?_;(with_reducible refine (r12_More.calls _ _ l1 a2 am _ ?av HC1.out A14.out).mono ?_);(case av=>exact ycb HR1);rintro e w16 ⟨aT,rfl,ho0,hb⟩;refine ⟨_,rfl, ?_⟩;have ai:=zm (Kd.R_lower ho0 (zE yhb));replace HB:=ybs hb;(try clear hb);(try clear ho0);obtain ⟨aJ,aK,aM⟩:=Kd.R_slice ai.out;subst aM)|((with_reducible refine gate_callee (f:=99) rfl ?_);refine ygl 36 Try.func99 #[.slice aJ am.length aK] ?_;(with_reducible refine (r12_Spent.calls kj4 _ _ am aw _ ?av ?aG A15.out).mono ?_);(case av=>exact yce (Kd.R_reads' ai.out).2.2);(case aG=>exact (Kd.R_reads' ai.out).2.1);rintro e w18 ⟨rfl,hb⟩;refine ⟨_,rfl, ?_⟩;replace ai:=yRb ai hb;replace HB:=ybs hb;(try clear hb)))
  go_ret
  exact ⟨ye,yhb⟩
end Go.Proofs.Ytnmbndkojpjkmaa.Prt
