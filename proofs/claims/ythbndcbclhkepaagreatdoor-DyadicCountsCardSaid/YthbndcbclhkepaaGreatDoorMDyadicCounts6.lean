/-
  Texts of a proof, joined. Conditions stand in each statement.
-/
import Derived.Test.YthbndcbclhkepaaGreatDoorMDyadicCounts5
set_option linter.unusedVariables false
set_option linter.unusedSimpArgs false
namespace Go.Proofs.YthbndcbclhkepaaGreatDoor
open Go Go.QF
set_option maxRecDepth 100000
set_option maxHeartbeats 4000000
noncomputable def Abj (fuel:Nat) (Ab Ac Aa:Int):Option ((Int) ⊕ ((Int))):=
  (((if Aa < Ab then (if 0<=Aa/\Aa<=64 then (if (AZk .and .i64 (Ac / 2 ^ Int.toNat Aa) 1)=0 then (some (Sum.inl <| ())) else (some (Sum.inr <| ()))) else none) else (some (Sum.inr <| ()))):Option ((Unit) ⊕ (Unit))).bind (fun ex=>match ex with | Sum.inl _=>(some (Sum.inl (w64 (Aa + 1)))) | Sum.inr (_)=>(some (Sum.inr<| Aa))))
noncomputable def Abk (fuel:Nat) (Ah:Int) (Ad:LiI) (Ab Ae Af Ac Aa:Int):Option ((Int × Int × Int × Int) ⊕ ((Int × Int × Int))):=
  (if (w64 (Aa + Ab)) < (Ad.length:Int) then ((((gI Ad Aa).bind fun Ai=>((gI Ai (w64 (Aa + Ab))).bind fun Aj=>((((iter (fun s=>Abj fuel Ah Aj s) fuel 0).bind (fun (Ak:Int)=>(some ( Ak)))):Option (Int)).bind fun Ag=>(if Ag < Ac then (some ( (Aa,(w64 (Aa + Ab)),Ag))) else (some ( (Ae,Af,Ac))))))):Option ((Int × Int × Int))).bind (fun ((Am,Ao,Ap):Int × Int × Int)=>(some (Sum.inl (Am,Ao,Ap,(w64 (Aa + 1))))))) else (some (Sum.inr<| (Ae,Af,Ac))))
noncomputable def Abl (fuel:Nat) (Ag Ab:Int) (Ac:LiI) (Ad Ae Af Aa:Int):Option ((Int × Int × Int × Int) ⊕ ((Int × Int × Int))):=
  (if Aa < (w64 ((Ac.length:Int) - Ab)) then ((iter (fun s=>Abk fuel Ag Ac Aa s.1 s.2.1 s.2.2.1 s.2.2.2) fuel (Ad,Ae,Af,Ab)).bind (fun ((Ah,Ai,Aj):Int × Int × Int)=>(some (Sum.inl (Ah,Ai,Aj,(w64 (Aa + 1))))))) else (some (Sum.inr<| (Ad,Ae,Af))))
noncomputable def Aal (fuel:Nat) (Ab:Int) (Ag:LiI) (Aa:Int) (Ac:LiI):Option ((Int × LiI) ⊕ ((LiI))):=
  (if Aa < (Ag.length:Int) then ((gI Ac Aa).bind fun Ad=>((gI Ad Ab).bind fun Ae=>((gI Ad (w64 (Ab - 1))).bind fun Ah=>((gI (sI Ac Aa (sI Ad (w64 (Ab - 1)) Ae)) Aa).bind fun Af=>((gI Af Ab).bind fun Ai=>(some (Sum.inl ((w64 (Aa + 1)),(sI (sI Ac Aa (sI Ad (w64 (Ab - 1)) Ae)) Aa (sI Af Ab Ah)))))))))) else (some (Sum.inr<| Ac)))
noncomputable def Aam (fuel:Nat) (Ab:Int) (Ag:LiI) (Aa:Int) (Ac:LiI):Option ((Int × LiI) ⊕ ((LiI))):=
  (if Aa < (Ag.length:Int) then ((gI Ac Aa).bind fun Ad=>((gI Ad Ab).bind fun Ae=>((gI Ad (w64 (Ab - 1))).bind fun Ah=>((gI (sI Ac Aa (sI Ad (w64 (Ab - 1)) Ae)) Aa).bind fun Af=>((gI Af Ab).bind fun Ai=>(some (Sum.inl ((w64 (Aa + 1)),(sI (sI Ac Aa (sI Ad (w64 (Ab - 1)) Ae)) Aa (sI Af Ab Ah)))))))))) else (some (Sum.inr<| Ac)))
noncomputable def AXb (fuel:Nat) (Ad Aa:Int) (Ab Ac:LiI):Option ((Int × LiI × LiI) ⊕ ((LiI × LiI))):=
  (if Aa < 2 then (if Aa=0 then ((iter (fun s=>Aal fuel Ad Ab s.1 s.2) fuel (0,Ab)).bind (fun (Ae:LiI)=>(some (Sum.inl ((w64 (Aa + 1)),Ae,Ac))))) else (if Aa=1 then ((iter (fun s=>Aam fuel Ad Ac s.1 s.2) fuel (0,Ac)).bind (fun (Af:LiI)=>(some (Sum.inl ((w64 (Aa + 1)),Ab,Af))))) else none)) else (some (Sum.inr<| (Ab,Ac))))
noncomputable def AYm (fuel:Nat) (Ad Aa:Int) (Ab Ac:LiI):Option ((Int × LiI × LiI) ⊕ ((LiI × LiI))):=
  (if Ad < Aa then ((((gI Ab Aa).bind fun Ae=>((gI Ab (w64 (Aa - 1))).bind fun Af=>((iter (fun s=>AXb fuel Aa s.1 s.2.1 s.2.2) fuel (0,(sI (sI Ab (w64 (Aa - 1)) Ae) Aa Af),Ac)).bind (fun ((Ag,Ah):LiI × LiI)=>(some ( (Ag,Ah))))))):Option (LiI × LiI)).bind fun (Ai,Aj)=>(some (Sum.inl ((w64 (Aa - 1)),Ai,Aj)))) else (some (Sum.inr<| (Ab,Ac))))
noncomputable def Aan (fuel:Nat) (Ab:Int) (Ag:LiI) (Aa:Int) (Ac:LiI):Option ((Int × LiI) ⊕ ((LiI))):=
  (if Aa < (Ag.length:Int) then ((gI Ac Aa).bind fun Ad=>((gI Ad Ab).bind fun Ae=>((gI Ad (w64 (Ab - 1))).bind fun Ah=>((gI (sI Ac Aa (sI Ad (w64 (Ab - 1)) Ae)) Aa).bind fun Af=>((gI Af Ab).bind fun Ai=>(some (Sum.inl ((w64 (Aa + 1)),(sI (sI Ac Aa (sI Ad (w64 (Ab - 1)) Ae)) Aa (sI Af Ab Ah)))))))))) else (some (Sum.inr<| Ac)))
noncomputable def Aao (fuel:Nat) (Ab:Int) (Ag:LiI) (Aa:Int) (Ac:LiI):Option ((Int × LiI) ⊕ ((LiI))):=
  (if Aa < (Ag.length:Int) then ((gI Ac Aa).bind fun Ad=>((gI Ad Ab).bind fun Ae=>((gI Ad (w64 (Ab - 1))).bind fun Ah=>((gI (sI Ac Aa (sI Ad (w64 (Ab - 1)) Ae)) Aa).bind fun Af=>((gI Af Ab).bind fun Ai=>(some (Sum.inl ((w64 (Aa + 1)),(sI (sI Ac Aa (sI Ad (w64 (Ab - 1)) Ae)) Aa (sI Af Ab Ah)))))))))) else (some (Sum.inr<| Ac)))
noncomputable def AXc (fuel:Nat) (Ad Aa:Int) (Ab Ac:LiI):Option ((Int × LiI × LiI) ⊕ ((LiI × LiI))):=
  (if Aa < 2 then (if Aa=0 then ((iter (fun s=>Aan fuel Ad Ab s.1 s.2) fuel (0,Ab)).bind (fun (Ae:LiI)=>(some (Sum.inl ((w64 (Aa + 1)),Ae,Ac))))) else (if Aa=1 then ((iter (fun s=>Aao fuel Ad Ac s.1 s.2) fuel (0,Ac)).bind (fun (Af:LiI)=>(some (Sum.inl ((w64 (Aa + 1)),Ab,Af))))) else none)) else (some (Sum.inr<| (Ab,Ac))))
noncomputable def AYn (fuel:Nat) (Ad Aa:Int) (Ab Ac:LiI):Option ((Int × LiI × LiI) ⊕ ((LiI × LiI))):=
  (if Ad < Aa then ((((gI Ab Aa).bind fun Ae=>((gI Ab (w64 (Aa - 1))).bind fun Af=>((iter (fun s=>AXc fuel Aa s.1 s.2.1 s.2.2) fuel (0,(sI (sI Ab (w64 (Aa - 1)) Ae) Aa Af),Ac)).bind (fun ((Ag,Ah):LiI × LiI)=>(some ( (Ag,Ah))))))):Option (LiI × LiI)).bind fun (Ai,Aj)=>(some (Sum.inl ((w64 (Aa - 1)),Ai,Aj)))) else (some (Sum.inr<| (Ab,Ac))))
noncomputable def Aap (fuel:Nat) (Ab:Int) (Ag:LiI) (Aa:Int) (Ac:LiI):Option ((Int × LiI) ⊕ ((LiI))):=
  (if Aa < (Ag.length:Int) then ((gI Ac Aa).bind fun Ad=>((gI Ad Ab).bind fun Ae=>((gI Ad (w64 (Ab - 1))).bind fun Ah=>((gI (sI Ac Aa (sI Ad (w64 (Ab - 1)) Ae)) Aa).bind fun Af=>((gI Af Ab).bind fun Ai=>(some (Sum.inl ((w64 (Aa + 1)),(sI (sI Ac Aa (sI Ad (w64 (Ab - 1)) Ae)) Aa (sI Af Ab Ah)))))))))) else (some (Sum.inr<| Ac)))
noncomputable def Aaq (fuel:Nat) (Ab:Int) (Ag:LiI) (Aa:Int) (Ac:LiI):Option ((Int × LiI) ⊕ ((LiI))):=
  (if Aa < (Ag.length:Int) then ((gI Ac Aa).bind fun Ad=>((gI Ad Ab).bind fun Ae=>((gI Ad (w64 (Ab - 1))).bind fun Ah=>((gI (sI Ac Aa (sI Ad (w64 (Ab - 1)) Ae)) Aa).bind fun Af=>((gI Af Ab).bind fun Ai=>(some (Sum.inl ((w64 (Aa + 1)),(sI (sI Ac Aa (sI Ad (w64 (Ab - 1)) Ae)) Aa (sI Af Ab Ah)))))))))) else (some (Sum.inr<| Ac)))
noncomputable def AXd (fuel:Nat) (Ad Aa:Int) (Ab Ac:LiI):Option ((Int × LiI × LiI) ⊕ ((LiI × LiI))):=
  (if Aa < 2 then (if Aa=0 then ((iter (fun s=>Aap fuel Ad Ab s.1 s.2) fuel (0,Ab)).bind (fun (Ae:LiI)=>(some (Sum.inl ((w64 (Aa + 1)),Ae,Ac))))) else (if Aa=1 then ((iter (fun s=>Aaq fuel Ad Ac s.1 s.2) fuel (0,Ac)).bind (fun (Af:LiI)=>(some (Sum.inl ((w64 (Aa + 1)),Ab,Af))))) else none)) else (some (Sum.inr<| (Ab,Ac))))
noncomputable def AYo (fuel:Nat) (Ad Aa:Int) (Ab Ac:LiI):Option ((Int × LiI × LiI) ⊕ ((LiI × LiI))):=
  (if Ad < Aa then ((((gI Ab Aa).bind fun Ae=>((gI Ab (w64 (Aa - 1))).bind fun Af=>((iter (fun s=>AXd fuel Aa s.1 s.2.1 s.2.2) fuel (0,(sI (sI Ab (w64 (Aa - 1)) Ae) Aa Af),Ac)).bind (fun ((Ag,Ah):LiI × LiI)=>(some ( (Ag,Ah))))))):Option (LiI × LiI)).bind fun (Ai,Aj)=>(some (Sum.inl ((w64 (Aa - 1)),Ai,Aj)))) else (some (Sum.inr<| (Ab,Ac))))
noncomputable def Aar (fuel:Nat) (Ab Af Ae Ag:Int) (Ah:LiI) (Aa:Int) (Ac:LiI):Option ((Int × LiI) ⊕ ((LiI))):=
  (if Aa < (Ah.length:Int) then ((gI Ac Aa).bind fun Ad=>((gI Ad Ae).bind fun Ai=>((gI Ad Af).bind fun Aj=>(((if 0<=Ab/\Ab<=64 then (some ( (AZk .and .i64 (w64 (Ai + (w64 (Ag * Aj)))) (w64 ((w64 (1 * 2 ^ Int.toNat Ab)) - 1))))) else none):Option (Int)).bind fun Ak=>(some (Sum.inl ((w64 (Aa + 1)),(sI Ac Aa (sI Ad Ae Ak))))))))) else (some (Sum.inr<| Ac)))
noncomputable def Aas (fuel:Nat) (Ab Af Ae Ag:Int) (Ah:LiI) (Aa:Int) (Ac:LiI):Option ((Int × LiI) ⊕ ((LiI))):=
  (if Aa < (Ah.length:Int) then ((gI Ac Aa).bind fun Ad=>((gI Ad Ae).bind fun Ai=>((gI Ad Af).bind fun Aj=>(((if 0<=Ab/\Ab<=64 then (some ( (AZk .and .i64 (w64 (Ai + (w64 (Ag * Aj)))) (w64 ((w64 (1 * 2 ^ Int.toNat Ab)) - 1))))) else none):Option (Int)).bind fun Ak=>(some (Sum.inl ((w64 (Aa + 1)),(sI Ac Aa (sI Ad Ae Ak))))))))) else (some (Sum.inr<| Ac)))
noncomputable def Aat (fuel:Nat) (Ac Af Ad Ag:Int) (Ah:LiA) (Aa:Int) (Ab:LiI):Option ((Int × LiI) ⊕ ((LiI))):=
  (if Aa < (Ah.length:Int) then ((gI Ab Af).bind fun Ai=>((gI Ai Aa).bind fun Aj=>((gI Ab Ad).bind fun Ae=>((gI Ae Aa).bind fun Ak=>(((if 0<=Ac/\Ac<=64 then (some ( (AZk .and .i64 (w64 (Ak + (w64 (Ag * Aj)))) (w64 ((w64 (1 * 2 ^ Int.toNat Ac)) - 1))))) else none):Option (Int)).bind fun Am=>(some (Sum.inl ((w64 (Aa + 1)),(sI Ab Ad (sI Ae Aa Am)))))))))) else (some (Sum.inr<| Ab)))
noncomputable def AXe (fuel:Nat) (Ad Ae Af Ag Aa:Int) (Ab Ac:LiI):Option ((Int × LiI × LiI) ⊕ ((LiI × LiI))):=
  (if Aa < 2 then (if Aa=0 then ((iter (fun s=>Aar fuel Ad Ae Af Ag Ab s.1 s.2) fuel (0,Ab)).bind (fun (Ah:LiI)=>(some (Sum.inl ((w64 (Aa + 1)),Ah,Ac))))) else (if Aa=1 then ((iter (fun s=>Aas fuel Ad Ae Af Ag Ac s.1 s.2) fuel (0,Ac)).bind (fun (Ai:LiI)=>(some (Sum.inl ((w64 (Aa + 1)),Ab,Ai))))) else none)) else (some (Sum.inr<| (Ab,Ac))))
noncomputable def Aau (fuel:Nat) (Aa Ac Ae Ai Ab:Int) (Ad Af:LiI):Option ((Int × LiI × LiI) ⊕ ((LiI × LiI))):=
  (if Ab < (Ad.length:Int) then ((gI Ad Ac).bind fun Aj=>((gI Aj Ab).bind fun Ak=>(if 0<=Ae/\Ae<=64 then (((if 0<=Aa/\Aa<=64 then (some ( (AZk .and .i64 (w64 ((w64 (0 - (Ak / 2 ^ Int.toNat Ae))) * Ai)) (w64 ((w64 (1 * 2 ^ Int.toNat Aa)) - 1))))) else none):Option (Int)).bind fun Ag=>((((iter (fun s=>AXe fuel Aa Ac Ab Ag s.1 s.2.1 s.2.2) fuel (0,Ad,Af)).bind (fun ((Ah,Am):LiI × LiI)=>((gI Ah Ac).bind fun Ao=>((iter (fun s=>Aat fuel Aa Ac Ab Ag Ao s.1 s.2) fuel (0,Ah)).bind (fun (Ap:LiI)=>(some ( (Ap,Am)))))))):Option (LiI × LiI)).bind fun (Aq,Ar)=>(some (Sum.inl ((w64 (Ab + 1)),Aq,Ar))))) else none))) else (some (Sum.inr<| (Ad,Af))))
noncomputable def Aav (fuel:Nat) (Ab Af Ae Ag:Int) (Ah:LiI) (Aa:Int) (Ac:LiI):Option ((Int × LiI) ⊕ ((LiI))):=
  (if Aa < (Ah.length:Int) then ((gI Ac Aa).bind fun Ad=>((gI Ad Ae).bind fun Ai=>((gI Ad Af).bind fun Aj=>(((if 0<=Ab/\Ab<=64 then (some ( (AZk .and .i64 (w64 (Ai + (w64 (Ag * Aj)))) (w64 ((w64 (1 * 2 ^ Int.toNat Ab)) - 1))))) else none):Option (Int)).bind fun Ak=>(some (Sum.inl ((w64 (Aa + 1)),(sI Ac Aa (sI Ad Ae Ak))))))))) else (some (Sum.inr<| Ac)))
noncomputable def Aaw (fuel:Nat) (Ab Af Ae Ag:Int) (Ah:LiI) (Aa:Int) (Ac:LiI):Option ((Int × LiI) ⊕ ((LiI))):=
  (if Aa < (Ah.length:Int) then ((gI Ac Aa).bind fun Ad=>((gI Ad Ae).bind fun Ai=>((gI Ad Af).bind fun Aj=>(((if 0<=Ab/\Ab<=64 then (some ( (AZk .and .i64 (w64 (Ai + (w64 (Ag * Aj)))) (w64 ((w64 (1 * 2 ^ Int.toNat Ab)) - 1))))) else none):Option (Int)).bind fun Ak=>(some (Sum.inl ((w64 (Aa + 1)),(sI Ac Aa (sI Ad Ae Ak))))))))) else (some (Sum.inr<| Ac)))
noncomputable def Aax (fuel:Nat) (Ac Af Ad Ag:Int) (Ah:LiA) (Aa:Int) (Ab:LiI):Option ((Int × LiI) ⊕ ((LiI))):=
  (if Aa < (Ah.length:Int) then ((gI Ab Af).bind fun Ai=>((gI Ai Aa).bind fun Aj=>((gI Ab Ad).bind fun Ae=>((gI Ae Aa).bind fun Ak=>(((if 0<=Ac/\Ac<=64 then (some ( (AZk .and .i64 (w64 (Ak + (w64 (Ag * Aj)))) (w64 ((w64 (1 * 2 ^ Int.toNat Ac)) - 1))))) else none):Option (Int)).bind fun Am=>(some (Sum.inl ((w64 (Aa + 1)),(sI Ab Ad (sI Ae Aa Am)))))))))) else (some (Sum.inr<| Ab)))
noncomputable def AXf (fuel:Nat) (Ad Ae Af Ag Aa:Int) (Ab Ac:LiI):Option ((Int × LiI × LiI) ⊕ ((LiI × LiI))):=
  (if Aa < 2 then (if Aa=0 then ((iter (fun s=>Aav fuel Ad Ae Af Ag Ab s.1 s.2) fuel (0,Ab)).bind (fun (Ah:LiI)=>(some (Sum.inl ((w64 (Aa + 1)),Ah,Ac))))) else (if Aa=1 then ((iter (fun s=>Aaw fuel Ad Ae Af Ag Ac s.1 s.2) fuel (0,Ac)).bind (fun (Ai:LiI)=>(some (Sum.inl ((w64 (Aa + 1)),Ab,Ai))))) else none)) else (some (Sum.inr<| (Ab,Ac))))
noncomputable def Aay (fuel:Nat) (Ab Af Ae Ag:Int) (Ah:LiI) (Aa:Int) (Ac:LiI):Option ((Int × LiI) ⊕ ((LiI))):=
  (if Aa < (Ah.length:Int) then ((gI Ac Aa).bind fun Ad=>((gI Ad Ae).bind fun Ai=>((gI Ad (w64 (Af + 1))).bind fun Aj=>(((if 0<=Ab/\Ab<=64 then (some ( (AZk .and .i64 (w64 (Ai + (w64 (Ag * Aj)))) (w64 ((w64 (1 * 2 ^ Int.toNat Ab)) - 1))))) else none):Option (Int)).bind fun Ak=>(some (Sum.inl ((w64 (Aa + 1)),(sI Ac Aa (sI Ad Ae Ak))))))))) else (some (Sum.inr<| Ac)))
noncomputable def Aaz (fuel:Nat) (Ab Af Ae Ag:Int) (Ah:LiI) (Aa:Int) (Ac:LiI):Option ((Int × LiI) ⊕ ((LiI))):=
  (if Aa < (Ah.length:Int) then ((gI Ac Aa).bind fun Ad=>((gI Ad Ae).bind fun Ai=>((gI Ad (w64 (Af + 1))).bind fun Aj=>(((if 0<=Ab/\Ab<=64 then (some ( (AZk .and .i64 (w64 (Ai + (w64 (Ag * Aj)))) (w64 ((w64 (1 * 2 ^ Int.toNat Ab)) - 1))))) else none):Option (Int)).bind fun Ak=>(some (Sum.inl ((w64 (Aa + 1)),(sI Ac Aa (sI Ad Ae Ak))))))))) else (some (Sum.inr<| Ac)))
noncomputable def Aa0 (fuel:Nat) (Ac Af Ad Ag:Int) (Ah:LiA) (Aa:Int) (Ab:LiI):Option ((Int × LiI) ⊕ ((LiI))):=
  (if Aa < (Ah.length:Int) then ((gI Ab (w64 (Af + 1))).bind fun Ai=>((gI Ai Aa).bind fun Aj=>((gI Ab Ad).bind fun Ae=>((gI Ae Aa).bind fun Ak=>(((if 0<=Ac/\Ac<=64 then (some ( (AZk .and .i64 (w64 (Ak + (w64 (Ag * Aj)))) (w64 ((w64 (1 * 2 ^ Int.toNat Ac)) - 1))))) else none):Option (Int)).bind fun Am=>(some (Sum.inl ((w64 (Aa + 1)),(sI Ab Ad (sI Ae Aa Am)))))))))) else (some (Sum.inr<| Ab)))
noncomputable def AXg (fuel:Nat) (Ad Ae Af Ag Aa:Int) (Ab Ac:LiI):Option ((Int × LiI × LiI) ⊕ ((LiI × LiI))):=
  (if Aa < 2 then (if Aa=0 then ((iter (fun s=>Aay fuel Ad Ae Af Ag Ab s.1 s.2) fuel (0,Ab)).bind (fun (Ah:LiI)=>(some (Sum.inl ((w64 (Aa + 1)),Ah,Ac))))) else (if Aa=1 then ((iter (fun s=>Aaz fuel Ad Ae Af Ag Ac s.1 s.2) fuel (0,Ac)).bind (fun (Ai:LiI)=>(some (Sum.inl ((w64 (Aa + 1)),Ab,Ai))))) else none)) else (some (Sum.inr<| (Ab,Ac))))
noncomputable def Aa1 (fuel:Nat) (Aa Ac Ab Aq Af Ar Ag Ad:Int) (Ae Ah:LiI):Option ((Int × LiI × LiI) ⊕ ((LiI × LiI))):=
  (if Ad < (Ae.length:Int) then ((gI Ae Ac).bind fun Au=>((gI Au Ad).bind fun Ai=>(if 0<=Ab/\Ab<=64 then ((gI Ae (w64 (Ac + 1))).bind fun Av=>((gI Av Ad).bind fun Aj=>(if 0<=Ab/\Ab<=64 then (((if 0<=Aa/\Aa<=64 then (some ( (AZk .and .i64 (w64 ((w64 ((Af / 2 ^ Int.toNat Ab) * (Aj / 2 ^ Int.toNat Ab))) - (w64 ((Ar / 2 ^ Int.toNat Ab) * (Ai / 2 ^ Int.toNat Ab))))) (w64 ((w64 (1 * 2 ^ Int.toNat Aa)) - 1))))) else none):Option (Int)).bind fun Aw=>(((if 0<=Aa/\Aa<=64 then (some ( (AZk .and .i64 (w64 ((w64 ((Af / 2 ^ Int.toNat Ab) * (Ai / 2 ^ Int.toNat Ab))) - (w64 ((Aq / 2 ^ Int.toNat Ab) * (Aj / 2 ^ Int.toNat Ab))))) (w64 ((w64 (1 * 2 ^ Int.toNat Aa)) - 1))))) else none):Option (Int)).bind fun Ax=>(((if 0<=Aa/\Aa<=64 then (some ( (AZk .and .i64 (w64 (Aw * Ag)) (w64 ((w64 (1 * 2 ^ Int.toNat Aa)) - 1))))) else none):Option (Int)).bind fun Ak=>((((iter (fun s=>AXf fuel Aa Ac Ad Ak s.1 s.2.1 s.2.2) fuel (0,Ae,Ah)).bind (fun ((Am,Ay):LiI × LiI)=>((gI Am Ac).bind fun Az=>((iter (fun s=>Aax fuel Aa Ac Ad Ak Az s.1 s.2) fuel (0,Am)).bind (fun (A3:LiI)=>(some ( (A3,Ay)))))))):Option (LiI × LiI)).bind fun (A4,A5)=>(((if 0<=Aa/\Aa<=64 then (some ( (AZk .and .i64 (w64 (Ax * Ag)) (w64 ((w64 (1 * 2 ^ Int.toNat Aa)) - 1))))) else none):Option (Int)).bind fun Ao=>((((iter (fun s=>AXg fuel Aa Ac Ad Ao s.1 s.2.1 s.2.2) fuel (0,A4,A5)).bind (fun ((Ap,A6):LiI × LiI)=>((gI Ap (w64 (Ac + 1))).bind fun A7=>((iter (fun s=>Aa0 fuel Aa Ac Ad Ao A7 s.1 s.2) fuel (0,Ap)).bind (fun (A8:LiI)=>(some ( (A8,A6)))))))):Option (LiI × LiI)).bind fun (A9,Ba)=>(some (Sum.inl ((w64 (Ad + 1)),A9,Ba))))))))) else none))) else none))) else (some (Sum.inr<| (Ae,Ah))))
noncomputable def AWk (fuel:Nat) (a3:LiI) (Ac Ab:Int) (Ae Ah:LiI) (Ai:(List AWt)):Option ((Int × LiI × LiI × (List AWt)) ⊕ ((LiI × LiI × (List AWt)))):=
  (if Ab < (a3.length:Int) then ((((((iter (fun s=>Abl fuel Ac Ab Ae s.1 s.2.1 s.2.2.1 s.2.2.2) fuel (Ab,Ab,Ac,0)).bind (fun ((Av,Aw,Ax):Int × Int × Int)=>(some ( (Av,Aw,Ax))))):Option (Int × Int × Int)).bind fun (Aj,Ao,Aa)=>(((if Aj < Ao then ((((iter (fun s=>AYm fuel Ab s.1 s.2.1 s.2.2) fuel (Ao,Ae,Ah)).bind (fun ((Ay,Az):LiI × LiI)=>(some ( (Ay,Az))))):Option (LiI × LiI)).bind fun (A3,A4)=>((((iter (fun s=>AYn fuel Ab s.1 s.2.1 s.2.2) fuel ((w64 (Aj + 1)),A3,A4)).bind (fun ((A5,A6):LiI × LiI)=>(some ( (A5,A6))))):Option (LiI × LiI)).bind fun (A7,A8)=>(some ( (A7,A8,2))))) else ((((iter (fun s=>AYo fuel Ab s.1 s.2.1 s.2.2) fuel (Aj,Ae,Ah)).bind (fun ((A9,Ba):LiI × LiI)=>(some ( (A9,Ba))))):Option (LiI × LiI)).bind fun (Bb,Bc)=>(some ( (Bb,Bc,1))))):Option ((LiI × LiI × Int))).bind (fun ((Af,Ap,Ak):LiI × LiI × Int)=>((gI Af Ab).bind fun Aq=>((gI Aq Ab).bind fun Ad=>(if 0<=Aa/\Aa<=64 then (if Ak=1 then (((if 0<=Ac/\Ac<=64 then ((AZx fuel ([([(Ad / 2 ^ Int.toNat Aa)]:List Int)]:List LiA) (w64 (1 * 2 ^ Int.toNat Ac))).bind fun (Be,B6)=>((gI Be 0).bind fun Bf=>((gI Bf 0).bind fun Bg=>(some ( Bg))))) else none):Option (Int)).bind fun Bh=>((((iter (fun s=>Aau fuel Ac Ab Aa Bh s.1 s.2.1 s.2.2) fuel ((w64 (Ab + 1)),Af,Ap)).bind (fun ((Bi,Bj):LiI × LiI)=>(some ( (Bi,Bj))))):Option (LiI × LiI)).bind fun (Bl,Bm)=>(some ( (Aa,Ak,(Ad / 2 ^ Int.toNat Aa),0,0,Bl,Bm))))) else ((gI Aq (w64 (Ab + 1))).bind fun Ag=>(if 0<=Aa/\Aa<=64 then ((gI Af (w64 (Ab + 1))).bind fun Bn=>((gI Bn (w64 (Ab + 1))).bind fun Am=>(if 0<=Aa/\Aa<=64 then (((((if 0<=Ac/\Ac<=64 then (some ( (AZk .and .i64 (w64 ((w64 ((Ad / 2 ^ Int.toNat Aa) * (Am / 2 ^ Int.toNat Aa))) - (w64 ((Ag / 2 ^ Int.toNat Aa) * (Ag / 2 ^ Int.toNat Aa))))) (w64 ((w64 (1 * 2 ^ Int.toNat Ac)) - 1))))) else none):Option (Int)).bind fun Bo=>(((if 0<=Ac/\Ac<=64 then ((AZx fuel ([([Bo]:List Int)]:List LiA) (w64 (1 * 2 ^ Int.toNat Ac))).bind fun (Bp,B7)=>((gI Bp 0).bind fun Bq=>((gI Bq 0).bind fun Br=>(some ( Br))))) else none):Option (Int)).bind fun Bt=>((iter (fun s=>Aa1 fuel Ac Ab Aa Ad Ag Am Bt s.1 s.2.1 s.2.2) fuel ((w64 (Ab + 2)),Af,Ap)).bind (fun ((Bu,Bv):LiI × LiI)=>(some ( (Bu,Bv))))))):Option (LiI × LiI)).bind fun (Bw,Bx)=>(some ( (Aa,Ak,(Ad / 2 ^ Int.toNat Aa),(Ag / 2 ^ Int.toNat Aa),(Am / 2 ^ Int.toNat Aa),Bw,Bx)))) else none))) else none))) else none)))))):Option (Int × Int × Int × Int × Int × LiI × LiI)).bind fun (By,Ar,Bz,B1,B3,B4,B5)=>(if Ai.length<=100000000 then (some (Sum.inl ((w64 (Ab + Ar)),B4,B5,(Ai ++ [(By,Ar,Bz,B1,B3)])))) else none)) else (some (Sum.inr<| (Ae,Ah,Ai))))
noncomputable def Abm (fuel:Nat) (a3:LiI) (Aa:Int) (Ac:LiI):Option ((Int × LiI) ⊕ ((LiI))):=
  (if Aa < (a3.length:Int) then (if 0<=(a3.length:Int)/\(a3.length:Int)<=100000000 then (if Ac.length<=100000000 then ((gI (Ac ++ [(List.replicate (Int.toNat (a3.length:Int)) (0:Int))]) Aa).bind fun Ad=>((gI Ad Aa).bind fun Ae=>(some (Sum.inl ((w64 (Aa + 1)),(sI (Ac ++ [(List.replicate (Int.toNat (a3.length:Int)) (0:Int))]) Aa (sI Ad Aa 1))))))) else none) else none) else (some (Sum.inr<| Ac)))
noncomputable def Abe (fuel:Nat) (a3:LiI):Option ((Int × LiI × (List AWt)) × Int):=
  ((AW2 fuel a3 2).bind fun (Ab,Ac)=>(if ¬ Ac=0 then (some ((0,[],[]),Ac)) else (if 0<=Ab/\Ab<=64 then ((Abd fuel a3 (w64 (1 * 2 ^ Int.toNat Ab))).bind fun (Ad,Ah)=>((iter (fun s=>Abm fuel a3 s.1 s.2) fuel (0,[])).bind (fun (Ae:LiI)=>((iter (fun s=>AWk fuel a3 Ab s.1 s.2.1 s.2.2.1 s.2.2.2) fuel (0,Ad,Ae,[])).bind (fun ((Ai,Af,Ag):LiI × LiI × (List AWt))=>(some ((2,Af,Ag),0))))))) else none)))
theorem Amj {fuel:Nat} {h:AGt} {Ih:Value} {a3:LiI} {r:((Int × LiI × (List AWt)) × Int)} (H2:AXs (cI .i64) h Ih a3) (HO:An3 h) (hp:Abe fuel a3=some r):ATs Tryz.prog 14 #[Ih] h (fun x h'=>Ext h h'/\ ∃ (Ij:Value) (Ik:Value) (Il:List Nat) (Lr:List LnA) (Lv:List Value) (Im:List Nat),x= .tuple #[.agg #[.int .i64 r.1.1,Ij,Ik],.int .i64 r.2]/\AVt (cI .i64) 49 2 h' Il Lr Lv Ij r.1.2.1/\OwC Alo 58 h' Im Ik r.1.2.2/\Sp h' h.size [Il,Im]):=by
 unfold Abe at hp;refine cwf (l:=[_]) Tryz.func14 rfl rfl (AGm (AVr (Kst.k0 h) [(.int .i64 0),(.slice none 0 0),(.slice none 0 0)] Au9 fun b5 h6 E8 Ds=>ATw (AGj ?_)));obtain ⟨⟨Ag,x13⟩,Lw,Dt⟩:=AGn hp;dsimp only at Dt;refine AW0 Ds (Aha (H2.ext Ds.x) (HO.ext Ds.x) Lw) fun h17 E16 Du=>AGj (AUb rfl rfl (AUb rfl rfl (ATi (AGu (AGo (AGm (AGj (AWp rfl rfl (AGr (⟨_,rfl,fun Dv=>?_,fun Dv=>?_⟩))))))))))
 ·refine AGm (AV6 (v:=(.agg #[(.int .i64 0),(.slice none 0 0),(.slice none 0 0)])) (fun _=>by kernel_rfl) (AGj (AU0 [(.int .i64 0),(.slice none 0 0),(.slice none 0 0)] Agm rfl rfl rfl rfl (by simp [isOne]) (Du.b p0) fun h23 Lx Ly=>AGu (AGz (ATc ?_)))));have B5:=Kst.anil Alo 58 (Kst.anil2 (cI .i64) 49 2 (Du.sb p0 Ly Lx rfl));obtain rfl:=AGl (ATy Dt Dv);exact ⟨_,Alk Agm rfl rfl (B5.b p2),B5.x,_,_,_,_,_,_,rfl,(B5.o2 p1),(B5.o p0),B5.s.sel [1,0] AGk⟩
 ·refine AGy (q_t (AGm (AGj (AV6 (v:=(.agg #[(.int .i64 Ag),(.slice none 0 0),(.slice none 0 0)])) (fun _=>by kernel_rfl) (AYy Du [(.int .i64 Ag),(.slice none 0 0),(.slice none 0 0)] fun Lz h35 E37 Io=>ATw (AGj (AGj (AGj ?_))))))));obtain ⟨L9,Ma⟩:=ifN (ATz Dt Dv);refine AY5 rfl rfl L9 ?_;obtain ⟨⟨Mb,x44⟩,Mc,Ip⟩:=AGn Ma;dsimp only at Ip;refine Afh rfl (Ami (H2.ext Io.x) Mc) fun AGs h48 Md Me=>?_;obtain ⟨Ab,Mf,Mg,Mh,rfl,Mi,Mj⟩:=Me;refine AGj (AUb rfl rfl (AUb rfl rfl (AUt rfl (AVu AVc rfl ?_))));have Dw:=Io.no2 Md Mj Mi;refine Ag8 [(.int .i64 Ag),Ab,(.slice none 0 0)] AU3 rfl rfl (Dw.o2 p0).isOne (Dw.b p1) (Nat.le_of_ble_eq_true rfl) rfl fun h60 Mk Ml=>AGr (AGo (AGm (AGj (AT4 ATb rfl H2 (AGj (AGr (AGp ?_)))))));have Iq:=Kst.anil2 (cI .i64) 49 2 (Dw.sb p1 Ml Mk rfl);refine AX6 1152921470247108736 (fun x:(Int) × (LiI) × (Value) × LnA × LnN × LvA=>(x.1,x.2.1)) ((0,[],(.slice none 0 0),[],[],[]):(Int) × (LiI) × (Value) × LnA × LnN × LvA) Ip (fun x=>[(35,(.int .i64 x.1))]) (fun x=>(Iq.L.set 0 (aO2 (cI .i64) 49 2 x.2.2.2.1 x.2.2.2.2.1 x.2.2.2.2.2 x.2.2.1 x.2.1)).set 2 (aB 79 Lz [(.int .i64 Ag),Ab,x.2.2.1])) Iq ⟨rfl,trivial⟩ ?_;rintro ⟨Mm,Mo,Ac,Ad,Ae,Af⟩ AGv Dx y70 B6 Dy Mq;unfold Abm at Dy;refine AGm (ATl rfl rfl (AGr (AGo (⟨_,rfl,fun Dz=>?_,fun Dz=>?_⟩))))
  ·refine AGy (q_t (AGo (AGp (AGm (AGj (AGu (AGo (AVa (fun h'=>UpT (Ad ++ []) Dx h') AGx ?_))))))));have Co:UpT (Ad ++ []) Dx Dx:=UpT.start (AVn (B6.o2 p0).notD all_nil);refine AGj (AGj (AUt rfl (AVu Ahr rfl (AU1 AU3 rfl Co (fun h' hb=>((B6.b p2).upT hb (A42 (B6.dj p2 p0 AGk) A43)).cell (i:=2) rfl) (AGj (AT4 ATb rfl H2 ?_))))));obtain ⟨Mr,Ms⟩:=ifN (ATy Dy Dz);refine Ai3 (c:=(cI .i64)) (a:=0) AS9 Acy rfl rfl (fun _=>rfl) rfl Co (fun _ E=>Co.thenE E) rfl rfl AGk Mr fun b92 v91 h89 Mt Ir Mu Mv=>?_;have Is:=Co.thenE Ir;have Cp:=B6.no Ir (AX2 Mu Mv) Mt;obtain ⟨Mw,Mx⟩:=ifN Ms;refine A0r ATb Aff rfl rfl Is (fun _ U=>Is.then U (Afa rfl)) (fun _=>rfl) rfl (Cp.o p0) (Cp.o2 p1) (Cp.dj p0 p1 AGk) AGk Mw fun AG0 AG1 My AG2 Mz M0 M1=>AUt rfl (AVu Ahr rfl ?_);have D0:=Cp.m2 p0 p1 AGk M0 Mz M1;refine Ag8 [(.int .i64 Ag),Ab,My] AU3 rfl rfl (D0.o2 p1).isOne (D0.b p3) (Nat.le_of_ble_eq_true rfl) rfl fun AG3 M2 M3=>AGr (AS3 ?_);have D1:=D0.sb p3 M3 M2 rfl;refine AGj (AUt rfl (AUs Ahr AU3 (D1.b p3) 2 rfl (AGj ?_)));obtain ⟨AG4,It,M4⟩:=AGn Mx;refine AUh ATb ATq (D1.o2 p1) It fun _ AG5 M5=>AGj ?_;obtain ⟨AG6,M6,M7⟩:=AGn M4;refine AZv (m:=Mm) D1 p1 AS9 ATe M5 It M6 (fun _=>rfl) fun _ AG7 M8=>ATh (q_b (q_t (AS3 (ATk rfl rfl (AGj (AGr ?_))))));exact ⟨(_,_,_,_,_,_),(AGl M7).symm,M8.sel [1,2,3,4] AGk,rfl,trivial⟩
  ·refine AS8 (ATa (ATa (AT7 (q_t (AGm (AV6 (v:=(.agg #[(.int .i64 2),(.slice none 0 0),(.slice none 0 0)])) (fun _=>by kernel_rfl) (AVr B6 [(.int .i64 0),(.slice none 0 0),(.slice none 0 0)] Au9 fun M9 AG8 AG9 Iu=>AU0 [(.int .i64 2),(.slice none 0 0),(.slice none 0 0)] Agm rfl rfl rfl rfl (by simp [isOne]) (Iu.b p0) fun AHa Na Nb=>AGr (AGo (AGm (AGu (AGp ?_)))))))))));have Iv:=Kst.anil Alo 58 (Iu.sb p0 Nb Na rfl);refine AX6 302229149060648079984128 (fun x:(Int) × (LiI) × LnA × LnN × LvA × (LiI) × ((List AWt)) × (Value) × LnA=>(x.1,x.2.1,x.2.2.2.2.2.1,x.2.2.2.2.2.2.1)) ((0,Mb,Mf,Mg,Mh,Mo,[],(.slice none 0 0),[]):(Int) × (LiI) × LnA × LnN × LvA × (LiI) × ((List AWt)) × (Value) × LnA) (Mq _ (AGl (ATz Dy Dz)).symm) (fun x=>[(9,(.int .i64 x.1))]) (fun x=>(((Iv.L.set 3 (aO2 (cI .i64) 49 2 x.2.2.1 x.2.2.2.1 x.2.2.2.2.1 Ab x.2.1)).set 2 (aO2 (cI .i64) 49 2 Ad Ae Af Ac x.2.2.2.2.2.1)).set 0 (aO Alo 58 x.2.2.2.2.2.2.2.2 x.2.2.2.2.2.2.2.1 x.2.2.2.2.2.2.1)).set 1 (aB 29 M9 [(.int .i64 2),(.slice none 0 0),x.2.2.2.2.2.2.2.1])) Iv ⟨rfl,trivial⟩ ?_;rintro ⟨A5,Iw,Ix,Iy,Iz,I0,AHb,D2,AHc⟩ AHd AHe AHf Bo D3 Nc;unfold AWk at D3;refine AGo (AGm (AGj (AGj (AT4 ATb rfl H2 (ATl rfl rfl (AGr (⟨_,rfl,fun D4=>?_,fun D4=>?_⟩)))))))
   ·refine AGy (q_t (AGp (AGm (AGj (AGj ?_)))));obtain ⟨Nd,Nf,Ng⟩:=AGn (ATy D3 D4);refine ATd (K':=(fun xr h'=> ∃ x:(Int) × (Int) × (Int) × (Int) × (Int) × (LiI) × LnA × LnN × LvA × (LiI),(x.1,x.2.1,x.2.2.1,x.2.2.2.1,x.2.2.2.2.1,x.2.2.2.2.2.1,x.2.2.2.2.2.2.2.2.2)=Nd/\xr=(.agg #[(.int .i64 x.1),(.int .i64 x.2.1),(.int .i64 x.2.2.1),(.int .i64 x.2.2.2.1),(.int .i64 x.2.2.2.2.1)])/\Kst h h' ((Bo.L.set 3 (aO2 (cI .i64) 49 2 x.2.2.2.2.2.2.1 x.2.2.2.2.2.2.2.1 x.2.2.2.2.2.2.2.2.1 Ab x.2.2.2.2.2.1)).set 2 (aO2 (cI .i64) 49 2 Ad Ae Af Ac x.2.2.2.2.2.2.2.2.2)))) trivial rfl ?_ fun AHg AHh Nh=>?_
    ·refine cwf (l:=[_,_]) Tryz.func41 rfl rfl (AGm (AVr Bo [(.int .i64 0),(.int .i64 0),(.int .i64 0),(.int .i64 0),(.int .i64 0)] Am5 fun AHi AHj AHk Bp=>AZg (AGj (AGj ?_))));obtain ⟨Ni,Nj,Nk⟩:=AGn Nf;refine ATd (K':=(fun xr h'=> ∃ x:(Int) × (Int) × (Int),(x.1,x.2.1,x.2.2)=Ni/\xr= .tuple #[(.int .i64 x.1),(.int .i64 x.2.1),(.int .i64 x.2.2)]/\Kst h h' (Bp.L))) trivial rfl ?_ fun AHl AHm Nl=>?_
     ·refine cwf (l:=[_,_]) Tryz.func82 rfl rfl (AGm (ATi (ATi (AGu (AGo (AXr (AGj (AGj (AGj (AUt rfl (AUs Aaj AT1 (Bp.b p5) 0 rfl (ATi (ATi (AGu (AGo (AGm (AGj (AUt rfl (AUs AVc AU3 (Bp.b p5) 1 rfl (AT4 ATb rfl (Bp.o2 p4).rd (AGj (AVd rfl rfl (AGj (AGr (AGp ?_)))))))))))))))))))))))));refine AYd 18446744073642450816 Nj (fun x=>[(7,(.int .i64 x.1)),(8,(.int .i64 x.2.1)),(9,(.int .i64 x.2.2.1)),(26,(.int .i64 x.2.2.2))]) (fun x=>Bp.L) Bp ⟨rfl,rfl,rfl,rfl,trivial⟩ ?_;rintro ⟨Nm,Nn,Np,Nq⟩ AHn AHo AHp D5 D6 Nr;unfold Abl at D6;refine AGm (ATl rfl rfl (AGr (AGo (⟨_,rfl,fun D7=>?_,fun D7=>?_⟩))))
      ·refine AGy (q_t (AGo (AGp (AGm (AGj (ATw (AGj (AGu (AGp (AYd 9223372035781041024 (ATy D6 D7) (fun x=>[(7,(.int .i64 x.1)),(8,(.int .i64 x.2.1)),(9,(.int .i64 x.2.2.1)),(11,(.int .i64 x.2.2.2))]) (fun x=>D5.L) D5 ⟨rfl,rfl,rfl,rfl,trivial⟩ ?_))))))))));rintro ⟨Ns,Nt,Nu,D8⟩ AHq AHr AHs Ay D9 Nv;unfold Abk at D9;refine AGo (AGm (AGj (AGj (ATk rfl rfl (AGj (AUt rfl (AUs AVc AU3 (Ay.b p5) 1 rfl (AT4 ATb rfl (Ay.o2 p4).rd (ATl rfl rfl (AGr (⟨_,rfl,fun Ea=>?_,fun Ea=>?_⟩)))))))))))
       ·refine AGy (q_t ?_);obtain ⟨Nw,Ny,Nz⟩:=AGn (ATy D9 Ea);refine Acg 9223369837831525248 (fun x:(Int) × (Int) × (Int)=>[(7,(.int .i64 x.1)),(8,(.int .i64 x.2.1)),(9,(.int .i64 x.2.2))]) (fun x h'=>( (x.1,x.2.1,x.2.2))=Nw/\Kst h h' (Ay.L)) ?_ ?_
        ·refine AGp (AGm (AGj (AGj (AUt rfl (AUs AVc AU3 (Ay.b p5) 1 rfl (AGj ?_))))));obtain ⟨AHt,I1,N0⟩:=AGn Ny;refine AUh ATb ATq (Ay.o2 p4) I1 fun _ AHu N3=>AGj (AGj (ATk rfl rfl ?_));obtain ⟨AHv,N4,N5⟩:=AGn N0;refine AWr (m:=D8) AS9 ATe (Ay.o2 p4) N3 I1 N4 fun _=>?_;obtain ⟨N6,N7,I2⟩:=AGn N5;refine ATd (K':=(fun xr h'=> ∃ x:(Int),x=N6/\xr=(.int .i64 x)/\Kst h h' (Ay.L))) trivial rfl ?_ fun AHw AHx N8=>?_
         ·refine cwf (l:=[_,_]) Tryz.func129 rfl rfl (AGm (ATw (AGu (AGo (AGp (AYd 2097120 N7 (fun x=>[(5,(.int .i64 x))]) (fun x=>Ay.L) Ay ⟨rfl,trivial⟩ ?_))))));rintro Eb AHy AHz AH0 B7 I3 I5;unfold Abj at I3;obtain ⟨N9,I6,Ec⟩:=AGn I3;refine Acg 524224 (fun x:Unit=>[]) (fun x h'=>(Sum.inl <| ())=N9/\Kst h h' (B7.L)) ?_ ?_
          ·refine AGm (AGj (AGj (AUt rfl (AUs Aaj AT1 (B7.b p5) 0 rfl (ATl rfl rfl (AGj ?_))))));by_cases Cq:Eb < Ag
           ·rw [decide_eq_true Cq];refine ATn 12 true (AGj (ATn 12 true (AGj (ATn 12 true ?_))));obtain ⟨Oa,I7⟩:=ifN (ifT I6 Cq);refine Aol rfl rfl Oa (ATn 12 true (Aa9 rfl rfl AGk (ATn 12 true (AUy rfl rfl (ATj rfl (AGr (⟨_,rfl,fun Ed=>?_,fun Ed=>?_⟩)))))))
            ·refine AGy (q_t ?_);exact ⟨(():Unit),⟨AGl (ATy I7 Ed),B7⟩,trivial⟩
            ·obtain rfl:=AGl (ATz I7 Ed);refine AS8 (ATa (ATa (AT7 (q_t (AGm (AGj (AGu (AGz (⟨_,AS2,(Eb:(Int)),?_,rfl,?_⟩)))))))))
             ·exact AGl (I5 _ (AGl Ec).symm)
             ·exact B7
           ·rw [decide_eq_false Cq];refine Acp 12 false (ATm rfl (AGr (ATr rfl ?_)));obtain rfl:=AGl (ifF I6 Cq);refine AS8 (ATa (ATa (AT7 (q_t (AGm (AGj (AGu (AGz (⟨_,AS2,(Eb:(Int)),?_,rfl,?_⟩)))))))))
            ·exact AGl (I5 _ (AGl Ec).symm)
            ·exact B7
          rintro ⟨⟩ AH1 AH2 ⟨Ob,Oc⟩;subst Ob;refine AGp (AS3 (AGj (ATk rfl rfl (ATi (ATh (q_b (q_t ?_)))))));exact ⟨_,(AGl Ec).symm,Oc,rfl,trivial⟩
         obtain ⟨Od,Oe,rfl,I9⟩:=N8;refine ⟨trivial,?_⟩;subst Oe;refine ATw (AGj (AGj (ATl rfl rfl (AGr (⟨_,rfl,fun Ee=>?_,fun Ee=>?_⟩)))))
         ·refine AS3 (AGj (AGj (AGj (ATk rfl rfl (AGj (ATi (ATi (ATi (ATh (q_b (q_t ?_)))))))))));exact ⟨((D8,(w64 (D8 + Nq)),Od):(Int) × (Int) × (Int)),⟨AGl (ATy I2 Ee),I9⟩,rfl,rfl,rfl,trivial⟩
         ·refine AGy (q_b (q_t ?_));exact ⟨((Ns,Nt,Nu):(Int) × (Int) × (Int)),⟨AGl (ATz I2 Ee),I9⟩,rfl,rfl,rfl,trivial⟩
        rintro ⟨AH3,AH4,AH5⟩ AH6 AH7 ⟨Og,Oh⟩;subst Og;refine AS3 (AGj (ATk rfl rfl (AGu ?_)));exact ⟨_,(AGl Nz).symm,Oh,rfl,rfl,rfl,rfl,trivial⟩
       ·refine AS8 (ATa (ATa (AT7 (q_b (q_t (AS3 (ATk rfl rfl (AGj (AGr ?_)))))))));exact ⟨_,(AGl (Nv _ (AGl (ATz D9 Ea)).symm)).symm,Ay,rfl,rfl,rfl,rfl,trivial⟩
      ·refine AS8 (ATa (ATa (AT7 (q_t (AGm (AGj (AGj (AGj (ATi (ATi (AGu (AGz (⟨_,Abo,((Nm,Nn,Np):(Int) × (Int) × (Int)),?_,rfl,?_⟩)))))))))))))
       ·exact AGl (Nr _ (AGl (ATz D6 D7)).symm)
       ·exact D5
     obtain ⟨⟨Ja,Oi,Aa⟩,Oj,rfl,Ol⟩:=Nl;refine ⟨trivial,?_⟩;subst Oj;refine AGj (AUb rfl rfl (AUb rfl rfl (AUb rfl rfl (ATi (ATi (ATw (AGj (AV6 (v:=(.agg #[(.int .i64 Aa),(.int .i64 1),(.int .i64 0),(.int .i64 0),(.int .i64 0)])) (fun _=>by kernel_rfl) (AVr Ol [(.int .i64 0),(.int .i64 0),(.int .i64 0),(.int .i64 0),(.int .i64 0)] Am5 fun Om AH8 AH9 Jc=>AU0 [(.int .i64 Aa),(.int .i64 1),(.int .i64 0),(.int .i64 0),(.int .i64 0)] Acz rfl rfl rfl rfl (by simp [isOne]) (Jc.b p0) fun AIa On Oo=>AGr ?_)))))))));have Bq:=Jc.sb p0 Oo On rfl;obtain ⟨Oq,Je,Ot⟩:=AGn Nk;refine Acg 8589672480 (fun x:(LiI) × LnA × LnN × LvA × (LiI) × (Int)=>[]) (fun x h'=>( (x.1,x.2.2.2.2.1,x.2.2.2.2.2))=Oq/\Kst h h' (((Bq.L.set 5 (aO2 (cI .i64) 49 2 x.2.1 x.2.2.1 x.2.2.2.1 Ab x.1)).set 4 (aO2 (cI .i64) 49 2 Ad Ae Af Ac x.2.2.2.2.1)).set 0 (aB 58 Om [(.int .i64 Aa),(.int .i64 x.2.2.2.2.2),(.int .i64 0),(.int .i64 0),(.int .i64 0)]))) ?_ ?_
     ·refine AGp (AGo (AGp (AGo (AGp (AGo (AGm (AGj (AGj (ATl rfl rfl (AGu (⟨_,rfl,fun Ef=>?_,fun Ef=>?_⟩)))))))))))
      ·refine AS8 (ATa (AT7 (q_t (AGm (AVu Afp rfl (Ag8 [(.int .i64 Aa),(.int .i64 2),(.int .i64 0),(.int .i64 0),(.int .i64 0)] AT1 rfl rfl rfl (Bq.b p0) (Nat.le_of_ble_eq_true rfl) rfl fun AIb Ou Ov=>AZg (AGj (AGj (AGj ?_)))))))));have Eg:=Bq.sb p0 Ov Ou rfl;obtain ⟨Ow,Ox,Oy⟩:=AGn (ATy Je Ef);refine ATd (K':=(fun xr h'=> ∃ x:(LiI) × LnA × LnN × LvA × (LiI),(x.1,x.2.2.2.2)=Ow/\xr= .tuple #[]/\Kst h h' ((Eg.L.set 5 (aO2 (cI .i64) 49 2 x.2.1 x.2.2.1 x.2.2.2.1 Ab x.1)).set 4 (aO2 (cI .i64) 49 2 Ad Ae Af Ac x.2.2.2.2)))) trivial rfl ?_ fun AIc AId Oz=>?_
       ·refine cwf (l:=[_,_,_]) Tryz.func83 rfl rfl (AGp (AX6 65474 (fun x:(Int) × (LiI) × LnA × LnN × LvA × (LiI)=>(x.1,x.2.1,x.2.2.2.2.2)) ((Oi,Iw,Ix,Iy,Iz,I0):(Int) × (LiI) × LnA × LnN × LvA × (LiI)) Ox (fun x=>[(1,(.int .i64 x.1))]) (fun x=>(Eg.L.set 5 (aO2 (cI .i64) 49 2 x.2.2.1 x.2.2.2.1 x.2.2.2.2.1 Ab x.2.1)).set 4 (aO2 (cI .i64) 49 2 Ad Ae Af Ac x.2.2.2.2.2)) Eg ⟨rfl,trivial⟩ ?_));rintro ⟨AIe,O0,O1,O2,O3,O4⟩ AIf AIg AIh Az Eh O5;unfold AYm at Eh;refine AGo (AGm (AGj (AGj (AYb rfl rfl (AGr (⟨_,rfl,fun Ei=>?_,fun Ei=>?_⟩))))))
        ·refine AGy (q_t (AGo (AGp (AS3 (AGj (AGj (AVd rfl rfl (AGj ?_))))))));obtain ⟨O6,O7,O8⟩:=AGn (ATy Eh Ei);refine ATd (K':=(fun xr h'=> ∃ x:(LiI) × LnA × LnN × LvA × (LiI),(x.1,x.2.2.2.2)=O6/\xr= .tuple #[]/\Kst h h' ((Az.L.set 5 (aO2 (cI .i64) 49 2 x.2.1 x.2.2.1 x.2.2.2.1 Ab x.1)).set 4 (aO2 (cI .i64) 49 2 Ad Ae Af Ac x.2.2.2.2)))) trivial rfl ?_ fun AIi AIj O9=>?_
         ·refine cwf (l:=[_,_,_]) Tryz.func130 rfl rfl (AGo (AXr (AGj (AUt rfl (AUs AVc AU3 (Az.b p6) 1 rfl (AGj (AGj (AUt rfl (AUs AVc AU3 (Az.b p6) 1 rfl (AGj (AGj (AUt rfl (AUs AVc AU3 (Az.b p6) 1 rfl (AGj ?_))))))))))))));obtain ⟨AIk,Jf,Pa⟩:=AGn O7;refine AUh ATb ATq (Az.o2 p5) Jf fun _ AIl Pb=>AGj (AUt rfl (AUs AVc AU3 (Az.b p6) 1 rfl (AGj ?_)));obtain ⟨AIm,Jg,Pc⟩:=AGn Pa;refine AUh ATb ATq (Az.o2 p5) Jg fun _ AIn Pd=>Afv ATb ATq (Az.o2 p5) Pd Pb Jg Jf rfl rfl (fun _=>rfl) (fun _=>rfl) (fun _=>rfl) (fun _ _=>rfl) fun AIo AIp Ej Ek El AIq Pe Pf Pg=>AGr (AGo (AXr ?_));have B8:=Az.uo2 p5 Pf Pe Pg;refine AGj (AUt rfl (AUs AVc AU3 (B8.b p6) 1 rfl (AGj (AUt rfl (AUs Ahr AU3 (B8.b p6) 2 rfl (Aqc Aak Auw rfl trivial tt2 rfl (B8.o2 p5).isOne (B8.o2 p4).isOne fun AIr AIs Ph Pj Pk=>Amq Aak rfl (AGj (AGr (AGp ?_)))))))));have Jh:=B8.nb Pj Pk Ph;refine AYd 4722366412500901036672 Pc (fun x=>[(46,(.int .i64 x.1))]) (fun x=>(Jh.L.set 6 (aO2 (cI .i64) 49 2 Ej Ek El Ab x.2.1)).set 5 (aO2 (cI .i64) 49 2 Ad Ae Af Ac x.2.2)) Jh ⟨rfl,trivial⟩ ?_;rintro ⟨Ji,Pl,Pm⟩ AIt AIu AIv A6 Em Pn;unfold AXb at Em;refine AGm (ATl rfl rfl (AGr (AGo (⟨_,rfl,fun En=>?_,fun En=>?_⟩))))
          ·refine AGy (q_t (AGo (AGp (AGm ?_))));have Jj:=ATy Em En;by_cases Eo:Ji=0
           ·refine Ame 0 Aak rfl rfl Eo AGk (AT3 AU3 rfl ((A6.b p0).cell (i:=0) rfl) (ATw (AGj (AT4 ATb rfl (A6.o2 p6).rd (AGj (AGr (AGp (AYd 2361178737835195236864 (ifT Jj Eo) (fun x=>[(52,(.int .i64 x.1))]) (fun x=>A6.L.set 6 (aO2 (cI .i64) 49 2 Ej Ek El Ab x.2)) A6 ⟨rfl,trivial⟩ ?_))))))));rintro ⟨Cr,AIw⟩ AIx AIy AIz B9 Ep Po;unfold Aal at Ep;refine AGm (ATl rfl rfl (AGr (AGo (⟨_,rfl,fun Er=>?_,fun Er=>?_⟩))))
            ·refine AGy (q_t (AGo (AGp (AGm ?_))));obtain ⟨AI0,Ct,Pp⟩:=AGn (ATy Ep Er);refine AUh ATb ATq (B9.o2 p6) Ct fun _ AI1 Cu=>AGu (AXr (AGj (AGj (AGj (AGj (AGj (AGj ?_)))))));obtain ⟨AI2,Pq,Ps⟩:=AGn Pp;refine AWr (m:=Cr) AS9 ATe (B9.o2 p6) Cu Ct Pq fun _=>(AGj (AGj ?_));obtain ⟨AI3,Jk,Pt⟩:=AGn Ps;refine AWr (m:=Cr) AS9 ATe (B9.o2 p6) Cu Ct Jk fun _=>AZv (m:=Cr) B9 p6 AS9 ATe Cu Ct Jk (fun _=>rfl) fun _ AI4 Pu=>?_;obtain ⟨AI5,Pv,Pw⟩:=AGn Pt;obtain ⟨AI6,Px,Py⟩:=AGn Pw;refine AZv (m:=Cr) Pu p6 AS9 ATe Cu Pv Px (fun _=>rfl) fun _ AI7 Pz=>ATh (q_b (q_t (AS3 (ATk rfl rfl (AGj (AGr ?_))))));exact ⟨_,(AGl Py).symm,Pz,rfl,trivial⟩
            ·refine AS8 (ATa (ATa (AT7 (q_b (q_t (AS3 (ATk rfl rfl (AGj (AGr ?_)))))))));exact ⟨_,(AGl (Po _ (AGl (ATz Ep Er)).symm)).symm,B9,rfl,trivial⟩
           ·have Jl:=ifF Jj Eo;by_cases Es:Ji=1
            ·refine Ame 1 Aak rfl rfl Es AGk (AT3 AU3 rfl ((A6.b p0).cell (i:=1) rfl) (ATw (AGj (AT4 ATb rfl (A6.o2 p5).rd (AGj (AGr (AGp (AYd 2361178737835195236864 (ifT Jl Es) (fun x=>[(52,(.int .i64 x.1))]) (fun x=>A6.L.set 5 (aO2 (cI .i64) 49 2 Ad Ae Af Ac x.2)) A6 ⟨rfl,trivial⟩ ?_))))))));rintro ⟨Cv,AI8⟩ AI9 AJa AJb Ca Et P0;unfold Aam at Et;refine AGm (ATl rfl rfl (AGr (AGo (⟨_,rfl,fun Eu=>?_,fun Eu=>?_⟩))))
             ·refine AGy (q_t (AGo (AGp (AGm ?_))));obtain ⟨AJc,Cw,P1⟩:=AGn (ATy Et Eu);refine AUh ATb ATq (Ca.o2 p5) Cw fun _ AJd Cx=>AGu (AXr (AGj (AGj (AGj (AGj (AGj (AGj ?_)))))));obtain ⟨AJe,P2,P3⟩:=AGn P1;refine AWr (m:=Cv) AS9 ATe (Ca.o2 p5) Cx Cw P2 fun _=>(AGj (AGj ?_));obtain ⟨AJf,Jm,P4⟩:=AGn P3;refine AWr (m:=Cv) AS9 ATe (Ca.o2 p5) Cx Cw Jm fun _=>AZv (m:=Cv) Ca p5 AS9 ATe Cx Cw Jm (fun _=>rfl) fun _ AJg P5=>?_;obtain ⟨AJh,P6,P7⟩:=AGn P4;obtain ⟨AJi,P8,P9⟩:=AGn P7;refine AZv (m:=Cv) P5 p5 AS9 ATe Cx P6 P8 (fun _=>rfl) fun _ AJj Qa=>ATh (q_b (q_t (AS3 (ATk rfl rfl (AGj (AGr ?_))))));exact ⟨_,(AGl P9).symm,Qa,rfl,trivial⟩
             ·refine AS8 (ATa (ATa (AT7 (q_b (q_t (AS3 (ATk rfl rfl (AGj (AGr ?_)))))))));exact ⟨_,(AGl (P0 _ (AGl (ATz Et Eu)).symm)).symm,Ca,rfl,trivial⟩
            ·have Qb:=ifF Jl Es;cases Qb
          ·refine AS8 (ATa (ATa (AT7 (⟨_,AZt,((Pl,Ej,Ek,El,Pm):(LiI) × LnA × LnN × LvA × (LiI)),?_,rfl,?_⟩))))
           ·exact AGl (Pn _ (AGl (ATz Em En)).symm)
           ·exact A6.sel [1,2,3,4,5,6,7,8] AGk
         obtain ⟨⟨AJk,AJl,AJm,AJn,AJo⟩,Qc,rfl,Qd⟩:=O9;refine ⟨trivial,?_⟩;subst Qc;refine ATh (q_b (q_t (AS3 (AGj (AVd rfl rfl (AGu ?_))))));exact ⟨(_,_,_,_,_,_),(AGl O8).symm,Qd,rfl,trivial⟩
        ·refine AS8 (ATa (ATa (AT7 (⟨_,AZt,((O0,O1,O2,O3,O4):(LiI) × LnA × LnN × LvA × (LiI)),?_,rfl,?_⟩))))
         ·exact AGl (O5 _ (AGl (ATz Eh Ei)).symm)
         ·exact Az
       obtain ⟨⟨Qe,Qf,Qg,Qh,Qi⟩,Qj,rfl,Ev⟩:=Oz;refine ⟨trivial,?_⟩;subst Qj;refine AGr (AS3 (AGj (ATk rfl rfl (ATi (ATh (q_b (q_t (AGm (AGj (AGj (AGj ?_)))))))))));obtain ⟨Qk,Ql,Qm⟩:=AGn Oy;refine ATd (K':=(fun xr h'=> ∃ x:(LiI) × LnA × LnN × LvA × (LiI),(x.1,x.2.2.2.2)=Qk/\xr= .tuple #[]/\Kst h h' ((Ev.L.set 5 (aO2 (cI .i64) 49 2 x.2.1 x.2.2.1 x.2.2.2.1 Ab x.1)).set 4 (aO2 (cI .i64) 49 2 Ad Ae Af Ac x.2.2.2.2)))) trivial rfl ?_ fun AJp AJq Qn=>?_
       ·refine cwf (l:=[_,_,_]) Tryz.func83 rfl rfl (AGp (AX6 65474 (fun x:(Int) × (LiI) × LnA × LnN × LvA × (LiI)=>(x.1,x.2.1,x.2.2.2.2.2)) (((w64 (Ja + 1)),Qe,Qf,Qg,Qh,Qi):(Int) × (LiI) × LnA × LnN × LvA × (LiI)) Ql (fun x=>[(1,(.int .i64 x.1))]) (fun x=>(Ev.L.set 5 (aO2 (cI .i64) 49 2 x.2.2.1 x.2.2.2.1 x.2.2.2.2.1 Ab x.2.1)).set 4 (aO2 (cI .i64) 49 2 Ad Ae Af Ac x.2.2.2.2.2)) Ev ⟨rfl,trivial⟩ ?_));rintro ⟨AJr,Qo,Qp,Qq,Qr,Qs⟩ AJs AJt AJu A3 Ew Qt;unfold AYn at Ew;refine AGo (AGm (AGj (AGj (AYb rfl rfl (AGr (⟨_,rfl,fun Ey=>?_,fun Ey=>?_⟩))))))
        ·refine AGy (q_t (AGo (AGp (AS3 (AGj (AGj (AVd rfl rfl (AGj ?_))))))));obtain ⟨Qu,Qv,Qw⟩:=AGn (ATy Ew Ey);refine ATd (K':=(fun xr h'=> ∃ x:(LiI) × LnA × LnN × LvA × (LiI),(x.1,x.2.2.2.2)=Qu/\xr= .tuple #[]/\Kst h h' ((A3.L.set 5 (aO2 (cI .i64) 49 2 x.2.1 x.2.2.1 x.2.2.2.1 Ab x.1)).set 4 (aO2 (cI .i64) 49 2 Ad Ae Af Ac x.2.2.2.2)))) trivial rfl ?_ fun AJv AJw Qx=>?_
         ·refine cwf (l:=[_,_,_]) Tryz.func130 rfl rfl (AGo (AXr (AGj (AUt rfl (AUs AVc AU3 (A3.b p6) 1 rfl (AGj (AGj (AUt rfl (AUs AVc AU3 (A3.b p6) 1 rfl (AGj (AGj (AUt rfl (AUs AVc AU3 (A3.b p6) 1 rfl (AGj ?_))))))))))))));obtain ⟨AJx,Jn,Qy⟩:=AGn Qv;refine AUh ATb ATq (A3.o2 p5) Jn fun _ AJy Qz=>AGj (AUt rfl (AUs AVc AU3 (A3.b p6) 1 rfl (AGj ?_)));obtain ⟨AJz,Jo,Q0⟩:=AGn Qy;refine AUh ATb ATq (A3.o2 p5) Jo fun _ AJ0 Q1=>Afv ATb ATq (A3.o2 p5) Q1 Qz Jo Jn rfl rfl (fun _=>rfl) (fun _=>rfl) (fun _=>rfl) (fun _ _=>rfl) fun AJ1 AJ2 Ez Fa Fb AJ3 Q2 Q3 Q4=>AGr (AGo (AXr ?_));have Cb:=A3.uo2 p5 Q3 Q2 Q4;refine AGj (AUt rfl (AUs AVc AU3 (Cb.b p6) 1 rfl (AGj (AUt rfl (AUs Ahr AU3 (Cb.b p6) 2 rfl (Aqc Aak Auw rfl trivial tt2 rfl (Cb.o2 p5).isOne (Cb.o2 p4).isOne fun AJ4 AJ5 Q6 Q7 Q8=>Amq Aak rfl (AGj (AGr (AGp ?_)))))))));have Jp:=Cb.nb Q7 Q8 Q6;refine AYd 4722366412500901036672 Q0 (fun x=>[(46,(.int .i64 x.1))]) (fun x=>(Jp.L.set 6 (aO2 (cI .i64) 49 2 Ez Fa Fb Ab x.2.1)).set 5 (aO2 (cI .i64) 49 2 Ad Ae Af Ac x.2.2)) Jp ⟨rfl,trivial⟩ ?_;rintro ⟨Jq,Q9,Rc⟩ AJ6 AJ7 AJ8 A7 Fc Rd;unfold AXc at Fc;refine AGm (ATl rfl rfl (AGr (AGo (⟨_,rfl,fun Fd=>?_,fun Fd=>?_⟩))))
          ·refine AGy (q_t (AGo (AGp (AGm ?_))));have Jr:=ATy Fc Fd;by_cases Fe:Jq=0
           ·refine Ame 0 Aak rfl rfl Fe AGk (AT3 AU3 rfl ((A7.b p0).cell (i:=0) rfl) (ATw (AGj (AT4 ATb rfl (A7.o2 p6).rd (AGj (AGr (AGp (AYd 2361178737835195236864 (ifT Jr Fe) (fun x=>[(52,(.int .i64 x.1))]) (fun x=>A7.L.set 6 (aO2 (cI .i64) 49 2 Ez Fa Fb Ab x.2)) A7 ⟨rfl,trivial⟩ ?_))))))));rintro ⟨Cy,AJ9⟩ AKa AKb AKc Cd Ff Re;unfold Aan at Ff;refine AGm (ATl rfl rfl (AGr (AGo (⟨_,rfl,fun Fg=>?_,fun Fg=>?_⟩))))
            ·refine AGy (q_t (AGo (AGp (AGm ?_))));obtain ⟨AKd,Cz,Rf⟩:=AGn (ATy Ff Fg);refine AUh ATb ATq (Cd.o2 p6) Cz fun _ AKe C0=>AGu (AXr (AGj (AGj (AGj (AGj (AGj (AGj ?_)))))));obtain ⟨AKf,Rg,Rh⟩:=AGn Rf;refine AWr (m:=Cy) AS9 ATe (Cd.o2 p6) C0 Cz Rg fun _=>(AGj (AGj ?_));obtain ⟨AKg,Js,Ri⟩:=AGn Rh;refine AWr (m:=Cy) AS9 ATe (Cd.o2 p6) C0 Cz Js fun _=>AZv (m:=Cy) Cd p6 AS9 ATe C0 Cz Js (fun _=>rfl) fun _ AKh Rj=>?_;obtain ⟨AKi,Rm,Rn⟩:=AGn Ri;obtain ⟨AKj,Ro,Rq⟩:=AGn Rn;refine AZv (m:=Cy) Rj p6 AS9 ATe C0 Rm Ro (fun _=>rfl) fun _ AKk Rr=>ATh (q_b (q_t (AS3 (ATk rfl rfl (AGj (AGr ?_))))));exact ⟨_,(AGl Rq).symm,Rr,rfl,trivial⟩
            ·refine AS8 (ATa (ATa (AT7 (q_b (q_t (AS3 (ATk rfl rfl (AGj (AGr ?_)))))))));exact ⟨_,(AGl (Re _ (AGl (ATz Ff Fg)).symm)).symm,Cd,rfl,trivial⟩
           ·have Jt:=ifF Jr Fe;by_cases Fh:Jq=1
            ·refine Ame 1 Aak rfl rfl Fh AGk (AT3 AU3 rfl ((A7.b p0).cell (i:=1) rfl) (ATw (AGj (AT4 ATb rfl (A7.o2 p5).rd (AGj (AGr (AGp (AYd 2361178737835195236864 (ifT Jt Fh) (fun x=>[(52,(.int .i64 x.1))]) (fun x=>A7.L.set 5 (aO2 (cI .i64) 49 2 Ad Ae Af Ac x.2)) A7 ⟨rfl,trivial⟩ ?_))))))));rintro ⟨C1,AKl⟩ AKm AKn AKo Ce Fi Rs;unfold Aao at Fi;refine AGm (ATl rfl rfl (AGr (AGo (⟨_,rfl,fun Fj=>?_,fun Fj=>?_⟩))))
             ·refine AGy (q_t (AGo (AGp (AGm ?_))));obtain ⟨AKp,C2,Rt⟩:=AGn (ATy Fi Fj);refine AUh ATb ATq (Ce.o2 p5) C2 fun _ AKq C3=>AGu (AXr (AGj (AGj (AGj (AGj (AGj (AGj ?_)))))));obtain ⟨AKr,Ru,Rv⟩:=AGn Rt;refine AWr (m:=C1) AS9 ATe (Ce.o2 p5) C3 C2 Ru fun _=>(AGj (AGj ?_));obtain ⟨AKs,Ju,Rw⟩:=AGn Rv;refine AWr (m:=C1) AS9 ATe (Ce.o2 p5) C3 C2 Ju fun _=>AZv (m:=C1) Ce p5 AS9 ATe C3 C2 Ju (fun _=>rfl) fun _ AKt Rx=>?_;obtain ⟨AKu,Ry,Rz⟩:=AGn Rw;obtain ⟨AKv,R3,R4⟩:=AGn Rz;refine AZv (m:=C1) Rx p5 AS9 ATe C3 Ry R3 (fun _=>rfl) fun _ AKw R5=>ATh (q_b (q_t (AS3 (ATk rfl rfl (AGj (AGr ?_))))));exact ⟨_,(AGl R4).symm,R5,rfl,trivial⟩
             ·refine AS8 (ATa (ATa (AT7 (q_b (q_t (AS3 (ATk rfl rfl (AGj (AGr ?_)))))))));exact ⟨_,(AGl (Rs _ (AGl (ATz Fi Fj)).symm)).symm,Ce,rfl,trivial⟩
            ·have R6:=ifF Jt Fh;cases R6
          ·refine AS8 (ATa (ATa (AT7 (⟨_,AZt,((Q9,Ez,Fa,Fb,Rc):(LiI) × LnA × LnN × LvA × (LiI)),?_,rfl,?_⟩))))
           ·exact AGl (Rd _ (AGl (ATz Fc Fd)).symm)
           ·exact A7.sel [1,2,3,4,5,6,7,8] AGk
         obtain ⟨⟨AKx,AKy,AKz,AK0,AK1⟩,R7,rfl,R8⟩:=Qx;refine ⟨trivial,?_⟩;subst R7;refine ATh (q_b (q_t (AS3 (AGj (AVd rfl rfl (AGu ?_))))));exact ⟨(_,_,_,_,_,_),(AGl Qw).symm,R8,rfl,trivial⟩
        ·refine AS8 (ATa (ATa (AT7 (⟨_,AZt,((Qo,Qp,Qq,Qr,Qs):(LiI) × LnA × LnN × LvA × (LiI)),?_,rfl,?_⟩))))
         ·exact AGl (Qt _ (AGl (ATz Ew Ey)).symm)
         ·exact A3
       obtain ⟨⟨R9,Sa,Sb,Sc,Sd⟩,Se,rfl,Sf⟩:=Qn;refine ⟨trivial,?_⟩;subst Se;refine AGr (AS8 (AT7 (q_t ?_)));exact ⟨((R9,Sa,Sb,Sc,Sd,2):(LiI) × LnA × LnN × LvA × (LiI) × (Int)),⟨AGl Qm,Sf⟩,trivial⟩
      ·refine AGy (q_t (AS8 (Atl AGk (ATa (AT7 (q_t (AGm (AGj (AGj (AGj ?_))))))))));obtain ⟨Sg,Sh,Si⟩:=AGn (ATz Je Ef);refine ATd (K':=(fun xr h'=> ∃ x:(LiI) × LnA × LnN × LvA × (LiI),(x.1,x.2.2.2.2)=Sg/\xr= .tuple #[]/\Kst h h' ((Bq.L.set 5 (aO2 (cI .i64) 49 2 x.2.1 x.2.2.1 x.2.2.2.1 Ab x.1)).set 4 (aO2 (cI .i64) 49 2 Ad Ae Af Ac x.2.2.2.2)))) trivial rfl ?_ fun AK2 AK3 Sj=>?_
       ·refine cwf (l:=[_,_,_]) Tryz.func83 rfl rfl (AGp (AX6 65474 (fun x:(Int) × (LiI) × LnA × LnN × LvA × (LiI)=>(x.1,x.2.1,x.2.2.2.2.2)) ((Ja,Iw,Ix,Iy,Iz,I0):(Int) × (LiI) × LnA × LnN × LvA × (LiI)) Sh (fun x=>[(1,(.int .i64 x.1))]) (fun x=>(Bq.L.set 5 (aO2 (cI .i64) 49 2 x.2.2.1 x.2.2.2.1 x.2.2.2.2.1 Ab x.2.1)).set 4 (aO2 (cI .i64) 49 2 Ad Ae Af Ac x.2.2.2.2.2)) Bq ⟨rfl,trivial⟩ ?_));rintro ⟨AK4,Sk,Sm,Sn,So,Sq⟩ AK5 AK6 AK7 A4 Fk Sr;unfold AYo at Fk;refine AGo (AGm (AGj (AGj (AYb rfl rfl (AGr (⟨_,rfl,fun Fl=>?_,fun Fl=>?_⟩))))))
        ·refine AGy (q_t (AGo (AGp (AS3 (AGj (AGj (AVd rfl rfl (AGj ?_))))))));obtain ⟨Ss,St,Su⟩:=AGn (ATy Fk Fl);refine ATd (K':=(fun xr h'=> ∃ x:(LiI) × LnA × LnN × LvA × (LiI),(x.1,x.2.2.2.2)=Ss/\xr= .tuple #[]/\Kst h h' ((A4.L.set 5 (aO2 (cI .i64) 49 2 x.2.1 x.2.2.1 x.2.2.2.1 Ab x.1)).set 4 (aO2 (cI .i64) 49 2 Ad Ae Af Ac x.2.2.2.2)))) trivial rfl ?_ fun AK8 AK9 Sv=>?_
         ·refine cwf (l:=[_,_,_]) Tryz.func130 rfl rfl (AGo (AXr (AGj (AUt rfl (AUs AVc AU3 (A4.b p6) 1 rfl (AGj (AGj (AUt rfl (AUs AVc AU3 (A4.b p6) 1 rfl (AGj (AGj (AUt rfl (AUs AVc AU3 (A4.b p6) 1 rfl (AGj ?_))))))))))))));obtain ⟨ALa,Jv,Sw⟩:=AGn St;refine AUh ATb ATq (A4.o2 p5) Jv fun _ ALb Sx=>AGj (AUt rfl (AUs AVc AU3 (A4.b p6) 1 rfl (AGj ?_)));obtain ⟨ALc,Jw,Sy⟩:=AGn Sw;refine AUh ATb ATq (A4.o2 p5) Jw fun _ ALd Sz=>Afv ATb ATq (A4.o2 p5) Sz Sx Jw Jv rfl rfl (fun _=>rfl) (fun _=>rfl) (fun _=>rfl) (fun _ _=>rfl) fun ALe ALf Fm Fo Fp ALg S5 S7 Ta=>AGr (AGo (AXr ?_));have Cf:=A4.uo2 p5 S7 S5 Ta;refine AGj (AUt rfl (AUs AVc AU3 (Cf.b p6) 1 rfl (AGj (AUt rfl (AUs Ahr AU3 (Cf.b p6) 2 rfl (Aqc Aak Auw rfl trivial tt2 rfl (Cf.o2 p5).isOne (Cf.o2 p4).isOne fun ALh ALi Tb Tc Td=>Amq Aak rfl (AGj (AGr (AGp ?_)))))))));have Jx:=Cf.nb Tc Td Tb;refine AYd 4722366412500901036672 Sy (fun x=>[(46,(.int .i64 x.1))]) (fun x=>(Jx.L.set 6 (aO2 (cI .i64) 49 2 Fm Fo Fp Ab x.2.1)).set 5 (aO2 (cI .i64) 49 2 Ad Ae Af Ac x.2.2)) Jx ⟨rfl,trivial⟩ ?_;rintro ⟨Jy,Te,Tf⟩ ALj ALk ALl A8 Fq Tg;unfold AXd at Fq;refine AGm (ATl rfl rfl (AGr (AGo (⟨_,rfl,fun Fr=>?_,fun Fr=>?_⟩))))
          ·refine AGy (q_t (AGo (AGp (AGm ?_))));have Jz:=ATy Fq Fr;by_cases Ft:Jy=0
           ·refine Ame 0 Aak rfl rfl Ft AGk (AT3 AU3 rfl ((A8.b p0).cell (i:=0) rfl) (ATw (AGj (AT4 ATb rfl (A8.o2 p6).rd (AGj (AGr (AGp (AYd 2361178737835195236864 (ifT Jz Ft) (fun x=>[(52,(.int .i64 x.1))]) (fun x=>A8.L.set 6 (aO2 (cI .i64) 49 2 Fm Fo Fp Ab x.2)) A8 ⟨rfl,trivial⟩ ?_))))))));rintro ⟨C4,ALm⟩ ALn ALo ALp Cg Fu Th;unfold Aap at Fu;refine AGm (ATl rfl rfl (AGr (AGo (⟨_,rfl,fun Fv=>?_,fun Fv=>?_⟩))))
            ·refine AGy (q_t (AGo (AGp (AGm ?_))));obtain ⟨ALq,C5,Ti⟩:=AGn (ATy Fu Fv);refine AUh ATb ATq (Cg.o2 p6) C5 fun _ ALr C6=>AGu (AXr (AGj (AGj (AGj (AGj (AGj (AGj ?_)))))));obtain ⟨ALs,Tj,Tk⟩:=AGn Ti;refine AWr (m:=C4) AS9 ATe (Cg.o2 p6) C6 C5 Tj fun _=>(AGj (AGj ?_));obtain ⟨ALt,J0,Tl⟩:=AGn Tk;refine AWr (m:=C4) AS9 ATe (Cg.o2 p6) C6 C5 J0 fun _=>AZv (m:=C4) Cg p6 AS9 ATe C6 C5 J0 (fun _=>rfl) fun _ ALu Tm=>?_;obtain ⟨ALv,Tn,To⟩:=AGn Tl;obtain ⟨ALw,Tp,Tq⟩:=AGn To;refine AZv (m:=C4) Tm p6 AS9 ATe C6 Tn Tp (fun _=>rfl) fun _ ALx Tr=>ATh (q_b (q_t (AS3 (ATk rfl rfl (AGj (AGr ?_))))));exact ⟨_,(AGl Tq).symm,Tr,rfl,trivial⟩
            ·refine AS8 (ATa (ATa (AT7 (q_b (q_t (AS3 (ATk rfl rfl (AGj (AGr ?_)))))))));exact ⟨_,(AGl (Th _ (AGl (ATz Fu Fv)).symm)).symm,Cg,rfl,trivial⟩
           ·have J1:=ifF Jz Ft;by_cases Fw:Jy=1
            ·refine Ame 1 Aak rfl rfl Fw AGk (AT3 AU3 rfl ((A8.b p0).cell (i:=1) rfl) (ATw (AGj (AT4 ATb rfl (A8.o2 p5).rd (AGj (AGr (AGp (AYd 2361178737835195236864 (ifT J1 Fw) (fun x=>[(52,(.int .i64 x.1))]) (fun x=>A8.L.set 5 (aO2 (cI .i64) 49 2 Ad Ae Af Ac x.2)) A8 ⟨rfl,trivial⟩ ?_))))))));rintro ⟨C7,ALy⟩ ALz AL0 AL1 Ch Fx Ts;unfold Aaq at Fx;refine AGm (ATl rfl rfl (AGr (AGo (⟨_,rfl,fun Fy=>?_,fun Fy=>?_⟩))))
             ·refine AGy (q_t (AGo (AGp (AGm ?_))));obtain ⟨AL2,C8,Tt⟩:=AGn (ATy Fx Fy);refine AUh ATb ATq (Ch.o2 p5) C8 fun _ AL3 C9=>AGu (AXr (AGj (AGj (AGj (AGj (AGj (AGj ?_)))))));obtain ⟨AL4,Tu,Tv⟩:=AGn Tt;refine AWr (m:=C7) AS9 ATe (Ch.o2 p5) C9 C8 Tu fun _=>(AGj (AGj ?_));obtain ⟨AL5,J2,Tw⟩:=AGn Tv;refine AWr (m:=C7) AS9 ATe (Ch.o2 p5) C9 C8 J2 fun _=>AZv (m:=C7) Ch p5 AS9 ATe C9 C8 J2 (fun _=>rfl) fun _ AL6 Tx=>?_;obtain ⟨AL7,Ty,Tz⟩:=AGn Tw;obtain ⟨AL8,T0,T3⟩:=AGn Tz;refine AZv (m:=C7) Tx p5 AS9 ATe C9 Ty T0 (fun _=>rfl) fun _ AL9 T4=>ATh (q_b (q_t (AS3 (ATk rfl rfl (AGj (AGr ?_))))));exact ⟨_,(AGl T3).symm,T4,rfl,trivial⟩
             ·refine AS8 (ATa (ATa (AT7 (q_b (q_t (AS3 (ATk rfl rfl (AGj (AGr ?_)))))))));exact ⟨_,(AGl (Ts _ (AGl (ATz Fx Fy)).symm)).symm,Ch,rfl,trivial⟩
            ·have T5:=ifF J1 Fw;cases T5
          ·refine AS8 (ATa (ATa (AT7 (⟨_,AZt,((Te,Fm,Fo,Fp,Tf):(LiI) × LnA × LnN × LvA × (LiI)),?_,rfl,?_⟩))))
           ·exact AGl (Tg _ (AGl (ATz Fq Fr)).symm)
           ·exact A8.sel [1,2,3,4,5,6,7,8] AGk
         obtain ⟨⟨AMa,AMb,AMc,AMd,AMe⟩,T6,rfl,T7⟩:=Sv;refine ⟨trivial,?_⟩;subst T6;refine ATh (q_b (q_t (AS3 (AGj (AVd rfl rfl (AGu ?_))))));exact ⟨(_,_,_,_,_,_),(AGl Su).symm,T7,rfl,trivial⟩
        ·refine AS8 (ATa (ATa (AT7 (⟨_,AZt,((Sk,Sm,Sn,So,Sq):(LiI) × LnA × LnN × LvA × (LiI)),?_,rfl,?_⟩))))
         ·exact AGl (Sr _ (AGl (ATz Fk Fl)).symm)
         ·exact A4
       obtain ⟨⟨T8,T9,Ua,Ub,Uc⟩,Ud,rfl,Ue⟩:=Sj;refine ⟨trivial,?_⟩;subst Ud;refine AGr (AS8 (AT7 (q_t ?_)));exact ⟨((T8,T9,Ua,Ub,Uc,1):(LiI) × LnA × LnN × LvA × (LiI) × (Int)),⟨AGl Si,Ue⟩,trivial⟩
     rintro ⟨AMf,Ah,Ai,Aj,AMg,Aw⟩ AMh AMi ⟨Uf,Ci⟩;subst Uf;refine AGm (AGj (AUt rfl (AUs AVc AU3 (Ci.b p6) 1 rfl (AGj ?_))));obtain ⟨AMj,Da,Ug⟩:=AGn Ot;refine AUh ATb ATq (Ci.o2 p5) Da fun _ AMk Uh=>AGj ?_;obtain ⟨Ak,Ui,Uj⟩:=AGn Ug;refine AWr (m:=A5) AS9 ATe (Ci.o2 p5) Uh Da Ui fun _=>(AGj ?_);obtain ⟨Uk,J3⟩:=ifN Uj;refine Aol rfl rfl Uk (AVu Agn rfl (Ag8 [(.int .i64 Aa),(.int .i64 Aw),(.int .i64 (Ak / 2 ^ Int.toNat Aa)),(.int .i64 0),(.int .i64 0)] ATe rfl rfl rfl (Ci.b p0) (Nat.le_of_ble_eq_true rfl) rfl fun AMl Ul Um=>AGr (AGo (AGm ?_))));have A9:=Ci.sb p0 Um Ul rfl;refine AUs Afp AT1 (A9.b p0) 1 rfl (AUy rfl rfl (AGr (⟨_,rfl,fun Fz=>?_,fun Fz=>?_⟩)))
     ·refine AGm (AGj (AGj (AGj (AGj (AUs Agn ATe (A9.b p0) 2 rfl ?_)))));obtain ⟨Un,Uo,Up⟩:=AGn (ATy J3 Fz);refine ATd (K':=(fun xr h'=> ∃ x:(Int),x=Un/\xr=(.int .i64 x)/\Kst h h' (A9.L))) trivial rfl ?_ fun AMm AMn Uq=>?_
      ·refine cwf (l:=[_,_]) Tryz.func85 rfl rfl (AGm (ATw (AGj (Ap9 (κ:= .i64) [(Ak / 2 ^ Int.toNat Aa)] AS9 Acy rfl rfl trivial tt2 rfl rfl rfl rfl fun Ur Us AMo Ut Uu Uv Uw=>?_))));have F4:=A9.no Uu (AX2 Uv Uw) Ut;refine Anr (c:=(cI .i64)) (el:=2) [[Ur]] [Us] [([(Ak / 2 ^ Int.toNat Aa)]:List Int)] ATb Aff rfl rfl trivial tt2 rfl rfl rfl rfl (Aba (F4.o p0).isOne Alw) ⟨(F4.o p0),trivial⟩ ATv fun AMp AMq AMr Ux Uy Uz=>?_;have F5:=(((F4.a0).grab p0)).lit Uy Ux (by simpa using Uz);refine AGj (AUt rfl (AUs Aaj AT1 (F5.b p8) 0 rfl ?_));obtain ⟨U0,U3⟩:=ifN Uo;refine AY5 rfl rfl U0 ?_;obtain ⟨⟨AMs,AMt⟩,U8,J4⟩:=AGn U3;dsimp only at J4;refine Afh rfl (Ah4 (F5.o2 p0).rd U8) fun AMu AMv Va Vb=>?_;obtain ⟨AMw,AMx,AMy,AMz,rfl,Vc,Vd⟩:=Vb;refine AGj (AUb rfl rfl (AUb rfl rfl (ATi (ATw (AGj ?_)))));have F6:=F5.no2 Va Vd Vc;obtain ⟨AM0,J5,Ve⟩:=AGn J4;refine AUh ATb ATq (F6.o2 p0) J5 fun _ AM1 Vf=>?_;obtain ⟨Vg,Vh,Vi⟩:=AGn Ve;refine AWr (m:=0) AS9 ATe (F6.o2 p0) Vf J5 Vh fun _=>(AGu (AGz (⟨_,AS2,(Vg:(Int)),?_,rfl,?_⟩)))
       ·exact AGl Vi
       ·exact F6.sel [3,4,5,6,7,8,9,10] AGk
      obtain ⟨Vj,Vk,rfl,F7⟩:=Uq;refine ⟨trivial,?_⟩;subst Vk;obtain ⟨Vl,Vm,Vn⟩:=AGn Up;refine ATd (K':=(fun xr h'=> ∃ x:(LiI) × (LiI),(x.1,x.2)=Vl/\xr= .tuple #[]/\Kst h h' ((F7.L.set 5 (aO2 (cI .i64) 49 2 Ah Ai Aj Ab x.1)).set 4 (aO2 (cI .i64) 49 2 Ad Ae Af Ac x.2)))) trivial rfl ?_ fun AM2 AM3 Vo=>?_
      ·refine cwf (l:=[_,_,_,_]) Tryz.func84 rfl rfl (AGm (AGj (ATk rfl rfl (AGu (AGp (AYd 8796093018880 Vm (fun x=>[(8,(.int .i64 x.1))]) (fun x=>(F7.L.set 5 (aO2 (cI .i64) 49 2 Ah Ai Aj Ab x.2.1)).set 4 (aO2 (cI .i64) 49 2 Ad Ae Af Ac x.2.2)) F7 ⟨rfl,trivial⟩ ?_))))));rintro ⟨F8,Vp,Vs⟩ AM4 AM5 AM6 Ba F9 Vt;unfold Aau at F9;refine AGo (AGm (AGj (AGj (AUt rfl (AUs AVc AU3 (Ba.b p6) 1 rfl (AT4 ATb rfl (Ba.o2 p5).rd (ATl rfl rfl (AGr (⟨_,rfl,fun Ga=>?_,fun Ga=>?_⟩)))))))))
       ·refine AGy (q_t (AGo (AGp (AGm (AGj (AUt rfl (AUs AVc AU3 (Ba.b p6) 1 rfl (AGj ?_))))))));obtain ⟨AM7,J6,Vu⟩:=AGn (ATy F9 Ga);refine AUh ATb ATq (Ba.o2 p5) J6 fun _ AM8 Vv=>AGj ?_;obtain ⟨Vw,Vx,Vy⟩:=AGn Vu;refine AWr (m:=A5) AS9 ATe (Ba.o2 p5) Vv J6 Vx fun _=>(AGj ?_);obtain ⟨Vz,V1⟩:=ifN Vy;refine Aol rfl rfl Vz (AGu (AS3 (AGj (AGj (AGj (AGj (AGj (Aqq rfl (AGj (AZe rfl rfl ?_))))))))));obtain ⟨V4,V5,V6⟩:=AGn V1;refine ATd (K':=(fun xr h'=> ∃ x:(Int),x=V4/\xr=(.int .i64 x)/\Kst h h' (Ba.L))) trivial rfl ?_ fun AM9 ANa V8=>?_
        ·refine cwf (l:=[_,_]) Tryz.func132 rfl rfl (AGm (ATw (AGj (AGj (AUt rfl (AUs Aaj AT1 (Ba.b p6) 0 rfl ?_))))));obtain ⟨V9,Wa⟩:=ifN V5;refine AY5 rfl rfl V9 (AVd rfl rfl (Aa9 rfl rfl AGk (AGu (AGz (⟨_,AS2,((AZk .and .i64 (w64 ((w64 (0 - (Vw / 2 ^ Int.toNat Aa))) * Vj)) (w64 ((w64 (1 * 2 ^ Int.toNat Ag)) - 1))):(Int)),?_,rfl,?_⟩)))))
         ·exact AGl Wa
         ·exact Ba
        obtain ⟨Gb,Wb,rfl,Br⟩:=V8;refine ⟨trivial,?_⟩;subst Wb;obtain ⟨Wc,Wd,We⟩:=AGn V6;refine ATd (K':=(fun xr h'=> ∃ x:(LiI) × (LiI),(x.1,x.2)=Wc/\xr= .tuple #[]/\Kst h h' ((Br.L.set 5 (aO2 (cI .i64) 49 2 Ah Ai Aj Ab x.1)).set 4 (aO2 (cI .i64) 49 2 Ad Ae Af Ac x.2)))) trivial rfl ?_ fun ANb ANc Wf=>?_
        ·refine cwf (l:=[_,_,_,_]) Tryz.func131 rfl rfl (AGo (AGo (AXr (AGj (AUt rfl (AUs AVc AU3 (Br.b p6) 1 rfl (AGj (AUt rfl (AUs Ahr AU3 (Br.b p6) 2 rfl (Aqc Aak Auw rfl trivial tt2 rfl (Br.o2 p5).isOne (Br.o2 p4).isOne fun ANd ANe Wg Wh Wi=>Amq Aak rfl (AGj (AGr (AGp ?_)))))))))))));have J7:=Br.nb Wh Wi Wg;refine AYd 4503599610595840 Wd (fun x=>[(24,(.int .i64 x.1))]) (fun x=>(J7.L.set 6 (aO2 (cI .i64) 49 2 Ah Ai Aj Ab x.2.1)).set 5 (aO2 (cI .i64) 49 2 Ad Ae Af Ac x.2.2)) J7 ⟨rfl,trivial⟩ ?_;rintro ⟨J8,ANf,Wj⟩ ANg ANh ANi Ao Gc Wk;unfold AXe at Gc;refine AGm (ATl rfl rfl (AGr (AGo (⟨_,rfl,fun Gd=>?_,fun Gd=>?_⟩))))
         ·refine AGy (q_t (AGo (AGp (AGm ?_))));have J9:=ATy Gc Gd;by_cases Ge:J8=0
          ·refine Ame 0 Aak rfl rfl Ge AGk (AT3 AU3 rfl ((Ao.b p0).cell (i:=0) rfl) (ATw (AGj (AT4 ATb rfl (Ao.o2 p6).rd (AGj (AGr (AGp (AYd 2251798739945472 (ifT J9 Ge) (fun x=>[(30,(.int .i64 x.1))]) (fun x=>Ao.L.set 6 (aO2 (cI .i64) 49 2 Ah Ai Aj Ab x.2)) Ao ⟨rfl,trivial⟩ ?_))))))));rintro ⟨Gf,ANj⟩ ANk ANl ANm Bc Gg Wl;unfold Aar at Gg;refine AGm (ATl rfl rfl (AGr (AGo (⟨_,rfl,fun Gh=>?_,fun Gh=>?_⟩))))
           ·refine AGy (q_t (AGo (AGp (AGm ?_))));obtain ⟨ANn,Db,Wm⟩:=AGn (ATy Gg Gh);refine AUh ATb ATq (Bc.o2 p6) Db fun _ ANo Gi=>AGu (AXr (AGj (AGj (AGj (AGj (AGj ?_))))));obtain ⟨Wn,Ka,Wo⟩:=AGn Wm;refine AWr (m:=Gf) AS9 ATe (Bc.o2 p6) Gi Db Ka fun _=>(AGj (AGj (AGj ?_)));obtain ⟨Wp,Wq,Wr⟩:=AGn Wo;refine AWr (m:=Gf) AS9 ATe (Bc.o2 p6) Gi Db Wq fun _=>(AZe rfl rfl (ATk rfl rfl ?_));obtain ⟨Ws,Wt,Wu⟩:=AGn Wr;refine ATd (K':=(fun xr h'=> ∃ x:(Int),x=Ws/\xr=(.int .i64 x)/\Kst h h' (Bc.L))) trivial rfl ?_ fun ANp ANq Wv=>?_
            ·refine cwf (l:=[_,_]) Tryz.func132 rfl rfl (AGm (ATw (AGj (AGj (AUt rfl (AUs Aaj AT1 (Bc.b p7) 0 rfl ?_))))));obtain ⟨Ww,Wx⟩:=ifN Wt;refine AY5 rfl rfl Ww (AVd rfl rfl (Aa9 rfl rfl AGk (AGu (AGz (⟨_,AS2,((AZk .and .i64 (w64 (Wn + (w64 (Gb * Wp)))) (w64 ((w64 (1 * 2 ^ Int.toNat Ag)) - 1))):(Int)),?_,rfl,?_⟩)))))
             ·exact AGl Wx
             ·exact Bc
            obtain ⟨ANr,Wy,rfl,Wz⟩:=Wv;refine ⟨trivial,?_⟩;subst Wy;refine AZv (m:=Gf) Wz p6 AS9 ATe Gi Db Ka (fun _=>rfl) fun _ ANs W0=>ATh (q_b (q_t (AS3 (ATk rfl rfl (AGj (AGr ?_))))));exact ⟨_,(AGl Wu).symm,W0,rfl,trivial⟩
           ·refine AS8 (ATa (ATa (AT7 (q_b (q_t (AS3 (ATk rfl rfl (AGj (AGr ?_)))))))));exact ⟨_,(AGl (Wl _ (AGl (ATz Gg Gh)).symm)).symm,Bc,rfl,trivial⟩
          ·have Kb:=ifF J9 Ge;by_cases Gj:J8=1
           ·refine Ame 1 Aak rfl rfl Gj AGk (AT3 AU3 rfl ((Ao.b p0).cell (i:=1) rfl) (ATw (AGj (AT4 ATb rfl (Ao.o2 p5).rd (AGj (AGr (AGp (AYd 2251798739945472 (ifT Kb Gj) (fun x=>[(30,(.int .i64 x.1))]) (fun x=>Ao.L.set 5 (aO2 (cI .i64) 49 2 Ad Ae Af Ac x.2)) Ao ⟨rfl,trivial⟩ ?_))))))));rintro ⟨Gk,ANt⟩ ANu ANv ANw Be Gl W1;unfold Aas at Gl;refine AGm (ATl rfl rfl (AGr (AGo (⟨_,rfl,fun Gm=>?_,fun Gm=>?_⟩))))
            ·refine AGy (q_t (AGo (AGp (AGm ?_))));obtain ⟨ANx,Dc,W3⟩:=AGn (ATy Gl Gm);refine AUh ATb ATq (Be.o2 p5) Dc fun _ ANy Gn=>AGu (AXr (AGj (AGj (AGj (AGj (AGj ?_))))));obtain ⟨W4,Kc,W5⟩:=AGn W3;refine AWr (m:=Gk) AS9 ATe (Be.o2 p5) Gn Dc Kc fun _=>(AGj (AGj (AGj ?_)));obtain ⟨W6,W7,W8⟩:=AGn W5;refine AWr (m:=Gk) AS9 ATe (Be.o2 p5) Gn Dc W7 fun _=>(AZe rfl rfl (ATk rfl rfl ?_));obtain ⟨Xa,Xb,Xc⟩:=AGn W8;refine ATd (K':=(fun xr h'=> ∃ x:(Int),x=Xa/\xr=(.int .i64 x)/\Kst h h' (Be.L))) trivial rfl ?_ fun ANz AN0 Xd=>?_
             ·refine cwf (l:=[_,_]) Tryz.func132 rfl rfl (AGm (ATw (AGj (AGj (AUt rfl (AUs Aaj AT1 (Be.b p7) 0 rfl ?_))))));obtain ⟨Xe,Xf⟩:=ifN Xb;refine AY5 rfl rfl Xe (AVd rfl rfl (Aa9 rfl rfl AGk (AGu (AGz (⟨_,AS2,((AZk .and .i64 (w64 (W4 + (w64 (Gb * W6)))) (w64 ((w64 (1 * 2 ^ Int.toNat Ag)) - 1))):(Int)),?_,rfl,?_⟩)))))
              ·exact AGl Xf
              ·exact Be
             obtain ⟨AN1,Xg,rfl,Xh⟩:=Xd;refine ⟨trivial,?_⟩;subst Xg;refine AZv (m:=Gk) Xh p5 AS9 ATe Gn Dc Kc (fun _=>rfl) fun _ AN2 Xi=>ATh (q_b (q_t (AS3 (ATk rfl rfl (AGj (AGr ?_))))));exact ⟨_,(AGl Xc).symm,Xi,rfl,trivial⟩
            ·refine AS8 (ATa (ATa (AT7 (q_b (q_t (AS3 (ATk rfl rfl (AGj (AGr ?_)))))))));exact ⟨_,(AGl (W1 _ (AGl (ATz Gl Gm)).symm)).symm,Be,rfl,trivial⟩
           ·have Xj:=ifF Kb Gj;cases Xj
         ·refine AS8 (ATa (ATa (AT7 (q_t (AGm (AGj (AUt rfl (AUs AVc AU3 (Ao.b p7) 1 rfl (AGj ?_)))))))));obtain ⟨AN3,Kd,Xk⟩:=AGn (Wk _ (AGl (ATz Gc Gd)).symm);refine AUh ATb ATq (Ao.o2 p6) Kd fun _ AN4 Ke=>AUp AS9 rfl ((Ao.o2 p6).rowI Ke Kd) (AGj (AGr (AGp ?_)));have Gp:=Ao.sel [1,2,3,4,5,6,7,8] AGk;dsimp only [AYv,Ab8] at Gp;refine AYd 2475880077417839045191413760 Xk (fun x=>[(60,(.int .i64 x.1))]) (fun x=>Gp.L.set 5 (aO2 (cI .i64) 49 2 Ah Ai Aj Ab x.2)) Gp ⟨rfl,trivial⟩ ?_;rintro ⟨AN5,Xl⟩ AN6 Bt AN7 Ap Gq Xm;unfold Aat at Gq;refine AGm (ATl rfl rfl (AGr (AGo (⟨_,rfl,fun Gr=>?_,fun Gr=>?_⟩))))
          ·refine AGy (q_t (AGo (AGp (AGm (AGj ?_)))));obtain ⟨AN8,Xn,Xo⟩:=AGn (ATy Gq Gr);obtain ⟨Xp,Xq,Xr⟩:=AGn Xo;refine AWr (m:=A5) AS9 ATe (Ap.o2 p5) Ke Xn Xq fun _=>(ATi (AGu (AVa (fun h'=>UpT [] Bt h') AGx ?_)));have Bf:UpT [] Bt Bt:=UpT.start all_nil;refine AGj (AUt rfl (AVu AVc rfl (AU1 AU3 rfl Bf (fun h' hb=>((Ap.b p6).ext hb.ext).cell (i:=1) rfl) (AGj ?_))));obtain ⟨AN9,Bu,Xt⟩:=AGn Xr;refine AVf ATb rfl (Ap.o2 p5) rfl Bu fun AOa AOb AOc Xu Xv=>AU1 ATq rfl Bf (fun h' hb=>ATo Xv hb.ext) (AGj (AGj (AGj (AUt rfl (AVu AVc rfl (AU1 AU3 rfl Bf (fun h' hb=>((Ap.b p6).ext hb.ext).cell (i:=1) rfl) (AGj (AVf ATb rfl (Ap.o2 p5) rfl Bu fun AOd AOe AOf Xw Xx=>AU1 ATq rfl Bf (fun h' hb=>ATo Xx hb.ext) (AGj ?_)))))))));obtain ⟨Xy,Dd,Xz⟩:=AGn Xt;refine AWo (m:=F8) AS9 rfl (Ap.o2 p5) Xw Bu rfl Dd fun AOg X0=>?_;obtain ⟨AOh,X3,X4⟩:=(Ap.o2 p5).cells X0 Bu Dd;obtain rfl:=X3;refine AU1 ATe rfl Bf (fun h' hb=>ATo (X4 0 _ rfl) hb.ext) (AGj (AGj (AZe rfl rfl (ATk rfl rfl ?_))));obtain ⟨X5,X6,X8⟩:=AGn Xz;have Ya:UpT [] Bt Bt:=UpT.start all_nil;refine ATd (K':=(fun xr h'=> ∃ x:(Int),x=X5/\xr=(.int .i64 x)/\Kst h h' (Ap.L)/\UpT [] Bt h')) Bf rfl ?_ fun AOi AOj Yb=>?_
           ·refine cwf (l:=[_,_]) Tryz.func132 rfl rfl (AGm (ATw (AGj (AGj (AUt rfl (AVu Aaj rfl (AT3 AT1 rfl ((Ap.b p6).cell (i:=0) rfl) ?_)))))));obtain ⟨Yc,Yd⟩:=ifN X6;refine AY5 rfl rfl Yc (AVd rfl rfl (Aa9 rfl rfl AGk (AGu (AGz (⟨_,AS2,((AZk .and .i64 (w64 (Xy + (w64 (Gb * Xp)))) (w64 ((w64 (1 * 2 ^ Int.toNat Ag)) - 1))):(Int)),?_,rfl,?_,?_⟩)))))
            ·exact AGl Yd
            ·exact Ap
            ·exact Ya
           obtain ⟨Ye,Yf,rfl,Kf,Yg⟩:=Yb;refine ⟨(Bf.then Yg all_nil),?_⟩;subst Yf;refine AWo (m:=F8) AS9 rfl (Ap.o2 p5) Xu Bu rfl Dd fun AOk Yh=>Adt (m:=F8) (Ads ATe rfl rfl rfl) (Kf.o2 p5) Yh Bu Dd (show ((cI .i64)).rep _ Ye _ from rfl) fun AOl Yi Yj=>ATh (q_b (q_t (AS3 (ATk rfl rfl (AGj (AGr ?_))))));exact ⟨_,(AGl X8).symm,(Kf.uO2 p5 Yj Yi),rfl,trivial⟩
          ·refine AS8 (ATa (ATa (AT7 (⟨_,AZt,((Xl,Wj):(LiI) × (LiI)),?_,rfl,?_⟩))))
           ·exact AGl (Xm _ (AGl (ATz Gq Gr)).symm)
           ·exact Ap
        obtain ⟨⟨AOm,AOn⟩,Yk,rfl,Yl⟩:=Wf;refine ⟨trivial,?_⟩;subst Yk;refine ATh (q_b (q_t (AS3 (AGj (ATk rfl rfl (AGu ?_))))));exact ⟨_,(AGl We).symm,Yl,rfl,trivial⟩
       ·refine AS8 (ATa (ATa (AT7 (⟨_,AZt,((Vp,Vs):(LiI) × (LiI)),?_,rfl,?_⟩))))
        ·exact AGl (Vt _ (AGl (ATz F9 Ga)).symm)
        ·exact Ba
      obtain ⟨⟨Ym,Yn⟩,Yo,rfl,Gt⟩:=Vo;refine ⟨trivial,?_⟩;subst Yo;refine AZg (Acx [(.int .i64 Aa),(.int .i64 Aw),(.int .i64 (Ak / 2 ^ Int.toNat Aa)),(.int .i64 0),(.int .i64 0)] Acz rfl rfl (Gt.b p0).agg (AU0 [(.int .i64 Aa),(.int .i64 Aw),(.int .i64 (Ak / 2 ^ Int.toNat Aa)),(.int .i64 0),(.int .i64 0)] Acz rfl rfl rfl rfl (by simp [isOne]) (Gt.b p1) fun AOo Yp Yq=>AGr (AGz (ATc ?_))));have Kg:=Gt.sb p1 Yq Yp rfl;refine ⟨_,AU7 Acz rfl rfl (Kg.b p1),((Aa,Aw,(Ak / 2 ^ Int.toNat Aa),0,0,Ym,Ah,Ai,Aj,Yn):(Int) × (Int) × (Int) × (Int) × (Int) × (LiI) × LnA × LnN × LvA × (LiI)),?_,rfl,?_⟩
      ·exact AGl Vn
      ·exact Kg.sel [2,3,4,5,6,7] AGk
     ·refine AGy (q_t (AGm (AGj (AUt rfl (AUs AVc AU3 (A9.b p6) 1 rfl (AGj (AUh ATb ATq (A9.o2 p5) Da fun _ AOp Yr=>AGj (ATk rfl rfl ?_))))))));obtain ⟨Ax,Ys,Yt⟩:=AGn (ATz J3 Fz);refine AWr (m:=A5) AS9 ATe (A9.o2 p5) Yr Da Ys fun _=>(AGj ?_);obtain ⟨Yu,Yv⟩:=ifN Yt;refine Aol rfl rfl Yu (AVu Afq rfl (Ag8 [(.int .i64 Aa),(.int .i64 Aw),(.int .i64 (Ak / 2 ^ Int.toNat Aa)),(.int .i64 (Ax / 2 ^ Int.toNat Aa)),(.int .i64 0)] ATe rfl rfl rfl (A9.b p0) (Nat.le_of_ble_eq_true rfl) rfl fun AOq Yw Yx=>AZg ?_));have Cj:=A9.sb p0 Yx Yw rfl;refine AGj (AUt rfl (AUs AVc AU3 (Cj.b p6) 1 rfl (AGj (ATk rfl rfl ?_))));obtain ⟨AOr,Kh,Yy⟩:=AGn Yv;refine AUh ATb ATq (Cj.o2 p5) Kh fun _ AOs Yz=>AGj (ATk rfl rfl ?_);obtain ⟨Bb,Y1,Y2⟩:=AGn Yy;refine AWr (m:=(w64 (A5 + 1))) AS9 ATe (Cj.o2 p5) Yz Kh Y1 fun _=>(AGj ?_);obtain ⟨Y3,Y4⟩:=ifN Y2;refine Aol rfl rfl Y3 (AVu Aj4 rfl (Ag8 [(.int .i64 Aa),(.int .i64 Aw),(.int .i64 (Ak / 2 ^ Int.toNat Aa)),(.int .i64 (Ax / 2 ^ Int.toNat Aa)),(.int .i64 (Bb / 2 ^ Int.toNat Aa))] ATe rfl rfl rfl (Cj.b p0) (Nat.le_of_ble_eq_true rfl) rfl fun AOt Y5 Y6=>AZg (AGj (AGj (AGj ?_)))));have Gu:=Cj.sb p0 Y6 Y5 rfl;refine Acx [(.int .i64 Aa),(.int .i64 Aw),(.int .i64 (Ak / 2 ^ Int.toNat Aa)),(.int .i64 (Ax / 2 ^ Int.toNat Aa)),(.int .i64 (Bb / 2 ^ Int.toNat Aa))] Acz rfl rfl (Gu.b p0).agg ?_;obtain ⟨Y7,Y8,Y9⟩:=AGn Y4;refine ATd (K':=(fun xr h'=> ∃ x:(LiI) × (LiI),(x.1,x.2)=Y7/\xr= .tuple #[]/\Kst h h' ((Gu.L.set 5 (aO2 (cI .i64) 49 2 Ah Ai Aj Ab x.1)).set 4 (aO2 (cI .i64) 49 2 Ad Ae Af Ac x.2)))) trivial rfl ?_ fun AOu AOv Za=>?_
      ·refine cwf (l:=[_,_,_,_]) Tryz.func86 rfl rfl (AGm (AYy Gu [(.int .i64 Aa),(.int .i64 Aw),(.int .i64 (Ak / 2 ^ Int.toNat Aa)),(.int .i64 (Ax / 2 ^ Int.toNat Aa)),(.int .i64 (Bb / 2 ^ Int.toNat Aa))] fun AOw AOx AOy Bg=>AZg (AGj (AGj (AUs Agn ATe (Bg.b p0) 2 rfl (AUs Aj4 ATe (Bg.b p0) 4 rfl (AZe rfl rfl (AUs Afq ATe (Bg.b p0) 3 rfl (AUs Afq ATe (Bg.b p0) 3 rfl (AZe rfl rfl (AVd rfl rfl ?_)))))))))));obtain ⟨Zd,Ze,Zf⟩:=AGn Y8;refine ATd (K':=(fun xr h'=> ∃ x:(Int),x=Zd/\xr=(.int .i64 x)/\Kst h h' (Bg.L))) trivial rfl ?_ fun AOz AO0 Zg=>?_
       ·refine cwf (l:=[_,_]) Tryz.func132 rfl rfl (AGm (ATw (AGj (AGj (AUt rfl (AUs Aaj AT1 (Bg.b p7) 0 rfl ?_))))));obtain ⟨Zh,Zj⟩:=ifN Ze;refine AY5 rfl rfl Zh (AVd rfl rfl (Aa9 rfl rfl AGk (AGu (AGz (⟨_,AS2,((AZk .and .i64 (w64 ((w64 ((Ak / 2 ^ Int.toNat Aa) * (Bb / 2 ^ Int.toNat Aa))) - (w64 ((Ax / 2 ^ Int.toNat Aa) * (Ax / 2 ^ Int.toNat Aa))))) (w64 ((w64 (1 * 2 ^ Int.toNat Ag)) - 1))):(Int)),?_,rfl,?_⟩)))))
        ·exact AGl Zj
        ·exact Bg
       obtain ⟨Ki,Zk,rfl,Kj⟩:=Zg;refine ⟨trivial,?_⟩;subst Zk;obtain ⟨Zl,Zm,Zn⟩:=AGn Zf;refine ATd (K':=(fun xr h'=> ∃ x:(Int),x=Zl/\xr=(.int .i64 x)/\Kst h h' (Kj.L))) trivial rfl ?_ fun AO1 AO2 Zo=>?_
       ·refine cwf (l:=[_,_]) Tryz.func85 rfl rfl (AGm (ATw (AGj (Ap9 (κ:= .i64) [Ki] AS9 Acy rfl rfl trivial tt2 rfl rfl rfl rfl fun Zp Zq AO3 Zr Zs Zt Zu=>?_))));have Gv:=Kj.no Zs (AX2 Zt Zu) Zr;refine Anr (c:=(cI .i64)) (el:=2) [[Zp]] [Zq] [([Ki]:List Int)] ATb Aff rfl rfl trivial tt2 rfl rfl rfl rfl (Aba (Gv.o p0).isOne Alw) ⟨(Gv.o p0),trivial⟩ ATv fun AO4 AO5 AO6 Zv Zw Zx=>?_;have Gw:=(((Gv.a0).grab p0)).lit Zw Zv (by simpa using Zx);refine AGj (AUt rfl (AUs Aaj AT1 (Gw.b p9) 0 rfl ?_));obtain ⟨Zy,Zz⟩:=ifN Zm;refine AY5 rfl rfl Zy ?_;obtain ⟨⟨AO7,AO8⟩,Z1,Kk⟩:=AGn Zz;dsimp only at Kk;refine Afh rfl (Ah4 (Gw.o2 p0).rd Z1) fun AO9 APa Z4 AAa=>?_;obtain ⟨APb,APc,APd,APe,rfl,AAb,AAc⟩:=AAa;refine AGj (AUb rfl rfl (AUb rfl rfl (ATi (ATw (AGj ?_)))));have Gx:=Gw.no2 Z4 AAc AAb;obtain ⟨APf,Kl,AAd⟩:=AGn Kk;refine AUh ATb ATq (Gx.o2 p0) Kl fun _ APg AAe=>?_;obtain ⟨AAf,AAg,AAh⟩:=AGn AAd;refine AWr (m:=0) AS9 ATe (Gx.o2 p0) AAe Kl AAg fun _=>(AGu (AGz (⟨_,AS2,(AAf:(Int)),?_,rfl,?_⟩)))
        ·exact AGl AAh
        ·exact Gx.sel [3,4,5,6,7,8,9,10,11] AGk
       obtain ⟨Km,AAi,rfl,Kn⟩:=Zo;refine ⟨trivial,?_⟩;subst AAi;refine ATw (AGj (ATk rfl rfl (AGu (AGp (AYd 81129638414606681695786857676288 Zn (fun x=>[(9,(.int .i64 x.1))]) (fun x=>(Kn.L.set 6 (aO2 (cI .i64) 49 2 Ah Ai Aj Ab x.2.1)).set 5 (aO2 (cI .i64) 49 2 Ad Ae Af Ac x.2.2)) Kn ⟨rfl,trivial⟩ ?_)))));rintro ⟨Bv,AAj,AAk⟩ APh APi APj Am Gy AAl;unfold Aa1 at Gy;refine AGo (AGm (AGj (AGj (AUt rfl (AUs AVc AU3 (Am.b p7) 1 rfl (AT4 ATb rfl (Am.o2 p6).rd (ATl rfl rfl (AGr (⟨_,rfl,fun Gz=>?_,fun Gz=>?_⟩)))))))))
       ·refine AGy (q_t (AGo (AGp (AGo (AXr (AGj (AUt rfl (AUs AVc AU3 (Am.b p7) 1 rfl (AGj ?_)))))))));obtain ⟨APk,Ko,AAm⟩:=AGn (ATy Gy Gz);refine AUh ATb ATq (Am.o2 p6) Ko fun _ APl AAn=>AGj ?_;obtain ⟨Kp,AAo,AAp⟩:=AGn AAm;refine AWr (m:=A5) AS9 ATe (Am.o2 p6) AAn Ko AAo fun _=>(AGj ?_);obtain ⟨AAq,AAr⟩:=ifN AAp;refine Aol rfl rfl AAq (AGj (AUt rfl (AUs AVc AU3 (Am.b p7) 1 rfl (AGj (ATk rfl rfl ?_)))));obtain ⟨APm,Kr,AAs⟩:=AGn AAr;refine AUh ATb ATq (Am.o2 p6) Kr fun _ APn AAt=>AGj ?_;obtain ⟨Kt,AAu,AAv⟩:=AGn AAs;refine AWr (m:=(w64 (A5 + 1))) AS9 ATe (Am.o2 p6) AAt Kr AAu fun _=>(AGj ?_);obtain ⟨AAw,AAx⟩:=ifN AAv;refine Aol rfl rfl AAw (ATi (ATw (AGj (AUs Afq ATe (Am.b p0) 3 rfl (AGj (AZe rfl rfl (AUs Aj4 ATe (Am.b p0) 4 rfl (AGj (AZe rfl rfl (AVd rfl rfl ?_))))))))));obtain ⟨AAy,AAz,AA0⟩:=AGn AAx;refine ATd (K':=(fun xr h'=> ∃ x:(Int),x=AAy/\xr=(.int .i64 x)/\Kst h h' (Am.L))) trivial rfl ?_ fun APo APp AA1=>?_
        ·refine cwf (l:=[_,_]) Tryz.func132 rfl rfl (AGm (ATw (AGj (AGj (AUt rfl (AUs Aaj AT1 (Am.b p7) 0 rfl ?_))))));obtain ⟨AA2,AA3⟩:=ifN AAz;refine AY5 rfl rfl AA2 (AVd rfl rfl (Aa9 rfl rfl AGk (AGu (AGz (⟨_,AS2,((AZk .and .i64 (w64 ((w64 ((Ax / 2 ^ Int.toNat Aa) * (Kt / 2 ^ Int.toNat Aa))) - (w64 ((Bb / 2 ^ Int.toNat Aa) * (Kp / 2 ^ Int.toNat Aa))))) (w64 ((w64 (1 * 2 ^ Int.toNat Ag)) - 1))):(Int)),?_,rfl,?_⟩)))))
         ·exact AGl AA3
         ·exact Am
        obtain ⟨AA4,AA5,rfl,Ck⟩:=AA1;refine ⟨trivial,?_⟩;subst AA5;refine AGj (AZe rfl rfl (ATw (AGj (AUs Afq ATe (Ck.b p0) 3 rfl (AGj (AZe rfl rfl (AUs Agn ATe (Ck.b p0) 2 rfl (AGj (AZe rfl rfl (AVd rfl rfl ?_))))))))));obtain ⟨AA6,AA7,AA8⟩:=AGn AA0;refine ATd (K':=(fun xr h'=> ∃ x:(Int),x=AA6/\xr=(.int .i64 x)/\Kst h h' (Ck.L))) trivial rfl ?_ fun APq APr AA9=>?_
        ·refine cwf (l:=[_,_]) Tryz.func132 rfl rfl (AGm (ATw (AGj (AGj (AUt rfl (AUs Aaj AT1 (Ck.b p7) 0 rfl ?_))))));obtain ⟨ABa,ABb⟩:=ifN AA7;refine AY5 rfl rfl ABa (AVd rfl rfl (Aa9 rfl rfl AGk (AGu (AGz (⟨_,AS2,((AZk .and .i64 (w64 ((w64 ((Ax / 2 ^ Int.toNat Aa) * (Kp / 2 ^ Int.toNat Aa))) - (w64 ((Ak / 2 ^ Int.toNat Aa) * (Kt / 2 ^ Int.toNat Aa))))) (w64 ((w64 (1 * 2 ^ Int.toNat Ag)) - 1))):(Int)),?_,rfl,?_⟩)))))
         ·exact AGl ABb
         ·exact Ck
        obtain ⟨ABc,ABd,rfl,G3⟩:=AA9;refine ⟨trivial,?_⟩;subst ABd;refine AGj (AZe rfl rfl (ATw (AGj (AGj (AGj (AGj (AGj ?_)))))));obtain ⟨ABe,ABf,ABg⟩:=AGn AA8;refine ATd (K':=(fun xr h'=> ∃ x:(Int),x=ABe/\xr=(.int .i64 x)/\Kst h h' (G3.L))) trivial rfl ?_ fun APs APt ABh=>?_
        ·refine cwf (l:=[_,_]) Tryz.func132 rfl rfl (AGm (ATw (AGj (AGj (AUt rfl (AUs Aaj AT1 (G3.b p7) 0 rfl ?_))))));obtain ⟨ABi,ABj⟩:=ifN ABf;refine AY5 rfl rfl ABi (AVd rfl rfl (Aa9 rfl rfl AGk (AGu (AGz (⟨_,AS2,((AZk .and .i64 (w64 (AA4 * Km)) (w64 ((w64 (1 * 2 ^ Int.toNat Ag)) - 1))):(Int)),?_,rfl,?_⟩)))))
         ·exact AGl ABj
         ·exact G3
        obtain ⟨G4,ABk,rfl,Bw⟩:=ABh;refine ⟨trivial,?_⟩;subst ABk;obtain ⟨ABl,ABm,ABn⟩:=AGn ABg;refine ATd (K':=(fun xr h'=> ∃ x:(LiI) × (LiI),(x.1,x.2)=ABl/\xr= .tuple #[]/\Kst h h' ((Bw.L.set 6 (aO2 (cI .i64) 49 2 Ah Ai Aj Ab x.1)).set 5 (aO2 (cI .i64) 49 2 Ad Ae Af Ac x.2)))) trivial rfl ?_ fun APu APv ABo=>?_
        ·refine cwf (l:=[_,_,_,_]) Tryz.func131 rfl rfl (AGo (AGo (AXr (AGj (AUt rfl (AUs AVc AU3 (Bw.b p7) 1 rfl (AGj (AUt rfl (AUs Ahr AU3 (Bw.b p7) 2 rfl (Aqc Aak Auw rfl trivial tt2 rfl (Bw.o2 p6).isOne (Bw.o2 p5).isOne fun APw APx ABp ABq ABr=>Amq Aak rfl (AGj (AGr (AGp ?_)))))))))))));have Ku:=Bw.nb ABq ABr ABp;refine AYd 4503599610595840 ABm (fun x=>[(24,(.int .i64 x.1))]) (fun x=>(Ku.L.set 7 (aO2 (cI .i64) 49 2 Ah Ai Aj Ab x.2.1)).set 6 (aO2 (cI .i64) 49 2 Ad Ae Af Ac x.2.2)) Ku ⟨rfl,trivial⟩ ?_;rintro ⟨Kv,APy,ABs⟩ APz AP0 AP1 Aq G5 ABt;unfold AXf at G5;refine AGm (ATl rfl rfl (AGr (AGo (⟨_,rfl,fun G6=>?_,fun G6=>?_⟩))))
         ·refine AGy (q_t (AGo (AGp (AGm ?_))));have Kw:=ATy G5 G6;by_cases G7:Kv=0
          ·refine Ame 0 Aak rfl rfl G7 AGk (AT3 AU3 rfl ((Aq.b p0).cell (i:=0) rfl) (ATw (AGj (AT4 ATb rfl (Aq.o2 p7).rd (AGj (AGr (AGp (AYd 2251798739945472 (ifT Kw G7) (fun x=>[(30,(.int .i64 x.1))]) (fun x=>Aq.L.set 7 (aO2 (cI .i64) 49 2 Ah Ai Aj Ab x.2)) Aq ⟨rfl,trivial⟩ ?_))))))));rintro ⟨G8,AP2⟩ AP3 AP4 AP5 Bh G9 ABu;unfold Aav at G9;refine AGm (ATl rfl rfl (AGr (AGo (⟨_,rfl,fun Hb=>?_,fun Hb=>?_⟩))))
           ·refine AGy (q_t (AGo (AGp (AGm ?_))));obtain ⟨AP6,De,ABv⟩:=AGn (ATy G9 Hb);refine AUh ATb ATq (Bh.o2 p7) De fun _ AP7 Hc=>AGu (AXr (AGj (AGj (AGj (AGj (AGj ?_))))));obtain ⟨ABw,Kx,ABx⟩:=AGn ABv;refine AWr (m:=G8) AS9 ATe (Bh.o2 p7) Hc De Kx fun _=>(AGj (AGj (AGj ?_)));obtain ⟨ABy,ABz,AB0⟩:=AGn ABx;refine AWr (m:=G8) AS9 ATe (Bh.o2 p7) Hc De ABz fun _=>(AZe rfl rfl (ATk rfl rfl ?_));obtain ⟨AB1,AB2,AB3⟩:=AGn AB0;refine ATd (K':=(fun xr h'=> ∃ x:(Int),x=AB1/\xr=(.int .i64 x)/\Kst h h' (Bh.L))) trivial rfl ?_ fun AP8 AP9 AB4=>?_
            ·refine cwf (l:=[_,_]) Tryz.func132 rfl rfl (AGm (ATw (AGj (AGj (AUt rfl (AUs Aaj AT1 (Bh.b p8) 0 rfl ?_))))));obtain ⟨AB5,AB6⟩:=ifN AB2;refine AY5 rfl rfl AB5 (AVd rfl rfl (Aa9 rfl rfl AGk (AGu (AGz (⟨_,AS2,((AZk .and .i64 (w64 (ABw + (w64 (G4 * ABy)))) (w64 ((w64 (1 * 2 ^ Int.toNat Ag)) - 1))):(Int)),?_,rfl,?_⟩)))))
             ·exact AGl AB6
             ·exact Bh
            obtain ⟨AQa,AB7,rfl,AB8⟩:=AB4;refine ⟨trivial,?_⟩;subst AB7;refine AZv (m:=G8) AB8 p7 AS9 ATe Hc De Kx (fun _=>rfl) fun _ AQb AB9=>ATh (q_b (q_t (AS3 (ATk rfl rfl (AGj (AGr ?_))))));exact ⟨_,(AGl AB3).symm,AB9,rfl,trivial⟩
           ·refine AS8 (ATa (ATa (AT7 (q_b (q_t (AS3 (ATk rfl rfl (AGj (AGr ?_)))))))));exact ⟨_,(AGl (ABu _ (AGl (ATz G9 Hb)).symm)).symm,Bh,rfl,trivial⟩
          ·have Ky:=ifF Kw G7;by_cases Hd:Kv=1
           ·refine Ame 1 Aak rfl rfl Hd AGk (AT3 AU3 rfl ((Aq.b p0).cell (i:=1) rfl) (ATw (AGj (AT4 ATb rfl (Aq.o2 p6).rd (AGj (AGr (AGp (AYd 2251798739945472 (ifT Ky Hd) (fun x=>[(30,(.int .i64 x.1))]) (fun x=>Aq.L.set 6 (aO2 (cI .i64) 49 2 Ad Ae Af Ac x.2)) Aq ⟨rfl,trivial⟩ ?_))))))));rintro ⟨He,AQc⟩ AQd AQe AQf Bi Hf ACa;unfold Aaw at Hf;refine AGm (ATl rfl rfl (AGr (AGo (⟨_,rfl,fun Hg=>?_,fun Hg=>?_⟩))))
            ·refine AGy (q_t (AGo (AGp (AGm ?_))));obtain ⟨AQg,Df,ACb⟩:=AGn (ATy Hf Hg);refine AUh ATb ATq (Bi.o2 p6) Df fun _ AQh Hh=>AGu (AXr (AGj (AGj (AGj (AGj (AGj ?_))))));obtain ⟨ACc,Kz,ACd⟩:=AGn ACb;refine AWr (m:=He) AS9 ATe (Bi.o2 p6) Hh Df Kz fun _=>(AGj (AGj (AGj ?_)));obtain ⟨ACe,ACf,ACg⟩:=AGn ACd;refine AWr (m:=He) AS9 ATe (Bi.o2 p6) Hh Df ACf fun _=>(AZe rfl rfl (ATk rfl rfl ?_));obtain ⟨ACh,ACi,ACj⟩:=AGn ACg;refine ATd (K':=(fun xr h'=> ∃ x:(Int),x=ACh/\xr=(.int .i64 x)/\Kst h h' (Bi.L))) trivial rfl ?_ fun AQi AQj ACk=>?_
             ·refine cwf (l:=[_,_]) Tryz.func132 rfl rfl (AGm (ATw (AGj (AGj (AUt rfl (AUs Aaj AT1 (Bi.b p8) 0 rfl ?_))))));obtain ⟨ACl,ACm⟩:=ifN ACi;refine AY5 rfl rfl ACl (AVd rfl rfl (Aa9 rfl rfl AGk (AGu (AGz (⟨_,AS2,((AZk .and .i64 (w64 (ACc + (w64 (G4 * ACe)))) (w64 ((w64 (1 * 2 ^ Int.toNat Ag)) - 1))):(Int)),?_,rfl,?_⟩)))))
              ·exact AGl ACm
              ·exact Bi
             obtain ⟨AQk,ACn,rfl,ACo⟩:=ACk;refine ⟨trivial,?_⟩;subst ACn;refine AZv (m:=He) ACo p6 AS9 ATe Hh Df Kz (fun _=>rfl) fun _ AQl ACp=>ATh (q_b (q_t (AS3 (ATk rfl rfl (AGj (AGr ?_))))));exact ⟨_,(AGl ACj).symm,ACp,rfl,trivial⟩
            ·refine AS8 (ATa (ATa (AT7 (q_b (q_t (AS3 (ATk rfl rfl (AGj (AGr ?_)))))))));exact ⟨_,(AGl (ACa _ (AGl (ATz Hf Hg)).symm)).symm,Bi,rfl,trivial⟩
           ·have ACq:=ifF Ky Hd;cases ACq
         ·refine AS8 (ATa (ATa (AT7 (q_t (AGm (AGj (AUt rfl (AUs AVc AU3 (Aq.b p8) 1 rfl (AGj ?_)))))))));obtain ⟨AQm,La,ACr⟩:=AGn (ABt _ (AGl (ATz G5 G6)).symm);refine AUh ATb ATq (Aq.o2 p7) La fun _ AQn Lb=>AUp AS9 rfl ((Aq.o2 p7).rowI Lb La) (AGj (AGr (AGp ?_)));have Hj:=Aq.sel [1,2,3,4,5,6,7,8,9] AGk;dsimp only [AYv,Ab8] at Hj;refine AYd 2475880077417839045191413760 ACr (fun x=>[(60,(.int .i64 x.1))]) (fun x=>Hj.L.set 6 (aO2 (cI .i64) 49 2 Ah Ai Aj Ab x.2)) Hj ⟨rfl,trivial⟩ ?_;rintro ⟨AQo,ACs⟩ AQp Bx AQq Ar Hk ACt;unfold Aax at Hk;refine AGm (ATl rfl rfl (AGr (AGo (⟨_,rfl,fun Hl=>?_,fun Hl=>?_⟩))))
          ·refine AGy (q_t (AGo (AGp (AGm (AGj ?_)))));obtain ⟨AQr,ACu,ACv⟩:=AGn (ATy Hk Hl);obtain ⟨ACw,ACx,ACy⟩:=AGn ACv;refine AWr (m:=A5) AS9 ATe (Ar.o2 p6) Lb ACu ACx fun _=>(ATi (AGu (AVa (fun h'=>UpT [] Bx h') AGx ?_)));have Bj:UpT [] Bx Bx:=UpT.start all_nil;refine AGj (AUt rfl (AVu AVc rfl (AU1 AU3 rfl Bj (fun h' hb=>((Ar.b p7).ext hb.ext).cell (i:=1) rfl) (AGj ?_))));obtain ⟨AQs,By,ACz⟩:=AGn ACy;refine AVf ATb rfl (Ar.o2 p6) rfl By fun AQt AQu AQv AC0 AC1=>AU1 ATq rfl Bj (fun h' hb=>ATo AC1 hb.ext) (AGj (AGj (AGj (AUt rfl (AVu AVc rfl (AU1 AU3 rfl Bj (fun h' hb=>((Ar.b p7).ext hb.ext).cell (i:=1) rfl) (AGj (AVf ATb rfl (Ar.o2 p6) rfl By fun AQw AQx AQy AC2 AC3=>AU1 ATq rfl Bj (fun h' hb=>ATo AC3 hb.ext) (AGj ?_)))))))));obtain ⟨AC4,Dg,AC5⟩:=AGn ACz;refine AWo (m:=Bv) AS9 rfl (Ar.o2 p6) AC2 By rfl Dg fun AQz AC6=>?_;obtain ⟨AQ0,AC7,AC8⟩:=(Ar.o2 p6).cells AC6 By Dg;obtain rfl:=AC7;refine AU1 ATe rfl Bj (fun h' hb=>ATo (AC8 0 _ rfl) hb.ext) (AGj (AGj (AZe rfl rfl (ATk rfl rfl ?_))));obtain ⟨AC9,ADa,ADb⟩:=AGn AC5;have ADc:UpT [] Bx Bx:=UpT.start all_nil;refine ATd (K':=(fun xr h'=> ∃ x:(Int),x=AC9/\xr=(.int .i64 x)/\Kst h h' (Ar.L)/\UpT [] Bx h')) Bj rfl ?_ fun AQ1 AQ2 ADd=>?_
           ·refine cwf (l:=[_,_]) Tryz.func132 rfl rfl (AGm (ATw (AGj (AGj (AUt rfl (AVu Aaj rfl (AT3 AT1 rfl ((Ar.b p7).cell (i:=0) rfl) ?_)))))));obtain ⟨ADe,ADf⟩:=ifN ADa;refine AY5 rfl rfl ADe (AVd rfl rfl (Aa9 rfl rfl AGk (AGu (AGz (⟨_,AS2,((AZk .and .i64 (w64 (AC4 + (w64 (G4 * ACw)))) (w64 ((w64 (1 * 2 ^ Int.toNat Ag)) - 1))):(Int)),?_,rfl,?_,?_⟩)))))
            ·exact AGl ADf
            ·exact Ar
            ·exact ADc
           obtain ⟨ADg,ADh,rfl,Lc,ADi⟩:=ADd;refine ⟨(Bj.then ADi all_nil),?_⟩;subst ADh;refine AWo (m:=Bv) AS9 rfl (Ar.o2 p6) AC0 By rfl Dg fun AQ3 ADj=>Adt (m:=Bv) (Ads ATe rfl rfl rfl) (Lc.o2 p6) ADj By Dg (show ((cI .i64)).rep _ ADg _ from rfl) fun AQ4 ADk ADl=>ATh (q_b (q_t (AS3 (ATk rfl rfl (AGj (AGr ?_))))));exact ⟨_,(AGl ADb).symm,(Lc.uO2 p6 ADl ADk),rfl,trivial⟩
          ·refine AS8 (ATa (ATa (AT7 (⟨_,AZt,((ACs,ABs):(LiI) × (LiI)),?_,rfl,?_⟩))))
           ·exact AGl (ACt _ (AGl (ATz Hk Hl)).symm)
           ·exact Ar
        obtain ⟨⟨AQ5,AQ6⟩,ADm,rfl,Hm⟩:=ABo;refine ⟨trivial,?_⟩;subst ADm;refine AGr (AS3 (AGj (AGj (AGj (ATk rfl rfl (AGj (AGj ?_)))))));obtain ⟨ADn,ADo,ADp⟩:=AGn ABn;refine ATd (K':=(fun xr h'=> ∃ x:(Int),x=ADn/\xr=(.int .i64 x)/\Kst h h' (Hm.L))) trivial rfl ?_ fun AQ7 AQ8 ADq=>?_
        ·refine cwf (l:=[_,_]) Tryz.func132 rfl rfl (AGm (ATw (AGj (AGj (AUt rfl (AUs Aaj AT1 (Hm.b p7) 0 rfl ?_))))));obtain ⟨ADr,ADs⟩:=ifN ADo;refine AY5 rfl rfl ADr (AVd rfl rfl (Aa9 rfl rfl AGk (AGu (AGz (⟨_,AS2,((AZk .and .i64 (w64 (ABc * Km)) (w64 ((w64 (1 * 2 ^ Int.toNat Ag)) - 1))):(Int)),?_,rfl,?_⟩)))))
         ·exact AGl ADs
         ·exact Hm
        obtain ⟨Hn,ADt,rfl,Bz⟩:=ADq;refine ⟨trivial,?_⟩;subst ADt;obtain ⟨ADu,ADv,ADw⟩:=AGn ADp;refine ATd (K':=(fun xr h'=> ∃ x:(LiI) × (LiI),(x.1,x.2)=ADu/\xr= .tuple #[]/\Kst h h' ((Bz.L.set 6 (aO2 (cI .i64) 49 2 Ah Ai Aj Ab x.1)).set 5 (aO2 (cI .i64) 49 2 Ad Ae Af Ac x.2)))) trivial rfl ?_ fun AQ9 ARa ADx=>?_
        ·refine cwf (l:=[_,_,_,_]) Tryz.func131 rfl rfl (AGo (AGo (AXr (AGj (AUt rfl (AUs AVc AU3 (Bz.b p7) 1 rfl (AGj (AUt rfl (AUs Ahr AU3 (Bz.b p7) 2 rfl (Aqc Aak Auw rfl trivial tt2 rfl (Bz.o2 p6).isOne (Bz.o2 p5).isOne fun ARb ARc ADy ADz AD0=>Amq Aak rfl (AGj (AGr (AGp ?_)))))))))))));have Ld:=Bz.nb ADz AD0 ADy;refine AYd 4503599610595840 ADv (fun x=>[(24,(.int .i64 x.1))]) (fun x=>(Ld.L.set 7 (aO2 (cI .i64) 49 2 Ah Ai Aj Ab x.2.1)).set 6 (aO2 (cI .i64) 49 2 Ad Ae Af Ac x.2.2)) Ld ⟨rfl,trivial⟩ ?_;rintro ⟨Le,ARd,AD1⟩ ARe ARf ARg Au Ho AD2;unfold AXg at Ho;refine AGm (ATl rfl rfl (AGr (AGo (⟨_,rfl,fun Hq=>?_,fun Hq=>?_⟩))))
         ·refine AGy (q_t (AGo (AGp (AGm ?_))));have Lf:=ATy Ho Hq;by_cases Hr:Le=0
          ·refine Ame 0 Aak rfl rfl Hr AGk (AT3 AU3 rfl ((Au.b p0).cell (i:=0) rfl) (ATw (AGj (AT4 ATb rfl (Au.o2 p7).rd (AGj (AGr (AGp (AYd 2251798739945472 (ifT Lf Hr) (fun x=>[(30,(.int .i64 x.1))]) (fun x=>Au.L.set 7 (aO2 (cI .i64) 49 2 Ah Ai Aj Ab x.2)) Au ⟨rfl,trivial⟩ ?_))))))));rintro ⟨Hs,ARh⟩ ARi ARj ARk Bl Ht AD3;unfold Aay at Ht;refine AGm (ATl rfl rfl (AGr (AGo (⟨_,rfl,fun Hu=>?_,fun Hu=>?_⟩))))
           ·refine AGy (q_t (AGo (AGp (AGm ?_))));obtain ⟨ARl,Dh,AD4⟩:=AGn (ATy Ht Hu);refine AUh ATb ATq (Bl.o2 p7) Dh fun _ ARm Hv=>AGu (AXr (AGj (AGj (AGj (AGj (AGj ?_))))));obtain ⟨AD5,Lg,AD6⟩:=AGn AD4;refine AWr (m:=Hs) AS9 ATe (Bl.o2 p7) Hv Dh Lg fun _=>(AGj (AGj (AGj ?_)));obtain ⟨AD7,AD8,AD9⟩:=AGn AD6;refine AWr (m:=Hs) AS9 ATe (Bl.o2 p7) Hv Dh AD8 fun _=>(AZe rfl rfl (ATk rfl rfl ?_));obtain ⟨AEa,AEb,AEc⟩:=AGn AD9;refine ATd (K':=(fun xr h'=> ∃ x:(Int),x=AEa/\xr=(.int .i64 x)/\Kst h h' (Bl.L))) trivial rfl ?_ fun ARn ARo AEd=>?_
            ·refine cwf (l:=[_,_]) Tryz.func132 rfl rfl (AGm (ATw (AGj (AGj (AUt rfl (AUs Aaj AT1 (Bl.b p8) 0 rfl ?_))))));obtain ⟨AEe,AEf⟩:=ifN AEb;refine AY5 rfl rfl AEe (AVd rfl rfl (Aa9 rfl rfl AGk (AGu (AGz (⟨_,AS2,((AZk .and .i64 (w64 (AD5 + (w64 (Hn * AD7)))) (w64 ((w64 (1 * 2 ^ Int.toNat Ag)) - 1))):(Int)),?_,rfl,?_⟩)))))
             ·exact AGl AEf
             ·exact Bl
            obtain ⟨ARp,AEg,rfl,AEh⟩:=AEd;refine ⟨trivial,?_⟩;subst AEg;refine AZv (m:=Hs) AEh p7 AS9 ATe Hv Dh Lg (fun _=>rfl) fun _ ARq AEi=>ATh (q_b (q_t (AS3 (ATk rfl rfl (AGj (AGr ?_))))));exact ⟨_,(AGl AEc).symm,AEi,rfl,trivial⟩
           ·refine AS8 (ATa (ATa (AT7 (q_b (q_t (AS3 (ATk rfl rfl (AGj (AGr ?_)))))))));exact ⟨_,(AGl (AD3 _ (AGl (ATz Ht Hu)).symm)).symm,Bl,rfl,trivial⟩
          ·have Lh:=ifF Lf Hr;by_cases Hw:Le=1
           ·refine Ame 1 Aak rfl rfl Hw AGk (AT3 AU3 rfl ((Au.b p0).cell (i:=1) rfl) (ATw (AGj (AT4 ATb rfl (Au.o2 p6).rd (AGj (AGr (AGp (AYd 2251798739945472 (ifT Lh Hw) (fun x=>[(30,(.int .i64 x.1))]) (fun x=>Au.L.set 6 (aO2 (cI .i64) 49 2 Ad Ae Af Ac x.2)) Au ⟨rfl,trivial⟩ ?_))))))));rintro ⟨Hx,ARr⟩ ARs ARt ARu Bm Hy AEj;unfold Aaz at Hy;refine AGm (ATl rfl rfl (AGr (AGo (⟨_,rfl,fun Hz=>?_,fun Hz=>?_⟩))))
            ·refine AGy (q_t (AGo (AGp (AGm ?_))));obtain ⟨ARv,Di,AEk⟩:=AGn (ATy Hy Hz);refine AUh ATb ATq (Bm.o2 p6) Di fun _ ARw Ia=>AGu (AXr (AGj (AGj (AGj (AGj (AGj ?_))))));obtain ⟨AEl,Li,AEm⟩:=AGn AEk;refine AWr (m:=Hx) AS9 ATe (Bm.o2 p6) Ia Di Li fun _=>(AGj (AGj (AGj ?_)));obtain ⟨AEn,AEo,AEp⟩:=AGn AEm;refine AWr (m:=Hx) AS9 ATe (Bm.o2 p6) Ia Di AEo fun _=>(AZe rfl rfl (ATk rfl rfl ?_));obtain ⟨AEq,AEr,AEs⟩:=AGn AEp;refine ATd (K':=(fun xr h'=> ∃ x:(Int),x=AEq/\xr=(.int .i64 x)/\Kst h h' (Bm.L))) trivial rfl ?_ fun ARx ARy AEt=>?_
             ·refine cwf (l:=[_,_]) Tryz.func132 rfl rfl (AGm (ATw (AGj (AGj (AUt rfl (AUs Aaj AT1 (Bm.b p8) 0 rfl ?_))))));obtain ⟨AEu,AEv⟩:=ifN AEr;refine AY5 rfl rfl AEu (AVd rfl rfl (Aa9 rfl rfl AGk (AGu (AGz (⟨_,AS2,((AZk .and .i64 (w64 (AEl + (w64 (Hn * AEn)))) (w64 ((w64 (1 * 2 ^ Int.toNat Ag)) - 1))):(Int)),?_,rfl,?_⟩)))))
              ·exact AGl AEv
              ·exact Bm
             obtain ⟨ARz,AEw,rfl,AEx⟩:=AEt;refine ⟨trivial,?_⟩;subst AEw;refine AZv (m:=Hx) AEx p6 AS9 ATe Ia Di Li (fun _=>rfl) fun _ AR0 AEy=>ATh (q_b (q_t (AS3 (ATk rfl rfl (AGj (AGr ?_))))));exact ⟨_,(AGl AEs).symm,AEy,rfl,trivial⟩
            ·refine AS8 (ATa (ATa (AT7 (q_b (q_t (AS3 (ATk rfl rfl (AGj (AGr ?_)))))))));exact ⟨_,(AGl (AEj _ (AGl (ATz Hy Hz)).symm)).symm,Bm,rfl,trivial⟩
           ·have AEz:=ifF Lh Hw;cases AEz
         ·refine AS8 (ATa (ATa (AT7 (q_t (AGm (AGj (AUt rfl (AUs AVc AU3 (Au.b p8) 1 rfl (AGj ?_)))))))));obtain ⟨AR1,Lj,AE0⟩:=AGn (AD2 _ (AGl (ATz Ho Hq)).symm);refine AUh ATb ATq (Au.o2 p7) Lj fun _ AR2 Lk=>AUp AS9 rfl ((Au.o2 p7).rowI Lk Lj) (AGj (AGr (AGp ?_)));have Ib:=Au.sel [1,2,3,4,5,6,7,8,9] AGk;dsimp only [AYv,Ab8] at Ib;refine AYd 2475880077417839045191413760 AE0 (fun x=>[(60,(.int .i64 x.1))]) (fun x=>Ib.L.set 6 (aO2 (cI .i64) 49 2 Ah Ai Aj Ab x.2)) Ib ⟨rfl,trivial⟩ ?_;rintro ⟨AR3,AE1⟩ AR4 B1 AR5 Av Ic AE2;unfold Aa0 at Ic;refine AGm (ATl rfl rfl (AGr (AGo (⟨_,rfl,fun Id=>?_,fun Id=>?_⟩))))
          ·refine AGy (q_t (AGo (AGp (AGm (AGj ?_)))));obtain ⟨AR6,AE3,AE4⟩:=AGn (ATy Ic Id);obtain ⟨AE5,AE6,AE7⟩:=AGn AE4;refine AWr (m:=(w64 (A5 + 1))) AS9 ATe (Av.o2 p6) Lk AE3 AE6 fun _=>(ATi (AGu (AVa (fun h'=>UpT [] B1 h') AGx ?_)));have Bn:UpT [] B1 B1:=UpT.start all_nil;refine AGj (AUt rfl (AVu AVc rfl (AU1 AU3 rfl Bn (fun h' hb=>((Av.b p7).ext hb.ext).cell (i:=1) rfl) (AGj ?_))));obtain ⟨AR7,B3,AE8⟩:=AGn AE7;refine AVf ATb rfl (Av.o2 p6) rfl B3 fun AR8 AR9 ASa AE9 AFa=>AU1 ATq rfl Bn (fun h' hb=>ATo AFa hb.ext) (AGj (AGj (AGj (AUt rfl (AVu AVc rfl (AU1 AU3 rfl Bn (fun h' hb=>((Av.b p7).ext hb.ext).cell (i:=1) rfl) (AGj (AVf ATb rfl (Av.o2 p6) rfl B3 fun ASb ASc ASd AFb AFc=>AU1 ATq rfl Bn (fun h' hb=>ATo AFc hb.ext) (AGj ?_)))))))));obtain ⟨AFd,Dj,AFe⟩:=AGn AE8;refine AWo (m:=Bv) AS9 rfl (Av.o2 p6) AFb B3 rfl Dj fun ASe AFf=>?_;obtain ⟨ASf,AFg,AFh⟩:=(Av.o2 p6).cells AFf B3 Dj;obtain rfl:=AFg;refine AU1 ATe rfl Bn (fun h' hb=>ATo (AFh 0 _ rfl) hb.ext) (AGj (AGj (AZe rfl rfl (ATk rfl rfl ?_))));obtain ⟨AFi,AFj,AFk⟩:=AGn AFe;have AFl:UpT [] B1 B1:=UpT.start all_nil;refine ATd (K':=(fun xr h'=> ∃ x:(Int),x=AFi/\xr=(.int .i64 x)/\Kst h h' (Av.L)/\UpT [] B1 h')) Bn rfl ?_ fun ASg ASh AFm=>?_
           ·refine cwf (l:=[_,_]) Tryz.func132 rfl rfl (AGm (ATw (AGj (AGj (AUt rfl (AVu Aaj rfl (AT3 AT1 rfl ((Av.b p7).cell (i:=0) rfl) ?_)))))));obtain ⟨AFn,AFo⟩:=ifN AFj;refine AY5 rfl rfl AFn (AVd rfl rfl (Aa9 rfl rfl AGk (AGu (AGz (⟨_,AS2,((AZk .and .i64 (w64 (AFd + (w64 (Hn * AE5)))) (w64 ((w64 (1 * 2 ^ Int.toNat Ag)) - 1))):(Int)),?_,rfl,?_,?_⟩)))))
            ·exact AGl AFo
            ·exact Av
            ·exact AFl
           obtain ⟨AFp,AFq,rfl,Ll,AFr⟩:=AFm;refine ⟨(Bn.then AFr all_nil),?_⟩;subst AFq;refine AWo (m:=Bv) AS9 rfl (Av.o2 p6) AE9 B3 rfl Dj fun ASi AFs=>Adt (m:=Bv) (Ads ATe rfl rfl rfl) (Ll.o2 p6) AFs B3 Dj (show ((cI .i64)).rep _ AFp _ from rfl) fun ASj AFt AFu=>ATh (q_b (q_t (AS3 (ATk rfl rfl (AGj (AGr ?_))))));exact ⟨_,(AGl AFk).symm,(Ll.uO2 p6 AFu AFt),rfl,trivial⟩
          ·refine AS8 (ATa (ATa (AT7 (⟨_,AZt,((AE1,AD1):(LiI) × (LiI)),?_,rfl,?_⟩))))
           ·exact AGl (AE2 _ (AGl (ATz Ic Id)).symm)
           ·exact Av
        obtain ⟨⟨ASk,ASl⟩,AFv,rfl,AFw⟩:=ADx;refine ⟨trivial,?_⟩;subst AFv;refine ATh (q_b (q_t (AS3 (AGj (ATk rfl rfl (AGu ?_))))));exact ⟨_,(AGl ADw).symm,AFw,rfl,trivial⟩
       ·refine AS8 (ATa (ATa (AT7 (⟨_,AZt,((AAj,AAk):(LiI) × (LiI)),?_,rfl,?_⟩))))
        ·exact AGl (AAl _ (AGl (ATz Gy Gz)).symm)
        ·exact Am.sel [1,2,3,4,5,6,7,8] AGk
      obtain ⟨⟨AFx,AFy⟩,AFz,rfl,Ie⟩:=Za;refine ⟨trivial,?_⟩;subst AFz;refine AZg (Acx [(.int .i64 Aa),(.int .i64 Aw),(.int .i64 (Ak / 2 ^ Int.toNat Aa)),(.int .i64 (Ax / 2 ^ Int.toNat Aa)),(.int .i64 (Bb / 2 ^ Int.toNat Aa))] Acz rfl rfl (Ie.b p0).agg (AU0 [(.int .i64 Aa),(.int .i64 Aw),(.int .i64 (Ak / 2 ^ Int.toNat Aa)),(.int .i64 (Ax / 2 ^ Int.toNat Aa)),(.int .i64 (Bb / 2 ^ Int.toNat Aa))] Acz rfl rfl rfl rfl (by simp [isOne]) (Ie.b p1) fun ASm AF0 AF1=>AGr (AGz ?_)));have Lm:=Ie.sb p1 AF1 AF0 rfl;refine ⟨_,AU7 Acz rfl rfl (Lm.b p1),((Aa,Aw,(Ak / 2 ^ Int.toNat Aa),(Ax / 2 ^ Int.toNat Aa),(Bb / 2 ^ Int.toNat Aa),AFx,Ah,Ai,Aj,AFy):(Int) × (Int) × (Int) × (Int) × (Int) × (LiI) × LnA × LnN × LvA × (LiI)),?_,rfl,?_⟩
      ·exact AGl Y9
      ·exact Lm.sel [2,3,4,5,6,7] AGk
    obtain ⟨⟨Dk,Dl,Do,Dp,Dq,ASn,ASo,ASp,ASq,ASr⟩,AF2,rfl,AF3⟩:=Nh;refine ⟨trivial,?_⟩;subst AF2;refine AVr AF3 [(.int .i64 0),(.int .i64 0),(.int .i64 0),(.int .i64 0),(.int .i64 0)] Am5 fun ASs ASt ASu Lo=>AU0 [(.int .i64 Dk),(.int .i64 Dl),(.int .i64 Do),(.int .i64 Dp),(.int .i64 Dq)] Acz rfl rfl rfl rfl (by simp [isOne]) (Lo.b p0) fun ASv AF4 AF5=>AZg ?_;have Dr:=Lo.sb p0 AF5 AF4 rfl;refine AUs Aj3 Aqu (Dr.b p2) 2 rfl (Acx [(.int .i64 Dk),(.int .i64 Dl),(.int .i64 Do),(.int .i64 Dp),(.int .i64 Dq)] Acz rfl rfl (Dr.b p0).agg ?_);obtain ⟨AF6,AF7⟩:=ifN Ng;refine Adu Am4 Am5 rfl rfl trivial tt2 (fun _=>rfl) rfl (show (Alo).rep _ (Dk,Dl,Do,Dp,Dq) [(.int .i64 Dk),(.int .i64 Dl),(.int .i64 Do),(.int .i64 Dp),(.int .i64 Dq)] from rfl) (Dr.o p1) AGk AF6 fun ASw ASx AF8 ASy AF9 AGa AGb=>AVu Aj3 rfl ?_;have If:=Dr.uo p1 AGa AF9 AGb;refine Ag8 [(.int .i64 2),(.slice none 0 0),AF8] Aqu rfl rfl (If.o p1).isOne (If.b p2) (Nat.le_of_ble_eq_true rfl) rfl fun ASz AGc AGd=>AGr (AS3 ?_);have Lq:=If.sb p2 AGd AGc rfl;refine AGj (AUs Afp AT1 (Lq.b p0) 1 rfl (ATk rfl rfl (ATi (ATh (q_b (q_t ?_))))));exact ⟨(_,_,_,_,_,_,_,_,_),(AGl AF7).symm,Lq.sel [1,2,3,4,5,6] AGk,rfl,trivial⟩
   ·refine AS8 (ATa (ATa (AT7 (q_t (AGm (AGj (AUt rfl (AUs Ahr AU3 (Bo.b p4) 2 rfl (AVu Ann rfl (Ag8 [(.int .i64 2),Ac,D2] AU3 rfl rfl (Bo.o2 p2).isOne (Bo.b p1) (Nat.le_of_ble_eq_true rfl) rfl fun AS0 AGe AGf=>AZg ?_))))))))));have Cm:=Bo.sb p1 AGf AGe rfl;refine Acx [(.int .i64 2),Ac,D2] Agm rfl rfl (Cm.b p1).agg (AU0 [(.int .i64 2),Ac,D2] Agm rfl rfl rfl rfl (Aba rfl (Aba (Cm.o2 p2).isOne (Aba (Cm.o p0).isOne Alw))) (Cm.b p5) fun AS1 AGg AGh=>AGu (AGz ?_));have Cn:=Cm.sb p5 AGh AGg rfl;obtain rfl:=AGl (Nc _ (AGl (ATz D3 D4)).symm);exact ⟨_,Alk Agm rfl rfl (Cn.b p5),Cn.x,_,_,_,_,_,_,rfl,(Cn.o2 p2),(Cn.o p0),Cn.s.sel [2,0] AGk⟩
end Go.Proofs.YthbndcbclhkepaaGreatDoor
namespace Go.Proofs.YthbndcbclhkepaaGreatDoor
open Go Go.QF
set_option maxRecDepth 100000
theorem Akd {K:Nat} (hK:K<=30) (z:Int):Eqm (2 ^ K) (w64 z) z:=by
 have h1:Eqm ((2:Int) ^ 64) (w64 z) z:=by
   show w64 z % 2 ^ 64=z % 2 ^ 64
   show IntKind.i64.wrap z % 2 ^ 64=z % 2 ^ 64
   rw [IntKind.wrap_i64];omega
 exact h1.down (AWh AGi)
abbrev mkE (K:Nat) (z:Int):Option Int:=if 0<=(K:Int)/\(K:Int)<=64 then some (AZk .and .i64 (w64 z) (w64 ((w64 (1 * 2 ^ Int.toNat (K:Int))) - 1))) else none
theorem mk_val {K:Nat} (hK:K<=30) {z y:Int} (h:Eqm (2 ^ K) z y):mkE K z=some (y % 2 ^ K):=by
 have h1:(2:Int) ^ K<=2 ^ 30:=Ace AGk hK;have h2:0 < (2:Int) ^ K:=Int.pow_pos AGk;have h3:(2:Int) ^ 30=1073741824:=by decide
 unfold mkE;rw [if_pos AGi,Arr hK,AVj (x:=(2:Int) ^ K - 1) AGi AGi,Ayn hK];exact congrArg some ((Akd hK z).trans h)
theorem BD8 {K:Nat} (hK:K<=30) (x c y:Int):Eqm (2 ^ K) (x + w64 (c * y)) (x + c * y):=(Eqm.refl _ x).add (Akd hK _)
section
variable {fuel n K:Nat}
theorem A3p {i j r:Nat} {c:Int} {M:AS5} (hK:K<=30) (hi:i < n) (hj:j < n) (hr:r < n) (hn:n<=8):
    ((gI (tab n n M) (r:Int)).bind fun x=>(gI x (i:Int)).bind fun y=>(gI x (j:Int)).bind fun z=>(mkE K (y + w64 (c * z))).bind fun e=>some (Sum.inl (β:=List (List Int)) (w64 ((r:Int) + 1),sI (tab n n M) (r:Int) (sI x (i:Int) e))))=some (.inl (((r + 1:Nat):Int),tab n n (AUw M r fun b=>if b=i then (M r i + c * M r j) % 2 ^ K else M r b))):=by
 rw [AZj (AUc hr),AZj (ATx hi),AZj (ATx hj),mk_val hK (BD8 hK _ _ _)];simp only [Option.bind_some];rw [Apr,Abf,AV9 AGi]
theorem A3q {j l s:Nat} {c:Int} {M:AS5} (hK:K<=30) (hj:j < n) (hl:l < n) (hs:s < n) (hn:n<=8):
    ((gI (tab n n M) (l:Int)).bind fun x=>(gI x (s:Int)).bind fun y=>(gI (tab n n M) (j:Int)).bind fun z=>(gI z (s:Int)).bind fun w=>(mkE K (w + w64 (c * y))).bind fun e=>some (Sum.inl (β:=List (List Int)) (w64 ((s:Int) + 1),sI (tab n n M) (j:Int) (sI z (s:Int) e))))=some (.inl (((s + 1:Nat):Int),tab n n (AUw M j fun b=>if b=s then (M j s + c * M l s) % 2 ^ K else M j b))):=by
 rw [AZj (AUc hl),AZj (ATx hs),AZj (AUc hj),AZj (ATx hs),mk_val hK (BD8 hK _ _ _)];simp only [Option.bind_some];rw [Apr,Abf,AV9 AGi]
theorem Az8 {i j:Nat} {c:Int} {G T:AS5} {R:Int->List (List Int)->List (List Int)->Option ((Int × List (List Int) × List (List Int)) ⊕ (List (List Int) × List (List Int)))} {RG RT:List (List Int)->Int × List (List Int)->Option ((Int × List (List Int)) ⊕ List (List Int))} {RE:List Int->Int->List (List Int)->Option ((Int × List (List Int)) ⊕ List (List Int))} (hK:K<=30) (hn:n<=8) (hi:i < n) (hj:j < n) (hne:j≠i) (hf:100 < fuel)
    (r0:∀ G T,R 0 (tab n n G) T=(iter (RG (tab n n G)) fuel (0,tab n n G)).bind fun e=>some (Sum.inl (1,e,T))) (r1:∀ G T,R 1 G (tab n n T)=(iter (RT (tab n n T)) fuel (0,tab n n T)).bind fun e=>some (Sum.inl (2,G,e))) (r2:∀ G T,R 2 G T=some (.inr (G,T)))
    (rg:∀ (X:AS5) (r:Int) M,RG (tab n n X) (r,M)=if r < n then (gI M r).bind fun x=>(gI x (i:Int)).bind fun y=>(gI x (j:Int)).bind fun z=>(mkE K (y + w64 (c * z))).bind fun e=>some (Sum.inl (w64 (r + 1),sI M r (sI x (i:Int) e))) else some (.inr M))
    (rt:∀ (X:AS5) (r:Int) M,RT (tab n n X) (r,M)=if r < n then (gI M r).bind fun x=>(gI x (i:Int)).bind fun y=>(gI x (j:Int)).bind fun z=>(mkE K (y + w64 (c * z))).bind fun e=>some (Sum.inl (w64 (r + 1),sI M r (sI x (i:Int) e))) else some (.inr M))
    (re:∀ (F:Nat->Int) (s:Int) M,RE (AVs n F) s M=if s < n then (gI M (j:Int)).bind fun x=>(gI x s).bind fun y=>(gI M (i:Int)).bind fun z=>(gI z s).bind fun w=>(mkE K (w + w64 (c * y))).bind fun e=>some (Sum.inl (w64 (s + 1),sI M (i:Int) (sI z s e))) else some (.inr M)):
    ((iter (fun s=>R s.1 s.2.1 s.2.2) fuel (0,tab n n G,tab n n T)).bind (fun ((e1,e2):List (List Int) × List (List Int))=>(gI e1 (j:Int)).bind fun x=>(iter (fun s=>RE x s.1 s.2) fuel (0,e1)).bind fun e=>some (e,e2)))=some (tab n n (Atb (2 ^ K) i j c G),tab n n (Aot (2 ^ K) i j c T)):=by
  have Agh:∀ (B:Int × List (List Int)->Option ((Int × List (List Int)) ⊕ List (List Int))) (G:AS5),(∀ (r:Int) M,B (r,M)=if r < n then (gI M r).bind fun x=>(gI x (i:Int)).bind fun y=>(gI x (j:Int)).bind fun z=>(mkE K (y + w64 (c * z))).bind fun e=>some (Sum.inl (w64 (r + 1),sI M r (sI x (i:Int) e))) else some (.inr M))->iter B fuel (0,tab n n G)=some (tab n n (Aot (2 ^ K) i j c G)):=fun B G hB=>A13 (G':=Aot (2 ^ K) i j c G) AGi (fun r M hr hM=>by rw [hB,if_pos AGi,A3p hK hi hj hr hn,A67 hM]) fun X=>by rw [hB,if_neg AGi]
  rw [A69 (fuel:=fuel) (g':=tab n n (Aot (2 ^ K) i j c G)) (t':=tab n n (Aot (2 ^ K) i j c T)) AGi (by dsimp only;rw [r0,Agh (RG _) _ (rg _)];rfl) (by dsimp only;rw [r1,Agh (RT _) _ (rt _)];rfl) (by dsimp only;rw [r2])];simp only [Option.bind_some];rw [AZj (AUc hj)];unfold Atb;rw [A9y (j:=i) (g:=fun b=>(Aot (2 ^ K) i j c G i b + c * Aot (2 ^ K) i j c G j b) % 2 ^ K) AGi (fun s M hs hM hMs=>by dsimp only;rw [re,if_pos AGi,A3q hK hi hj hs hn,hMs,hM j s hne]) (fun X=>by dsimp only;rw [re,if_neg AGi]),A9z];rfl
theorem Awb {c:Nat} {G T:AS5} {R:Int->List (List Int)->List (List Int)->Option ((Int × List (List Int) × List (List Int)) ⊕ (List (List Int) × List (List Int)))} {RG RT:List (List Int)->Int × List (List Int)->Option ((Int × List (List Int)) ⊕ List (List Int))} (hn:n<=8) (hc:c + 1 < n) (hf:100 < fuel)
    (r0:∀ G T,R 0 (tab n n G) T=(iter (RG (tab n n G)) fuel (0,tab n n G)).bind fun e=>some (Sum.inl (1,e,T))) (r1:∀ G T,R 1 G (tab n n T)=(iter (RT (tab n n T)) fuel (0,tab n n T)).bind fun e=>some (Sum.inl (2,G,e))) (r2:∀ G T,R 2 G T=some (.inr (G,T)))
    (rg:∀ (X:AS5) (r:Int) M,RG (tab n n X) (r,M)=if r < n then (gI M r).bind fun x=>(gI x ((c + 1:Nat):Int)).bind fun y=>(gI x (c:Int)).bind fun z=>(gI (sI M r (sI x (c:Int) y)) r).bind fun u=>(gI u ((c + 1:Nat):Int)).bind fun w=>some (Sum.inl (w64 (r + 1),sI (sI M r (sI x (c:Int) y)) r (sI u ((c + 1:Nat):Int) z))) else some (.inr M))
    (rt:∀ (X:AS5) (r:Int) M,RT (tab n n X) (r,M)=if r < n then (gI M r).bind fun x=>(gI x ((c + 1:Nat):Int)).bind fun y=>(gI x (c:Int)).bind fun z=>(gI (sI M r (sI x (c:Int) y)) r).bind fun u=>(gI u ((c + 1:Nat):Int)).bind fun w=>some (Sum.inl (w64 (r + 1),sI (sI M r (sI x (c:Int) y)) r (sI u ((c + 1:Nat):Int) z))) else some (.inr M)):
    iter (fun s=>R s.1 s.2.1 s.2.2) fuel (0,sI (sI (tab n n G) (c:Int) (AVs n (G (c + 1)))) ((c + 1:Nat):Int) (AVs n (G c)),tab n n T)=some (tab n n (swG c (c + 1) G),tab n n (swC c (c + 1) T)):=by
  have e0:sI (sI (tab n n G) (c:Int) (AVs n (G (c + 1)))) ((c + 1:Nat):Int) (AVs n (G c))=tab n n fun a b=>G (sw2 c (c + 1) a) b:=by
    rw [Abf,Abf];refine Af0 fun a b _ _=>?_;rw [AT2,AT2];unfold sw2
    by_cases h1:a=c + 1
    · rw [if_pos h1,if_pos h1]
    · rw [if_neg h1,if_neg h1];by_cases h2:a=c
      · rw [if_pos h2,if_pos h2]
      · rw [if_neg h2,if_neg h2]
  have Agh:∀ (B:Int × List (List Int)->Option ((Int × List (List Int)) ⊕ List (List Int))) (G:AS5),(∀ (r:Int) M,B (r,M)=if r < n then (gI M r).bind fun x=>(gI x ((c + 1:Nat):Int)).bind fun y=>(gI x (c:Int)).bind fun z=>(gI (sI M r (sI x (c:Int) y)) r).bind fun u=>(gI u ((c + 1:Nat):Int)).bind fun w=>some (Sum.inl (w64 (r + 1),sI (sI M r (sI x (c:Int) y)) r (sI u ((c + 1:Nat):Int) z))) else some (.inr M))->iter B fuel (0,tab n n G)=some (tab n n (swC c (c + 1) G)):=fun B G hB=>A13 (G':=swC c (c + 1) G) AGi (fun r M hr hM=>by
    rw [hB,if_pos AGi,A68 hc AGi hr hn];congr 3;exact Ayk fun b _=>by rw [hM];rfl) fun X=>by rw [hB,if_neg AGi]
  rw [e0];exact A69 AGi (by dsimp only;rw [r0,Agh (RG _) _ (rg _)];rfl) (by dsimp only;rw [r1,Agh (RT _) _ (rt _)];rfl) (by dsimp only;rw [r2])
theorem Awc {f i:Nat} {G T:AS5} {R:Int->List (List Int)->List (List Int)->Option ((Int × List (List Int) × List (List Int)) ⊕ (List (List Int) × List (List Int)))} (hn:n<=8) (hf:f<=i) (hi:i < n) (hfu:100 < fuel)
    (rs:∀ (c:Nat) G T,f<=c->c + 1 < n->R ((c + 1:Nat):Int) (tab n n G) (tab n n T)=some (.inl ((c:Int),tab n n (swG c (c + 1) G),tab n n (swC c (c + 1) T)))) (re:∀ G T,R (f:Int) G T=some (.inr (G,T))):
    iter (fun s=>R s.1 s.2.1 s.2.2) fuel ((i:Int),tab n n G,tab n n T)=some (tab n n (mvG f i G),tab n n (mvC f i T)):=by
  apply ok_eq;refine AT9 (fun m s=>s=(((i - m:Nat):Int),tab n n (mvG (i - m) i G),tab n n (mvC (i - m) i T))/\m<=i - f) (i - f) ⟨by rw [Nat.sub_zero,A7a,A7b],Nat.zero_le _⟩ AGi fun m s hm hI=>?_;obtain ⟨rfl,hmf⟩:=hI;dsimp only
  rcases Nat.lt_or_ge m (i - f) with h | h
  · obtain ⟨c,hc⟩:∃ c,i - m=c + 1:=⟨i - m - 1,AGi⟩;rw [hc,rs c _ _ AGi AGi,Ayo AGi,Ayp AGi];refine AGq ⟨h,?_,h⟩;rw [show i - (m + 1)=c by omega]
  · rw [show i - m=f by omega,re];exact AGq rfl
end
end Go.Proofs.YthbndcbclhkepaaGreatDoor
namespace Go.Proofs.YthbndcbclhkepaaGreatDoor
open Go Go.QF
set_option maxRecDepth 100000
theorem Az9 {p:Int} (hp:Pr p):PrI p:=⟨hp.1,fun x y h=>by
  have h2:=hp.1
  refine Classical.byContradiction fun hn=>?_
  have hx:x % p≠0:=fun h=>hn (.inl (Int.dvd_of_emod_eq_zero h))
  have hy:y % p≠0:=fun h=>hn (.inr (Int.dvd_of_emod_eq_zero h))
  have h3:=Int.emod_nonneg x (show p≠0 by omega)
  have h4:=Int.emod_lt_of_pos x (show 0 < p by omega)
  have h5:=Int.emod_nonneg y (show p≠0 by omega)
  have h6:=Int.emod_lt_of_pos y (show 0 < p by omega)
  refine A4j hp (a:=x % p) (x:=y % p) AGi AGi AGi AGi ?_
  rw [<- Int.mul_emod]
  exact Int.emod_eq_zero_of_dvd h⟩
theorem Ayr {p a:Int} (hp:Pr p) (ha: ¬ p ∣ a):∀ K:Nat,∃ y,p ^ (K + 1) ∣ y * a - 1
  | 0=>by
    have h2:=hp.1;have hx:a % p≠0:=fun h=>ha (Int.dvd_of_emod_eq_zero h);have h3:=Int.emod_nonneg a (show p≠0 by omega);have h4:=Int.emod_lt_of_pos a (show 0 < p by omega);obtain ⟨y,hy⟩:=Ar5 hp _ (a % p) (Nat.le_refl _) AGi h4;refine ⟨y,?_⟩;rw [Int.pow_succ,Int.pow_zero,Int.one_mul];refine Aj9 (m:=p) ?_;show y * a % p=1 % p;rw [Int.emod_eq_of_lt (a:=1) AGk AGi,<- hy];exact ((Eqm.refl p y).mul (Eqm.mod p a)).symm
  | K + 1=>by
    obtain ⟨y,z,hz⟩:=Ayr hp ha K;refine ⟨y * (2 - y * a),?_⟩;have e:y * (2 - y * a) * a - 1= -((y * a - 1) * (y * a - 1)):=by grind
    rw [e,hz];refine Int.dvd_neg.2 (Int.dvd_trans (AWh (b:=K + 1 + (K + 1)) AGi) ?_);rw [Int.pow_add];exact ⟨z * z,by grind⟩
theorem Aux {p a:Int} {K:Nat} (hp:Pr p) (ha: ¬ p ∣ a) (hK:1<=K):∃ y,Ar1 (p ^ K) (a % p ^ K) y:=by
 obtain ⟨y,hy⟩:=Ayr hp ha (K - 1);rw [show K - 1 + 1=K by omega] at hy;have hq:0 < p ^ K:=Int.pow_pos (by have:=hp.1;omega);refine ⟨y % p ^ K,Int.emod_nonneg _ AGi,Int.emod_lt_of_pos _ hq,?_⟩;exact ((Eqm.mod _ y).mul (Eqm.mod _ a)).trans (Aop hy)
theorem Awd {p u x:Int} {f E:Nat} (hp:PrI p) (hx:x=u * p ^ E) (hu: ¬ p ∣ u) (hf:p ^ f ∣ x):f<=E:=by
 rcases Nat.lt_or_ge E f with h | h
 ·exfalso;have h1:p ^ (E + 1) ∣ u * p ^ E:=hx ▸ Int.dvd_trans (AWh h) hf;obtain ⟨w,hw⟩:=h1;refine hu ⟨w,Int.eq_of_mul_eq_mul_left (A1q hp E) ?_⟩;rw [Int.pow_succ] at hw;grind
 ·exact h
section
variable {fuel n K k:Nat} {p:Int} {H T G:AS5}
end
theorem BCr {fuel:Nat} {M:List (List Int)} {m:Int} (R:Atr M) (hm:2<=m) (Aa:m<=2147483647) (hf:100 < fuel):Abd fuel M m=some (tab M.length M.length fun i j=>ent M i j % m,0):=by
 have hM:=As7 R;unfold Abd AVb;have h1:AXy fuel M=some true:=by rw [hM];exact Ayj R.1.1 R.1.2 hf
 have h2:AVh fuel M m=some (tab M.length M.length fun i j=>ent M i j % m):=by
   conv=>lhs;rw [hM]
   exact A60 R.1.2 hm Aa hf
 rw [h1];simp only [Option.bind_some];rw [if_neg AGk,if_neg AGi,if_neg AGi];simp only [Option.bind_some];rw [if_neg AGk,h2];rfl
end Go.Proofs.YthbndcbclhkepaaGreatDoor
namespace Go.Proofs.YthbndcbclhkepaaGreatDoor
open Go Go.QF
def dB (b:AWt):Int:=if b.2.1=2 then b.2.2.1 * b.2.2.2.2 - b.2.2.2.1 * b.2.2.2.1 else b.2.2.1
def vL:List AWt->Nat
  | []=>0
  | b :: l=>b.2.1.toNat * b.1.toNat + vL l
def uL:List AWt->Int
  | []=>1
  | b :: l=>dB b * uL l
theorem A7e (L:List AWt) (b:AWt):vL (L ++ [b])=vL L + b.2.1.toNat * b.1.toNat:=by
 induction L with
 | nil=>show _ + 0=0 + _;omega
 | cons c L ih=>show _ + vL (L ++ [b])=_ + vL L + _;omega
theorem BCs (L:List AWt) (b:AWt):uL (L ++ [b])=uL L * dB b:=by
 induction L with
 | nil=>show _ * 1=1 * _;omega
 | cons c L ih=>show _ * uL (L ++ [b])=_ * uL L * _;rw [ih,Int.mul_assoc]
theorem BEo (F:AS5):det 1 F=F 0 0:=by simp [det,psum,sg]
theorem BEp (F:AS5):det 2 F=F 0 0 * F 1 1 - F 1 0 * F 0 1:=by simp [det,psum,sg,AW8,skp,Int.sub_eq_add_neg,Int.neg_mul]
theorem BEr {x y:Int} (h:Eqm 0 x y):x=y:=by simpa [Eqm] using h
theorem A0a {L:List AWt} {e s a b c:Int} (hL:Apv L) (hs:s=1∨s=2) (he:0<=e):det (Ad4 L + s.toNat) (bm (L ++ [(e,s,a,b,c)]))=det (Ad4 L) (bm L) * (2 ^ (s.toNat * e.toNat) * dB (e,s,a,b,c)):=by
 obtain ⟨E,rfl⟩:∃ E:Nat,e=E:=⟨e.toNat,AGi⟩;have happ:∀ i j,bm (L ++ [((E:Int),s,a,b,c)]) i j=Ata 2 [((E:Int),s,a,b,c)] (Ad4 L) (bm L) i j:=fun i j=>by unfold bm;rw [Anh hL,Nat.zero_add]
 have ho:∀ i j,Ad4 L<=i∨Ad4 L<=j->bm L i j=0:=fun i j h=>Atd hL rfl h
 have hcut:=BEr (A9n (n:=Ad4 L + s.toNat) (k:=Ad4 L) (p:=0) (S:=bm (L ++ [((E:Int),s,a,b,c)])) AGi fun i j hi hj hjn=>by
   rw [happ,Ahm]
   show (0:Int) ∣ _
   by_cases h2:s=2
   · rw [if_pos h2]
     show (0:Int) ∣ Ayl _ _ _ _ _ i j
     rw [Ah3,if_neg AGi,if_neg AGi,if_neg AGi,if_neg AGi,ho i j (.inr hj)];exact Int.dvd_refl 0
   · rw [if_neg h2]
     show (0:Int) ∣ Aq8 _ _ _ _ i j
     rw [Ag0,if_neg AGi,ho i j (.inr hj)];exact Int.dvd_refl 0)
 rw [hcut,show Ad4 L + s.toNat - Ad4 L=s.toNat by omega];congr 1
 ·refine AUm fun i j hi hj=>?_;rw [happ,Ahm];by_cases h2:s=2
  ·rw [if_pos h2];show Ayl _ _ _ _ _ i j=_;rw [Ah3,if_neg AGi,if_neg AGi,if_neg AGi,if_neg AGi]
  ·rw [if_neg h2];show Aq8 _ _ _ _ i j=_;rw [Ag0,if_neg AGi]
 ·rcases hs with rfl | rfl
  ·show det 1 _=_;rw [BEo];unfold shF;rw [happ,Ahm,if_neg (show ¬ (1:Int)=2 by decide)];show Aq8 _ _ _ _ _ _=_;rw [Ag0,if_pos ⟨rfl,rfl⟩];unfold dB;rw [if_neg (show ¬ (1:Int)=2 by decide)];show (2:Int) ^ E * a=2 ^ (1 * E) * a;rw [Nat.one_mul]
  ·show det 2 _=_;rw [BEp];unfold shF;have ev:∀ i j,bm (L ++ [((E:Int),2,a,b,c)]) i j=Ayl (bm L) (Ad4 L) (2 ^ E * a) (2 ^ E * b) (2 ^ E * c) i j:=fun i j=>by rw [happ,Ahm,if_pos rfl];rfl
   rw [ev,ev,ev,ev,Ah3,Ah3,Ah3,Ah3];unfold dB;rw [if_pos ⟨rfl,rfl⟩,if_neg AGi,if_neg AGi,if_neg AGi,if_pos ⟨rfl,rfl⟩,if_neg AGi,if_neg AGi,if_pos ⟨rfl,rfl⟩,if_neg AGi,if_pos ⟨rfl,rfl⟩,if_pos rfl];show _=(2:Int) ^ (2 * E) * (a * c - b * b);rw [Nat.two_mul,Int.pow_add];grind
theorem A7f:∀ (m:Nat) {L:List AWt},L.length=m->Apv L->(∀ b∈L,0<=b.1)->det (Ad4 L) (bm L)=2 ^ vL L * uL L
  | 0,L,h,_,_=>by
    rw [List.length_eq_zero_iff] at h;subst h
    rfl
  | m + 1,L,h,hs,he=>by
    rcases List.eq_nil_or_concat L with rfl | ⟨l,b,rfl⟩
    · simp at h
    · rw [List.concat_eq_append] at h hs he ⊢
      have hl:Apv l:=fun x hx=>hs x (List.mem_append_left _ hx)
      have hb:=hs b ATv
      have heb:=he b ATv
      have:=A7f m (L:=l) (by simpa using h) hl fun x hx=>he x (List.mem_append_left _ hx)
      obtain ⟨e,s,a,b,c⟩:=b
      rw [Ani,A0a hl hb heb,this,A7e,BCs,Int.pow_add]
      grind
theorem A92 {v K V:Nat} {d r U:Int} (hK:K=v + 3) (hd:d=r * 2 ^ v) (hr:r % 2=1) (hU:U % 2=1) (h:Eqm (2 ^ K) (2 ^ V * U) d):V=v/\U % 8=r % 8:=by
  have hP:PrI 2:=Az9 ⟨AGi,fun d h1 h2=>by omega⟩;have n2:∀ {x:Int},x % 2=1->¬ (2:Int) ∣ x:=fun hx h=>by have:=Int.emod_eq_zero_of_dvd h;omega
  have low:∀ {a:Nat},a<=K->((2:Int) ^ a ∣ 2 ^ V * U↔(2:Int) ^ a ∣ d):=fun {a} ha=>⟨fun h1=>Aro (h.down (AWh ha)).symm (Int.dvd_refl _) h1,fun h1=>Aro (h.down (AWh ha)) (Int.dvd_refl _) h1⟩;have h1:v<=V:=Awd hP (Int.mul_comm _ _) (n2 hU) ((low (a:=v) AGi).2 ⟨r,by rw [hd,Int.mul_comm]⟩)
  have hV:V=v:=by
    rcases Nat.lt_or_ge v V with h2 | h2
    · have h3:(2:Int) ^ (v + 1) ∣ d:=(low (a:=v + 1) AGi).1 (Int.dvd_trans (AWh AGi) ⟨U,rfl⟩);have:=Awd hP hd (n2 hr) h3;omega
    · omega
  refine ⟨hV,?_⟩;subst hV;have h2:=Aj9 h;rw [hd,hK,Int.pow_add] at h2;obtain ⟨w,hw⟩:=h2
  have h3:U - r=8 * w:=by
    refine Int.eq_of_mul_eq_mul_left (A1q hP V) ?_;have e8:(2:Int) ^ 3=8:=by decide
    rw [e8] at hw;grind
  omega
end Go.Proofs.YthbndcbclhkepaaGreatDoor
namespace Go.Proofs.YthbndcbclhkepaaGreatDoor
open Go Go.QF
set_option maxRecDepth 100000
section
variable {fuel n K k:Nat} {H T G:AS5} {L:List AWt}
theorem Ag2 {E:Nat} (u:Int):2 ^ E * u / 2 ^ Int.toNat (E:Int)=u:=by
 rw [Int.toNat_natCast];exact Int.mul_ediv_cancel_left _ (Int.pow_ne_zero AGk)
theorem BCt {x:Int} (hK:K<=30) (hx:0<=x/\x < 2 ^ K) (hf:100 < fuel):Ok (iter (fun s=>Abj fuel K x s) fuel 0) fun r=>(x=0/\r=K)∨ ∃ (E:Nat) (u:Int),r=E/\E < K/\x=u * 2 ^ E/\¬ (2:Int) ∣ u:=by
  refine AT9 (fun i s=>s=(i:Int)/\i<=K/\(2:Int) ^ i ∣ x) K ⟨rfl,Nat.zero_le _,by rw [Int.pow_zero];exact ⟨x,(Int.one_mul x).symm⟩⟩ AGi fun i s hi hI=>?_;obtain ⟨rfl,hiK,hd⟩:=hI;unfold Abj;obtain ⟨y,rfl⟩:=hd
  rcases Nat.lt_or_ge i K with h | h
  · rw [if_pos (show (i:Int) < (K:Int) by omega),if_pos (show 0<=(i:Int)/\(i:Int)<=64 by omega),Ag2,A91]
    by_cases h2:y % 2=0
    · rw [if_pos h2];simp only [Option.bind_some];refine AGq ⟨h,AV9 AGi,h,?_⟩;obtain ⟨z,rfl⟩:=Int.dvd_of_emod_eq_zero h2;exact ⟨z,by rw [Int.pow_succ];grind⟩
    · rw [if_neg h2];simp only [Option.bind_some];exact AGq (.inr ⟨i,y,rfl,h,Int.mul_comm _ _,fun h3=>h2 (Int.emod_eq_zero_of_dvd h3)⟩)
  · obtain rfl:i=K:=by omega
    rw [if_neg AGi];simp only [Option.bind_some];refine AGq (.inl ⟨?_,rfl⟩);have h0:(0:Int) < 2 ^ i:=Int.pow_pos AGk
    have hy:y=0:=by
      refine Classical.byContradiction fun hy=>?_
      rcases Int.lt_or_le y 1 with h1 | h1
      · have:=Int.mul_le_mul_of_nonneg_left (show y<= -1 by omega) (Int.le_of_lt h0);omega
      · have:=Int.mul_le_mul_of_nonneg_left h1 (Int.le_of_lt h0);omega
    rw [hy,Int.mul_zero]
theorem A7g {d r c l:Nat} (hK:K<=30) (hn:n<=8) (hG:Av5 n (2 ^ K) G) (hd:d<=n) (hk:k < n) (hS:QSt n k K G d k r c l) (hf:100 < fuel):
    Ok (iter (fun s=>Abk fuel K (tab n n G) (d:Int) s.1 s.2.1 s.2.2.1 s.2.2.2) fuel ((r:Int),(c:Int),(l:Int),(k:Int))) fun ex=> ∃ r c l:Nat,ex=((r:Int),(c:Int),(l:Int))/\QSt n k K G (d + 1) k r c l:=by
  refine AT9 (fun j s=> ∃ r c l:Nat,s=((r:Int),(c:Int),(l:Int),((k + j:Nat):Int))/\k + j<=n/\QSt n k K G d (k + j) r c l) (n - k) ⟨r,c,l,rfl,AGi,hS⟩ AGi fun j s hj hI=>?_;obtain ⟨r,c,l,rfl,hjn,hS⟩:=hI;unfold Abk;dsimp only;have e1:w64 (((k + j:Nat):Int) + (d:Int))=((k + j + d:Nat):Int):=by rw [wk AGi];omega
  rw [e1,AT8];refine ATt (fun h=>?_) fun h=>AGq ⟨r,c,l,rfl,hS.row AGi⟩;have hij:k + j + d < n:=by omega
  have hi:k + j < n:=by omega
  have hlK:l<=K:=by rcases hS with ⟨h1,_⟩ | ⟨h1,_⟩ <;> omega
  rw [AZj (AUc hi),AZj (ATx hij)];obtain ⟨e,he,hcase⟩:=BCt (fuel:=fuel) hK (hG (k + j) (k + j + d) hi hij) hf;rw [he];simp only [Option.bind_some]
  rcases hcase with ⟨h0,rfl⟩ | ⟨E,u,rfl,hEK,hx,hu⟩
  · rw [if_neg AGi];simp only [Option.bind_some];refine AGq ⟨AGi,r,c,l,?_,AGi,hS.old (by rw [h0];exact ⟨0,ATv⟩) fun _=>h0⟩;rw [AV9 AGi];rfl
  · by_cases hl:E < l
    · rw [if_pos AGi];simp only [Option.bind_some];refine AGq ⟨AGi,k + j,k + j + d,E,?_,AGi,hS.new AGi hij hx hu hl⟩;rw [AV9 AGi];rfl
    · rw [if_neg AGi];simp only [Option.bind_some];refine AGq ⟨AGi,r,c,l,?_,AGi,hS.old (by rw [hx];exact Int.dvd_trans (AWh AGi) ⟨u,Int.mul_comm _ _⟩) fun h=>by omega⟩;rw [AV9 AGi];rfl
theorem A7h (hK:K<=30) (hn:n<=8) (hG:Av5 n (2 ^ K) G) (hk:k < n) (hne:∃ e,k + e < n/\G k (k + e)≠0) (hf:100 < fuel):
    Ok (iter (fun s=>Abl fuel K (k:Int) (tab n n G) s.1 s.2.1 s.2.2.1 s.2.2.2) fuel ((k:Int),(k:Int),(K:Int),(0:Int))) fun ex=> ∃ r c l:Nat,ex=((r:Int),(c:Int),(l:Int))/\l < K/\PV n k 2 G r c l/\ ∀ a e,k<=a->a + e < n->(2:Int) ^ l ∣ G a (a + e):=by
 refine AT9 (fun d s=> ∃ r c l:Nat,s=((r:Int),(c:Int),(l:Int),(d:Int))/\d<=n - k/\QSt n k K G d k r c l) (n - k) ⟨k,k,K,rfl,Nat.zero_le _,QSt.init⟩ AGi fun d s hd hI=>?_;obtain ⟨r,c,l,rfl,hdn,hS⟩:=hI;unfold Abl;dsimp only;rw [AT8,AVj (x:=(n:Int) - (k:Int)) AGi AGi];refine ATt (fun h=>?_) fun h=>AGq ⟨r,c,l,rfl,?_⟩
 ·refine AGw (A7g hK hn hG AGi hk hS hf) fun ex hex=>?_;obtain ⟨r,c,l,rfl,hS⟩:=hex;refine AGq ⟨AGi,r,c,l,?_,AGi,hS⟩;rw [AV9 AGi]
 ·obtain rfl:d=n - k:=by omega
  exact hS.done hk hne
theorem Awe {i:Nat} (hn:n<=8) (hk:k<=i) (hi:i < n) (hf:100 < fuel):
    iter (fun s=>AYm fuel (k:Int) s.1 s.2.1 s.2.2) fuel ((i:Int),tab n n G,tab n n T)=some (tab n n (mvG k i G),tab n n (mvC k i T))/\
    iter (fun s=>AYn fuel (k:Int) s.1 s.2.1 s.2.2) fuel ((i:Int),tab n n G,tab n n T)=some (tab n n (mvG k i G),tab n n (mvC k i T))/\
    iter (fun s=>AYo fuel (k:Int) s.1 s.2.1 s.2.2) fuel ((i:Int),tab n n G,tab n n T)=some (tab n n (mvG k i G),tab n n (mvC k i T)):=by
  have e1:∀ c:Nat,c + 1 < n->w64 (((c + 1:Nat):Int) - 1)=(c:Int):=fun c hc=>by rw [wk AGi];omega
  refine ⟨Awc hn hk hi hf (fun c G T hc hcn=>?_) fun G T=>?_,Awc hn hk hi hf (fun c G T hc hcn=>?_) fun G T=>?_,Awc hn hk hi hf (fun c G T hc hcn=>?_) fun G T=>?_⟩
  · unfold AYm;rw [if_pos AGi,AZj (AUc hcn),e1 c hcn,AZj (AUc (show c < n by omega)),Awb (R:=AXb fuel ((c + 1:Nat):Int)) (RG:=fun X s=>Aal fuel ((c + 1:Nat):Int) X s.1 s.2) (RT:=fun X s=>Aam fuel ((c + 1:Nat):Int) X s.1 s.2) hn hcn hf (fun G T=>by unfold AXb;rfl) (fun G T=>by unfold AXb;rfl) (fun G T=>by unfold AXb;rfl) (fun X r M=>by unfold Aal;dsimp only;rw [AT8,e1 c hcn]) fun X r M=>by unfold Aam;dsimp only;rw [AT8,e1 c hcn]];rfl
  · unfold AYm;rw [if_neg AGi]
  · unfold AYn;rw [if_pos AGi,AZj (AUc hcn),e1 c hcn,AZj (AUc (show c < n by omega)),Awb (R:=AXc fuel ((c + 1:Nat):Int)) (RG:=fun X s=>Aan fuel ((c + 1:Nat):Int) X s.1 s.2) (RT:=fun X s=>Aao fuel ((c + 1:Nat):Int) X s.1 s.2) hn hcn hf (fun G T=>by unfold AXc;rfl) (fun G T=>by unfold AXc;rfl) (fun G T=>by unfold AXc;rfl) (fun X r M=>by unfold Aan;dsimp only;rw [AT8,e1 c hcn]) fun X r M=>by unfold Aao;dsimp only;rw [AT8,e1 c hcn]];rfl
  · unfold AYn;rw [if_neg AGi]
  · unfold AYo;rw [if_pos AGi,AZj (AUc hcn),e1 c hcn,AZj (AUc (show c < n by omega)),Awb (R:=AXd fuel ((c + 1:Nat):Int)) (RG:=fun X s=>Aap fuel ((c + 1:Nat):Int) X s.1 s.2) (RT:=fun X s=>Aaq fuel ((c + 1:Nat):Int) X s.1 s.2) hn hcn hf (fun G T=>by unfold AXd;rfl) (fun G T=>by unfold AXd;rfl) (fun G T=>by unfold AXd;rfl) (fun X r M=>by unfold Aap;dsimp only;rw [AT8,e1 c hcn]) fun X r M=>by unfold Aaq;dsimp only;rw [AT8,e1 c hcn]];rfl
  · unfold AYo;rw [if_neg AGi]
end
end Go.Proofs.YthbndcbclhkepaaGreatDoor
namespace Go.Proofs.YthbndcbclhkepaaGreatDoor
open Go Go.QF
set_option maxRecDepth 100000
section
variable {fuel n K k E:Nat} {H T G:AS5} {L:List AWt}
theorem DS.move {i:Nat} (S:DS n K H T G L k E) (hi:i < n):∀ (m f:Nat),i=f + m->k<=f->DS n K H (mvC f i T) (mvG f i G) L k E
  | 0,f,h,hf=>by
    obtain rfl:i=f:=h
    rw [A7b,A7a];exact S
  | m + 1,f,h,hf=>by
    have:=(DS.move S hi m (f + 1) AGi AGi).swap hf AGi (show k<=f + 1 by omega) AGi
    rwa [Ayp AGi,Ayo AGi] at this
theorem A7i {q P A y v c:Int} (hc:Eqm q c (-y * v)) (hv:Eqm q (v * A) 1):(P * y + c * (P * A)) % q=0:=by
 have one:Eqm q (P * y - P * y * (v * A)) 0:=by
   have:=(Eqm.refl q (P * y)).sub ((Eqm.refl q (P * y)).mul hv)
   rwa [Int.mul_one,Int.sub_self] at this
 exact Eqm.zero (((Eqm.refl _ _).add (hc.mul (Eqm.refl _ _))).trans (Eqm.trans (Eqm.of_eq (by grind)) one))
theorem A7j {A v:Int} (S:DS n K H T G L k E) (hK:K<=30) (hE:E<=K) (hn:n<=8) (hk:k < n) (hD:G k k=2 ^ E * A) (hv:Eqm (2 ^ K) (v * A) 1) (hf:100 < fuel):
    Ok (iter (fun s=>Aau fuel K (k:Int) E v s.1 s.2.1 s.2.2) fuel (((k + 1:Nat):Int),tab n n G,tab n n T)) fun ex=> ∃ T' G',ex=(tab n n G',tab n n T')/\DS n K H T' G' L k E/\G' k k=2 ^ E * A/\ ∀ j,k < j->j < n->G' k j=0:=by
  refine AT9 (fun i s=> ∃ T' G',s=(((k + 1 + i:Nat):Int),tab n n G',tab n n T')/\k + 1 + i<=n/\DS n K H T' G' L k E/\G' k k=2 ^ E * A/\ ∀ j,k < j->j < k + 1 + i->G' k j=0) (n - (k + 1)) ⟨T,G,rfl,AGi,S,hD,fun j h1 h2=>by omega⟩ AGi fun i s hi hI=>?_;obtain ⟨T',G',rfl,hin,S',hd,hz⟩:=hI;unfold Aau;dsimp only;rw [AT8];refine ATt (fun h=>?_) fun h=>AGq ⟨T',G',rfl,S',hd,fun j h1 h2=>hz j h1 AGi⟩;obtain ⟨j,hj⟩:∃ j,j=k + 1 + i:=⟨_,rfl⟩;rw [<- hj] at h hin hz ⊢;have hjn:j < n:=by omega
  obtain ⟨y,hy⟩:=S'.fl k j (Nat.le_refl k) hk AGi hjn;rw [AZj (AUc hk),AZj (ATx hjn),if_pos (show 0<=(E:Int)/\(E:Int)<=64 by omega),hy,Ag2];have hc:mkE K (w64 (0 - y) * v)=some ((-y * v) % 2 ^ K):=mk_val hK ((((Akd hK _).trans (Eqm.of_eq (Int.zero_sub y))).mul (Eqm.refl _ v)));unfold mkE at hc;rw [hc];simp only [Option.bind_some];obtain ⟨c,hce⟩:∃ c,c=(-y * v) % 2 ^ K:=⟨_,rfl⟩;rw [<- hce,Az8 (R:=AXe fuel K (k:Int) (j:Int) c) (RG:=fun X s=>Aar fuel K (k:Int) (j:Int) c X s.1 s.2) (RT:=fun X s=>Aas fuel K (k:Int) (j:Int) c X s.1 s.2) (RE:=Aat fuel K (k:Int) (j:Int) c) hK hn hjn hk AGi hf (fun G T=>by unfold AXe;rfl) (fun G T=>by unfold AXe;rfl) (fun G T=>by unfold AXe;rfl) (fun X r M=>by unfold Aar;dsimp only;rw [AT8]) (fun X r M=>by unfold Aas;dsimp only;rw [AT8]) fun F s M=>by unfold Aat;rw [AUi]];simp only [Option.bind_some];have S2:=S'.add (c:=c) hE (show k<=j by omega) hjn (Nat.le_refl k) hk AGi
  refine AGq ⟨AGi,_,_,?_,AGi,S2,?_,fun j' h1 h2=>?_⟩
  · rw [hj,AV9 AGi];rfl
  · rw [Ae5,if_neg AGi,if_neg AGi];exact hd
  · rw [Ae5,if_neg AGi]
    by_cases h3:j'=j
    · rw [if_pos h3,hy,hd];exact A7i (hce ▸ Eqm.mod _ _) hv
    · rw [if_neg h3];exact hz j' h1 AGi
theorem A3r {A B C v:Int} (S:DS n K H T G L k E) (hs:∀ i j,i < n->j < n->H i j=H j i) (hK:K<=30) (hE:E<=K) (hn:n<=8) (hk:k + 1 < n) (hA:G k k=2 ^ E * A) (hB:G k (k + 1)=2 ^ E * B) (hC:G (k + 1) (k + 1)=2 ^ E * C) (hv:Eqm (2 ^ K) (v * (A * C - B * B)) 1) (hf:100 < fuel):
    Ok (iter (fun s=>Aa1 fuel K (k:Int) E (2 ^ E * A) (2 ^ E * B) (2 ^ E * C) v s.1 s.2.1 s.2.2) fuel (((k + 2:Nat):Int),tab n n G,tab n n T)) fun ex=> ∃ T' G',ex=(tab n n G',tab n n T')/\DS n K H T' G' L k E/\(G' k k=2 ^ E * A/\G' k (k + 1)=2 ^ E * B/\G' (k + 1) (k + 1)=2 ^ E * C)/\ ∀ j,k + 1 < j->j < n->G' k j=0/\G' (k + 1) j=0:=by
  refine AT9 (fun i s=> ∃ T' G',s=(((k + 2 + i:Nat):Int),tab n n G',tab n n T')/\k + 2 + i<=n/\DS n K H T' G' L k E/\(G' k k=2 ^ E * A/\G' k (k + 1)=2 ^ E * B/\G' (k + 1) (k + 1)=2 ^ E * C)/\ ∀ j,k + 1 < j->j < k + 2 + i->G' k j=0/\G' (k + 1) j=0) (n - (k + 2)) ⟨T,G,rfl,AGi,S,⟨hA,hB,hC⟩,fun j h1 h2=>by omega⟩ AGi fun i s hi hI=>?_;obtain ⟨T',G',rfl,hin,S',⟨h1,h2,h3⟩,hz⟩:=hI;unfold Aa1;dsimp only;rw [AT8];refine ATt (fun h=>?_) fun h=>AGq ⟨T',G',rfl,S',⟨h1,h2,h3⟩,fun j h1 h2=>hz j h1 AGi⟩;obtain ⟨j,hj⟩:∃ j,j=k + 2 + i:=⟨_,rfl⟩;rw [<- hj] at h hin hz ⊢;have hjn:j < n:=by omega
  have hk0:k < n:=by omega
  have e1:w64 ((k:Int) + 1)=((k + 1:Nat):Int):=AV9 AGi;obtain ⟨x,hx⟩:=S'.fl k j (Nat.le_refl k) hk0 AGi hjn;obtain ⟨y,hy⟩:=S'.fl (k + 1) j AGi hk AGi hjn;have hEE:0<=(E:Int)/\(E:Int)<=64:=by omega
  rw [e1,AZj (AUc hk0),AZj (ATx hjn),if_pos hEE,AZj (AUc hk),AZj (ATx hjn),if_pos hEE,hx,hy,Ag2,Ag2,Ag2,Ag2,Ag2];have sub:∀ a b c d:Int,Eqm (2 ^ K) (w64 (a * b) - w64 (c * d)) (a * b - c * d):=fun a b c d=>(Akd hK _).sub (Akd hK _);have hc1:mkE K (w64 (B * y) - w64 (C * x))=some ((B * y - C * x) % 2 ^ K):=mk_val hK (sub _ _ _ _);have hd1:mkE K (w64 (B * x) - w64 (A * y))=some ((B * x - A * y) % 2 ^ K):=mk_val hK (sub _ _ _ _);have hc2:mkE K ((B * y - C * x) % 2 ^ K * v)=some ((B * y - C * x) * v % 2 ^ K):=mk_val hK ((Eqm.mod _ _).mul (Eqm.refl _ v));have hd2:mkE K ((B * x - A * y) % 2 ^ K * v)=some ((B * x - A * y) * v % 2 ^ K):=mk_val hK ((Eqm.mod _ _).mul (Eqm.refl _ v));unfold mkE at hc1 hd1 hc2 hd2;rw [hc1];simp only [Option.bind_some];rw [hd1];simp only [Option.bind_some];rw [hc2];simp only [Option.bind_some];obtain ⟨c,hce⟩:∃ c,c=(B * y - C * x) * v % 2 ^ K:=⟨_,rfl⟩;obtain ⟨d,hde⟩:∃ d,d=(B * x - A * y) * v % 2 ^ K:=⟨_,rfl⟩;rw [<- hde] at hd2;rw [<- hce,Az8 (R:=AXf fuel K (k:Int) (j:Int) c) (RG:=fun X s=>Aav fuel K (k:Int) (j:Int) c X s.1 s.2) (RT:=fun X s=>Aaw fuel K (k:Int) (j:Int) c X s.1 s.2) (RE:=Aax fuel K (k:Int) (j:Int) c) hK hn hjn hk0 AGi hf (fun G T=>by unfold AXf;rfl) (fun G T=>by unfold AXf;rfl) (fun G T=>by unfold AXf;rfl) (fun X r M=>by unfold Aav;dsimp only;rw [AT8]) (fun X r M=>by unfold Aaw;dsimp only;rw [AT8]) fun F s M=>by unfold Aax;rw [AUi]];simp only [Option.bind_some];rw [hd2];simp only [Option.bind_some];rw [Az8 (R:=AXg fuel K (k:Int) (j:Int) d) (RG:=fun X s=>Aay fuel K (k:Int) (j:Int) d X s.1 s.2) (RT:=fun X s=>Aaz fuel K (k:Int) (j:Int) d X s.1 s.2) (RE:=Aa0 fuel K (k:Int) (j:Int) d) hK hn hjn hk AGi hf (fun G T=>by unfold AXg;rfl) (fun G T=>by unfold AXg;rfl) (fun G T=>by unfold AXg;rfl) (fun X r M=>by unfold Aay;dsimp only;rw [AT8,e1]) (fun X r M=>by unfold Aaz;dsimp only;rw [AT8,e1]) fun F s M=>by unfold Aa0;rw [AUi,e1]];simp only [Option.bind_some];have S2:=(S'.add (c:=c) hE (show k<=j by omega) hjn (Nat.le_refl k) hk0 AGi).add (c:=d) hE (show k<=j by omega) hjn (show k<=k + 1 by omega) hk AGi;have keep:∀ a b,a≠j->b≠j->Atb (2 ^ K) j (k + 1) d (Atb (2 ^ K) j k c G') a b=G' a b:=fun a b ha hb=>by rw [Ae5,if_neg ha,if_neg hb,Ae5,if_neg ha,if_neg hb]
  have at':∀ a,a≠j->Atb (2 ^ K) j (k + 1) d (Atb (2 ^ K) j k c G') a j=((G' a j + c * G' a k) % 2 ^ K + d * G' a (k + 1)) % 2 ^ K:=fun a ha=>by
    rw [Ae5,if_neg ha,if_pos rfl,Ae5,if_neg ha,if_pos rfl,Ae5,if_neg ha,if_neg AGi]
  refine AGq ⟨AGi,_,_,?_,AGi,S2,⟨?_,?_,?_⟩,fun j' h4 h5=>?_⟩
  · rw [hj,AV9 AGi];rfl
  · rw [keep _ _ AGi AGi];exact h1
  · rw [keep _ _ AGi AGi];exact h2
  · rw [keep _ _ AGi AGi];exact h3
  · by_cases h6:j'=j
    · have hsy:G' (k + 1) k=2 ^ E * B:=by rw [S'.e.sym hs S'.rg hk hk0];exact h2
      rw [h6,at' k AGi,at' (k + 1) AGi,hx,hy,h1,h2,h3,hsy];exact A3o (hce ▸ Eqm.mod _ _) (hde ▸ Eqm.mod _ _) hv
    · rw [keep _ _ AGi h6,keep _ _ AGi h6];exact hz j' h4 AGi
theorem Awf:∀ {L:List AWt},Apv L->L.length<=Ad4 L
  | [],_=>Nat.le_refl 0
  | c :: L,h=>by
    have h1:=Awf (L:=L) fun x hx=>h x (List.mem_cons_of_mem _ hx)
    have h2:=h c ATv
    rw [Ahl,List.length_cons];omega
theorem Atf {x:Int}: ¬ (2:Int) ∣ x↔x % 2=1:=⟨fun h=>by have: ¬ x % 2=0:=fun h2=>h (Int.dvd_of_emod_eq_zero h2);omega,fun h h2=>by have:=Int.emod_eq_zero_of_dvd h2;omega⟩
theorem Awg {A:Int} (hEK:E<=K) (h:0<=2 ^ E * A/\(2:Int) ^ E * A < 2 ^ K):0<=A/\A < 2 ^ (K - E):=by
 have h0:(0:Int) < 2 ^ E:=Int.pow_pos AGk;refine ⟨Int.nonneg_of_mul_nonneg_right h.1 h0,Int.lt_of_mul_lt_mul_left ?_ (Int.le_of_lt h0)⟩;rw [<- Int.pow_add,show E + (K - E)=K by omega];exact h.2
theorem A93 {M:List (List Int)} (hM:M.length=n) (S:DS n K H T G L k E) (B:DL K L k E) (hs:∀ i j,i < n->j < n->H i j=H j i) (hd: ¬ (2:Int) ^ (K - 2) ∣ det n H) (hK3:3<=K) (hK:K<=30) (hn:n<=8) (hk:k < n) (hf:2147483648 < fuel):
    ∃ T' G' L' k' E',AWk fuel M K (k:Int) (tab n n G) (tab n n T) L=some (.inl ((k':Nat),tab n n G',tab n n T',L'))/\k < k'/\k'<=n/\DS n K H T' G' L' k' E'/\DL K L' k' E':=by
  have hP2:Pr 2:=⟨AGi,fun d h1 h2=>by omega⟩;have hI:=Az9 hP2;have hf2:100 < fuel:=by omega
  have hq1:(2:Int) ^ 1<=2 ^ K:=Ace AGk AGi;have hq2:(2:Int) ^ K<=2 ^ 30:=Ace AGk hK;rw [show (2:Int) ^ 30=1073741824 by decide] at hq2;rw [Int.pow_succ,Int.pow_zero,Int.one_mul] at hq1;have hd2: ¬ (2:Int) ^ K ∣ det n H:=fun h=>hd (Int.dvd_trans (AWh AGi) h);obtain ⟨ex,hpv,r,c,F,rfl,hFK,P,hall⟩:=A7h (fuel:=fuel) (n:=n) (k:=k) (K:=K) (G:=G) hK hn S.rg hk (S.some hs hd2 hk) hf2;have S1:=S.low hs hall;obtain ⟨u,hu,hpu⟩:=P.u;have hrk:=P.hr;have hrc:=P.hrc;have hcn:=P.hc;have hrn:r < n:=by omega
  have hEF:=Awd hI hu hpu (S.fl r c P.hr hrn AGi P.hc);have hFb:=S1.bound hs hd AGi hk;have hFF:0<=(F:Int)/\(F:Int)<=64:=by omega
  have hLk:L.length<=8:=by have:=Awf B.sz;have:=B.sum;omega
  by_cases hne:r=c
  · subst hne;have S2:=S1.move (i:=r) hrn (r - k) k AGi (Nat.le_refl k);have hdk:mvG k r G k k=2 ^ F * u:=by unfold mvG;rw [Az7,hu,Int.mul_comm]
    obtain ⟨v,hv,hvi⟩:=A66 (f:=fuel) (x:=u) (m:=2 ^ K) AGi AGi (Aux hP2 hpu AGi) hf;have hvq:Eqm (2 ^ K) (v * u) 1:=((Eqm.refl _ v).mul (Eqm.mod _ u)).symm.trans hvi.2.2;obtain ⟨ex,hcl,T2,G2,rfl,S3,hd3,hz3⟩:=A7j (fuel:=fuel) S2 hK AGi hn hk hdk hvq hf2;have hub:=Awg (E:=F) (K:=K) (A:=u) AGi (hd3 ▸ S3.rg k k hk hk)
    refine ⟨T2,G2,L ++ [((F:Int),1,u,0,0)],k + 1,F,?_,AGi,AGi,S3.next1 hs B.sz B.sum hk hz3 hd3,B.push hEF rfl ⟨⟨by dsimp only;omega,by rw [if_pos rfl];dsimp only;omega⟩,?_⟩ (m:=1) rfl (.inl rfl)⟩
    · unfold AWk;rw [hM,if_pos AGi,hpv];simp only [Option.bind_some];rw [if_neg AGi,(Awe (fuel:=fuel) (G:=G) (T:=T) hn hrk hrn hf2).2.2];simp only [Option.bind_some];rw [AZj (AUc hk),AZj (ATx hk),if_pos hFF,if_pos trivial,if_pos (show 0<=(K:Int)/\(K:Int)<=64 by omega),hdk,Ag2,Arr hK,hv];simp only [Option.bind_some];rw [As8 (x:=[v]) rfl,As8 (x:=v) rfl];simp only [Option.bind_some];rw [AV9 AGi,hcl];simp only [Option.bind_some];rw [if_pos AGi,AV9 AGi]
    · rw [if_pos rfl];dsimp only;rw [Int.toNat_natCast];refine ⟨⟨?_,hub.2⟩,hpu,rfl,rfl⟩
      rcases Int.lt_or_le 0 u with h | h
      · exact h
      · exact absurd (show (2:Int) ∣ u by rw [show u=0 by omega];exact ⟨0,rfl⟩) hpu
  · have hlt:r < c:=by omega
    have hdg:=P.dg hne;have S2:=(S1.move (i:=c) hcn (c - k) k AGi (Nat.le_refl k)).move (i:=r + 1) AGi (r + 1 - k) k AGi (Nat.le_refl k);obtain ⟨p1,p2,p3⟩:=A90 hrk hlt G;obtain ⟨a,ha⟩:=hdg r hrk hrn;obtain ⟨b,hb⟩:=hdg c AGi hcn;have ha2:G r r=2 ^ F * (2 * a):=by rw [ha,Int.pow_succ,Int.mul_assoc]
    have hb2:G c c=2 ^ F * (2 * b):=by rw [hb,Int.pow_succ,Int.mul_assoc]
    rw [ha2] at p1;rw [hu,Int.mul_comm] at p2;rw [hb2] at p3;have hk1:k + 1 < n:=by omega
    have hu1:=Atf.1 hpu
    have hdet: ¬ (2:Int) ∣ 2 * a * (2 * b) - u * u:=Atf.2 (by
      have h1:u * u % 2=1:=by rw [Int.mul_emod,hu1];rfl
      have h2:2 * a * (2 * b)=2 * (a * (2 * b)):=Int.mul_assoc _ _ _;omega)
    obtain ⟨D,hD⟩:∃ D,D=(2 * a * (2 * b) - u * u) % 2 ^ K:=⟨_,rfl⟩
    have hDnd: ¬ (2:Int) ∣ D:=fun h=>hdet (by
      have h2:Eqm 2 D (2 * a * (2 * b) - u * u):=by rw [hD];exact (Eqm.mod (2 ^ K) _).down ⟨2 ^ (K - 1),by rw [<- Int.pow_succ',show K - 1 + 1=K by omega]⟩
      exact Aro h2.symm (Int.dvd_refl _) h)
    obtain ⟨v,hv,hvi⟩:=A66 (f:=fuel) (x:=D) (m:=2 ^ K) AGi AGi (Aux hP2 hDnd AGi) hf
    have hvq:Eqm (2 ^ K) (v * (2 * a * (2 * b) - u * u)) 1:=by
      refine Eqm.trans ?_ hvi.2.2;refine (Eqm.refl _ v).mul ?_;rw [hD];exact ((Eqm.mod _ _).trans (Eqm.mod _ _)).symm
    obtain ⟨ex,hcl,T2,G2,rfl,S3,⟨q1,q2,q3⟩,hz3⟩:=A3r (fuel:=fuel) S2 hs hK AGi hn hk1 p1 p2 p3 hvq hf2;have b1:=Awg (E:=F) (K:=K) (A:=2 * a) AGi (q1 ▸ S3.rg k k hk hk);have b2:=Awg (E:=F) (K:=K) (A:=u) AGi (q2 ▸ S3.rg k (k + 1) hk hk1);have b3:=Awg (E:=F) (K:=K) (A:=2 * b) AGi (q3 ▸ S3.rg (k + 1) (k + 1) hk1 hk1)
    refine ⟨T2,G2,L ++ [((F:Int),2,2 * a,u,2 * b)],k + 2,F,?_,AGi,AGi,S3.next2 hs B.sz B.sum hk1 hz3 q1 q2 q3,B.push hEF rfl ⟨⟨by dsimp only;omega,by rw [if_pos rfl];dsimp only;omega⟩,?_⟩ (m:=2) rfl (.inr rfl)⟩
    · have hm1:=(Awe (fuel:=fuel) (G:=G) (T:=T) hn (show k<=c by omega) hcn hf2).1;have hm2:=(Awe (fuel:=fuel) (G:=mvG k c G) (T:=mvC k c T) hn (show k<=r + 1 by omega) (show r + 1 < n by omega) hf2).2.1;have hmk:mkE K (w64 (2 * a * (2 * b)) - w64 (u * u))=some D:=by rw [hD];exact mk_val hK ((Akd hK _).sub (Akd hK _))
      unfold mkE at hmk;unfold AWk;rw [hM,if_pos AGi,hpv];simp only [Option.bind_some];rw [if_pos AGi,hm1];simp only [Option.bind_some];rw [AV9 AGi,hm2];simp only [Option.bind_some];rw [AZj (AUc hk),AZj (ATx hk),if_pos hFF,if_neg AGk,AV9 AGi,AZj (ATx hk1),if_pos hFF,AZj (AUc hk1),AZj (ATx hk1),if_pos hFF,p1,p2,p3,Ag2,Ag2,Ag2,hmk];simp only [Option.bind_some];rw [if_pos (show 0<=(K:Int)/\(K:Int)<=64 by omega),Arr hK,hv];simp only [Option.bind_some];rw [As8 (x:=[v]) rfl,As8 (x:=v) rfl];simp only [Option.bind_some];rw [show w64 ((k:Int) + 2)=((k + 2:Nat):Int) by rw [wk AGi];rfl,hcl];simp only [Option.bind_some];rw [if_pos AGi,show w64 ((k:Int) + 2)=((k + 2:Nat):Int) by rw [wk AGi];rfl]
    · rw [if_neg (show ¬ (2:Int)=1 by decide)];dsimp only;rw [Int.toNat_natCast];exact ⟨⟨b1,b2,b3⟩,AGi,hu1,AGi⟩
end
theorem A7k {fuel n:Nat} {M:List (List Int)} (hM:M.length=n) (hn:n<=8) (hf:100 < fuel):iter (fun s=>Abm fuel M s.1 s.2) fuel (0,[])=some (tab n n dl):=by
  apply ok_eq;refine AT9 (fun i s=>s=((i:Int),AVs i fun a=>AVs n (dl a))/\i<=n) n ⟨rfl,Nat.zero_le _⟩ AGi fun i s hi hI=>?_;obtain ⟨rfl,hin⟩:=hI;unfold Abm;dsimp only;rw [hM]
  refine ATt (fun h=>?_) fun h=>?_
  · have hi:i < n:=by omega
    rw [if_pos AGi,AUi,if_pos AGi,Int.toNat_natCast,AY1 n (0:Int)]
    have hget:(AVs i (fun a=>AVs n (dl a)) ++ [AVs n fun _=>(0:Int)])[i]? =some (AVs n fun _=>(0:Int)):=by
      rw [List.getElem?_append_right (by rw [AUi];exact Nat.le_refl _),AUi,Nat.sub_self];rfl
    rw [AZj hget,AZj (ATx hi),Apr,AV9 AGi];refine AGq ⟨hi,?_,hi⟩;congr 1;rw [AU2,List.set_append,if_neg (by rw [AUi];omega),AUi,Nat.sub_self];show AVs i (fun a=>AVs n (dl a)) ++ [AVs n fun c=>if c=i then 1 else 0]=_
    have:AVs n (fun c=>if c=i then (1:Int) else 0)=AVs n (dl i):=AUf fun c _=>by
      unfold dl
      by_cases h:c=i
      · rw [if_pos h,if_pos h.symm]
      · rw [if_neg h,if_neg (fun e=>h e.symm)]
    rw [this];unfold AVs;rw [List.range_succ,List.map_append];rfl
  · obtain rfl:i=n:=by omega
    exact AGq rfl
theorem BCu {fuel:Nat} {M:List (List Int)} (R:Atr M) (hf:2147483648 < fuel):
    ∃ (K E:Nat) (T G:AS5) (L:List AWt),Abe fuel M=some ((2,tab M.length M.length T,L),0)/\AW2 fuel M 2=some ((K:Int),0)/\3<=K/\K<=30/\Av3 (det M.length (ent M)) 2 ((K:Int) - 3)/\DS M.length K (ent M) T G L M.length E/\DL K L M.length E:=by
  have hf2:100 < fuel:=by omega
  have hP2:Pr 2:=⟨AGi,fun d h1 h2=>by omega⟩;have hI:=Az9 hP2;obtain ⟨v,hv,hv2,hj,-⟩:=Aut (fuel:=fuel) R hP2 AGk hf2;obtain ⟨K,hk,hq,hk1,hk3⟩:=A7d R AGk AGk hv;have hK3:=hk3 rfl;have hK:=Aps (p:=2) AGk hq;rw [hk] at hj;rw [if_pos rfl] at hk;have hn:=R.1.2;have hs:∀ i j,i < M.length->j < M.length->ent M i j=ent M j i:=fun i j hi hj=>R.2.2.sym i j hi hj
  have hq1:(2:Int)<=2 ^ K:=by
    have h1:(2:Int) ^ 1<=2 ^ K:=Ace AGk hk1;rw [Int.pow_succ,Int.pow_zero,Int.one_mul] at h1;omega
  have hd: ¬ (2:Int) ^ (K - 2) ∣ det M.length (ent M):=fun h=>by
    obtain ⟨e,r,he,h1,h2⟩:=hv;have:=Awd (f:=K - 2) hI h1 h2 h;omega
  have hrd:isRed M=true:=(Aur M).2 R
  have hP:AW2 fuel M 2=some ((K:Int),0):=by
    unfold AW2 Ak3;rw [hrd];simp only [Option.bind_some,Bool.not_true,Bool.false_eq_true,reduceIte,not_true_eq_false];rw [hj];rfl
  unfold Abe;rw [hP];simp only [Option.bind_some];rw [if_neg (show ¬ ¬ True from fun h=>h trivial),if_pos (show 0<=(K:Int)/\(K:Int)<=64 by omega),Arr hK,BCr R hq1 hq hf2];simp only [Option.bind_some];rw [A7k rfl hn hf2];simp only [Option.bind_some]
  have S0:DS M.length K (ent M) dl (fun i j=>ent M i j % 2 ^ K) [] 0 0:=⟨fun i j _ _=>by
    unfold dl;split <;> omega,fun i j _ _=>Akb AGi _,BCl fun i j _ _=>Eqm.mod _ _,fun i j h=>absurd h (Nat.not_lt_zero i),fun i j h=>absurd h (Nat.not_lt_zero i),fun i j _ _ _ _=>⟨ent M i j % 2 ^ K,by rw [Int.pow_zero,Int.one_mul]⟩⟩
  have main:Ok (iter (fun s=>AWk fuel M K s.1 s.2.1 s.2.2.1 s.2.2.2) fuel (0,tab M.length M.length (fun i j=>ent M i j % 2 ^ K),tab M.length M.length dl,[])) fun ex=> ∃ (E:Nat) (T G:AS5) (L:List AWt),ex=(tab M.length M.length G,tab M.length M.length T,L)/\DS M.length K (ent M) T G L M.length E/\DL K L M.length E:=by
    refine Ang (fun s=> ∃ (k E:Nat) (T G:AS5) (L:List AWt),s=((k:Int),tab M.length M.length G,tab M.length M.length T,L)/\k<=M.length/\DS M.length K (ent M) T G L k E/\DL K L k E) (fun s=>M.length - s.1.toNat) (fun s hI=>?_) ⟨0,0,_,_,_,rfl,Nat.zero_le _,S0,DL.nil⟩ (by show M.length - 0 < fuel;omega);obtain ⟨k,E,T,G,L,rfl,hin,S,B⟩:=hI;dsimp only
    rcases Nat.lt_or_ge k M.length with h | h
    · obtain ⟨T',G',L',k',E',h1,h2,h3,h4,h5⟩:=A93 (fuel:=fuel) (M:=M) rfl S B hs hd hK3 hK hn h hf;rw [h1];refine AGq ⟨⟨k',E',T',G',L',rfl,h3,h4,h5⟩,?_⟩;show M.length - (k':Int).toNat < M.length - (k:Int).toNat;omega
    · obtain rfl:k=M.length:=by omega
      unfold AWk;rw [if_neg AGi];exact AGq ⟨E,T,G,L,rfl,S,B⟩
  obtain ⟨ex,h1,E,T,G,L,rfl,S,B⟩:=main;rw [h1];exact ⟨K,E,T,G,L,rfl,rfl,hK3,hK,by rwa [show (K:Int) - 3=v by omega],S,B⟩
end Go.Proofs.YthbndcbclhkepaaGreatDoor
namespace Go.Proofs.YthbndcbclhkepaaGreatDoor
open Go Go.QF
set_option maxRecDepth 100000
theorem pr2:Pr 2:=⟨AGi,fun d h1 h2=>by omega⟩
theorem A7l:isRed [[2,1],[1,2]]=true:=by
 unfold isRed
 rw [<- AZc (M:=[[2,1],[1,2]]) ⟨AGk,AGk,fun i j hi hj=>by
   have hi:i < 2:=hi
   have hj:j < 2:=hj
   rcases (by omega:i=0∨i=1) with rfl | rfl <;> rcases (by omega:j=0∨j=1) with rfl | rfl <;> decide⟩]
 decide +kernel
theorem Awh:AY3 (AW5 + 1)=some true:=by
 have Ab:100 < AW5 + 1:=Nat.lt_of_le_of_lt AGk (Nat.lt_succ_self AW5);have R:=(Aur _).1 A7l;have hd:det 2 (ent [[2,1],[1,2]])=3:=by decide +kernel
 obtain ⟨v,h1,h2,h3,h4⟩:=Aut (fuel:=AW5 + 1) R (p:=2) pr2 AGi Ab;obtain rfl:v=0:=Av4 (p:=2) (d:=3) AGi (by simpa [hd] using h1) ⟨0,3,rfl,AGk,AGk⟩;rw [if_pos rfl] at h3;unfold AY3 Afs AW2 Ak3;simp only [A7l,h3,Option.bind_some,Bool.not_true,Bool.false_eq_true,reduceIte];decide +kernel
end Go.Proofs.YthbndcbclhkepaaGreatDoor
namespace Go.Proofs.YthbndcbclhkepaaGreatDoor
open Go Go.QF
set_option maxRecDepth 100000
theorem Atg {c:Prop} [Decidable c] {α:Type} {a b:Option α} {R:α->Prop} (hc:c) (h:Ok a R):Ok (if c then a else b) R:=by rw [if_pos hc];exact h
end Go.Proofs.YthbndcbclhkepaaGreatDoor
namespace Go.Proofs.YthbndcbclhkepaaGreatDoor
open Go Go.QF
set_option maxRecDepth 100000
set_option maxHeartbeats 4000000
def Ab0 (fuel:Nat) (a3 Ab Ac Ad:Int):Option ((Int × Int × Int) ⊕ ((Int))):=
  (if 0 < Ac then (((((if (Int.tmod Ac 2)=1 then (if a3≠0 then (some ( (Int.tmod (w64 (Ad * Ab)) a3))) else none) else (some ( Ad))):Option ((Int))).bind (fun (Ae:Int)=>(if a3≠0 then (some ( ((Int.tmod (w64 (Ab * Ab)) a3),Ae))) else none))):Option ((Int × Int))).bind (fun ((Af,Ag):Int × Int)=>(some (Sum.inl (Af,(w64 (Int.tdiv Ac 2)),Ag))))) else (some (Sum.inr<| Ad)))
def AYp (fuel:Nat) (a1 a2 a3:Int):Option Int:=
  (if a3≠0 then ((AXj fuel a1 a3).bind fun x4=>((iter (fun s=>Ab0 fuel a3 s.1 s.2.1 s.2.2) fuel (x4,a2,(Int.tmod 1 a3))).bind (fun (Ae:Int)=>(some Ae)))) else none)
theorem Ajr {fuel:Nat} {h:AGt} {a1 a2 a3 r:Int} (hp:AYp fuel a1 a2 a3=some r):ATs Tryz.prog 103 #[(.int .i64 a1),(.int .i64 a2),(.int .i64 a3)] h (fun x h'=>Ext h h'/\x= .int .i64 r):=by
 unfold AYp at hp;refine cwf (l:=[_,_,_]) Tryz.func103 rfl rfl (AGm (ATw (AGj ?_)));obtain ⟨Am,Ao⟩:=ifN hp;refine Acw rfl rfl Am (AGu (AGo (AGm (AGj (AGj ?_)))));obtain ⟨x6,Ap,Aq⟩:=AGn Ao;refine AW0 (Kst.k0 h) (Agv Ap) fun Bc E9 Ai=>AGu (AGp (AYd 1073733763 Aq (fun x=>[(0,(.int .i64 x.1)),(1,(.int .i64 x.2.1)),(7,(.int .i64 x.2.2))]) (fun x=>Ai.L) Ai ⟨rfl,rfl,rfl,trivial⟩ ?_));rintro ⟨Ac,Bf,Aj⟩ Bg Bh Bi Aa Ad Ar;unfold Ab0 at Ad;refine AGo (AGm (AGj (AYb rfl rfl (AGr (⟨_,rfl,fun Ae=>?_,fun Ae=>?_⟩)))))
 ·refine AGy (q_t ?_);obtain ⟨Au,Av,Aw⟩:=AGn (ATy Ad Ae);refine Acg 1073610881 (fun x:(Int) × (Int)=>[(0,(.int .i64 x.1)),(7,(.int .i64 x.2))]) (fun x h'=>( (x.1,x.2))=Au/\Kst h h' (Aa.L)) ?_ ?_
  ·refine AGp ?_;obtain ⟨Ax,Ak,Ay⟩:=AGn Av;refine Acg 33423488 (fun x:(Int)=>[(7,(.int .i64 x))]) (fun x h'=>( x)=Ax/\Kst h h' (Aa.L)) ?_ ?_
   ·refine AGm (AGj (Acw rfl rfl AGk (AUy rfl rfl (AGr (⟨_,rfl,fun Af=>?_,fun Af=>?_⟩)))))
    ·refine AS3 (AGj (AGj (AZe rfl rfl (AGj ?_))));obtain ⟨Az,A3⟩:=ifN (ATy Ak Af);refine Acw rfl rfl Az (AGu ?_);exact ⟨((Int.tmod (w64 (Aj * Ac)) a3):(Int)),⟨AGl A3,Aa⟩,rfl,trivial⟩
    ·refine AGy (q_t ?_);exact ⟨(Aj:(Int)),⟨AGl (ATz Ak Af),Aa⟩,rfl,trivial⟩
   rintro A4 Bj Bl ⟨A5,A6⟩;subst A5;refine AS3 (AGj (AGj (AZe rfl rfl (AGj ?_))));obtain ⟨A7,A8⟩:=ifN Ay;refine Acw rfl rfl A7 (ATi (ATh (q_b (q_t ?_))));exact ⟨(((Int.tmod (w64 (Ac * Ac)) a3),A4):(Int) × (Int)),⟨AGl A8,A6⟩,rfl,rfl,trivial⟩
  rintro ⟨Bm,Bn⟩ Bo Bp ⟨A9,Ba⟩;subst A9;refine AS3 (AGj (Amr rfl rfl AGk (AGu ?_)));exact ⟨_,(AGl Aw).symm,Ba,rfl,rfl,rfl,trivial⟩
 ·refine AS8 (ATa (ATa (AT7 (q_t (AGm (AGj (AGu (AGz ?_))))))));obtain rfl:=AGl (Ar _ (AGl (ATz Ad Ae)).symm);exact ⟨_,AS2,Aa.x,rfl⟩
def AXw (fuel:Nat) (a1 a2:Int):Option Int:=
  ((AYp fuel a1 (w64 (Int.tdiv (w64 (a2 - 1)) 2)) a2).bind fun x3=>(if x3=0 then (some 0) else (if x3=1 then (some 1) else (some (-1)))))
theorem Ais {fuel:Nat} {h:AGt} {a1 a2 r:Int} (hp:AXw fuel a1 a2=some r):ATs Tryz.prog 52 #[(.int .i64 a1),(.int .i64 a2)] h (fun x h'=>Ext h h'/\x= .int .i64 r):=by
 unfold AXw at hp;refine cwf (l:=[_,_]) Tryz.func52 rfl rfl (AGm (AGu (AGo (AGm (AGj (AGj (AVd rfl rfl (Amr rfl rfl AGk (AGj ?_)))))))));obtain ⟨x3,Ah,Af⟩:=AGn hp;refine AW0 (Kst.k0 h) (Ajr Ah) fun h7 E6 Aa=>AGr (AGp (AGm (AUy rfl rfl (AGu (⟨_,rfl,fun Ab=>?_,fun Ab=>?_⟩)))))
 ·refine AGm (AGu (AGz (AUg (ATc ?_))));obtain rfl:=AGl (ATy Af Ab);exact ⟨_,AS2,Aa.x,rfl⟩
 ·refine AGm (AUy rfl rfl (AGu ?_));have Ag:=ATz Af Ab;refine ⟨_,rfl,fun Ac=>?_,fun Ac=>?_⟩
  ·refine AGm (AGu (AGz (AUg (ATc ?_))));obtain rfl:=AGl (ATy Ag Ac);exact ⟨_,AS2,Aa.x,rfl⟩
  ·refine AGy (q_b (q_t (AGm (AGu (AGz ?_)))));obtain rfl:=AGl (ATz Ag Ac);exact ⟨_,AS2,Aa.x,rfl⟩
def Adi (fuel:Nat) (a2 Ab:Int):Option ((Int) ⊕ ((Int))):=
  (((if ¬ Ab=0 then (if a2≠0 then (if (Int.tmod Ab a2)=0 then (some (Sum.inl <| ())) else (some (Sum.inr <| ()))) else none) else (some (Sum.inr <| ()))):Option ((Unit) ⊕ (Unit))).bind (fun ex=>match ex with | Sum.inl _=>(if a2≠0 then (some (Sum.inl (w64 (Int.tdiv Ab a2)))) else none) | Sum.inr (_)=>(some (Sum.inr<| Ab))))
def AZs (fuel:Nat) (a1 a2:Int):Option Int:=
  ((iter (fun s=>Adi fuel a2 s) fuel a1).bind (fun (Ac:Int)=>(some Ac)))
theorem Ald {fuel:Nat} {h:AGt} {a1 a2 r:Int} (hp:AZs fuel a1 a2=some r):ATs Tryz.prog 20 #[(.int .i64 a1),(.int .i64 a2)] h (fun x h'=>Ext h h'/\x= .int .i64 r):=by
 unfold AZs at hp;refine cwf (l:=[_,_]) Tryz.func20 rfl rfl (AGm (AGu (AGo (AGp ?_))));have K0:=Kst.k0 h;refine AYd 65505 hp (fun x=>[(0,(.int .i64 x))]) (fun x=>K0.L) K0 ⟨rfl,trivial⟩ ?_;rintro u9 Aw h6 y5 K8 Ah Ai;unfold Adi at Ah;obtain ⟨Ao,Aj,Ac⟩:=AGn Ah;refine Acg 8160 (fun x:Unit=>[]) (fun x h'=>(Sum.inl <| ())=Ao/\Kst h h' (K8.L)) ?_ ?_
 ·refine AGm (AGj (AWp rfl rfl (AGj ?_)));by_cases Ab: ¬ u9=0
  ·rw [decide_eq_true Ab];refine ATn 7 true (AGj (ATn 7 true (AGj (ATn 7 true ?_))));obtain ⟨Ap,Ak⟩:=ifN (ifT Aj Ab);refine Acw rfl rfl Ap (ATn 7 true (AUy rfl rfl (ATj rfl (AGr (⟨_,rfl,fun Ad=>?_,fun Ad=>?_⟩)))))
   ·refine AGy (q_t ?_);exact ⟨(():Unit),⟨AGl (ATy Ak Ad),K8⟩,trivial⟩
   ·obtain rfl:=AGl (ATz Ak Ad);refine AS8 (ATa (ATa (AT7 (q_t (AGm (AGj (AGu (AGz ?_))))))));obtain rfl:=AGl (Ai _ (AGl Ac).symm);exact ⟨_,AS2,K8.x,rfl⟩
  ·rw [decide_eq_false Ab];refine Afz 7 false (ATm rfl (AGr (ATr rfl ?_)));obtain rfl:=AGl (ifF Aj Ab);refine AS8 (ATa (ATa (AT7 (q_t (AGm (AGj (AGu (AGz ?_))))))));obtain rfl:=AGl (Ai _ (AGl Ac).symm);exact ⟨_,AS2,K8.x,rfl⟩
 rintro ⟨⟩ Az A3 ⟨Aq,Ar⟩;subst Aq;refine AGp (AS3 (AGj (AGj ?_)));obtain ⟨Au,Av⟩:=ifN Ac;refine Amr rfl rfl Au (ATi (ATh (q_b (q_t ?_))));exact ⟨_,(AGl Av).symm,Ar,rfl,trivial⟩
end Go.Proofs.YthbndcbclhkepaaGreatDoor
namespace Go.Proofs.YthbndcbclhkepaaGreatDoor
open Go Go.QF
set_option maxRecDepth 100000
theorem BCv {fuel:Nat} {a m:Int} (hm:0 < m) (Aa:m<=2147483647):AXj fuel a m=some (a % m):=BBz hm Aa
theorem A7m {p b:Int} (k:Nat):b ^ k=(b * b) ^ (k / 2) * b ^ (k % 2):=by
 have e:b * b=b ^ 2:=by rw [Int.pow_succ,Int.pow_succ,Int.pow_zero,Int.one_mul]
 rw [e,<- Int.pow_mul,<- Int.pow_add];congr 1;omega
theorem A7n {fuel:Nat} {a p:Int} {k:Nat} (hp:2<=p) (Af:p<=9973) (hk:k<=10000) (hf:100000 < fuel):AYp fuel a (k:Int) p=some (a ^ k % p):=by
 apply ok_eq;unfold AYp;refine AUq AGi ?_;rw [BCv AGi AGi];simp only [Option.bind_some];refine AGw (Ang (fun s:Int × Int × Int=> ∃ (b c:Int) (j:Nat),s=(b,(j:Int),c)/\(0<=b/\b < p)/\(0<=c/\c < p)/\j<=10000/\Eqm p (c * b ^ j) (a ^ k)) (fun s=>s.2.1.toNat) (Q:=fun e:Int=>e=a ^ k % p) (fun s hI=>?_) ⟨a % p,Int.tmod 1 p,k,rfl,Akb AGi a,?_,hk,?_⟩ (by show (k:Int).toNat < fuel;omega)) fun e he=>AGq he
 ·obtain ⟨b,c,j,rfl,hb,hc,hj,hI⟩:=hI;unfold Ab0;dsimp only;have hbb:0<=b * b/\b * b<=9973 * 9973:=⟨Int.mul_nonneg hb.1 hb.1,Int.mul_le_mul AGi AGi hb.1 AGk⟩;have hcb:0<=c * b/\c * b<=9973 * 9973:=⟨Int.mul_nonneg hc.1 hb.1,Int.mul_le_mul AGi AGi hb.1 AGk⟩;have Ad:Int.tmod (j:Int) 2=((j % 2:Nat):Int):=by rw [Int.tmod_eq_emod_of_nonneg AGi];omega
  have Ae:w64 (Int.tdiv (j:Int) 2)=((j / 2:Nat):Int):=by rw [Int.tdiv_eq_ediv_of_nonneg AGi,wk AGi];omega
  refine ATt (fun h=>?_) fun h=>AGq ?_
  ·rw [Ad,Ae,AVj (x:=c * b) AGi AGi,AVj (x:=b * b) AGi AGi,Int.tmod_eq_emod_of_nonneg (a:=c * b) AGi,Int.tmod_eq_emod_of_nonneg (a:=b * b) AGi];have hh:=A7m (p:=p) (b:=b) j;refine AGw (Q:=fun r:Int × Int=>r.1=b * b % p/\(0<=r.2/\r.2 < p)/\Eqm p (r.2 * (b * b) ^ (j / 2)) (c * b ^ j)) (AGw (Q:=fun c':Int=>(0<=c'/\c' < p)/\Eqm p (c' * (b * b) ^ (j / 2)) (c * b ^ j)) (ATt (fun h1=>AUq AGi (AGq ⟨Akb AGi _,?_⟩)) fun h1=>AGq ⟨hc,?_⟩) fun c' hc'=>AUq AGi (AGq ⟨rfl,hc'⟩)) fun r hr=>?_
   ·refine ((Eqm.mod p (c * b)).mul (Eqm.refl _ _)).trans (Eqm.of_eq ?_);rw [hh,show j % 2=1 by omega,Int.pow_succ,Int.pow_zero,Int.one_mul];grind
   ·refine Eqm.of_eq ?_;rw [hh,show j % 2=0 by omega,Int.pow_zero,Int.mul_one]
   ·obtain ⟨b',c'⟩:=r;obtain ⟨h1,h2,h3⟩:=hr;dsimp only at h1 h2 h3 ⊢;refine AGq ⟨⟨b',c',j / 2,rfl,h1 ▸ Akb AGi _,h2,AGi,?_⟩,?_⟩
    ·refine Eqm.trans ((Eqm.refl p c').mul ?_) (h3.trans hI);rw [h1]
     have:∀ m:Nat,Eqm p ((b * b % p) ^ m) ((b * b) ^ m):=fun m=>by
       induction m with
       | zero=>exact Eqm.of_eq (by rw [Int.pow_zero,Int.pow_zero])
       | succ m ih=>rw [Int.pow_succ,Int.pow_succ];exact ih.mul (Eqm.mod _ _)
     exact this _
    ·show (((j / 2:Nat):Int)).toNat < ((j:Int)).toNat;omega
  ·obtain rfl:j=0:=by omega
   rw [Int.pow_zero,Int.mul_one] at hI;rw [<- hI,Int.emod_eq_of_lt hc.1 hc.2]
 ·rw [Int.tmod_eq_emod_of_nonneg AGk];exact Akb AGi _
 ·rw [Int.tmod_eq_emod_of_nonneg AGk]
  have:∀ m:Nat,Eqm p ((a % p) ^ m) (a ^ m):=fun m=>by
    induction m with
    | zero=>exact Eqm.of_eq (by rw [Int.pow_zero,Int.pow_zero])
    | succ m ih=>rw [Int.pow_succ,Int.pow_succ];exact ih.mul (Eqm.mod _ _)
  refine ((Eqm.mod p 1).mul (this k)).trans (Eqm.of_eq (Int.one_mul _))
theorem A0b {fuel:Nat} {a p:Int} (hp:OPr p) (Aa:p<=9973) (hf:100000 < fuel):AXw fuel a p=some (lg p a):=by
 have h3:=hp.three;have h2:=hp.2;unfold AXw
 have e:w64 (Int.tdiv (w64 (p - 1)) 2)=(((p - 1) / 2).toNat:Int):=by
   rw [AVj (x:=p - 1) AGi AGi,Int.tdiv_eq_ediv_of_nonneg AGi,wk AGi];omega
 rw [e,A7n AGi Aa AGi hf];simp only [Option.bind_some];unfold lg;split
 ·rfl
 ·split <;> rfl
theorem BCw {fuel:Nat} {d p r:Int} {e:Nat} (hp:2<=p) (hd:d=r * p ^ e) (hr: ¬ p ∣ r) (Aa:0 < r) (Ag:d<=10000) (hf:100 < fuel):AZs fuel d p=some r:=by
 apply ok_eq;have hpe:∀ k:Nat,0 < p ^ k:=fun k=>Int.pow_pos AGi
 have he:e<=30:=Aps (p:=p) hp (by
   have:1 * p ^ e<=r * p ^ e:=Int.mul_le_mul_of_nonneg_right AGi (Int.le_of_lt (hpe e))
   omega)
 unfold AZs;refine AGw (AT9 (fun i s=>i<=e/\s=r * p ^ (e - i)) e (Q:=fun x:Int=>x=r) ⟨Nat.zero_le _,by rw [hd,Nat.sub_zero]⟩ AGi fun i s hi hI=>?_) fun x hx=>AGq hx;obtain ⟨hie,rfl⟩:=hI;have h0:0 < r * p ^ (e - i):=Int.mul_pos Aa (hpe _)
 have hle:r * p ^ (e - i)<=10000:=by
   have h1:p ^ (e - i)<=p ^ e:=Ace AGi AGi
   have:=Int.mul_le_mul_of_nonneg_left h1 (Int.le_of_lt Aa)
   omega
 unfold Adi;rcases Nat.lt_or_ge i e with h | h
 ·have e1:r * p ^ (e - i)=p * (r * p ^ (e - (i + 1))):=by
    rw [show e - i=e - (i + 1) + 1 by omega,Int.pow_succ];grind
  have hm:Int.tmod (r * p ^ (e - i)) p=0:=by rw [e1];exact Int.mul_tmod_right _ _
  rw [if_pos AGi,if_pos AGi,if_pos hm];simp only [Option.bind_some];refine AUq AGi (AGq ⟨h,h,?_⟩);rw [e1,Int.mul_tdiv_cancel_left _ AGi,AVj ?_ ?_]
  ·have:=Int.mul_pos Aa (hpe (e - (i + 1)));omega
  ·have h2:=Int.mul_pos Aa (hpe (e - (i + 1)));have h3:1 * (r * p ^ (e - (i + 1)))<=p * (r * p ^ (e - (i + 1))):=Int.mul_le_mul_of_nonneg_right AGi AGi;omega
 ·have h5:r * p ^ (e - i)=r:=by rw [show e - i=0 by omega,Int.pow_zero,Int.mul_one]
  rw [h5] at h0 ⊢;rw [if_pos AGi,if_pos AGi,if_neg fun h6=>hr (Int.dvd_of_tmod_eq_zero h6)];exact AGq rfl
def cN:List AX4->Int
  | []=>0
  | c :: l=>c.2.1 + cN l
def cV:List AX4->Int
  | []=>0
  | c :: l=>c.2.1 * c.1 + cV l
def cS:List AX4->Int
  | []=>1
  | c :: l=>c.2.2.1 * cS l
theorem Ath (l:List AX4) (c:AX4):cN (l ++ [c])=cN l + c.2.1:=by
 induction l with
 | nil=>simp [cN]
 | cons a l ih=>simp only [List.cons_append,cN,ih];omega
theorem Ati (l:List AX4) (c:AX4):cV (l ++ [c])=cV l + c.2.1 * c.1:=by
 induction l with
 | nil=>simp [cV]
 | cons a l ih=>simp only [List.cons_append,cV,ih];omega
theorem Atj (l:List AX4) (c:AX4):cS (l ++ [c])=cS l * c.2.2.1:=by
 induction l with
 | nil=>simp [cS]
 | cons a l ih=>simp only [List.cons_append,cS,ih];grind
theorem Aow {a b:Int} (ha:a=1∨a= -1) (hb:b=1∨b= -1):(a * b=1∨a * b= -1)/\w64 (a * b)=a * b:=by
 rcases ha with rfl | rfl <;> rcases hb with rfl | rfl <;> decide
def s8 (x:Int):Int:=if x % 8=3∨x % 8=5 then -1 else 1
theorem BD9 (x:Int):s8 x=1∨s8 x= -1:=by unfold s8;split <;> simp
def s2L:List AWt->Int
  | []=>1
  | b :: l=>s8 (dB b) * s2L l
theorem A95 (L:List AWt) (b:AWt):s2L (L ++ [b])=s2L L * s8 (dB b):=by
 induction L with
 | nil=>show _ * 1=1 * _;omega
 | cons c L ih=>show _ * s2L (L ++ [b])=_ * s2L L * _;rw [ih,Int.mul_assoc]
theorem Auy:∀ (L:List AWt) (i:Nat),Ad4 (L.take i)<=Ad4 L
  | [],i=>by rw [List.take_nil];exact Nat.le_refl _
  | c :: L,0=>Nat.zero_le _
  | c :: L,i + 1=>by
    rw [List.take_succ_cons,Ahl,Ahl]
    have:=Auy L i
    omega
theorem BEs (a:Int):AZk .and .i64 a 7=a % 8:=Ayn (k:=3) AGk a
def od (C:List AX4):Prop:= ∃ c∈C,c.1=0/\c.2.2.2.1=true
def oB (L:List AWt):Prop:= ∃ b∈L,b.2.1=1/\b.1=0
theorem A0c (l:List AX4) (c:AX4):od (l ++ [c])↔od l∨(c.1=0/\c.2.2.2.1=true):=by
 constructor
 ·rintro ⟨x,hx,h⟩;rcases List.mem_append.1 hx with h1 | h1
  ·exact .inl ⟨x,h1,h⟩
  ·rw [List.mem_singleton.1 h1] at h;exact .inr h
 ·rintro (⟨x,hx,h⟩ | h)
  ·exact ⟨x,List.mem_append_left _ hx,h⟩
  ·exact ⟨c,List.mem_append_right _ (List.mem_singleton.2 rfl),h⟩
theorem BCx (l:List AWt) (c:AWt):oB (l ++ [c])↔oB l∨(c.2.1=1/\c.1=0):=by
 constructor
 ·rintro ⟨x,hx,h⟩;rcases List.mem_append.1 hx with h1 | h1
  ·exact .inl ⟨x,h1,h⟩
  ·rw [List.mem_singleton.1 h1] at h;exact .inr h
 ·rintro (⟨x,hx,h⟩ | h)
  ·exact ⟨x,List.mem_append_left _ hx,h⟩
  ·exact ⟨c,List.mem_append_right _ (List.mem_singleton.2 rfl),h⟩
structure CRm (L:List AWt) (i:Nat) (e:Int) (D:List AX4):Prop where
  last:∃ l c,D=l ++ [c]/\c.1=e
  len:D.length<=i + 1
  ok:∀ c∈D,(0<=c.2.1/\c.2.1<=2 * (i:Int))/\(0<=c.1/\c.1<=60)/\(c.2.2.1=1∨c.2.2.1= -1)
  n:cN D=(Ad4 (L.take i):Int)
  v:cV D=(vL (L.take i):Int)
  s:cS D=s2L (L.take i)
  o:od D↔oB (L.take i)
structure BCy (L:List AWt) (i:Nat) (C:List AX4):Prop where
  last:i=0/\C=[]∨ ∃ l c b,C=l ++ [c]/\0 < i/\L[i - 1]? =some b/\c.1=b.1
  len:C.length<=i
  ok:∀ c∈C,(0<=c.2.1/\c.2.1<=2 * (i:Int))/\(0<=c.1/\c.1<=60)/\(c.2.2.1=1∨c.2.2.1= -1)
  n:cN C=(Ad4 (L.take i):Int)
  v:cV C=(vL (L.take i):Int)
  s:cS C=s2L (L.take i)
  o:od C↔oB (L.take i)
theorem BCz {fuel K n E:Nat} {T:List (List Int)} {L:List AWt} (B:DL K L n E) (hK:K<=30) (A7:1<=n) (hn:n<=8) (hf:100 < fuel):Ok (AWj fuel 2 T L) fun r=>r.2=true/\BCy L L.length r.1:=by
 have hl:=Awf B.sz;have hsum:=B.sum
 have A8:1<=L.length:=by
   rcases Nat.lt_or_ge 0 L.length with h | h
   · exact h
   · have:L=[]:=List.length_eq_zero_iff.1 AGi
     rw [this] at hsum
     have:Ad4 []=0:=rfl
     omega
 unfold AWj;rw [if_neg AGk,if_neg AGi];simp only [Option.bind_some];refine AGw (Q:=fun ex=> ∃ C,ex= .inr C/\BCy L L.length C) (AT9 (fun i s=> ∃ C,s=(C,(Ad4 (L.take i):Int),(i:Int))/\i<=L.length/\BCy L i C) L.length ⟨[],rfl,Nat.zero_le _,⟨.inl ⟨rfl,rfl⟩,Nat.le_refl _,fun c hc=>(nomatch hc),rfl,rfl,rfl,⟨fun ⟨c,hc,_⟩=>(nomatch hc),fun ⟨c,hc,_⟩=>(nomatch hc)⟩⟩⟩ AGi fun i s hi hI=>?_) fun ex hex=>?_
 ·obtain ⟨C,rfl,hin,H⟩:=hI;unfold Acn;dsimp only;refine ATt (fun h=>?_) fun h=>AGq ⟨C,rfl,by rwa [show L.length=i by omega]⟩;have hi:i < L.length:=by omega
  obtain ⟨b,hbi⟩:∃ b,L[i]? =some b:=⟨L[i],List.getElem?_eq_getElem hi⟩;have htk:L.take (i + 1)=L.take i ++ [b]:=by rw [List.take_add_one,hbi];rfl
  have hbm:b∈L:=List.mem_of_getElem? hbi;have hsz:=B.sz b hbm;obtain ⟨⟨Ax,Aq⟩,hpw⟩:=(B.rg i hi).1 b hbi;have hasc:=(B.rg i hi).2;rw [if_pos rfl] at Aq
  have hbs:Ad4 (L.take i) + b.2.1.toNat<=8:=by
    have:=Auy L (i + 1)
    rw [htk,Ani] at this
    omega
  have A9:i<=8:=by omega
  rw [AZj hbi];obtain ⟨e,s,x,y,z⟩:=b;dsimp only at hsz Ax Aq hpw hbs ⊢;obtain ⟨e,rfl⟩:∃ e':Nat,e=e':=⟨e.toNat,AGi⟩;have hprev:∀ c,0 < i->L[i - 1]? =some c->c.1<=(e:Int):=fun c h0 hc=>hasc h0 _ _ hbi hc;have Ao:∀ w:Int,Eqm 8 (w64 w) w:=fun w=>(Akd (K:=3) AGk w)
  have chk:Ok ((if (e:Int) < 0 then (some (Sum.inl <| ([],false))) else (if 60 < (e:Int) then (some (Sum.inl <| ([],false))) else ((AXk fuel e s x y z).bind fun w=>(if (!w)=true then (some (Sum.inl <| ([],false))) else (if (0:Int) < (i:Int) then ((gI L (w64 ((i:Int) - 1))).bind fun c=>(if (e:Int) < c.1 then (some (Sum.inl <| ([],false))) else (some (Sum.inr <| ())))) else (some (Sum.inr <| ()))))))):Option ((((List AX4) × Bool)) ⊕ (Unit))) fun r=>r= .inr ():=by
    rw [if_neg AGi,if_neg AGi]
    refine AGw BD7 fun w hw=>?_
    have hwt:w=true:=hw.2 (by
      by_cases h1:s=1
      · rw [if_pos h1] at hpw ⊢
        exact ⟨Atf.1 hpw.2.1,hpw.2.2⟩
      · rw [if_neg h1] at hpw ⊢
        exact ⟨hsz.resolve_left h1,hpw.2⟩)
    rw [hwt]
    refine ATt (fun h=>absurd h AGk) fun _=>ATt (fun h0=>?_) fun _=>AGq rfl
    obtain ⟨c,hc⟩:∃ c,L[i - 1]? =some c:=⟨L[i - 1],List.getElem?_eq_getElem _⟩
    have:=hprev c AGi hc
    rw [show w64 ((i:Int) - 1)=((i - 1:Nat):Int) by rw [wk AGi];omega,AZj hc,if_neg AGi]
    exact AGq rfl
  rw [ok_eq chk];simp only [Option.bind_some];rw [AVj (x:=(Ad4 (L.take i):Int) + s) AGi AGi,if_neg AGi]
  have hnew:CRm L i e (C ++ [((e:Int),0,1,false,0)]):=by
    refine ⟨⟨C,_,rfl,rfl⟩,by simp;exact H.len,fun c hc=>?_,by rw [Ath,H.n];simp,by rw [Ati,H.v];simp,by rw [Atj,H.s];simp,by rw [A0c,<- H.o];simp⟩
    rcases List.mem_append.1 hc with h | h
    · exact H.ok c h
    · rw [List.mem_singleton.1 h];dsimp only;exact ⟨AGi,AGi,.inl rfl⟩
  have hCl:=H.len
  have key:Ok (if (i:Int)=0 then (if C.length<=100000000 then (some ( (C ++ [((e:Int),0,1,false,0)]))) else none) else ((gI L (w64 ((i:Int) - 1))).bind fun c=>(if c.1 < (e:Int) then (if C.length<=100000000 then (some ( (C ++ [((e:Int),0,1,false,0)]))) else none) else (some ( C)))):Option (List AX4)) (CRm L i e):=by
    refine ATt (fun h0=>AUq AGi (AGq hnew)) fun h0=>?_
    obtain ⟨c,hc⟩:∃ c,L[i - 1]? =some c:=⟨L[i - 1],List.getElem?_eq_getElem _⟩
    have h2:=hprev c AGi hc
    rw [show w64 ((i:Int) - 1)=((i - 1:Nat):Int) by rw [wk AGi];omega,AZj hc]
    refine ATt (fun h1=>AUq AGi (AGq hnew)) fun h1=>AGq ⟨?_,AGi,H.ok,H.n,H.v,H.s,H.o⟩
    rcases H.last with ⟨h,_⟩ | ⟨l,d,b',h3,_,h4,h5⟩
    · omega
    · rw [hc] at h4
      cases h4
      exact ⟨l,d,h3,AGi⟩
  refine AGw key fun D hD=>?_;obtain ⟨⟨l,c,rfl,Ak⟩,h2,h3,h4,h5,h6,h7⟩:=hD;have hc:=h3 c ATv;have hll:l.length<=i:=by simp at h2;omega
  have ew:w64 (((l ++ [c]).length:Int) - 1)=(l.length:Int):=by rw [List.length_append,List.length_singleton,wk AGi];omega
  rw [ew];have g1:∀ c:AX4,(l ++ [c])[l.length]? =some c:=fun c=>by simp
  have g2:∀ c d:AX4,sI (l ++ [c]) (l.length:Int) d=l ++ [d]:=fun c d=>by rw [AU2];simp
  rw [AZj (g1 c)];refine AGw (Q:=fun r=> ∃ c':AX4,r=l ++ [c']/\c'.1=c.1/\c'.2.1=c.2.1 + s/\c'.2.2.1=c.2.2.1 * s8 (dB ((e:Int),s,x,y,z))/\(c'.2.2.2.1=true↔c.2.2.2.1=true∨s=1)) ?_ fun r hr=>?_
  ·refine AGw (Q:=fun r:Int × List AX4=> ∃ c':AX4,r.2=l ++ [c']/\r.1 % 8=dB ((e:Int),s,x,y,z) % 8/\c'.1=c.1/\c'.2.1=c.2.1/\c'.2.2.1=c.2.2.1/\(c'.2.2.2.1=true↔c.2.2.2.1=true∨s=1)) (ATt (fun h1=>?_) fun h1=>AGq ⟨c,rfl,?_,rfl,rfl,rfl,?_⟩) fun r hr=>?_
   ·rw [AZj (g1 c),g2,AZj (g1 _),g2];exact AGq ⟨_,rfl,by unfold dB;rw [if_neg (show ¬ s=2 by omega)],rfl,rfl,rfl,by dsimp only;simp [h1]⟩
   ·dsimp only;unfold dB;rw [if_pos (show s=2 by omega)];exact (Ao _).trans ((Ao _).sub (Ao _))
   ·simp [h1]
   ·obtain ⟨d,e'⟩:=r;obtain ⟨c',q1,q2,q3,q4,q5,q6⟩:=hr;dsimp only at q1 q2 ⊢;subst q1;rw [BEs,q2];refine AGw (Q:=fun r=> ∃ c'':AX4,r=l ++ [c'']/\c''.1=c.1/\c''.2.1=c.2.1/\c''.2.2.1=c.2.2.1 * s8 (dB ((e:Int),s,x,y,z))/\(c''.2.2.2.1=true↔c.2.2.2.1=true∨s=1)) ?_ fun r hr=>?_
    ·have hneg:w64 (0 - c'.2.2.1)=c'.2.2.1 * -1:=by
       rw [q5];rcases hc.2.2 with h | h <;> rw [h] <;> decide
     refine ATt (fun h8=>?_) fun h8=>ATt (fun h9=>?_) fun h9=>?_
     ·rw [AZj (g1 c'),g2,hneg];exact AGq ⟨_,rfl,q3,q4,by dsimp only;unfold s8;rw [if_pos (.inl h8),q5],q6⟩
     ·rw [AZj (g1 c'),g2,hneg];exact AGq ⟨_,rfl,q3,q4,by dsimp only;unfold s8;rw [if_pos (.inr h9),q5],q6⟩
     ·exact AGq ⟨c',rfl,q3,q4,by unfold s8;rw [if_neg AGi,q5,Int.mul_one],q6⟩
    ·obtain ⟨c'',rfl,r1,r2,r3,r4⟩:=hr;rw [AZj (g1 c''),g2,r2,AVj (x:=c.2.1 + s) AGi AGi];exact AGq ⟨_,rfl,r1,rfl,r3,r4⟩
  ·obtain ⟨c',rfl,q1,q2,q3,q4⟩:=hr;refine AGq ⟨hi,_,?_,hi,⟨.inr ⟨l,c',_,rfl,Nat.succ_pos i,by rw [Nat.add_sub_cancel];exact hbi,by rw [q1,Ak]⟩,by simp;omega,fun d hd=>?_,?_,?_,?_,?_⟩⟩
   ·rw [htk,Ani,AV9 AGi];dsimp only;congr 2;omega
   ·rcases List.mem_append.1 hd with h | h
    ·have:=h3 d (by simp [h]);exact ⟨AGi,this.2⟩
    ·rw [List.mem_singleton.1 h,q1,q2,q3];exact ⟨AGi,hc.2.1,(Aow hc.2.2 (BD9 _)).1⟩
   ·rw [htk,Ani,Ath,q2];rw [Ath] at h4;dsimp only;omega
   ·rw [htk,A7e,Ati,q1,q2,Int.add_mul,Ak];rw [Ati,Ak] at h5;dsimp only;rw [Int.toNat_natCast,Int.natCast_add,Int.natCast_mul,show ((s.toNat:Nat):Int)=s by omega];omega
   ·rw [htk,A95,Atj,q3,<- h6,Atj];grind
   ·rw [htk,BCx,<- h7,A0c,A0c,q1,q4,Ak];dsimp only;constructor
    ·rintro (h | ⟨h,h' | h'⟩)
     ·exact .inl (.inl h)
     ·exact .inl (.inr ⟨h,h'⟩)
     ·exact .inr ⟨h',h⟩
    ·rintro ((h | ⟨h,h'⟩) | ⟨h,h'⟩)
     ·exact .inl h
     ·exact .inr ⟨h,.inl h'⟩
     ·exact .inr ⟨h',.inr h⟩
 ·obtain ⟨C,rfl,hC⟩:=hex;exact AGq ⟨rfl,hC⟩
end Go.Proofs.YthbndcbclhkepaaGreatDoor
namespace Go.Proofs.YthbndcbclhkepaaGreatDoor
open Go Go.QF
theorem BEt {P:Value->Prop} {a b:Value} (ha:P a) (hb:P b):∀ u∈[a,b],P u:=by
 intro u hu;simp only [List.mem_cons,List.not_mem_nil,or_false] at hu;rcases hu with rfl | rfl <;> assumption
abbrev Ag3:=Int × Int
def Awi:Cod Ag3:=A0n 2 true (fun a=>[.int .i64 a.1,.int .i64 a.2]) (fun _=>rfl) (fun a=>BEt (P:=fun u=>isOne u=true) rfl rfl) AGk AGk (fun h=>by cases h)
theorem Awj:SlT Tryz.prog 95 99 2:=Aiy Tryz.underlying95 AGx
theorem A7o:AgT Tryz.prog 99 2:=Amw Tryz.underlying99 rfl AGx
theorem A0d:ZeT Tryz.prog 99 (.agg #[.int .i64 0,.int .i64 0]) 16:=Ah8 AGx
theorem A15:FdT Tryz.prog 99 0 0 2:=⟨_,_,Tryz.underlying99,rfl,rfl,rfl⟩
theorem A96:FdT Tryz.prog 99 1 1 3:=⟨_,_,Tryz.underlying99,rfl,rfl,rfl⟩
end Go.Proofs.YthbndcbclhkepaaGreatDoor
namespace Go.Proofs.YthbndcbclhkepaaGreatDoor
open Go Go.QF
set_option maxRecDepth 100000
set_option maxHeartbeats 4000000
def Afj (fuel:Nat) (a1:Int):Option Int:=
  ((AXj fuel a1 8).bind fun x2=>(((if x2=1 then (some ( (decide (x2=1)))) else (some ( (decide (x2=7))))):Option ((Bool))).bind (fun (Ac:Bool)=>(if Ac=true then (some 1) else (if x2=3 then (if x2=3 then (some (-1)) else (some 0)) else (if x2=5 then (some (-1)) else (some 0)))))))
theorem Al8 {fuel:Nat} {h:AGt} {a1 r:Int} (hp:Afj fuel a1=some r):ATs Tryz.prog 51 #[(.int .i64 a1)] h (fun x h'=>Ext h h'/\x= .int .i64 r):=by
 unfold Afj at hp;refine cwf (l:=[_]) Tryz.func51 rfl rfl (AGm (AGu (AGo (AGm (AGj ?_)))));obtain ⟨x2,Aq,Ar⟩:=AGn hp;refine AW0 (Kst.k0 h) (Agv Aq) fun h6 E5 K9=>AGr (AGp ?_);obtain ⟨Au,Aj,Ak⟩:=AGn Ar;refine Acg 224 (fun x:(Bool)=>[(5,(.bool x))]) (fun x h'=>( x)=Au/\Kst h h' (K9.L)) ?_ ?_
 ·refine AGm (AUy rfl rfl (AGu (⟨_,rfl,fun Ac=>?_,fun Ac=>?_⟩)))
  ·refine AGy (q_t ?_);exact ⟨((decide (x2=1)):(Bool)),⟨AGl (ATy Aj Ac),K9⟩,rfl,trivial⟩
  ·refine AS3 (AUy rfl rfl (AGu ?_));exact ⟨((decide (x2=7)):(Bool)),⟨AGl (ATz Aj Ac),K9⟩,rfl,trivial⟩
 rintro Ay Az A3 ⟨Av,Aa⟩;subst Av;refine ⟨_,rfl,fun Ad=>?_,fun Ad=>?_⟩
 ·refine AGm (AGu (AGz (AUg (ATc ?_))));obtain rfl:=AGl (ifT Ak Ad);exact ⟨_,AS2,Aa.x,rfl⟩
 ·refine AGo (AGm (AUy rfl rfl (AGu ?_)));have Am:=Aa7 Ak Ad;refine ⟨_,rfl,fun Ae=>?_,fun Ae=>?_⟩
  ·refine AGy (q_t ?_);have Ao:=ATy Am Ae;refine ⟨_,rfl,fun Af=>?_,fun Af=>?_⟩
   ·refine AGm (AGu (AGz (AUg (ATc ?_))));obtain rfl:=AGl (ATy Ao Af);exact ⟨_,AS2,Aa.x,rfl⟩
   ·refine AGy (q_b (q_t (AGm (AGu (AGz ?_)))));obtain rfl:=AGl (ATz Ao Af);exact ⟨_,AS2,Aa.x,rfl⟩
  ·refine AS3 (AUy rfl rfl (AGu ?_));have Ap:=ATz Am Ae;refine ⟨_,rfl,fun Ag=>?_,fun Ag=>?_⟩
   ·refine AGm (AGu (AGz (AUg (ATc ?_))));obtain rfl:=AGl (ATy Ap Ag);exact ⟨_,AS2,Aa.x,rfl⟩
   ·refine AGy (q_b (q_t (AGm (AGu (AGz ?_)))));obtain rfl:=AGl (ATz Ap Ag);exact ⟨_,AS2,Aa.x,rfl⟩
def Ab1 (fuel:Nat) (Aa Ab Ac:Int):Option ((Int × Int) ⊕ ((Int × Int))):=
  (if Aa≠0 then (if (Int.tmod Ab Aa)=0 then (if Aa≠0 then (some (Sum.inl ((w64 (Int.tdiv Ab Aa)),(w64 (Ac + 1))))) else none) else (some (Sum.inr<| (Ab,Ac)))) else none)
def Ab2 (fuel:Nat) (Ac:Int) (Ab:(List Ag3)) (Aa:Int):Option ((Int × (List Ag3) × Int) ⊕ ((Int × (List Ag3)))):=
  (if (w64 (Aa * Aa))<=Ac then ((((iter (fun s=>Ab1 fuel Aa s.1 s.2) fuel (Ac,0)).bind (fun ((Ad,Ae):Int × Int)=>(if 0 < Ae then (if Ab.length<=100000000 then (some ( (Ad,(Ab ++ [(Aa,Ae)])))) else none) else (some ( (Ad,Ab)))))):Option ((Int × (List Ag3)))).bind (fun ((Af,Ag):Int × (List Ag3))=>(some (Sum.inl (Af,Ag,(w64 (Aa + 1))))))) else (some (Sum.inr<| (Ac,Ab))))
def AYq (fuel:Nat) (a1:Int):Option ((List Ag3) × Int):=
  (((if a1 < 1 then (some (Sum.inl <| ([],1))) else (if 2147483647 < a1 then (some (Sum.inl <| ([],1))) else (some (Sum.inr <| ())))):Option ((((List Ag3) × Int)) ⊕ (Unit))).bind (fun ex=>match ex with | Sum.inl Ad=>(some Ad) | Sum.inr (_)=>((iter (fun s=>Ab2 fuel s.1 s.2.1 s.2.2) fuel (a1,[],2)).bind (fun ((Ac,Ab):Int × (List Ag3))=>(if 1 < Ac then (if Ab.length<=100000000 then (some ((Ab ++ [(Ac,1)]),0)) else none) else (some (Ab,0)))))))
theorem Ajs {fuel:Nat} {h:AGt} {a1:Int} {r:((List Ag3) × Int)} (hp:AYq fuel a1=some r):ATs Tryz.prog 50 #[(.int .i64 a1)] h (fun x h'=>Ext h h'/\ ∃ (x0:Value) (F0:List Nat),x= .tuple #[x0,.int .i64 r.2]/\OwC Awi 99 h' F0 x0 r.1/\Sp h' h.size [F0]):=by
 unfold AYq at hp;refine cwf (l:=[_]) Tryz.func50 rfl rfl (AGm (ATi (AGu ?_)));have K0:=Kst.k0 h;obtain ⟨Ba,Ay,Ah⟩:=AGn hp;refine Acg 8076 (fun x:Unit=>[]) (fun x h'=>(Sum.inr <| ())=Ba/\Kst h h' (K0.L)) ?_ ?_
 ·refine AGm (AGj (ATl rfl rfl (AGj ?_)));by_cases Ad:a1 < 1
  ·rw [decide_eq_true Ad];refine Aej 9 true (ATj rfl (AGr (ATp rfl (AGm (ATi (AGu ?_))))));obtain rfl:=AGl (ifT Ay Ad);refine AGz (ATc ?_);have Ai:=Kst.anil Awi 99 K0;obtain rfl:=AGl Ah;exact ⟨_,AUk,Ai.x,_,_,rfl,(Ai.o p0),Ai.s.sel [0] AGk⟩
  ·have Az:=ifF Ay Ad;rw [decide_eq_false Ad];refine ATn 9 false (AGj (ATn 9 false (AYb rfl rfl (ATm rfl (AGr (⟨_,rfl,fun Aj=>?_,fun Aj=>?_⟩))))))
   ·refine AGm (ATi (AGu ?_));obtain rfl:=AGl (ATy Az Aj);refine AGz (ATc ?_);have Ak:=Kst.anil Awi 99 K0;obtain rfl:=AGl Ah;exact ⟨_,AUk,Ak.x,_,_,rfl,(Ak.o p0),Ak.s.sel [0] AGk⟩
   ·refine AGy (q_t ?_);exact ⟨(():Unit),⟨AGl (ATz Az Aj),K0⟩,trivial⟩
 rintro ⟨⟩ B6 B7 ⟨Bb,Bc⟩;subst Bb;refine AGm (AGu (AGo (AGm (AGu (AGp ?_)))));have A3:=Kst.anil Awi 99 Bc;refine AX6 137438945393 (fun x:(Int) × ((List Ag3)) × (Value) × LnA × (Int)=>(x.1,x.2.1,x.2.2.2.2)) ((a1,[],(.slice none 0 0),[],2):(Int) × ((List Ag3)) × (Value) × LnA × (Int)) Ah (fun x=>[(0,(.int .i64 x.1)),(4,x.2.2.1),(5,(.int .i64 x.2.2.2.2))]) (fun x=>A3.L.set 0 (aO Awi 99 x.2.2.2.1 x.2.2.1 x.2.1)) A3 ⟨rfl,rfl,rfl,trivial⟩ ?_;rintro ⟨Am,A4,Be,Bf,Ae⟩ B8 B9 Ca Aa Ao Bg;unfold Ab2 at Ao;refine AGo (AGm (AGj (AGj (AZe rfl rfl (AGj (Ap8 rfl rfl (AGr (⟨_,rfl,fun Ap=>?_,fun Ap=>?_⟩))))))))
 ·refine AGy (q_t ?_);obtain ⟨Bh,Bi,Bj⟩:=AGn (ATy Ao Ap);refine Acg 137437904977 (fun x:(Int) × ((List Ag3)) × (Value) × LnA=>[(0,(.int .i64 x.1)),(4,x.2.2.1)]) (fun x h'=>( (x.1,x.2.1))=Bh/\Kst h h' (Aa.L.set 0 (aO Awi 99 x.2.2.2 x.2.2.1 x.2.1))) ?_ ?_
  ·refine AGp (AGm (AGu (AGo (AGp (AYd 535822401 Bi (fun x=>[(0,(.int .i64 x.1)),(6,(.int .i64 x.2))]) (fun x=>Aa.L) Aa ⟨rfl,rfl,trivial⟩ ?_)))));rintro ⟨A5,Af⟩ Cb Cd Ce Ag A6 Bl;unfold Ab1 at A6;refine AGo (AGm (AGj (AGj ?_)));obtain ⟨Bm,A7⟩:=ifN A6;refine Acw rfl rfl Bm (AUy rfl rfl (AGr (⟨_,rfl,fun Aq=>?_,fun Aq=>?_⟩)))
   ·refine AGy (q_t (AGp (AGm (AGj (AGj ?_)))));obtain ⟨Bn,Bo⟩:=ifN (ATy A7 Aq);refine Amr rfl rfl Bn (AGu (AS3 (AGj (ATk rfl rfl (ATi (ATh (q_b (q_t ?_))))))));exact ⟨_,(AGl Bo).symm,Ag,rfl,rfl,trivial⟩
   ·refine AS8 (ATa (ATa (AT7 (q_t (AGm (AGj (AYb rfl rfl (AGr ?_))))))));have A8:=Bl _ (AGl (ATz A7 Aq)).symm;refine ⟨_,rfl,fun Ar=>?_,fun Ar=>?_⟩
    ·refine AS3 (AGj (AGj (AGj (AV6 (v:=(.agg #[(.int .i64 Ae),(.int .i64 Af)])) (fun _=>by kernel_rfl) ?_))));obtain ⟨Bp,Bq⟩:=ifN (ATy A8 Ar);refine Adu Awj A0d rfl rfl trivial tt2 (fun _=>rfl) rfl (show (Awi).rep _ (Ae,Af) [(.int .i64 Ae),(.int .i64 Af)] from rfl) (Ag.o p0) AGk Bp fun Cf Br Bt Cg Bu Bv Bw=>ATi (ATh (q_b (q_t ?_)));exact ⟨((A5,(A4 ++ [(Ae,Af)]),Bt,Br):(Int) × ((List Ag3)) × (Value) × LnA),⟨AGl Bq,(Ag.uo p0 Bv Bu Bw)⟩,rfl,rfl,trivial⟩
    ·refine AGy (q_b (q_t ?_));exact ⟨((A5,A4,Be,Bf):(Int) × ((List Ag3)) × (Value) × LnA),⟨AGl (ATz A8 Ar),Ag⟩,rfl,rfl,trivial⟩
  rintro ⟨Ch,Ci,Cj,Ck⟩ Cm Cn ⟨Bx,By⟩;subst Bx;refine AS3 (AGj (ATk rfl rfl (AGu ?_)));exact ⟨(_,_,_,_,_),(AGl Bj).symm,By,rfl,rfl,rfl,trivial⟩
 ·refine AS8 (ATa (ATa (AT7 (q_t (AGo (AGm (AGj (AYb rfl rfl (AGr ?_)))))))));have A9:=Bg _ (AGl (ATz Ao Ap)).symm;refine ⟨_,rfl,fun Au=>?_,fun Au=>?_⟩
  ·refine AS3 (AGj (AGj (AV6 (v:=(.agg #[(.int .i64 Am),(.int .i64 1)])) (fun _=>by kernel_rfl) ?_)));obtain ⟨Bz,B1⟩:=ifN (ATy A9 Au);refine Adu Awj A0d rfl rfl trivial tt2 (fun _=>rfl) rfl (show (Awi).rep _ (Am,1) [(.int .i64 Am),(.int .i64 1)] from rfl) (Aa.o p0) AGk Bz fun Co Cp Cq Cr B3 B4 B5=>ATw (AGj (ATi (AGu (AGz ?_))));have Av:=Aa.uo p0 B4 B3 B5;obtain rfl:=AGl B1;exact ⟨_,AUk,Av.x,_,_,rfl,(Av.o p0),Av.s.sel [0] AGk⟩
  ·refine AGy (q_t (AGm (AGj (ATi (AGu (AGz ?_))))));obtain rfl:=AGl (ATz A9 Au);exact ⟨_,AUk,Aa.x,_,_,rfl,(Aa.o p0),Aa.s.sel [0] AGk⟩
def Ab3 (fuel:Nat) (a1:Int) (Aa:Ag3) (Ab Ad:Int):Option ((Int × Int) ⊕ ((Int))):=
  (if Ad < Aa.2 then (((if Aa.1=2 then ((Afj fuel a1).bind fun Ae=>(some ( (w64 (Ab * Ae))))) else ((AXw fuel a1 Aa.1).bind fun Af=>(some ( (w64 (Ab * Af)))))):Option ((Int))).bind (fun (Ag:Int)=>(some (Sum.inl (Ag,(w64 (Ad + 1))))))) else (some (Sum.inr<| Ab)))
def Ab4 (fuel:Nat) (a1:Int) (Ab:(List Ag3)) (Ac Aa:Int):Option ((Int × Int) ⊕ ((Int))):=
  (if Aa < (Ab.length:Int) then ((gI Ab Aa).bind fun Ae=>((iter (fun s=>Ab3 fuel a1 Ae s.1 s.2) fuel (Ac,0)).bind (fun (Af:Int)=>(some (Sum.inl (Af,(w64 (Aa + 1)))))))) else (some (Sum.inr<| Ac)))
def AYr (fuel:Nat) (a1 a2:Int):Option Int:=
  (if a2=0 then (if a1=1 then (some 1) else (if a1=(-1) then (some 1) else (some 0))) else (((if a2 < 0 then (if a1 < 0 then (some ( ((w64 (0 - a2)),(-1)))) else (some ( ((w64 (0 - a2)),1)))) else (some ( (a2,1)))):Option ((Int × Int))).bind (fun ((Ac,Ad):Int × Int)=>((AYq fuel Ac).bind fun (Ae,Ag)=>((iter (fun s=>Ab4 fuel a1 Ae s.1 s.2) fuel (Ad,0)).bind (fun (Af:Int)=>(some Af)))))))
theorem Ajt {fuel:Nat} {h:AGt} {a1 a2 r:Int} (hp:AYr fuel a1 a2=some r):ATs Tryz.prog 19 #[(.int .i64 a1),(.int .i64 a2)] h (fun x h'=>Ext h h'/\x= .int .i64 r):=by
 unfold AYr at hp;refine cwf (l:=[_,_]) Tryz.func19 rfl rfl (AGm (AGu (AGo (AGm (AGj (AUy rfl rfl (AGr ?_)))))));have K0:=Kst.k0 h;refine ⟨_,rfl,fun Ag=>?_,fun Ag=>?_⟩
 ·refine AGo (AGm (AGj (AUy rfl rfl (AGj ?_))));have Au:=ATy hp Ag;by_cases Ad:a1=1
  ·rw [decide_eq_true Ad];refine Aej 15 true (ATj rfl (AGr (ATp rfl (AGm (AGu (AGz (ATc (ATc ?_))))))));obtain rfl:=AGl (ifT Au Ad);exact ⟨_,AS2,K0.x,rfl⟩
  ·have Av:=ifF Au Ad;rw [decide_eq_false Ad];refine ATn 15 false (AGj (ATn 15 false (AUy rfl rfl (ATm rfl (AGr (⟨_,rfl,fun Ah=>?_,fun Ah=>?_⟩))))))
   ·refine AGm (AGu (AGz (ATc (ATc ?_))));obtain rfl:=AGl (ATy Av Ah);exact ⟨_,AS2,K0.x,rfl⟩
   ·refine AGy (q_t (AGm (AGu (AGz (ATc ?_)))));obtain rfl:=AGl (ATz Av Ah);exact ⟨_,AS2,K0.x,rfl⟩
 ·refine AGy (q_t (AGm (AGu ?_)));obtain ⟨A8,Aw,A9⟩:=AGn (ATz hp Ag);refine Acg 33030178 (fun x:(Int) × (Int)=>[(1,(.int .i64 x.1)),(5,(.int .i64 x.2))]) (fun x h'=>( (x.1,x.2))=A8/\Kst h h' (K0.L)) ?_ ?_
  ·refine AGm (AGj (ATl rfl rfl (AGr (⟨_,rfl,fun Ai=>?_,fun Ai=>?_⟩))))
   ·refine AGm (AGj (Aqq rfl (ATw (AGj (ATl rfl rfl (AGr ?_))))));have Ax:=ATy Aw Ai;refine ⟨_,rfl,fun Aj=>?_,fun Aj=>?_⟩
    ·refine AS3 (AGu ?_);exact ⟨(((w64 (0 - a2)),(-1)):(Int) × (Int)),⟨AGl (ATy Ax Aj),K0⟩,rfl,rfl,trivial⟩
    ·refine AGy (q_t ?_);exact ⟨(((w64 (0 - a2)),1):(Int) × (Int)),⟨AGl (ATz Ax Aj),K0⟩,rfl,rfl,trivial⟩
   ·refine AGy (q_t ?_);exact ⟨((a2,1):(Int) × (Int)),⟨AGl (ATz Aw Ai),K0⟩,rfl,rfl,trivial⟩
  rintro ⟨B6,B7⟩ B8 B9 ⟨Ba,Bb⟩;subst Ba;refine AGm (AGj ?_);obtain ⟨⟨Ca,Cb⟩,Bc,Ay⟩:=AGn A9;dsimp only at Ay;refine Afh rfl (Ajs Bc) fun Cd Ce Be Bf=>?_;obtain ⟨Cf,Cg,rfl,Bg,Bh⟩:=Bf;refine AGj (AUb rfl rfl (AUb rfl rfl (ATi (AGu (AGo (AGm (AGj ?_)))))));have Ak:=Bb.no Be Bh Bg;refine AUp Awj rfl (Ak.o p0).rd (AGj (AGr (AGp (AYd 72057589742962208 Ay (fun x=>[(5,(.int .i64 x.1)),(32,(.int .i64 x.2))]) (fun x=>Ak.L) Ak ⟨rfl,rfl,trivial⟩ ?_))));rintro ⟨Ch,Ci⟩ Cj Ck Cm Ae Am Bi;unfold Ab4 at Am;refine AGm (ATl rfl rfl (AGr (AGo (⟨_,rfl,fun Ao=>?_,fun Ao=>?_⟩))))
  ·refine AGy (q_t (AGo (AGp (AGm ?_))));obtain ⟨Az,A3,Bj⟩:=AGn (ATy Am Ao);refine Ao5 Awj rfl (Ae.o p0) rfl A3 fun Cn Bl=>?_;obtain ⟨Co,Bm,Bn⟩:=(Ae.o p0).cells Bl A3;obtain rfl:=Bm;refine Afb (c:=Awi) A7o rfl rfl (fun j u hu=>(Bn j u hu)) (AVr Ae [(.int .i64 0),(.int .i64 0)] A0d fun Cp Cq Cr A4=>AU0 [(.int .i64 Az.1),(.int .i64 Az.2)] A7o rfl rfl rfl rfl (by simp [isOne]) (A4.b p0) fun Ct Bo Bp=>AZg (AGu (AGp ?_)));have A5:=A4.sb p0 Bp Bo rfl;refine AYd 36028728299488288 Bj (fun x=>[(5,(.int .i64 x.1)),(10,(.int .i64 x.2))]) (fun x=>A5.L) A5 ⟨rfl,rfl,trivial⟩ ?_;rintro ⟨A6,Cu⟩ Cv Cw Cx Ab Ap Bq;unfold Ab3 at Ap;refine AGo (AGm (AGj (AUs A96 AT1 (Ab.b p0) 1 rfl (ATl rfl rfl (AGr (⟨_,rfl,fun Aq=>?_,fun Aq=>?_⟩))))))
   ·refine AGy (q_t ?_);obtain ⟨Br,A7,Bt⟩:=AGn (ATy Ap Aq);refine Acg 36024398972452896 (fun x:(Int)=>[(5,(.int .i64 x))]) (fun x h'=>( x)=Br/\Kst h h' (Ab.L)) ?_ ?_
    ·refine AGp (AGm (AUs A15 ATe (Ab.b p0) 0 rfl (AUy rfl rfl (AGr (⟨_,rfl,fun Ar=>?_,fun Ar=>?_⟩)))))
     ·refine AS3 (AGj (AGj ?_));obtain ⟨Bu,Bv,Bw⟩:=AGn (ATy A7 Ar);refine AW0 Ab (Al8 Bv) fun Cy Cz Bx=>AZe rfl rfl (ATi (ATh (q_b (q_t ?_))));exact ⟨((w64 (A6 * Bu)):(Int)),⟨AGl Bw,Bx⟩,rfl,trivial⟩
     ·refine AS3 (AGj (AGj (AUs A15 ATe (Ab.b p0) 0 rfl ?_)));obtain ⟨By,Bz,B1⟩:=AGn (ATz A7 Ar);refine AW0 Ab (Ais Bz) fun C0 C1 B3=>AZe rfl rfl (ATi (ATh (q_b (q_t ?_))));exact ⟨((w64 (A6 * By)):(Int)),⟨AGl B1,B3⟩,rfl,trivial⟩
    rintro C2 C3 C4 ⟨B4,B5⟩;subst B4;refine AS3 (AGj (ATk rfl rfl (AGu ?_)));exact ⟨_,(AGl Bt).symm,B5,rfl,rfl,trivial⟩
   ·refine AS8 (ATa (ATa (AT7 (q_b (q_t (AS3 (ATk rfl rfl (AGj (AGr ?_)))))))));exact ⟨_,(AGl (Bq _ (AGl (ATz Ap Aq)).symm)).symm,Ab.sel [1] AGk,rfl,rfl,trivial⟩
  ·refine AS8 (ATa (ATa (AT7 (q_t (AGm (AGj (AGu (AGz ?_))))))));obtain rfl:=AGl (Bi _ (AGl (ATz Am Ao)).symm);exact ⟨_,AS2,Ae.x,rfl⟩
noncomputable def AWx (fuel:Nat) (Ac:(List AX4)) (Ad Ae Af Ab:Int):Option ((Int × Int × Int × Int) ⊕ ((Int × Int × Int))):=
  (if Ab < (Ac.length:Int) then ((gI Ac Ab).bind fun Aa=>(some (Sum.inl ((w64 (Ad + Aa.2.1)),(w64 (Ae + (w64 (Aa.2.1 * Aa.1)))),(w64 (Af * Aa.2.2.1)),(w64 (Ab + 1)))))) else (some (Sum.inr<| (Ad,Ae,Af))))
noncomputable def AXz (fuel:Nat) (a1 a2:Int) (a5 a9:LiA):Option Bool:=
  ((AWn fuel a1 a2 a5 a9 8).bind fun Aa=>((Abe fuel Aa).bind fun (Ab,Ah)=>((AWj fuel Ab.1 Ab.2.1 Ab.2.2).bind fun (Ai,Aj)=>(((if ¬ Ah=0 then (some (Sum.inl <| false)) else (if (!Aj)=true then (some (Sum.inl <| false)) else (some (Sum.inr <| ())))):Option ((Bool) ⊕ (Unit))).bind (fun ex=>match ex with | Sum.inl Ak=>(some Ak) | Sum.inr (_)=>((iter (fun s=>AWx fuel Ai s.1 s.2.1 s.2.2.1 s.2.2.2) fuel (0,0,1,0)).bind (fun ((Am,Ao,Ap):Int × Int × Int)=>((AYt fuel Aa).bind fun Ac=>(if Am=(Aa.length:Int) then ((AWg fuel Ac 2).bind fun Aq=>(if Ao=Aq then ((AZs fuel Ac 2).bind fun Ar=>((AYr fuel 2 Ar).bind fun Au=>(if Ap=Au then ((AY3 fuel).bind fun Av=>(some Av)) else (some false)))) else (some false))) else (some false))))))))))
theorem Ag6 {fuel:Nat} {h:AGt} {a1 a2:Int} {Af:Value} {a5:LiA} {Ag:Value} {a9:LiA} {r:Bool} (H4:SlC (cI .i8) h Af a5) (H8:SlC (cI .i8) h Ag a9) (HO:An3 h) (hp:AXz fuel a1 a2 a5 a9=some r):ATs Tryz.prog 5 #[(.agg #[(.int .u8 a1),(.int .u8 a2),Af,Ag])] h (fun x h'=>Ext h h'/\x= .bool r):=by
 unfold AXz at hp;refine cwf (l:=[_]) Tryz.func5 rfl rfl (AGm (AYy (Kst.k0 h) [(.int .u8 a1),(.int .u8 a2),Af,Ag] fun C2 C3 C4 Ah=>ATw (Acx [(.int .u8 a1),(.int .u8 a2),Af,Ag] A55 rfl rfl (Ah.b p0).agg ?_)));obtain ⟨Bo,Bp,Bq⟩:=AGn hp;refine Ahe Ah (Ahi (H4.ext Ah.x) (H8.ext Ah.x) Bp) fun C5 C6 C7 C8 C9 Da Au=>ATw (AGj ?_);obtain ⟨⟨Ai,Br⟩,Bt,A9⟩:=AGn Bq;dsimp only at A9;refine Afh rfl (Amj (Au.o2 p0).rd (HO.ext Au.x) Bt) fun Db Dc Bu Bv=>?_;obtain ⟨Av,Aw,Bw,Bx,By,Bz,rfl,B1,B3,B4⟩:=Bv;have Ba:=Au.n Bu [aO2 (cI .i64) 49 2 Bw Bx By Av Ai.2.1,aO Alo 58 Bz Aw Ai.2.2] B4 ⟨B1,B3,trivial⟩;simp only [List.cons_append,List.nil_append] at Ba;refine AGj (AUb rfl rfl (AUb rfl rfl (AVr Ba [(.int .i64 0),(.slice none 0 0),(.slice none 0 0)] Au9 fun Dd De Df Aj=>AU0 [(.int .i64 Ai.1),Av,Aw] Agm rfl rfl rfl rfl (Aba rfl (Aba (Aj.o2 p1).isOne (Aba (Aj.o p2).isOne Alw))) (Aj.b p0) fun Dg B5 B6=>ATw ?_)));have Ak:=Aj.sb p0 B6 B5 rfl;refine Acx [(.int .i64 Ai.1),Av,Aw] Agm rfl rfl (Ak.b p0).agg ?_;obtain ⟨⟨Dh,Di⟩,B7,Bb⟩:=AGn A9;dsimp only at Bb;refine Afh rfl (Aco (Ak.o2 p1).rd (Ak.o p2).rd B7) fun Dj Dk B8 B9=>?_;obtain ⟨Dl,Do,rfl,Ca,Cb⟩:=B9;refine AGj (AUb rfl rfl (AUb rfl rfl (ATi (AGu ?_))));have Am:=Ak.no B8 Cb Ca;obtain ⟨Cd,Bc,Ax⟩:=AGn Bb;refine Acg 4227858436 (fun x:Unit=>[]) (fun x h'=>(Sum.inr <| ())=Cd/\Kst h h' (AYv Am.L [0,4])) ?_ ?_
 ·refine AGm (AGj (AWp rfl rfl (AGj ?_)));by_cases Ao: ¬ Br=0
  ·rw [decide_eq_true Ao];refine Aej 28 true (ATj rfl (AGr (ATp rfl (AGm (AGu ?_)))));obtain rfl:=AGl (ifT Bc Ao);refine AGz (ATc ?_);obtain rfl:=AGl Ax;exact ⟨_,AS2,Am.x,rfl⟩
  ·have Be:=ifF Bc Ao;rw [decide_eq_false Ao];refine ATn 28 false (AGj (ATn 28 false (AWq rfl (ATm rfl (AGr (⟨_,rfl,fun Ay=>?_,fun Ay=>?_⟩))))))
   ·refine AGm (AGu ?_);obtain rfl:=AGl (ifT Be Ay);refine AGz (ATc ?_);obtain rfl:=AGl Ax;exact ⟨_,AS2,Am.x,rfl⟩
   ·refine AGy (q_t ?_);exact ⟨(():Unit),⟨AGl (Aa7 Be Ay),Am.sel [0,4] AGk⟩,trivial⟩
 rintro ⟨⟩ Dp Dq ⟨Ce,Az⟩;subst Ce;refine AGm (ATi (ATi (AGu (AGo (AGm (AGj (AUp Aj2 rfl (Az.o p0).rd (AGj (AGr (AGp (AYd 18014381329618688 Ax (fun x=>[(8,(.int .i64 x.1)),(9,(.int .i64 x.2.1)),(10,(.int .i64 x.2.2.1)),(34,(.int .i64 x.2.2.2))]) (fun x=>Az.L) Az ⟨rfl,rfl,rfl,rfl,trivial⟩ ?_)))))))))));rintro ⟨Cf,Cg,Ch,Dr⟩ Ds Dt Du Aa A3 Ci;unfold AWx at A3;refine AGm (ATl rfl rfl (AGr (AGo (⟨_,rfl,fun A4=>?_,fun A4=>?_⟩))))
 ·refine AGy (q_t (AGo (AGp (AGm ?_))));obtain ⟨Ab,Bf,Cj⟩:=AGn (ATy A3 A4);refine Ao5 Aj2 rfl (Aa.o p0) rfl Bf fun Dv Ck=>?_;obtain ⟨Dw,Cm,Cn⟩:=(Aa.o p0).cells Ck Bf;obtain rfl:=Cm;refine Afb (c:=Af8) Ap5 rfl rfl (fun j u hu=>(Cn j u hu)) (AVr Aa [(.int .i64 0),(.int .i64 0),(.int .i64 0),(.bool false),(.int .i64 0)] Asd fun Dx Dy Dz Bg=>AU0 [(.int .i64 Ab.1),(.int .i64 Ab.2.1),(.int .i64 Ab.2.2.1),(.bool Ab.2.2.2.1),(.int .i64 Ab.2.2.2.2)] Ap5 rfl rfl rfl rfl (by simp [isOne]) (Bg.b p0) fun D0 Co Cp=>AZg ?_);have Ac:=Bg.sb p0 Cp Co rfl;refine AGj (AUs Arc AT1 (Ac.b p0) 1 rfl (ATk rfl rfl (ATw (AGj (AUs Arc AT1 (Ac.b p0) 1 rfl (AUs A0t AT1 (Ac.b p0) 0 rfl (AZe rfl rfl (ATk rfl rfl (AGu (AS3 (AGj (AUs Ao6 AT1 (Ac.b p0) 2 rfl (AZe rfl rfl (ATi (ATh (q_b (q_t (AS3 (ATk rfl rfl (AGj (AGr ?_)))))))))))))))))))));exact ⟨_,(AGl Cj).symm,Ac.sel [1,2] AGk,rfl,rfl,rfl,rfl,trivial⟩
 ·refine AS8 (ATa (ATa (AT7 (q_t (AGm (AGj ?_))))));obtain ⟨D1,Cq,Bh⟩:=AGn (Ci _ (AGl (ATz A3 A4)).symm);refine AW0 Aa (Al6 (Aa.o2 p1).rd Cq) fun D2 D3 A5=>ATw (AGj (AGj (AT4 ATb rfl (A5.o2 p1).rd (AUy rfl rfl (AGj ?_)))));by_cases Ap:Cf=(Bo.length:Int)
  ·rw [decide_eq_true Ap];refine ATn 60 true (AGj (ATn 60 true (AGj (ATn 60 true ?_))));obtain ⟨Cr,Ct,Bi⟩:=AGn (ifT Bh Ap);refine AW0 A5 (Aip Ct) fun D4 D5 Bj=>ATn 60 true (AUy rfl rfl (ATj rfl (AGj ?_)));by_cases Aq:Cg=Cr
   ·rw [decide_eq_true Aq];refine ATn 66 true (AGj (ATn 66 true (AGj (ATn 66 true ?_))));obtain ⟨D6,Cu,Cv⟩:=AGn (ifT Bi Aq);refine AW0 Bj (Ald Cu) fun D7 D8 Cw=>ATn 66 true ?_;obtain ⟨Cx,Cy,Bl⟩:=AGn Cv;refine AW0 Cw (Ajt Cy) fun D9 Ea A6=>ATn 66 true (AUy rfl rfl (ATj rfl (AGj ?_)));by_cases Ar:Ch=Cx
    ·rw [decide_eq_true Ar];refine ATn 73 true ?_;obtain ⟨Eb,Cz,C0⟩:=AGn (ifT Bl Ar);refine AW0 A6 (Aks (HO.ext A6.x) Cz) fun Ec Ed C1=>ATj rfl (AGu (AGz ?_));obtain rfl:=AGl C0;exact ⟨_,AS2,C1.x,rfl⟩
    ·rw [decide_eq_false Ar];refine Atz 73 false (ATm rfl (AGu (AGz ?_)));obtain rfl:=AGl (ifF Bl Ar);exact ⟨_,AS2,A6.x,rfl⟩
   ·rw [decide_eq_false Aq];refine Acp 66 false (ATm rfl (AGj (Atz 73 false (ATm rfl (AGu (AGz ?_))))));obtain rfl:=AGl (ifF Bi Aq);exact ⟨_,AS2,Bj.x,rfl⟩
  ·rw [decide_eq_false Ap];refine Afz 60 false (ATm rfl (AGj (Acp 66 false (ATm rfl (AGj (Atz 73 false (ATm rfl (AGu (AGz ?_)))))))));obtain rfl:=AGl (ifF Bh Ap);exact ⟨_,AS2,A5.x,rfl⟩
end Go.Proofs.YthbndcbclhkepaaGreatDoor
namespace Go.Proofs.YthbndcbclhkepaaGreatDoor
open Go Go.QF
set_option maxRecDepth 100000
def plP:List Ag3->Int
  | []=>1
  | a :: l=>a.1 ^ a.2.toNat * plP l
def POk (a:Ag3):Prop:=OPr a.1/\a.1<=9973/\0<=a.2/\a.2<=30
theorem A16 (l:List Ag3) (a:Ag3):plP (l ++ [a])=plP l * a.1 ^ a.2.toNat:=by
 induction l with
 | nil=>show _ * 1=1 * _;omega
 | cons c l ih=>show _ * plP (l ++ [a])=_ * plP l * _;rw [ih,Int.mul_assoc]
theorem A0e {p:Int} (hp:p % 2=1):∀ k:Nat,p ^ k % 2=1/\e8 (p ^ k)=e8 p ^ k
  | 0=>⟨by rw [Int.pow_zero];rfl,by rw [Int.pow_zero,Int.pow_zero];decide⟩
  | k + 1=>by
    obtain ⟨h1,h2⟩:=A0e hp k
    rw [Int.pow_succ,Int.pow_succ,Azw h1 hp,h2]
    exact ⟨by rw [Int.mul_emod,h1,hp];rfl,rfl⟩
theorem Ars:∀ {l:List Ag3},(∀ a∈l,POk a)->plP l % 2=1
  | [],_=>rfl
  | a :: l,h=>by
    show (a.1 ^ a.2.toNat * plP l) % 2=1
    rw [Int.mul_emod,(A0e (h a ATv).1.2 _).1,Ars fun x hx=>h x (List.mem_cons_of_mem _ hx)];rfl
theorem A7p (x:Int):e8 x=1∨e8 x= -1:=by unfold e8;split <;> simp
theorem A0f {s:Int} (h:s=1∨s= -1):∀ k:Nat,s ^ k=1∨s ^ k= -1
  | 0=> .inl (Int.pow_zero _)
  | k + 1=>by rw [Int.pow_succ];exact (Aow (A0f h k) h).1
theorem Ays {n:Int} (hp:Pr n) (ho:n % 2=1) (h:n<=10000):n<=9973:=by
 rcases Int.lt_or_le 9973 n with h1 | h1
 ·exfalso;obtain ⟨k,rfl⟩:∃ k:Nat,n=((9973 + k:Nat):Int):=⟨(n - 9973).toNat,AGi⟩;have h2:=hp.2;rcases (by omega:k=2∨k=4∨k=6∨k=8∨k=10∨k=12∨k=14∨k=16∨k=18∨k=20∨k=22∨k=24∨k=26) with rfl | rfl | rfl | rfl | rfl | rfl | rfl | rfl | rfl | rfl | rfl | rfl | rfl
  ·exact h2 3 AGk AGk AGk
  ·exact h2 11 AGk AGk AGk
  ·exact h2 17 AGk AGk AGk
  ·exact h2 3 AGk AGk AGk
  ·exact h2 67 AGk AGk AGk
  ·exact h2 5 AGk AGk AGk
  ·exact h2 3 AGk AGk AGk
  ·exact h2 7 AGk AGk AGk
  ·exact h2 97 AGk AGk AGk
  ·exact h2 3 AGk AGk AGk
  ·exact h2 5 AGk AGk AGk
  ·exact h2 13 AGk AGk AGk
  ·exact h2 3 AGk AGk AGk
 ·exact h1
def NoD (d n:Int):Prop:= ∀ q:Int,2<=q->q < d->¬ q ∣ n
theorem A7q {fuel:Nat} {N:Int} (hN:1<=N) (Am:N<=10000) (ho:N % 2=1) (hf:100000 < fuel):Ok (AYq fuel N) fun r=>r.2=0/\plP r.1=N/\(∀ a∈r.1,POk a)/\r.1.length<=10000:=by
 unfold AYq;rw [if_neg AGi,if_neg AGi];simp only [Option.bind_some];refine AGw (Q:=fun e:Int × List Ag3=> ∃ d:Int,2<=d/\NoD d e.1/\e.1 < d * d/\1<=e.1/\plP e.2 * e.1=N/\(∀ a∈e.2,POk a)/\e.2.length<=200) (AT9 (fun i s=> ∃ n out,s=(n,out,((i + 2:Nat):Int))/\NoD ((i + 2:Nat):Int) n/\1<=n/\plP out * n=N/\(∀ a∈out,POk a)/\out.length<=i) 100 ⟨N,[],rfl,fun q h1 h2=>by omega,hN,by show 1 * N=N;omega,fun a ha=>(nomatch ha),Nat.le_refl _⟩ AGi fun i s hi hI=>?_) fun e he=>?_
 ·obtain ⟨n,out,rfl,hno,Ag,hpl,hok,hlen⟩:=hI;obtain ⟨d,hd⟩:∃ d:Int,d=((i + 2:Nat):Int):=⟨_,rfl⟩;rw [<- hd] at hno ⊢;have hpo:=Ars hok
  have hpp:1<=plP out:=by
    rcases Int.lt_or_le (plP out) 1 with h | h
    · have:=Int.mul_nonpos_of_nonpos_of_nonneg (show plP out<=0 by omega) (show 0<=n by omega);omega
    · exact h
  have hnN:n<=N:=by have:=Int.mul_le_mul_of_nonneg_right hpp (show 0<=n by omega);omega
  have hodd:n % 2=1:=by
    have:plP out * n % 2=1:=by rw [hpl];exact ho
    rw [Int.mul_emod,hpo,Int.one_mul,Int.emod_emod_of_dvd _ (Int.dvd_refl 2)] at this
    exact this
  have hdd:0<=d * d/\d * d<=102 * 102:=⟨Int.mul_nonneg AGi AGi,Int.mul_le_mul AGi AGi AGi AGk⟩;unfold Ab2;dsimp only;rw [AVj (x:=d * d) AGi AGi];refine ATt (fun h=>?_) fun h=>AGq ⟨d,AGi,hno,AGi,Ag,hpl,hok,by dsimp only;omega⟩
  have Ah:i < 100:=by
    rcases Nat.lt_or_ge i 100 with h1 | h1
    · exact h1
    · have:=Int.mul_le_mul (show (102:Int)<=d by omega) (show (102:Int)<=d by omega) AGk AGi;omega
  refine AGw (Q:=fun e:Int × List Ag3=>NoD (d + 1) e.1/\1<=e.1/\plP e.2 * e.1=N/\(∀ a∈e.2,POk a)/\e.2.length<=i + 1) (AGw (Q:=fun e:Int × Int=> ∃ k:Nat,e.2=k/\e.1 * d ^ k=n/\1<=e.1/\¬ d ∣ e.1) (Ang (fun s:Int × Int=> ∃ k:Nat,s.2=k/\s.1 * d ^ k=n/\1<=s.1) (fun s=>s.1.toNat) (fun s hI=>?_) ⟨0,rfl,by rw [Int.pow_zero,Int.mul_one],Ag⟩ (by show n.toNat < fuel;omega)) fun e he=>?_) fun e he=>?_
  ·obtain ⟨m,k'⟩:=s;obtain ⟨k,rfl,hm,Ad⟩:=hI;dsimp only at hm Ad;have hdk:0 < d ^ k:=Int.pow_pos AGi;have hmn:m<=n:=by have:=Int.mul_le_mul_of_nonneg_left (show 1<=d ^ k by omega) (show 0<=m by omega);omega
   have hkn:d ^ k<=n:=by have:=Int.mul_le_mul_of_nonneg_right Ad (Int.le_of_lt hdk);omega
   have Ai:=Aps (p:=d) (k:=k) AGi AGi;unfold Ab1;dsimp only;refine AUq AGi (ATt (fun h=>AUq AGi (AGq ?_)) fun h=>AGq ⟨k,rfl,hm,Ad,fun h2=>h (Int.tmod_eq_zero_of_dvd h2)⟩);obtain ⟨q,rfl⟩:=Int.dvd_of_tmod_eq_zero h;have hq:0 < q:=Int.pos_of_mul_pos_right AGi (show 0 < d by omega);have hqd:2 * q<=d * q:=Int.mul_le_mul_of_nonneg_right AGi AGi;rw [Int.mul_tdiv_cancel_left _ AGi,AVj (x:=q) AGi AGi,AV9 AGi];refine ⟨⟨k + 1,rfl,?_,by dsimp only;omega⟩,by dsimp only;omega⟩;dsimp only;rw [<- hm,Int.pow_succ];grind
  ·obtain ⟨m,k'⟩:=e;obtain ⟨k,hk',hm,Ad,hnd⟩:=he;dsimp only at hk' hm Ad hnd ⊢;subst hk';have hdk:0 < d ^ k:=Int.pow_pos AGi;have hkn:d ^ k<=n:=by have:=Int.mul_le_mul_of_nonneg_right Ad (Int.le_of_lt hdk);omega
   have Ai:=Aps (p:=d) (k:=k) AGi AGi
   have hnod:NoD (d + 1) m:=fun q h1 h2 h3=>by
     by_cases h4:q=d
     · exact hnd (h4 ▸ h3)
     · exact hno q h1 AGi (hm ▸ Int.dvd_trans h3 ⟨_,rfl⟩)
   refine ATt (fun h0=>AUq AGi (AGq ⟨hnod,Ad,?_,fun a ha=>?_,by simp;omega⟩)) fun h0=>AGq ⟨hnod,Ad,?_,hok,by dsimp only;omega⟩
   ·rw [A16];dsimp only;rw [Int.toNat_natCast,<- hpl,<- hm];grind
   ·rcases List.mem_append.1 ha with h1 | h1
    ·exact hok a h1
    ·rw [List.mem_singleton.1 h1];have hdn:d ∣ n:=by rw [<- hm];exact Int.dvd_trans ⟨d ^ (k - 1),by rw [<- Int.pow_succ',show k - 1 + 1=k by omega]⟩ ⟨m,Int.mul_comm _ _⟩
     have hdo:d % 2=1:=by
       obtain ⟨w,hw⟩:=hdn
       have:d % 2≠0:=fun h=>by
         have:n % 2=0:=by rw [hw,Int.mul_emod,h,Int.zero_mul];rfl
         omega
       omega
     exact ⟨⟨⟨AGi,fun q h2 h3 h4=>hno q h2 h3 (Int.dvd_trans (Int.dvd_of_emod_eq_zero h4) hdn)⟩,hdo⟩,by dsimp only;omega,by dsimp only;omega,by dsimp only;omega⟩
   ·have:k=0:=by omega
    rw [this,Int.pow_zero,Int.mul_one] at hm;dsimp only;rw [hm];exact hpl
  ·obtain ⟨m,out'⟩:=e;obtain ⟨h1,h2,h3,h4,h5⟩:=he;dsimp only at h1 h2 h3 h4 h5 ⊢;refine AGq ⟨Ah,m,out',?_,?_,h2,h3,h4,h5⟩
   ·rw [hd,AV9 AGi]
   ·rw [show ((i + 1 + 2:Nat):Int)=d + 1 by omega];exact h1
 ·obtain ⟨n,out⟩:=e;obtain ⟨d,Ao,hno,hlt,Ag,hpl,hok,hlen⟩:=he;dsimp only at hno hlt Ag hpl hok hlen ⊢;refine ATt (fun h=>AUq AGi (AGq ⟨rfl,?_,fun a ha=>?_,by simp;omega⟩)) fun h=>AGq ⟨rfl,?_,hok,by dsimp only;omega⟩
  ·rw [A16];show plP out * n ^ 1=N;rw [Int.pow_succ,Int.pow_zero,Int.one_mul];exact hpl
  ·rcases List.mem_append.1 ha with h1 | h1
   ·exact hok a h1
   ·rw [List.mem_singleton.1 h1];have hpo:=Ars hok
    have hpp:1<=plP out:=by
      rcases Int.lt_or_le (plP out) 1 with h | h
      · have:=Int.mul_nonpos_of_nonpos_of_nonneg (show plP out<=0 by omega) (show 0<=n by omega);omega
      · exact h
    have hnN:n<=N:=by have:=Int.mul_le_mul_of_nonneg_right hpp (show 0<=n by omega);omega
    have hodd:n % 2=1:=by
      have:plP out * n % 2=1:=by rw [hpl];exact ho
      rw [Int.mul_emod,hpo,Int.one_mul,Int.emod_emod_of_dvd _ (Int.dvd_refl 2)] at this
      exact this
    have hpr:Pr n:=⟨AGi,fun q h2 h3 h4=>by
      obtain ⟨w,hw⟩:=Int.dvd_of_emod_eq_zero h4
      have hqd:d<=q:=by
        rcases Int.lt_or_le q d with h5 | h5
        · exact absurd ⟨w,hw⟩ (hno q h2 h5)
        · exact h5
      have Ak:2<=w:=by
        rcases Int.lt_or_le w 2 with h5 | h5
        · have:=Int.mul_le_mul_of_nonneg_left (show w<=1 by omega) (show 0<=q by omega);omega
        · exact h5
      have hwd:d<=w:=by
        rcases Int.lt_or_le w d with h5 | h5
        · exact absurd ⟨q,by rw [hw,Int.mul_comm]⟩ (hno w Ak h5)
        · exact h5
      have:=Int.mul_le_mul hqd hwd AGi AGi
      omega⟩
    exact ⟨⟨hpr,hodd⟩,Ays hpr hodd AGi,by dsimp only;omega,by dsimp only;omega⟩
  ·have:n=1:=by omega
   rw [this,Int.mul_one] at hpl;exact hpl
def jl:List Ag3->Int
  | []=>1
  | a :: l=>e8 a.1 ^ a.2.toNat * jl l
theorem BC1 (l:List Ag3) (a:Ag3):jl (l ++ [a])=jl l * e8 a.1 ^ a.2.toNat:=by
 induction l with
 | nil=>show _ * 1=1 * _;omega
 | cons c l ih=>show _ * jl (l ++ [a])=_ * jl l * _;rw [ih,Int.mul_assoc]
theorem BAt:∀ {l:List Ag3},(∀ a∈l,POk a)->jl l=e8 (plP l)
  | [],_=>by show (1:Int)=e8 1;decide
  | a :: l,h=>by
    have hl:∀ x∈l,POk x:=fun x hx=>h x (List.mem_cons_of_mem _ hx)
    show _ * jl l=e8 (a.1 ^ a.2.toNat * plP l)
    obtain ⟨h1,h2⟩:=A0e (h a ATv).1.2 a.2.toNat
    rw [BAt hl,Azw h1 (Ars hl),h2]
theorem BAu:∀ l:List Ag3,jl l=1∨jl l= -1
  | []=> .inl rfl
  | a :: l=>(Aow (A0f (A7p _) _) (BAu l)).1
theorem A3s {fuel:Nat} {N:Int} (hN:1<=N) (Aa:N<=10000) (ho:N % 2=1) (hf:100000 < fuel):AYr fuel 2 N=some (e8 N):=by
 apply ok_eq;unfold AYr;rw [if_neg AGi,if_neg AGi];simp only [Option.bind_some];refine AGw (A7q hN Aa ho hf) fun r hr=>?_;obtain ⟨l,z⟩:=r;obtain ⟨-,hpl,hok,hlen⟩:=hr;dsimp only at hpl hok hlen ⊢;refine AGw (Q:=fun e:Int=>e=jl l) (AT9 (fun i s=>s=(jl (l.take i),(i:Int))/\i<=l.length) l.length ⟨rfl,Nat.zero_le _⟩ AGi fun i s hi hI=>?_) fun e he=>AGq (by rw [he,BAt hok,hpl]);obtain ⟨rfl,hin⟩:=hI;unfold Ab4;dsimp only;refine ATt (fun h=>?_) fun h=>AGq (by rw [show i=l.length by omega,List.take_length]);have hi:i < l.length:=by omega
 obtain ⟨a,ha⟩:∃ a,l[i]? =some a:=⟨l[i],List.getElem?_eq_getElem hi⟩;obtain ⟨hp,Ab,Ac,Ad⟩:=hok a (List.mem_of_getElem? ha);have htk:l.take (i + 1)=l.take i ++ [a]:=by rw [List.take_add_one,ha];rfl
 rw [AZj ha];refine AGw (Q:=fun e:Int=>e=jl (l.take i) * e8 a.1 ^ a.2.toNat) (AT9 (fun j s=>s=(jl (l.take i) * e8 a.1 ^ j,(j:Int))/\j<=a.2.toNat) a.2.toNat ⟨by rw [Int.pow_zero,Int.mul_one];rfl,Nat.zero_le _⟩ AGi fun j s hj hI=>?_) fun e he=>AGq ⟨hi,by rw [he,htk,BC1,AV9 AGi],hi⟩;obtain ⟨rfl,hjn⟩:=hI;unfold Ab3;dsimp only;refine ATt (fun h=>?_) fun h=>AGq (by rw [show j=a.2.toNat by omega]);have h3:=hp.three;rw [if_neg AGi,A0b hp Ab hf,BBy hp];simp only [Option.bind_some];have hpm:=Aow (Aow (BAu (l.take i)) (A0f (A7p a.1) j)).1 (A7p a.1);rw [hpm.2,AV9 AGi];exact AGq ⟨AGi,by rw [Int.pow_succ,Int.mul_assoc],AGi⟩
theorem BEa {x:Int} (h:x % 2=1):s8 x=e8 x:=by
 unfold s8 e8;by_cases h1:x % 8=3∨x % 8=5
 ·rw [if_pos h1,if_neg AGi]
 ·rw [if_neg h1,if_pos AGi]
theorem A7r:∀ {L:List AWt},(∀ b∈L,dB b % 2=1)->uL L % 2=1/\s2L L=e8 (uL L)
  | [],_=>⟨rfl,by show (1:Int)=e8 1;decide⟩
  | b :: l,h=>by
    obtain ⟨h1,h2⟩:=A7r (L:=l) fun x hx=>h x (List.mem_cons_of_mem _ hx)
    have hb:=h b ATv
    refine ⟨?_,?_⟩
    · show dB b * uL l % 2=1
      rw [Int.mul_emod,hb,h1];rfl
    · show s8 (dB b) * s2L l=e8 (dB b * uL l)
      rw [Azw hb h1,h2,BEa hb]
theorem BC2 {K:Nat} {b:AWt} (hs:b.2.1=1∨b.2.1=2) (h:Av6 2 K b):dB b % 2=1:=by
 obtain ⟨e,s,x,y,z⟩:=b;obtain ⟨-,h⟩:=h;dsimp only at hs h;unfold dB;dsimp only;rcases hs with rfl | rfl
 ·rw [if_pos rfl] at h;rw [if_neg AGk];exact Atf.1 h.2.1
 ·rw [if_neg AGk] at h;rw [if_pos rfl];obtain ⟨-,h1,h2,h3⟩:=h;have e1:x * z % 2=0:=by rw [Int.mul_emod,h1,Int.zero_mul];rfl
  have e2:y * y % 2=1:=by rw [Int.mul_emod,h2];rfl
  omega
theorem A97 {fuel:Nat} {C:List AX4} (hC:∀ c∈C,(0<=c.2.1/\c.2.1<=16)/\(0<=c.1/\c.1<=60)/\(c.2.2.1=1∨c.2.2.1= -1)) (hl:C.length<=8) (hf:100 < fuel):iter (fun s=>AWx fuel C s.1 s.2.1 s.2.2.1 s.2.2.2) fuel (0,0,1,0)=some (cN C,cV C,cS C):=by
 apply ok_eq;refine AT9 (fun i s=>s=(cN (C.take i),cV (C.take i),cS (C.take i),(i:Int))/\i<=C.length/\(0<=cN (C.take i)/\cN (C.take i)<=16 * i)/\(0<=cV (C.take i)/\cV (C.take i)<=960 * i)/\(cS (C.take i)=1∨cS (C.take i)= -1)) C.length ⟨rfl,Nat.zero_le _,by simp [cN],by simp [cV],by simp [cS]⟩ AGi fun i s hi hI=>?_;obtain ⟨rfl,hin,hN,hV,hS⟩:=hI;unfold AWx;dsimp only;refine ATt (fun h=>?_) fun h=>?_
 ·have hi:i < C.length:=by omega
  have hg:=List.getElem?_eq_getElem hi;obtain ⟨c,hc⟩:∃ c,c=C[i]:=⟨_,rfl⟩;rw [<- hc] at hg;obtain ⟨h1,h2,h3⟩:=hC c (hc ▸ List.getElem_mem hi);have h4:0<=c.2.1 * c.1/\c.2.1 * c.1<=16 * 60:=⟨Int.mul_nonneg h1.1 h2.1,Int.mul_le_mul h1.2 h2.2 h2.1 AGk⟩;have ht:C.take (i + 1)=C.take i ++ [c]:=by rw [List.take_add_one,hg];rfl
  rw [AZj hg,AVj (x:=cN (C.take i) + c.2.1) AGi AGi,AVj (x:=c.2.1 * c.1) AGi AGi,AVj (x:=cV (C.take i) + c.2.1 * c.1) AGi AGi,(Aow hS h3).2,AV9 AGi];refine AGq ⟨hi,?_,hi,?_,?_,?_⟩
  ·rw [ht,Ath,Ati,Atj]
  ·rw [ht,Ath];omega
  ·rw [ht,Ati];omega
  ·rw [ht,Atj];exact (Aow hS h3).1
 ·obtain rfl:i=C.length:=by omega
  rw [List.take_length];exact AGq rfl
theorem Apw {g kd:Int} {Z Y:List Int} (hg:0<=g/\g < 256):AXz (AW5 + 1) g kd Z Y=some true:=by
 have hf:AW5 < AW5 + 1:=Nat.lt_succ_self _;have Aa:100 < AW5 + 1:=Nat.lt_of_le_of_lt AGk hf;have Ae:100000 < AW5 + 1:=Nat.lt_of_le_of_lt AGk hf;have Af:2147483648 < AW5 + 1:=Nat.lt_of_le_of_lt AGk hf;apply ok_eq;unfold AXz;refine AGw (BCg hg AGk hf) fun M hM=>?_;obtain ⟨n,A,rfl,Ag,Ar,RF,-⟩:=hM;have R:=A9u Ag AGi RF;generalize tab n n A=M at R;obtain ⟨K,E,T,G,L,e1,e2,e3,e4,hv,S,B⟩:=BCu R Af;obtain ⟨v,r,hvk,hdr,hpr⟩:=hv;obtain ⟨d1,d2⟩:=Apq R;have Aj:(0:Int) < 2 ^ v:=Int.pow_pos AGk
 have Ak:0 < r:=by
   rcases Int.lt_or_le 0 r with h | h
   · exact h
   · have:=Int.mul_nonpos_of_nonpos_of_nonneg h (Int.le_of_lt Aj);omega
 have hrd:r * 1<=r * 2 ^ v:=Int.mul_le_mul_of_nonneg_left AGi AGi;have hro:=Atf.1 hpr;have Ac:=R.1
 have Ad:∀ b∈L,Av6 2 K b:=fun b hb=>by
   obtain ⟨i,hi⟩:=List.getElem?_of_mem hb
   exact (B.rg i (List.getElem?_eq_some_iff.1 hi).1).1 b hi
 obtain ⟨u1,u2⟩:=A7r (L:=L) fun b hb=>BC2 (B.sz b hb) (Ad b hb)
 have hdet:det M.length G=2 ^ vL L * uL L:=by
   rw [<- A7f L.length rfl B.sz fun b hb=>(Ad b hb).1.1,B.sum]
   exact AUm fun i j hi hj=>S.w i j hi hj
 obtain ⟨w1,w2⟩:=A92 (K:=K) (v:=v) (V:=vL L) (U:=uL L) AGi hdr hro u1 (hdet ▸ S.e.det);rw [e1];simp only [Option.bind_some];refine AGw (BCz (T:=tab M.length M.length T) B e4 Ac.1 Ac.2 Aa) fun c hc=>?_;obtain ⟨C,ok⟩:=c;obtain ⟨rfl,H⟩:=hc;dsimp only at H ⊢;have hl:=Awf B.sz;have hsum:=B.sum;have hlen:=H.len;rw [if_neg ATv,if_neg AGk];simp only [Option.bind_some];rw [A97 (fun c hc=>⟨⟨(H.ok c hc).1.1,by have:=(H.ok c hc).1.2;omega⟩,(H.ok c hc).2⟩) AGi Aa];simp only [Option.bind_some];rw [Aus R Aa];simp only [Option.bind_some];have hN:=H.n;have hV:=H.v;have hS:=H.s;rw [List.take_length] at hN hV hS;refine Atg (by rw [hN,hsum]) ?_;refine AGw (A6w d1 d2 AGi AGi Aa) fun x hx=>?_;have hxv:=Av4 AGi hx ⟨v,r,rfl,hdr,hpr⟩;refine Atg (by rw [hV,hxv,w1]) ?_;rw [BCw AGi hdr hpr Ak d2 Aa];simp only [Option.bind_some];rw [A3s AGi AGi hro Ae];simp only [Option.bind_some];refine Atg ?_ ?_
 ·rw [hS,u2];unfold e8;rw [w2]
 ·rw [Awh];exact AGq rfl
end Go.Proofs.YthbndcbclhkepaaGreatDoor
